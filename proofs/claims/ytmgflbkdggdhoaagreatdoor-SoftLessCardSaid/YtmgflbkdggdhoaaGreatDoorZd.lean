/- own texts, made small by a tool (wip/ holds them as they were written): no statement of the seat. -/
import Derived.Test.YtmgflbkdggdhoaaGreatDoorZc
set_option linter.unusedVariables false
set_option linter.unusedSimpArgs false
set_option linter.unnecessarySimpa false
open Array renaming getElem?_eq_some_iff→o8,getElem?_toList→S5
open Bool renaming not_true→Y7,not_false→W5,and_eq_true→V0,eq_iff_iff→V5,or_eq_false_iff→T4
open Decidable renaming not_not→Z9
open Go renaming Value→x1,World→x3,TypeId→r8,IntKind→o4,Builtin→Z0,Program→W0
open Go.Addr renaming add_mid→T1
open Go.Builtin renaming append_→b8,len_→W6
open Go.Instr renaming loadAt→u4,fieldAt→u5,storeAt→o6,indexAt→j5,extract→Z4,buildSlice→Y0,sliceAt→V3,alloc→R7
open Go.IntKind renaming i64→X2
open Go.Proofs.Tryz renaming prog→x7
open Int renaming toNat_natCast→u6,le_refl→T2
open List renaming getElem?_eq_some_iff→x4,mem_of_getElem?→x5,getElem?_eq_getElem→x6,getElem?_map→x8,getD_eq_getElem?_getD→v8,length_map→u7,take_add_one→u9,replicate→r9,length_append→p9,take_length→o5,mem_append→o7,mem_singleton→o9,mem_map→n9,length_take→l9,take_of_length_le→j9,length_cons→c7,eq_nil_of_length_eq_zero→c8,getElem?_set_self→c9,map_append→b6,length_set→Z2,getElem?_eq_none→Z6,getElem?_take_of_lt→Z7,range→Z8,getElem?_append_left→Y1,getElem?_set_ne→Y2,getElem?_set→Y3,getElem?_append_right→Y4,ext_getElem?→Y6,mem_iff_getElem?→X1,flatMap_cons→X5,mem_or_eq_of_mem_set→X6,drop_eq_getElem_cons→X7,length_eq_one_iff→W3,map_set→V7,append_nil→U2,map_cons→U6,foldl_append→U9,append_assoc→T0,set_append_right→T3,getElem_mem→T9,mem_of_mem_take→S3,length→S7,map_map→S8,length_singleton→R2
open Nat renaming le_refl→p8,le_trans→Y9,zero_add→X0,zero_le→X3,mul_le_mul_right→X4,sub_self→V6,mul_one→V8,add_mul→V9,add_assoc→S9,add_sub_cancel_left→R3,eq_zero_or_pos→Q0
open Option renaming toList_some→l7,isNone_some→b9,map_some→Z3,map_eq_some_iff→Y5,getD_some→V1,map→V4,isSome_some→T8,isSome_none→S6
open Option.some renaming inj→j6,injEq→Y8
open Prod.mk renaming injEq→S0
set_option maxHeartbeats 16000000
open Option renaming some→σ,none→ν
variable {B N a ad ag gz j k n:Nat}{w w':x3}{sv v z:x1}{e t:r8}{y:Int}{K:x1->Prop}{all l pl sizes:Λ}{S:Nat->Prop}
namespace Go.Proofs.YtmgflbkdggdhoaaGreatDoor
open Go Go.Vc Go.RowKit Go.Proofs Go.Proofs.Tryz
set_option maxRecDepth 100000
def Na (w:x3) (f:bZ) (v:x1) (w':x3):Prop:=Ext w w'/\((¬lR f.funs<=16384/\ ∃e:Int,e≠0/\v= .tuple #[.pointer ν,Δ e])\/ ∃a,v= .tuple #[Γ a,Δ 0]/\CO w.heap.size w' a (cP f))
theorem eH {cs:List x1} (h:ca w k v n cs):v.cells= #[v]/\v.oneCell'=true:=by
 obtain⟨_,_,_,_,_,rfl,_⟩:=h;exact⟨rfl,rfl⟩
theorem Nb {b1:Nat} {f:bZ} (cw:k1 w b1 f) (S:e8 N f) (cz:N<=60000) (cA:f.name≠[]/\ ∀b∈f.name,bJ b=true):
  am x7 FY [Γ b1] w (Na w f):=by
 have hk:=S.k;refine az func28 ?_;refine (M6 cw S cz cA).mono ?_;rintro _ U _ ⟨aB,⟨cB,e,he,rfl⟩|⟨aC,rfl,cC⟩⟩
 .rw[bi,bj,bz,al];exact⟨λ_=>⟨aB,.inl ⟨cB,e,he,rfl⟩⟩,λh=>absurd he h⟩
 rw[bi,bj,bz,al];refine⟨λh=>absurd rfl h,λ_=>?_⟩;obtain⟨szv,cD,gz,dA,M,bd,bf,b2,aR,cE,cH,cI⟩:=id cC;have dE:M.length<=256:=by
  have h1:=(qv S).2.length_eq;have ao:=(kZ S).2.2;have av:=List.length_filter_le fB (ff f);have aS:=S.kS;have dF:M.length=(fC f).length:=by rw[<-aR,u7]
  omega
 have dG:=S.sizes.2.1;rw[dn (cs:=#[Γ aC,Δ 0,.slice ν 0 0,.slice ν 0 0]) Ψ];refine bo λG V dH bk bl=>?_;have bl:af V G ft [Γ aC,Δ 0,.slice ν 0 0,.slice ν 0 0]:=bl;rw[aO cF.p 2 (bd.ext bk) rfl,aU an.u (bf.ls.ext bk)];refine ch.range f.sizes.length (λi aD=>∃s H aX,Ext U aD/\af aD G ft [Γ aC,Δ 0,s,.slice ν 0 0]/\hx aD H s aX/\aX.map (·.l)=(f.sizes.take i).map (λz=>r9 z.toNat 0)/\(∀r,leadsTo s r->U.heap.size<=r)/\ ∀h∈aX,∀r,leads h.v r->U.heap.size<=r) Ω
  ⟨_,0,[],bk,bl,⟨bg.nil _ _ _ _ _,λx I=>(by cases I)⟩,rfl,λr q=>(fg q).elim,λx I=>(by cases I)⟩ ?_ ?_
 .rintro i aD cJ hi ⟨s,H,aX,ac,aV,bm,aE,aY,O⟩ cK;obtain⟨z,B⟩:=aH (l:=f.sizes) hi;have dI:=S.sizes.2.2 z (x5 B);have dJ:aX.length=i:=by have:=congrArg S7 aE;simp only[u7,l9] at this;omega
  refine bE Ω ?_;rw[be an.u ai.i Ψ (bf.ls.ext ac) B];intro dK bn _ _;have cL:=aV.ext bn;rw[aO ft.p 2 cL rfl];obtain⟨ad,rfl⟩:∃n:Nat,z=n:=⟨z.toNat,Ω⟩;refine iU (k:=.i64) ax.u ap.i Ω Ω λaZ cM dL bq cN=>?_;refine⟨.inl bq,?_⟩;have b3:au .i64 ap cM aZ (.slice (σ ⟨aZ,0,ν⟩) ad ad) (r9 ad 0):=au.of (bT.full (k:=1) (n:=ad) cN Ξ (by simp[maxLen];omega));let a:k2:=⟨.slice (σ ⟨aZ,0,ν⟩) ad ad,r9 ad 0⟩;refine h2 (f:=nI) (a:=a) ec.u ax.i Ω rfl rfl λdM dN br dP bu cO=>?_;refine⟨.inl (bq.trans bu),?_⟩;have a1:=(bn.trans bq).trans bu;have a2:=bm.ext a1;refine iw (f:=nI) (a:=a) ec.u ax.i rfl a2.1 (by simpa using cO.sl) (λu hu=>by rw[o9.1 (show u∈[a.v] from hu)];rfl) Ω Ω λbw bx dR P bA b5=>?_;have aF:∀ {r:Nat},leadsTo s r-> ∃c,af br r ax c:=λq=>by
   obtain⟨rfl,c,A⟩:=dY a2.1 q;exact⟨c,A⟩
  have bB:=aV.ext a1;have b7:=bB.ab b5 λhe=>cQ a2.1 bB Φ he;rw[bS,aW ft.p rfl];refine bt ec.i (eH P.sl).1 (eH P.sl).2 b7 Ξ λcP b8 dS cR=>?_;rw[aM];have bC:ah (λr=>leadsTo s r\/r=G) br cP:=(b5.mono λr _ h=>.inl h).trans (b8.mono λr _ h=>.inr h);have W:∀r,(leadsTo s r\/r=G)-> ∃e c,af br r e c/\e≠ap:=λr q=>by
   rcases q with q|rfl
   .obtain⟨c,A⟩:=aF q;exact⟨_,c,A,Φ⟩
   .exact⟨_,_,bB,Φ⟩
  have b9:=aB.size;have z3:=ac.size;have dT:=a1.size;refine cK _ ⟨bw,bx,aX++[a],(ac.trans a1).then bC (λr q he=>?_),cR,⟨P.ab b8 λr q he=>?_,λy C=>?_⟩,?_,λr q=>?_,λy C r q=>?_⟩
  .rcases he with he|rfl
   .have:=aY r he;omega
   .omega
  .have he:r=G:=he;subst he;exact cQ P b7 Φ q
  .rcases o7.1 C with C|C
   .exact a2.qF bC W y C
   .rw[o9.1 C];have ca:=b3.ext bu;exact⟨aZ,bp ca bC λr q J=>by
     obtain⟨e,c,A,cS⟩:=W r J;exact b4 ca A (λhe=>cS he.symm) q rfl⟩
  .rw[b6,aE,u9,B,l7,b6];rfl
  .rcases bA r q with h|h
   .exact aY r h
   .omega
  .rcases o7.1 C with C|C
   .exact O y C r q
   .rw[o9.1 C] at q;have cT:=(bM b3 q).1;have:=bn.size;omega
 .rintro aD cJ ⟨s,H,aX,ac,aV,bm,aE,aY,O⟩;refine cm Ω ?_;rw[o5] at aE;have cU:=bd.ext ac;have cV:=b2.ext ac;rw[aO cF.p 3 cU rfl,e9 dD.u cV.1];refine ch.range M.length (λi ae=>∃s E H gr aX L,Ext U ae/\af ae G ft [Γ aC,Δ (dC f i).zero,s,E]/\hx ae H s aX/\aX.map (·.l)=(dC f i).unary/\lS ae w.heap.size gr E f.k f.sizes L/\L.map dQ=(dC f i).funs/\(∀r,leadsTo s r\/leadsTo E r->U.heap.size<=r)/\ ∀h∈aX,∀r,leads h.v r->U.heap.size<=r) Ω
   ⟨s,_,H,0,aX,[],ac,aV,bm,aE,⟨bg.nil _ _ _ _ _,λx I=>(by cases I)⟩,rfl,λr q=>q.elim (aY r) λh=>(fg h).elim,O⟩ ?_ ?_
  rotate_left
  .rintro ae cW ⟨s,E,H,gr,aX,L,Q,a6,bD,ag,bF,aj,X,O⟩;refine cm Ω ?_;have cY:M.length=(fC f).length:=by rw[<-aR,u7]
   have aI:=pf f M.length;rw[cY,s5] at a6 ag aj aI;have b9:=aB.size;refine⟨aB.trans Q,.inr ⟨G,rfl,M7 (gr:=gr) (nm:=bN f.name) (szv:=szv) (gz:=gz) (fv2:=cD) a6 ?_ ?_ bD ag ?_ aj Ω cE cH (λr q=>by have:=X r q;omega) λh aG r q=>by have:=O h aG r q;omega⟩⟩
   .rw[aI.1];exact bd.ext Q
   .rw[aI.2.1];exact bf.ext Q
   .rw[aI.1,aI.2.1];exact bF
  rintro i ae cW hi ⟨s,E,H,gr,aX,L,Q,a6,bD,ag,bF,aj,X,O⟩ cZ;obtain⟨y,C⟩:=aH (l:=M) hi;have c0:(fC f)[i]? =σ (dQ y):=by rw[<-aR,x8,C];rfl
  have a7:fE f.sizes f.k (dQ y):=sI S _ (wk aR C);have bH:=b2.ext Q;obtain⟨dU,dV,dW,dX⟩:=pf f i;refine bE Ω ?_;refine dh (λaJ=>∃s E H gr aX L,Ext U aJ/\af aJ G ft [Γ aC,Δ (dC f (i+1)).zero,s,E]/\hx aJ H s aX/\aX.map (·.l)=(dC f (i+1)).unary/\lS aJ w.heap.size gr E f.k f.sizes L/\L.map dQ=(dC f (i+1)).funs/\(∀r,leadsTo s r\/leadsTo E r->U.heap.size<=r)/\ ∀h∈aX,∀r,leads h.v r->U.heap.size<=r) ?_ ?_
  .rintro aJ h;rw[aM];exact cZ _ h
  intro ay bI;have c1:=bH.2 y (x5 C);obtain⟨⟨c2,bK⟩,m,o,D,c3,dZ,c4⟩:=c1;rw[dr rfl dD.u cG.i bH.1 hi,bO cG.p cG.i rfl (bH.1.range C)];refine bG cG.i λaq ea eb c5 c6=>?_;refine ck (vs:=eu y) cG.i rfl rfl (s4 bK) c6 λc7 c9 ed cb=>?_;have bL:Ext ae c7:=c5.put c9 Ω;rw[aT cG.p 1 cb rfl];refine (Cm (c3.ext bL) Ω).mono ?_;rintro _ ee _ ⟨cc,_,aw⟩;obtain⟨g,da,db,dc,rfl,ef,dd,aw,de⟩:=aw a7.small;have df:dO (bV f.sizes y.sc):=aw.2.2.1.2;have di:dc=y.cs:=h4.eq df de c4;subst di;have Y:=bL.trans cc;have bP:=cb.ext cc;have bQ:=bK.ext Y;rw[bi,bj,aT cG.p 0 bP rfl,aU an.u bQ.ls];have b9:=aB.size;have z9:=Q.size;have eg:=Y.size;have bR:=a6.ext Y;have bU:=bD.ext Y;have bW:=bF.ext Y;have bX:=wm c0;rw[bh,al];refine⟨λeh=>?_,λei=>?_⟩
  .
   have ak:y.sc=[]:=c8 Ω;have K:dC f (i+1)={dC f i with zero:=y.cs.getD 0 0}:=by rw[bX];unfold iA;simp only[dQ,ak]
   refine (mr aw).mono ?_;rintro cd dj _ ⟨a8,ej,ek,dk⟩;have em:y.cs.length=1:=by have:=a7.len;simpa[dQ,ak,bV,aK] using this
   have dl:y.cs[0]? =σ (y.cs.getD 0 0):=by rw[v8,x6 Ω];rfl
   rw[fx (y:=0) (i:=0) rfl ax.u ap.i Ψ dk.ls dl,bS,aW ft.p rfl];have ce:=bR.ext a8;refine bt ap.i rfl rfl ce Ξ λen bY eo dm=>?_;have W:∀r,r=G-> ∃e c,af dj r e c/\e≠hj/\e≠cX/\e≠ai/\e≠ap/\e≠ax:=λr q=>by
    subst q;exact⟨_,_,ce,Φ,Φ,Φ,Φ,Φ⟩
   refine bI _ ⟨s,E,H,gr,aX,L,((Q.trans Y).trans a8).put bY Ω,?_,(bU.ext a8).ab bY (λr q=>?_),by rw[K];exact ag,(bW.ext a8).ab bY (λr q=>?_),by rw[K];exact aj,X,O⟩
   .rw[K];exact dm
   .obtain⟨e,c,A,_,_,_,h1,ao⟩:=W r q;exact⟨e,c,A,h1,ao⟩
   .obtain⟨e,c,A,h1,ao,av,aS,_⟩:=W r q;exact⟨e,c,A,h1,ao,av,aS⟩
  rw[bh,al];refine⟨λh1=>?_,λep=>?_⟩
  .
   obtain⟨v,ak⟩:∃v,y.sc=[v]:=W3.1 Ω;have er:=a7.scope.1 v (by show v∈y.sc;rw[ak];exact .head _);have es:=a7.vars v (by show v∈y.sc;rw[ak];exact .head _);have K:dC f (i+1)={dC f i with unary:=(dC f i).unary.set v.toNat y.cs}:=by rw[bX];unfold iA;simp only[dQ,ak]
   intro et Z _ _;have cg:=bR.ext Z;have dp:=bP.ext Z;rw[aO ft.p 2 cg rfl,aT cG.p 0 dp rfl];refine p1 (y:=0) (i:=0) rfl an.u ai.i (bQ.ls.ext Z) (show y.sc[0]? =σ v by rw[ak];rfl) λb o dq=>?_;rw[aA Ψ dq];refine (mr (aw.ext Z)).mono ?_;rintro cd ds _ ⟨aL,dt,ev,aN⟩;refine⟨.inl aL,?_⟩;have aP:=(bU.ext Z).ext aL;have ew:aX.length=f.sizes.length:=by have:=congrArg S7 ag;rw[u7] at this;omega
   obtain⟨u,hu⟩:=aH (l:=aX) (i:=v.toNat) Ω;rw[dr (i:=v.toNat) Ω ec.u ax.i aP.1 Ω];let a:k2:=⟨cd,y.cs⟩;refine o0 (f:=nI) (j:=0) (a:=u) (a':=a) ax.i aN.ls.cells.1 aN.ls.cells.2 aP.1 hu rfl Ω λey aQ ez du=>?_;have ci:=cg.ext aL;have aF:∀ {r:Nat},leadsTo s r-> ∃c,af ds r ax c:=λq=>by
    obtain⟨rfl,c,A⟩:=dY aP.1 q;exact⟨c,A⟩
   refine bI _ ⟨s,E,H,gr,aX.set v.toNat a,L,(((Q.trans Y).trans Z).trans aL).then aQ (λr q he=>by have:=X r (.inl he);omega),?_,⟨du,λz B=>?_⟩,?_,((bW.ext Z).ext aL).ab aQ (λr q=>?_),by rw[K];exact aj,X,λz B r q=>?_⟩
   .rw[K];exact ci.ab aQ λhe=>cQ aP.1 ci Φ he
   .rcases X6 B with B|rfl
    .exact aP.qF aQ (λr q=>by obtain⟨c,A⟩:=aF q;exact⟨_,c,A,Φ⟩) z B
    .exact⟨dt,bp aN aQ λr q J=>by
      obtain⟨c,A⟩:=aF J;exact b4 aN A Φ q rfl⟩
   .rw[K,V7,ag]
   .obtain⟨c,A⟩:=aF q;exact⟨_,c,A,Φ,Φ,Φ,Φ⟩
   .rcases X6 B with B|rfl
    .exact O z B r q
    .have cT:=(bM aN q).1;have:=Z.size;omega
  .
   have K:dC f (i+1)={dC f i with funs:=(dC f i).funs++[dQ y]}:=by
    rw[bX];unfold iA;have cj:2<=(dQ y).1.length:=by show 2<=y.sc.length;omega
    generalize dQ y=g at cj ⊢;obtain⟨sc,cs⟩:=g
    match sc,cj with
    |_::_::_,_=>rfl
   intro eA aa _ _;have cl:=bR.ext aa;have dv:=bP.ext aa;have cn:=bQ.ext aa;rw[aO ft.p 3 cl rfl,aT cG.p 0 dv rfl,dn (cs:=#[y.sv,Γ g]) (by obtain⟨_,_,_,e⟩:=dg bK.ls;rw[e];kernel_rfl)];let a:cp:=⟨y.sv,g,y.sc,y.cs⟩;refine h2 (f:=eu) (a:=a) kH.u hj.i Ω rfl rfl λeB eC ba eD R dw=>?_;refine⟨.inl R,?_⟩;have bb:=(bW.ext aa).ext R;have dx:=(bU.ext aa).ext R;have b0:=cl.ext R;have eE:L.length<=256:=by have:=congrArg S7 aj;rw[u7] at this;omega
   refine iw (f:=eu) (a:=a) kH.u hj.i rfl bb.1 (by simpa using dw.sl) (s4 (cn.ext R)) Ω Ω λbw bx eF P bA cq=>?_;have cr:=b0.ab cq λhe=>cQ bb.1 b0 Φ he;rw[bS,aW ft.p rfl];refine bt kH.i (eH P.sl).1 (eH P.sl).2 cr Ξ λdy ct eI dz=>?_;have bc:ah (λr=>leadsTo E r\/r=G) ba dy:=(cq.mono λr _ h=>.inl h).trans (ct.mono λr _ h=>.inr h);have W:∀r,(leadsTo E r\/r=G)-> ∃e c,af ba r e c/\e≠cX/\e≠ai/\e≠ap/\e≠ax:=λr q=>by
    rcases q with q|rfl
    .obtain⟨rfl,c,A⟩:=dY bb.1 q;exact⟨_,c,A,Φ,Φ,Φ,Φ⟩
    .exact⟨_,_,b0,Φ,Φ,Φ,Φ⟩
   have eJ:=(aa.trans R).size;refine bI _ ⟨s,bw,H,bx,aX,L++[a],(((Q.trans Y).trans aa).trans R).then bc (λr q he=>?_),?_,dx.ab bc (λr q=>?_),by rw[K];exact ag,⟨P.ab ct λr q he=>?_,λz B=>?_⟩,?_,λr q=>?_,O⟩
   .rcases he with he|rfl
    .have:=X r (.inr he);omega
    .omega
   .rw[K];exact dz
   .obtain⟨e,c,A,_,_,av,aS⟩:=W r q;exact⟨e,c,A,av,aS⟩
   .have he:r=G:=he;subst he;exact cQ P cr Φ q
   .have cu:∀r,(leadsTo E r\/r=G)-> ∃e c,af ba r e c/\e≠cX/\e≠ai/\e≠ap:=λr q=>by
     obtain⟨e,c,A,h1,ao,av,_⟩:=W r q;exact⟨e,c,A,h1,ao,av⟩
    rcases o7.1 B with B|B
    .exact (bb.2 z B).ab bc cu
    .rw[o9.1 B];have eK:=bL.size;refine qG.ab (w:=ba) ⟨⟨c2,cn.ext R⟩,⟨da,db,?_,Ω,λr q=>by have:=dd.2 r q;omega⟩,by show w.heap.size<=g;omega,cI y (x5 C)⟩ bc cu;exact (aw.ext aa).ext R
   .rw[K,b6,aj];rfl
   .rcases q with q|q
    .exact X r (.inl q)
    .rcases bA r q with h|h
     .exact X r (.inr h)
     .omega
theorem wn {z:Array x1} (a:z.size=k):(Z0.zeroCells z n).toList=dK z (n*k):=by
 unfold Z0.zeroCells dK;rw[a]
theorem Nc {P:W0} {p A:r8} {B kn:o4} {b g m:Nat} {xs:List x1} {K:x1->x3->Prop} (X:y=(m:Int)) (M:P.underlying t=σ (.slice e)) (N:P.underlying p=σ (.int kn)) (hi:aS P e k b z) (C:z.cells.size=k)
  (av:0<k) (h1:∀u∈dK z.cells (m*k),u.oneCell'=true) (h:bT w g e k v n xs) (Y:0<m) (Z:(n+m)*b<=140737488355328) (aa:n+m<=9223372036854775807)
  (O:∀E ad w',bT w' ad e k E (n+m) (xs++dK z.cells (m*k))->(∀r,leadsTo E r->leadsTo v r\/w.heap.size<=r)->ah (λr=>leadsTo v r) w w'->K E w'):aC P (b8 #[t,p] A #[v,.int B y]) w K:=by
 subst X;obtain⟨i,hi,F,rfl,Q⟩:=hi;obtain⟨R,hm⟩:=h;have ae:=oB z.cells (m*k);have ag:m*i.bytes<=281474976710656:=by
  have:m*i.bytes<=(n+m)*i.bytes:=X4 _ Ω;omega
 have grow:∀ (base:Option Addr) (cap:Nat),v= .slice base n cap->(Z0.firstCells i.size n (.slice base n cap)).run P w.drew= .ok xs.toArray w.drew->cap<n+m->aC P (b8 #[t,p] A #[v,.int B (m:Int)]) w K:=λbase cap ac ai f=>by
  subst ac;have G:=Lib.run_append_grow_zeros (P:=P) w t p A e i z B kn M N hi Q base n cap xs ai m Y Ω f Ω ag (growslice_fits f Z);have S:n+m<=grownCap w (n+m) cap e:=grownCap_ge w _ _ _;have aj:grownCap w (n+m) cap e<=maxLen:=grownCap_le_maxLen w (n+m) cap e (by simpa[maxLen] using aa);have aw:=oB z.cells ((grownCap w (n+m) cap e-(n+m))*k);have ax:(n+m)*k<=grownCap w (n+m) cap e*k:=X4 _ S;have ak:(n+m)*k=n*k+m*k:=V9 _ _ _;have ay:(grownCap w (n+m) cap e-(n+m))*k=grownCap w (n+m) cap e*k-(n+m)*k:=Nat.sub_mul _ _ _;refine .of G ((px w _ (Nat.le_succ _)).trans (pz _ _)) (O _ w.heap.size _ ⟨by rw[p9];omega,.inr ⟨_,xs++dK z.cells (m*k)++dK z.cells ((grownCap w (n+m) cap e-(n+m))*k),rfl,?_,S,aj,?_,?_⟩⟩ (λr H=>?_) (((rb w _).trans (py _ _)).ab _))
  .have:=heap_alloc_new w.drew (.cells (xs.toArray++Z0.zeroCells z.cells m++Z0.zeroCells z.cells (grownCap w (n+m) cap e-(n+m))) e);unfold af;rw[show w.drew.heap.size=w.heap.size from rfl] at this;rw[this];congr 2;apply Array.toList_inj.1;rw[Array.toList_append,Array.toList_append,wn C,wn C]
  .rw[p9,p9];omega
  .rw[List.take_append_of_le_length (by rw[p9];omega),j9 (by rw[p9];omega)]
  .obtain⟨a,al,c,q,s⟩:=H;cases q;exact .inr (by simp at s;omega)
 rcases hm with⟨rfl,am⟩|⟨cap,cs,rfl,x,q,s,I,T⟩
 .subst am;have:xs=[]:=c8 (by simpa using R);subst this;exact grow ν 0 rfl (run_firstCells_none w.drew i.size 0 0 0) Ω
 .by_cases f:n+m<=cap
  .have U:(n+m)*k<=cs.length:=by rw[I];exact X4 _ f
   have ak:(n+m)*k=n*k+m*k:=V9 _ _ _;have J:=run_storeCells_cells (P:=P) g (0+n*k) (dK z.cells (m*k)) 0 w (λj V=>by
    rw[ae] at V;rw[Nat.add_zero,X0,x.cell (x6 (show n*k+j<cs.length by omega))];rfl) (λj _=>x.frozen _ _) h1
   simp only[Nat.add_zero] at J;have hw:X2.wrap (m:Int)=m:=by rw[o4.wrap_i64];omega
   have an:¬((m:Int)<0):=Ω
   have ao:¬(281474976710656<(m:Int)*(i.bytes:Int)):=by rw[<-Int.natCast_mul];omega
   have L:¬(m*i.size=0):=Nat.mul_ne_zero Ω Ω;have ap:(Z0.zeroCells z.cells m).toList=dK z.cells (m*k):=wn C;have G:(b8 #[t,p] A #[.slice (σ ⟨g,0,ν⟩) n cap,.int B (m:Int)]).run P w= .ok (.slice (σ ⟨g,0,ν⟩) (n+m) cap) (w.setCells g (0+n*k) (dK z.cells (m*k))):=by
    simp[b8,run_underlying M,run_underlying N,sizeOf,typeInfo,zeroValue,hi,Q,asInt,asIntOf,hw,f,an,L,ao,ap,Addr.add_lit,F];simp only[X0] at J;rw[J];simp;intro aq;exact absurd aq (by rw[F] at L;exact L)
   obtain⟨au,W⟩:=nj (dK z.cells (m*k)) cs (0+n*k) w x;refine .of G (W.ct x) (O _ g _ ⟨by rw[p9];omega,.inr ⟨cap,_,rfl,au,f,s,by rw[lH,I],?_⟩⟩ (λr H=>.inl ?_) (W.ab.mono λr _ he=>⟨_,_,_,rfl,he.symm⟩))
   .rw[sy Ω U,mg (by rw[l9];omega),X0,List.take_take,List.drop_eq_nil_of_le (by rw[l9];omega),U2,Nat.min_eq_left Ω,T]
   .obtain⟨a,al,c,q,s⟩:=H;cases q;exact⟨_,_,_,rfl,s⟩
  .refine grow _ cap rfl ?_ Ω;have U:n*k<=cs.length:=by rw[I];exact X4 _ q
   refine run_firstCells_some w.drew i.size n _ n cap xs (by rw[F];exact R) λj u hu=>?_;rw[T1,X0];have V:=(x4.1 hu).1;rw[<-T,Z7 Ω] at hu;exact x.cell hu
def h5 (c:Cell):List x1:=[Δ c.v,.int .u64 (c.st:Int)]
def nL (o:kQ):List x1:=[Δ (o.i:Int),Δ o.c.v,.int .u64 (o.c.st:Int)]
def nM (m:r3):List x1:=[Δ (m.olds:Int),Δ (m.cells:Int),.int .u64 (m.st:Int)]
def dt (w:x3) (ag:Nat) (A:ak) (t:aB):Prop:=A ag/\ ∃e go dc a7 a dE,af w ag fu [a7,a,dE,.int .u64 (t.iq:Int)]/\bg h5 2 eD w e a7 t.cells/\bg nL 3 kI w go a t.olds/\bg nM 3 gh w dc dE t.marks/\
 ∀r,leadsTo a7 r\/leadsTo a r\/leadsTo dE r->A r
theorem dt.ab {S A:ak} {t:aB} (h:dt w ag A t) (e:ah S w w') (f:∀r,A r->¬S r):dt w' ag A t:=by
 obtain⟨m,p,go,dc,a7,q,dE,h1,s,x,y,j⟩:=h;exact⟨m,p,go,dc,a7,q,dE,h1.ab e (f _ m),s.ab e λr a=>f r (j r (.inl a)),x.ab e λr a=>f r (j r (.inr (.inl a))),y.ab e λr a=>f r (j r (.inr (.inr a))),j⟩
theorem dt.ext {A:ak} {t:aB} (h:dt w ag A t) (I:Ext w w'):dt w' ag A t:=h.ab (I.ab λ_=>False) λ_ _ h=>h
theorem dt.mono {A B:ak} {t:aB} (h:dt w ag A t) (a:∀r,A r->B r):dt w ag B t:=by
 obtain⟨e,f,go,dc,a7,j,dE,h1,m,p,q,s⟩:=h;exact⟨a _ e,f,go,dc,a7,j,dE,h1,m,p,q,λr x=>a r (s r x)⟩
def Grow (A:ak) (w:x3) (aQ:ak) (w':x3):Prop:=ah A w w'/\(∀r,aQ r->A r\/w.heap.size<=r)/\ ∀r,A r->aQ r
theorem Grow.refl (A:ak) (w:x3):Grow A w A w:=⟨ah.refl _ _,λ_ h=>.inl h,λ_ h=>h⟩
theorem Grow.ext {A:ak} (h:Ext w w'):Grow A w A w':=⟨h.ab _,λ_ h=>.inl h,λ_ h=>h⟩
theorem Grow.trans {A aQ e:ak} {f:x3} (h:Grow A w aQ w') (k:Grow aQ w' e f):Grow A w e f:=
 ⟨⟨Y9 h.1.size k.1.size,λr o a J j=>k.1.aZ r o (h.1.aZ r o a J j) J λm=>(h.2.1 r m).elim j λp=>by
  have:=(o8.1 a).1;omega⟩,λr a=>by
  rcases k.2.1 r a with h1|h1
  .exact h.2.1 r h1
  .have:=h.1.size;exact .inr Ω,λr a=>k.2.2 r (h.2.2 r a)⟩
theorem CQ {A:ak} {t:aB} (h:dt w ag A t):am x7 HN [Γ ag] w λv w'=>v=Δ (t.cells.length:Int)/\Ext w w':=by
 obtain⟨e,f,go,dc,a7,j,dE,h1,a,m,q,r⟩:=h;refine az func185 ?_;rw[c5 pO.u];simp only[b9,aY];rw[aO fu.p 0 h1 rfl,e9 hU.u a];exact⟨rfl,Ext.refl _⟩
theorem CR {A:ak} {t:aB} {i:Int} (h:dt w ag A t):am x7 G9 [Γ ag,Δ i] w λv w'=>v= .bool (decide (0<=i/\i<t.cells.length))/\Ext w w':=by
 refine az func133 ?_;refine aV (λv U=>v= .bool (decide (0<=i/\i<t.cells.length))/\Ext w U) (λ_ _ h=>h) ?_;intro ay a;rw[cO,al];refine⟨λe=>?_,λe=>a _ _ ⟨by rw[decide_eq_false];omega,Ext.refl _⟩⟩;refine (CQ h).mono ?_;rintro _ U _ ⟨rfl,I⟩;rw[aN];refine a _ _ ⟨?_,I⟩;congr 1;rw[V5,decide_eq_true_eq,decide_eq_true_eq];exact⟨λh=>⟨Ω,h⟩,λh=>h.2⟩
theorem Nd {A:ak} {t:aB} {i:Nat} {c:Cell} (h:dt w ag A t) (f:y=(i:Int)) (a:t.cells[i]? =σ c):am x7 y8 [Γ ag,Δ y] w λv w'=>v=Δ c.v/\Ext w w':=by
 have j:=(x4.1 a).1;refine az func67 ?_;refine (CR h).mono ?_;rintro _ U _ ⟨rfl,I⟩;rw[decide_eq_true Ω,bI,Y7,aY];obtain⟨m,q,go,dc,a7,r,dE,h1,e,s,x,z⟩:=h.ext I;rw[aO fu.p 0 h1 rfl,dr f hU.u eD.i e j,aW eD.p rfl,aA Ψ (e.range a 0 _ rfl)];exact⟨rfl,I⟩
theorem nN {A:ak} {t:aB} {i:Nat} {x:Int} (h:dt w ag A t) (e:y=(i:Int)) (a:t.bP[i]? =σ x):am x7 y8 [Γ ag,Δ y] w λv w'=>v=Δ x/\Ext w w':=by
 unfold aB.bP at a;rw[x8] at a;obtain⟨c,f,rfl⟩:=Y5.1 a;exact Nd h e f
def mz (t:aB):Prop:=t.cells.length<=100000000/\t.olds.length<=100000000/\t.marks.length<=100000000
theorem s6 {p go dc:Nat} {a7 a dE:x1} {t:aB} {x:x1} (h1:af w ag fu [a7,a,dE,x]) (f:bg h5 2 eD w p a7 t.cells) (h:bg nL 3 kI w go a t.olds) (j:bg nM 3 gh w dc dE t.marks):
  (¬leadsTo a7 ag/\¬leadsTo a ag/\¬leadsTo dE ag)/\(∀r,leadsTo a7 r->¬leadsTo a r/\¬leadsTo dE r)/\ ∀r,leadsTo a r->¬leadsTo a7 r/\¬leadsTo dE r:=by
 refine⟨⟨cQ f h1 Φ,cQ h h1 Φ,cQ j h1 Φ⟩,λr m=>?_,λr m=>?_⟩
 .obtain⟨rfl,c,e⟩:=dY f m;exact⟨cQ h e Φ,cQ j e Φ⟩
 .obtain⟨rfl,c,e⟩:=dY h m;exact⟨cQ f e Φ,cQ j e Φ⟩
theorem s7 {A:ak} {t:aB} {i:Nat} {x:Int} (h:dt w ag A t) (bm:y=(i:Int)) (O:i<t.cells.length) (au:mz t):am x7 y7 [Γ ag,Δ y,Δ x] w λv w'=>v=Δ 0/\ ∃aQ,Grow A w aQ w'/\dt w' ag aQ (t.set i x):=by
 subst bm;obtain⟨c,E⟩:=aH (l:=t.cells) O;refine az func66 ?_;rw[c5 pO.u];simp only[b9,aY];refine (CR h).mono ?_;rintro _ U _ ⟨rfl,I⟩;rw[decide_eq_true Ω,bI,Y7,aY];obtain⟨aU,L,go,dc,a7,P,dE,h1,aX,av,Y,Z⟩:=id (h.ext I);have bn:∀ {V:x3} {aQ:ak} {bw:aB} {st:Nat} {K:x3->Prop},dt V ag aQ bw->bw.cells[i]? =σ ⟨c.v,st⟩->
   (∀q,ah aQ V q->dt q ag aQ {bw with cells:=bw.cells.set i ⟨x,st⟩}->K q)->
   (aa x7 (bK (Γ ag)) V λt77=>
   aa x7 (u5 fu t77 0) V λbo=>
   aa x7 (u4 hU bo) V λbp=>
   aa x7 (j5 hU bp (Δ (i:Int))) V λbq=>
   aa x7 (u5 eD bq 0) V λbr=>
   aC x7 (o6 ap br (Δ x)) V λ(_:Unit) q=>
   K q):=by
  intro V aQ bw st K aw ad bu;obtain⟨ax,L,go,dc,a7,P,dE,G,H,Q,R,S⟩:=aw;have bx:=(x4.1 ad).1;rw[aO fu.p 0 G rfl,dr rfl hU.u eD.i H bx,aW eD.p rfl];obtain⟨⟨W,aD,aE⟩,J,_⟩:=s6 G H Q R;refine o0 (f:=h5) (j:=0) (a:=⟨c.v,st⟩) (a':=⟨x,st⟩) ap.i rfl rfl H ad rfl Ω λq B bz bA=>?_;exact bu q (B.mono λr _ e=>S r (.inl e)) ⟨ax,L,go,dc,a7,P,dE,G.ab B W,bA,Q.ab B λr e he=>(J r he).1 e,R.ab B λr e he=>(J r he).2 e,S⟩
 refine dh (λV=>∃aQ bw st,Grow A U aQ V/\dt V ag aQ bw/\bw.cells[i]? =σ ⟨c.v,st⟩/\t.set i x={bw with cells:=bw.cells.set i ⟨x,st⟩}) ?_ ?_
 .rintro V ⟨aQ,bw,st,bB,aw,ad,aF⟩;refine bn aw ad λq B av=>⟨by trivial,aQ,?_,by rw[aF];exact av⟩;exact (Grow.ext I).trans (bB.trans ⟨B,λ_ h=>.inl h,λ_ h=>h⟩)
 intro ay aG;rw[aO fu.p 2 h1 rfl,e9 rQ.u Y,bR,al];have aZ:∀ (hm:t.marks.getLast? =ν\/ ∃m,t.marks.getLast? =σ m/\¬(c.st<m.st/\i<m.cells)),t.set i x={t with cells:=t.cells.set i ⟨x,c.st⟩}:=λhm=>by
  unfold aB.set;rw[E];rcases hm with hm|⟨m,hm,bC⟩
  .simp only[hm]
  .simp only[hm];rw[if_neg bC]
 refine⟨λb0=>?_,λb1=>aG _ ⟨A,t,c.st,Grow.refl _ _,h.ext I,E,aZ (.inl ?_)⟩⟩
 rotate_left
 .rw[List.getLast?_eq_none_iff];exact c8 Ω
 obtain⟨m,hm⟩:=aH (l:=t.marks) (i:=t.marks.length-1) Ω;have a1:t.marks.getLast? =σ m:=by rw[List.getLast?_eq_getElem?];exact hm
 have b2:=au.2.2;rw[aO fu.p 2 h1 rfl,dJ,wrap_i64 Ω Ω,dr (i:=t.marks.length-1) Ω rQ.u gh.i Y Ω,bO gh.p gh.i rfl (Y.range hm)];refine bG gh.i λaq V b3 a2 bD=>?_;refine ck (vs:=nM m) gh.i rfl rfl (by intro v ac;simp[nM] at ac;rcases ac with rfl|rfl|rfl<;>rfl) bD λq B bz bE=>?_;have a6:Ext U q:=a2.put B Ω;have ae:∀ {w':x3},Ext q w'->af w' aq gh (nM m):=λI=>bE.ext I;refine aV (λv aI=>v= .bool (decide (c.st<m.st/\i<m.cells))/\Ext q aI) ?_ ?_
 rotate_left
 .intro b4 a8;intro aI s _ _;have M:=a6.trans s;have ba:=ae s;have N:=aX.ext M;rw[aO fu.p 0 (h1.ext M) rfl,dr rfl hU.u eD.i N O,aW eD.p rfl,aA Ψ (N.range E 1 _ rfl),aT gh.p 2 ba rfl,aN,al];refine⟨λbb=>?_,λbc=>a8 _ _ ⟨by rw[decide_eq_false];omega,s⟩⟩;rw[aT gh.p 1 ba rfl,aN];refine a8 _ _ ⟨?_,s⟩;congr 1;rw[V5,decide_eq_true_eq,decide_eq_true_eq];exact⟨λh=>⟨Ω,Ω⟩,λh=>Ω⟩
 rintro _ aI ⟨rfl,s⟩;have M:=a6.trans s;rw[al];refine⟨λbb=>?_,λbc=>aG _ ⟨A,t,c.st,Grow.ext M,(h.ext I).ext M,E,aZ (.inr ⟨m,a1,bc⟩)⟩⟩;intro b5 ai _ _;have X:=M.trans ai;have aJ:=h1.ext X;have N:=aX.ext X;have bF:=av.ext X;have bH:=Y.ext X;rw[bS,aW fu.p rfl,aA Ψ (aJ.cell (o:=0+1) rfl),bS,aW fu.p rfl,aA Ψ (aJ.cell (o:=0+0) rfl),dr rfl hU.u eD.i N O,bO eD.p eD.i rfl (N.range E)];rw[dn (cs:=#[Δ (i:Int),Δ c.v,.int .u64 (c.st:Int)]) Ψ];let a:kQ:=⟨i,c⟩;have bJ:∀u∈nL a,u.oneCell'=true:=by intro v ac;simp[nL] at ac;rcases ac with rfl|rfl|rfl<;>rfl
 refine h2 (f:=nL) (a:=a) nc.u kI.i Ω rfl rfl λb6 b7 bd b8 z bL=>?_;refine⟨.inl z,?_⟩;have be:=X.trans z;have aK:=aJ.ext z;have bf:=N.ext z;have aL:=bF.ext z;have bh:=bH.ext z;obtain⟨⟨W,aD,aE⟩,J,bM⟩:=s6 aK bf aL bh;refine iw (f:=nL) (a:=a) nc.u kI.i rfl aL (by simpa using bL.sl) bJ (by have:=au.2.1;omega) (by have:=au.2.1;omega) λaM bi ca aj bN bj=>?_;rw[bS,aW fu.p rfl];have bk:=aK.ab bj aD;refine bt nc.i (eH aj.sl).1 (eH aj.sl).2 bk Ξ λC bl cb aP=>?_;have aP:af C ag fu [a7,aM,dE,.int .u64 (t.iq:Int)]:=aP;have an:ah (λr=>leadsTo P r\/r=ag) bd C:=(bj.mono λr _ h=>.inl h).trans (bl.mono λr _ h=>.inr h);have bP:bg h5 2 eD C L a7 t.cells:=bf.ab an λr e he=>he.elim (λhe=>(J r e).1 he) λhe=>W (he▸e);have bQ:bg nM 3 gh C dc dE t.marks:=bh.ab an λr e he=>he.elim (λhe=>(bM r he).2 e) λhe=>aE (he▸e);have bT:bg nL 3 kI C bi aM (t.olds++[a]):=aj.ab bl λr e he=>by
  have he:r=ag:=he;subst he;exact cQ aj bk Φ e
 have cc:=be.size;have cd:=a2.size;let aR:ak:=λr=>A r\/bd.heap.size<=r;have bU:Grow A U aR C:=⟨(be.ab A).trans (an.mono λr _ he=>he.elim (λhe=>Z r (.inr (.inl he))) λhe=>he▸aU),λr e=>e.imp id λe=>Ω,λr e=>.inl e⟩;have bV:dt C ag aR {t with olds:=t.olds++[a]}:=⟨.inl aU,L,bi,dc,a7,aM,dE,aP,bP,bT,bQ,λr e=>by
  rcases e with e|e|e
  .exact .inl (Z r (.inl e))
  .rcases bN r e with h|h
   .exact .inl (Z r (.inr (.inl h)))
   .exact .inr h
  .exact .inl (Z r (.inr (.inr e)))⟩
 have bW:af C aq gh (nM m):=(ae ((s.trans ai).trans z)).ab an λhe=>by
  rcases he with he|he
  .obtain⟨rfl,ce,bX⟩:=dY aL he;exact absurd (fa bX (ae ((s.trans ai).trans z))) Φ
  .subst he;exact absurd (fa aK (ae ((s.trans ai).trans z))) Φ
 intro cg aS _ _;have bY:=bV.ext aS;obtain⟨ax,L,go,dc,a7,P,dE,G,H,Q,R,S⟩:=bY;rw[aO fu.p 0 G rfl,aT gh.p 2 (bW.ext aS) rfl,dr rfl hU.u eD.i H O,aW eD.p rfl];obtain⟨⟨W,aD,aE⟩,J,_⟩:=s6 G H Q R;refine o0 (f:=h5) (j:=1) (a:=c) (a':=⟨c.v,m.st⟩) fs.i rfl rfl H E rfl Ω λch ao ci bZ=>?_;have aF:t.set i x={t with olds:=t.olds++[a],cells:=t.cells.set i ⟨x,m.st⟩}:=by
  unfold aB.set;rw[E];simp only[a1];rw[if_pos bb]
 refine aG _ ⟨aR,{t with olds:=t.olds++[a],cells:=t.cells.set i ⟨c.v,m.st⟩},m.st,bU.trans ((Grow.ext aS).trans ⟨ao.mono λr _ e=>S r (.inl e),λ_ h=>.inl h,λ_ h=>h⟩),⟨ax,L,go,dc,a7,P,dE,G.ab ao W,bZ,Q.ab ao λr e he=>(J r he).1 e,R.ab ao λr e he=>(J r he).2 e,S⟩,?_,?_⟩
 .show (t.cells.set i _)[i]? =_;rw[c9 O]
 .rw[aF];simp only[List.set_set]
theorem CS (n:Nat):dK (#[Δ 0,.int .u64 0]:Array x1) (n*2)=(r9 n (⟨0,0⟩:Cell)).flatMap h5:=by
 have:∀n,dK (#[Δ 0,.int .u64 0]:Array x1) (n*2)=(r9 n (⟨0,0⟩:Cell)).flatMap h5:=by
  intro n;apply Y6;intro j;have p:((r9 n (⟨0,0⟩:Cell)).flatMap h5).length=n*2:=by simp[h5]
  by_cases e:j<n*2
  .have m:(dK (#[Δ 0,.int .u64 0]:Array x1) (n*2))[j]? =σ (if j % 2=0 then Δ 0 else .int .u64 0):=by
    unfold dK;rw[S5,Array.getElem?_map,Array.getElem?_range,if_pos e];rcases Nat.mod_two_eq_zero_or_one j with h|h<;>simp[h]
   have ae:=oZ (f:=h5) (k:=2) (L:=r9 n (⟨0,0⟩:Cell)) (i:=j / 2) (j:=j % 2) (a:=⟨0,0⟩) (v:=if j % 2=0 then Δ 0 else .int .u64 0) (λa _=>rfl) (by rw[List.getElem?_replicate,if_pos Ω]) (by rcases Nat.mod_two_eq_zero_or_one j with h|h<;>simp[h,h5]);rw[show j / 2*2+j % 2=j by omega] at ae;rw[m,ae]
  .rw[Z6 (by rw[oB];omega),Z6 Ω]
 exact this n
theorem Nf {A:ak} {t:aB} (h:dt w ag A t) (R:mz t) (aa:n<=100000000):am x7 Hy [Γ ag,Δ (n:Int)] w λv w'=>v=Δ (t.cells.length:Int)/\ ∃aQ,Grow A w aQ w'/\dt w' ag aQ (t.grow n):=by
 refine az func167 ?_;refine (CQ h).mono ?_;rintro _ U _ ⟨rfl,I⟩;refine dh (λV=>∃aQ,Grow A w aQ V/\dt V ag aQ (t.grow n)) (λV h=>⟨rfl,h⟩) ?_;intro ay y;refine aV (λv V=>v= .bool (decide (0<n))/\U=V) ?_ ?_
 rotate_left
 .intro ac S;rw[zA pO.u];simp only[b9,W5,bQ];rw[bR];refine S _ _ ⟨?_,rfl⟩;congr 1;rw[V5,decide_eq_true_eq,decide_eq_true_eq];omega
 rintro _ _ ⟨rfl,rfl⟩;rw[al];refine⟨λB=>?_,λB=>y _ ⟨A,Grow.ext I,?_⟩⟩
 rotate_left
 .have:n=0:=Ω
  subst this;have e:t.grow 0=t:=by unfold aB.grow;simp
  rw[e];exact h.ext I
 obtain⟨C,ad,go,dc,a7,E,dE,h1,G,H,J,f⟩:=id (h.ext I);rw[aO fu.p 0 h1 rfl];obtain⟨⟨W,X,Y⟩,K,ae⟩:=s6 h1 G H J;have aj:=R.1;refine Nc (k:=2) (m:=n) rfl hU.u ai.u eD.i rfl Ω (λu hu=>?_) G.1 B Ω Ω λq L V M Z N=>?_
 .exact CB Φ Φ u hu
 rw[bS,aW fu.p rfl];have j:bg h5 2 eD V L q (t.cells++r9 n ⟨0,0⟩):=by
  refine⟨?_,λ_ _=>rfl⟩;have e:(x1.agg #[Δ 0,.int .u64 0]).cells= #[Δ 0,.int .u64 0]:=rfl;rw[e,CS] at M;rw[p9,List.length_replicate,List.flatMap_append];exact M
 have O:=h1.ab N W;refine bt hU.i (eH j.sl).1 (eH j.sl).2 O Ξ λP Q an s=>?_;have s:af P ag fu [q,E,dE,.int .u64 (t.iq:Int)]:=s;have x:ah (λr=>leadsTo a7 r\/r=ag) U P:=(N.mono λr _ h=>.inl h).trans (Q.mono λr _ h=>.inr h);have z:=I.size;refine y _ ⟨λr=>A r\/U.heap.size<=r,(Grow.ext I).trans ⟨x.mono λr _ he=>he.elim (λhe=>f r (.inl he)) λhe=>he▸C,λr a=>a,λr a=>.inl a⟩,.inl C,L,go,dc,q,E,dE,s,j.ab Q λr a he=>?_,H.ab x λr a he=>he.elim (λhe=>(K r he).1 a) λhe=>X (he▸a),J.ab x λr a he=>he.elim (λhe=>(K r he).2 a) λhe=>Y (he▸a),λr a=>?_⟩
 .have he:r=ag:=he;subst he;exact cQ j O Φ a
 .rcases a with a|a|a
  .exact (Z r a).imp (λh=>f r (.inl h)) id
  .exact .inl (f r (.inr (.inl a)))
  .exact .inl (f r (.inr (.inr a)))
theorem Ng (q:n<=1000):am x7 Gy [Δ (n:Int)] w λv w'=>Ext w w'/\ ∃ag,v=Γ ag/\dt w' ag (ea w.heap.size) ⟨r9 n ⟨0,0⟩,[],[],0⟩:=by
 refine az func92 ?_;rw[uZ,Int.max_eq_left Ω];refine zJ (k:=2) hU.u eD.i Ω Ω λg U s h f=>?_;rw[dn (cs:=#[.slice (σ ⟨g,0,ν⟩) n n,.slice ν 0 0,.slice ν 0 0,.int .u64 0]) Ψ];refine bo λag V x j p=>?_;have y:=h.size;have e:(x1.agg #[Δ 0,.int .u64 0]).cells= #[Δ 0,.int .u64 0]:=rfl;have f:af U g eD ((r9 n (⟨0,0⟩:Cell)).flatMap h5):=by rw[<-CS,<-e];exact f
 have m:bg h5 2 eD U g (.slice (σ ⟨g,0,ν⟩) n n) (r9 n ⟨0,0⟩):=by
  refine⟨?_,λ_ _=>rfl⟩;rw[List.length_replicate];exact bT.full f (by simp[h5]) (by simp[maxLen];omega)
 refine⟨h.trans j,ag,rfl,by show w.heap.size<=ag;omega,g,0,0,_,_,_,p,m.ext j,bg.nil _ _ _ _ _,bg.nil _ _ _ _ _,λr a=>?_⟩;rcases a with a|a|a
 .have:=(m.leads a).1;show w.heap.size<=r;omega
 .exact (fg a).elim
 .exact (fg a).elim
theorem nn {α β:Type} {f:α->List β}:∀ {L:List α} {i j:Nat} {a:α},L[i]? =σ a->j<(f a).length->(L.flatMap f)[((L.take i).flatMap f).length+j]? =(f a)[j]?
 |x::L,0,j,a,h,e=>by
  cases h;rw[List.take_zero,List.flatMap_nil,List.length_nil,X0,X5,Y1 e]
 |x::L,i+1,j,a,h,e=>by
  have h:L[i]? =σ a:=by simpa using h
  rw[List.take_succ_cons,X5,X5,p9,S9,Y4 Ω,R3,nn h e]
theorem s8 {α β:Type} {f:α->List β}:∀ {L:List α} {i j:Nat} {a b:α} {x:β},L[i]? =σ a->j<(f a).length->f b=(f a).set j x->(L.flatMap f).set (((L.take i).flatMap f).length+j) x=(L.set i b).flatMap f
 |y::L,0,j,a,b,x,h,e,m=>by
  cases h;rw[List.take_zero,List.flatMap_nil,List.length_nil,X0,X5,List.set_cons_zero,X5,m,List.set_append_left _ _ e]
 |y::L,i+1,j,a,b,x,h,e,m=>by
  have h:L[i]? =σ a:=by simpa using h
  rw[List.take_succ_cons,X5,X5,p9,S9,T3 _ _ Ω,R3,s8 h e m,List.set_cons_succ,X5]
theorem CT {α β:Type} {f:α->List β} {L:List α} {i:Nat} {a:α} (h:L[i]? =σ a) (e:j<(f a).length):((L.take i).flatMap f).length+j<(L.flatMap f).length:=by
 have h1:=nn (f:=f) h e;rw[x6 e] at h1;exact (x4.1 h1).1
structure br where
 gone:Int
 mask:Int
 un:Λ
structure cz where
 sc:Λ
 aj:Λ
 live:Int
 cs:Λ
structure wo where
 v:Int
 sc:Λ
 s3:Λ
structure av where
 zero:Int
 vars:List br
 funs:List cz
 gW:List wo
def fV (x:br):Λ:=x.gone::x.mask::x.un
def fi (x:cz):Λ:=x.live::x.cs
def iB (s:av):Λ:=[s.zero,(s.funs.length:Int),(s.gW.length:Int)]
def av.cells (s:av):Λ:=iB s++(s.vars.flatMap fV++s.funs.flatMap fi)
def fG (s:av) (i:Nat):Nat:=3+((s.vars.take i).flatMap fV).length
def eI (s:av) (j:Nat):Nat:=3+((s.vars.flatMap fV).length+((s.funs.take j).flatMap fi).length)
theorem Nh (s:av):s.cells[0]? =σ s.zero:=rfl
theorem qH {s:av} {i:Nat} {x:br} (h:s.vars[i]? =σ x) (e:j<x.un.length+2):s.cells[fG s i+j]? =(fV x)[j]?:=by
 have a:j<(fV x).length:=e;unfold av.cells fG;rw[S9,Y4 (by simp[iB]),show (iB s).length=3 from rfl,R3,Y1 (CT h a),nn h a]
theorem wp {s:av} {i:Nat} {x:cz} (h:s.funs[i]? =σ x) (a:j<x.cs.length+1):s.cells[eI s i+j]? =(fi x)[j]?:=by
 have e:j<(fi x).length:=a;unfold av.cells eI;rw[S9,S9,Y4 (by simp[iB]),show (iB s).length=3 from rfl,R3,Y4 Ω,R3,nn h e]
theorem Ni (s:av) (c:Int):s.cells.set 0 c=({s with zero:=c}:av).cells:=rfl
theorem CU {s:av} {i:Nat} {x y:br} {c:Int} (h:s.vars[i]? =σ x) (e:j<x.un.length+2) (f:fV y=(fV x).set j c):s.cells.set (fG s i+j) c=({s with vars:=s.vars.set i y}:av).cells:=by
 have a:j<(fV x).length:=e;unfold av.cells fG;rw[S9,T3 _ _ (by simp[iB]),show (iB s).length=3 from rfl,R3,List.set_append_left _ _ (CT h a),s8 h a f];rfl
theorem Nj {s:av} {i:Nat} {x y:cz} {c:Int} (h:s.funs[i]? =σ x) (a:j<x.cs.length+1) (e:fi y=(fi x).set j c):s.cells.set (eI s i+j) c=({s with funs:=s.funs.set i y}:av).cells:=by
 have f:j<(fi x).length:=a;unfold av.cells eI;rw[S9,S9,T3 _ _ (by simp[iB]),show (iB s).length=3 from rfl,R3,T3 _ _ Ω,R3,s8 h f e];show _=iB {s with funs:=s.funs.set i y}++_;unfold iB;rw[Z2]
theorem Nk {s:av} (x:cz):(s.cells++fi x).set 1 ((s.funs.length+1:Nat):Int)=({s with funs:=s.funs++[x]}:av).cells:=by
 unfold av.cells;simp only[List.flatMap_append,List.flatMap_singleton,iB,p9,R2,T0];rfl
theorem qI (s:av):s.cells.length=3+((s.vars.flatMap fV).length+(s.funs.flatMap fi).length):=by
 unfold av.cells;rw[p9,p9];rfl
def jd (a sc:Λ):Λ:=sc.map λv=>a.getD v.toNat 0
def kg (k:Int) (a:Int) (p:br×Int):Int:=if p.1.gone≠0 then a else min (a+p.1.un.getD p.2.toNat 0) k
def je (k:Int) (a:Λ) (e:Int) (f:cz):Int:=if f.live≠0 then min (e+bn f.aj f.cs (jd a f.sc)) k else e
def dropped (mask:Int) (v:Int):Bool:=mask.toNat.testBit v.toNat
def eJ (p:br×Int):Bool:=decide (p.1.gone≠0)|| !dropped p.1.mask p.2
def fj (k:Int) (s:av) (a:Λ):Int:=if (s.vars.zip a).all eJ then s.funs.foldl (je k a) ((s.vars.zip a).foldl (kg k) s.zero) else k
def h6 (s:av) (a:Λ):Prop:=a.length=s.vars.length/\ ∀ (i:Nat) x v,s.vars[i]? =σ x->a[i]? =σ v->x.gone≠0\/(0<=v/\v<x.un.length)
structure bq (k:Int) (sizes:Λ) (s:av):Prop where
 eh:1<=k/\k<=2147483648
 fk:1<=sizes.length/\sizes.length<=64/\ ∀z∈sizes,1<=z/\z<=32
 zero:0<=s.zero/\s.zero<=k
 vars:s.vars.length=sizes.length
 var:∀ (i:Nat) x z,s.vars[i]? =σ x->sizes[i]? =σ z->x.un.length=z.toNat/\(∀c∈x.un,0<=c/\c<=k)/\0<=x.mask/\x.mask<4294967296
 funs:∀f∈s.funs,fE sizes k (f.sc,f.cs)/\f.aj=bV sizes f.sc/\2<=f.sc.length
def newVar (u:Λ):br:=⟨0,0,u⟩
def kh (sizes:Λ) (g:cK):cz:=⟨g.1,bV sizes g.1,1,g.2⟩
def cS (n:aR):av:=⟨n.zero,n.unary.map newVar,n.funs.map (kh n.sizes),[]⟩
theorem Nl {n:aR} (h:jG n):bq n.k n.sizes (cS n):=by
 refine⟨h.k,h.sizes,h.zero,by simp[cS,h.kf],λi x z I e=>?_,λf ae=>?_⟩
 .have I:(n.unary.map newVar)[i]? =σ x:=I;rw[x8] at I;obtain⟨u,hu,rfl⟩:=Y5.1 I;obtain⟨h1,a⟩:=h.unary i z u e hu;exact⟨h1,a,T2 _,by show (0:Int)<_;omega⟩
 .obtain⟨g,j,rfl⟩:=n9.1 ae;obtain⟨h1,a⟩:=h.funs g j;exact⟨h1,rfl,a⟩
theorem wq {n:aR} (h:fU w a n):am x7 GA [Γ a] w λv w'=>v=Δ (n.sizes.length:Int)/\Ext w w':=by
 obtain⟨j,m,q,r,gr,aX,L,nm,szv,gz,fv2,h1,e,f,s,x,y,z⟩:=h;refine az func94 ?_;rw[c5 me.u];simp only[b9,aY];rw[aO ft.p 0 h1 rfl,aO cF.p 2 e rfl,aU an.u f.ls];exact⟨rfl,Ext.refl _⟩
theorem Nn {n:aR} (h:fU w a n):am x7 GY [Γ a] w λv w'=>v=Δ n.k/\Ext w w':=by
 obtain⟨f,j,m,q,gr,aX,L,nm,szv,gz,fv2,h1,e,r,s,x,y,z⟩:=h;refine az func121 ?_;rw[c5 me.u];simp only[b9,aY];rw[aO ft.p 0 h1 rfl,aO cF.p 1 e rfl];exact⟨rfl,Ext.refl _⟩
theorem No {n:aR} (h:fU w a n):am x7 Gz [Γ a] w λv w'=>v=Δ n.zero/\Ext w w':=by
 obtain⟨e,f,j,m,gr,aX,L,nm,szv,gz,fv2,h1,q,r,s,x,y,z⟩:=h;refine az func93 ?_;rw[c5 me.u];simp only[b9,aY];rw[aO ft.p 1 h1 rfl];exact⟨rfl,Ext.refl _⟩
theorem CV {n:aR} (h:fU w a n):am x7 zg [Γ a] w λv w'=>v=Δ (n.funs.length:Int)/\Ext w w':=by
 obtain⟨j,m,q,r,gr,aX,L,nm,szv,gz,fv2,h1,s,x,y,z,e,f⟩:=h;refine az func97 ?_;rw[c5 me.u];simp only[b9,aY];rw[aO ft.p 3 h1 rfl,e9 kH.u e.1];exact⟨by rw[<-f,u7],Ext.refl _⟩
theorem CW {r:Nat} {n:aR} {i:Int} (h:fU w r n) (f:jG n):am x7 GB [Γ r,Δ i] w λv w'=>Ext w w'/\(¬(0<=i/\i<n.sizes.length)->v= .slice ν 0 0)/\
  ∀u,0<=i->n.unary[i.toNat]? =σ u-> ∃g,w.heap.size<=g/\au .i64 ap w' g v u:=by
 refine az func95 ?_;have I:=f.kf;refine aV (λv U=>v= .bool (decide (¬(0<=i/\i<n.sizes.length)))/\Ext w U) ?_ ?_
 .rintro _ U ⟨rfl,e⟩;rw[al];refine⟨λB=>⟨e,λ_=>rfl,λu C hu=>?_⟩,λj=>?_⟩
  .have:=(x4.1 hu).1;exact absurd ⟨C,Ω⟩ B
  have j:0<=i/\i<n.sizes.length:=Z9.1 j;obtain⟨J,K,M,N,gr,aX,L,nm,szv,gz,fv2,h1,O,P,m,s,Q,R⟩:=h.ext e;have S:aX.length=n.unary.length:=by rw[<-s,u7]
  obtain⟨a,q⟩:=aH (l:=aX) (i:=i.toNat) Ω;obtain⟨W,hm⟩:=m.2 a (x5 q);rw[aO ft.p 2 h1 rfl,dr (i:=i.toNat) Ω ec.u ax.i m.1 Ω,aA (o:=i.toNat*1) Ψ (m.1.range q 0 _ rfl)];have x:n.unary[i.toNat]? =σ a.l:=by rw[<-s,x8,q];rfl
  have X:a.l.length<=32:=by
   obtain⟨z,y⟩:=aH (l:=n.sizes) (i:=i.toNat) Ω;have Y:=(f.unary i.toNat z a.l y x).1;have Z:=f.sizes.2.2 z (x5 y);omega
  refine (va hm.ls Ω).mono ?_;rintro v V _ ⟨E,g,aa,G⟩;refine⟨e.trans E,λH=>absurd j H,λu _ hu=>⟨g,by have:=e.size;omega,?_⟩⟩;rw[x] at hu;cases hu;exact G
 .intro ay A;rw[aN,al];refine⟨λab=>A _ _ ⟨by rw[decide_eq_true];omega,Ext.refl _⟩,λac=>?_⟩;refine (wq h).mono ?_;rintro _ U _ ⟨rfl,e⟩;rw[cO];refine A _ _ ⟨?_,e⟩;congr 1;rw[V5,decide_eq_true_eq,decide_eq_true_eq];omega
theorem CX {n:aR} {i:Int} (h:fU w j n) (a:jG n):am x7 G6 [Γ j,Δ i] w λv w'=>Ext w w'/\v=Δ (if 0<=i then n.sizes.getD i.toNat 0 else 0):=by
 refine az func130 ?_;refine (CW h a).mono ?_;rintro v U _ ⟨m,q,r⟩;by_cases e:0<=i/\i<n.sizes.length
 .have s:=a.kf;obtain⟨u,hu⟩:=aH (l:=n.unary) (i:=i.toNat) Ω;obtain⟨z,f⟩:=aH (l:=n.sizes) (i:=i.toNat) Ω;obtain⟨g,_,hm⟩:=r u e.1 hu;rw[aU ax.u hm.ls];refine⟨m,?_⟩;have x:=(a.unary i.toNat z u f hu).1;have y:=a.sizes.2.2 z (x5 f);rw[if_pos e.1,v8,f];congr 1;simp only[V1];omega
 .rw[q e,hE ax.u];refine⟨m,?_⟩;by_cases p:0<=i
  .rw[if_pos p,v8,Z6 Ω];rfl
  .rw[if_neg p];rfl
theorem CY {n:aR} {j:Int} (h:fU w a n) {K:x1->x3->Prop} (f:∀w',Ext w w'->K (.bool (decide (¬(0<=j/\j<n.funs.length)))) w'):
  aa x7 (aJ .lss ai false true (Δ j) (Δ 0)) w λp=>Split p (K (.bool true) w) (am x7 zg [Γ a] w λq m=>aa x7 (aJ .geq ai false false (Δ j) q) m λr=>K r m):=by
 rw[aN,al];refine⟨λx=>?_,λy=>?_⟩
 .have:=f w (Ext.refl _);rw[decide_eq_true (show ¬(0<=j/\j<n.funs.length) by omega)] at this;exact this
 .refine (CV h).mono ?_;rintro _ U _ ⟨rfl,s⟩;rw[cO];have:=f U s;have e:decide ((n.funs.length:Int)<=j)=decide (¬(0<=j/\j<n.funs.length)):=by
   rw[V5,decide_eq_true_eq,decide_eq_true_eq];omega
  rw[<-e] at this;exact this
theorem Np {r:Nat} {n:aR} {g:cK} (h:fU w r n) (y:jG n) (e:n.funs[j]? =σ g):am x7 GD [Γ r,Δ (j:Int)] w λv w'=>Ext w w'/\ ∃gs,w.heap.size<=gs/\au .i64 ai w' gs v g.1:=by
 refine az func99 ?_;have C:=(x4.1 e).1;refine aV (λv U=>v= .bool (decide (¬(0<=(j:Int)/\(j:Int)<n.funs.length)))/\Ext w U) ?_ λay z=>CY h λw' I=>z _ _ ⟨rfl,I⟩;rintro _ U ⟨rfl,f⟩;rw[decide_eq_false Ω,aY];obtain⟨E,G,H,J,gr,aX,L,nm,szv,gz,fv2,h1,K,M,N,O,m,s⟩:=h.ext f;have P:L.length=n.funs.length:=by rw[<-s,u7]
 obtain⟨a,q⟩:=aH (l:=L) (i:=j) Ω;have x:dQ a=g:=by rw[<-s,x8,q] at e;exact j6 e
 obtain⟨⟨Q,hm⟩,_⟩:=m.2 a (x5 q);rw[aO ft.p 3 h1 rfl,dr rfl kH.u hj.i m.1 Ω,aW hj.p rfl,aA Ψ (m.1.range q 0 _ rfl)];have R:a.sc.length<=6:=by
  have:=(y.funs g (x5 e)).1.scope.2;rw[<-x] at this;exact this
 refine (kP hm.ls Ω).mono ?_;rintro v V _ ⟨A,gs,S,B⟩;refine⟨f.trans A,gs,by have:=f.size;omega,?_⟩;rw[<-x];exact B
theorem Nq {g A:Nat} {aj:Λ} {k:Int} {cs:Λ} (h:db w g A sv aj k cs):am x7 HA [Γ g] w λv w'=>Ext w w'/\ ∃a e,v=Γ a/\w.heap.size<=a/\w.heap.size<=e/\db w' a e sv aj k cs:=by
 obtain⟨⟨a7,gs,B,hm,C⟩,⟨h1,I,E⟩,J,s⟩:=h;refine az func169 ?_;rw[c5 eP.u];simp only[b9,aY];intro U f _ _;have q:=B.ext f;have K:=prod_bound J;rw[bS,aW cX.p rfl,bO (cs:=[sv]) bB.p bB.i rfl (nr q (by
  intro j v ac
  match j,ac with
  |0,ac=>exact ac)),aO cX.p 1 q rfl,aO cX.p 2 q rfl]
 refine (va (C.ls.ext f) Ω).mono ?_;rintro x V _ ⟨r,e,L,m⟩;refine⟨.inl r,?_⟩;rw[dn (cs:=#[sv,Δ k,x]) (by obtain⟨_,_,_,rfl⟩:=dg hm.ls;obtain⟨_,_,_,rfl⟩:=dg m.ls;kernel_rfl)];refine bo λa M N y G=>?_;have O:=f.size;have P:=r.size;have Q:=m;have z:=(f.trans r).trans y;refine⟨z,a,e,rfl,Ω,Ω,⟨x,gs,G,hm.ext z,m.ext y⟩,⟨?_,?_,E⟩,J,s⟩
 .have:=sL m (by rw[s];omega);omega
 .intro H;obtain⟨R,S⟩:=bM hm H;omega
theorem Nr {w0:x3} {y:Nat} {n:aR} {g:cK} (z:fU w0 y n) (A:Ext w0 w) (f:n.funs[j]? =σ g):am x7 GF [Γ y,Δ (j:Int)] w λv w'=>Ext w w'/\ ∃gt m sv,v=Γ gt/\w.heap.size<=gt/\w.heap.size<=m/\db w' gt m sv (bV n.sizes g.1) n.k g.2/\ ∀r,leads sv r-> ∃c,af w0 r ai c:=by
 have h:=z.ext A;refine az func100 ?_;have R:=(x4.1 f).1;refine aV (λv U=>v= .bool (decide (¬(0<=(j:Int)/\(j:Int)<n.funs.length)))/\Ext w U) ?_ λay H=>CY h λw' I=>H _ _ ⟨rfl,I⟩;rintro _ U ⟨rfl,q⟩;rw[decide_eq_false Ω,aY];have e:=A.trans q;obtain⟨S,W,X,Y,gr,aX,L,nm,szv,gz,fv2,h1,Z,aa,ab,ad,s,B⟩:=z;have ae:L.length=n.funs.length:=by rw[<-B,u7]
 obtain⟨a,x⟩:=aH (l:=L) (i:=j) Ω;have J:dQ a=g:=by rw[<-B,x8,x] at f;exact j6 f
 obtain⟨_,m,K,C⟩:=s.2 a (x5 x);rw[aO ft.p 3 (h1.ext e) rfl,dr rfl kH.u hj.i (s.1.ext e) Ω,aW hj.p rfl,aA Ψ ((s.1.ext e).range x 1 _ rfl)];refine (Nq (C.ext e)).mono ?_;rintro v V _ ⟨M,gt,N,rfl,ag,ah,O⟩;have aj:=q.size;refine⟨q.trans M,gt,N,K,rfl,Ω,Ω,?_,λr E=>?_⟩
 .rw[<-J];exact O
 .obtain⟨⟨_,_,_,hm,_⟩,_⟩:=C;obtain⟨P,_⟩:=bM hm E;rcases hm.2 with⟨ac,_⟩|⟨_,cs,_,Q,_⟩
  .obtain⟨_,_,_,G,ak⟩:=E;rw[ac] at G;cases G
  .exact⟨cs,P▸Q⟩
structure pg where
 aP:x1
 szv:x1
 at_:Nat
def lT (x:pg):List x1:=[x.aP,x.szv,Δ (x.at_:Int)]
structure qJ where
 v:Int
 aP:x1
 bv:x1
def Ns (x:qJ):List x1:=[Δ x.v,x.aP,x.bv]
def h7 (s:av):Λ:=(Z8 s.vars.length).map λi=>(fG s i:Int)
def iC (R:ak) (w:x3) (v:x1) (l:Λ):Prop:=(∃g,au .i64 ai w g v l)/\ ∀r,leads v r->R r
theorem iC.ls {R:ak} (h:iC R w v l):aF .i64 w v l:=by
 obtain⟨⟨g,h⟩,_⟩:=h;exact h.ls
theorem iC.ab {R S:ak} (h:iC R w v l) (f:ah S w w') (j:∀r,r<w.heap.size->R r->¬S r):iC R w' v l:=by
 obtain⟨⟨g,h1⟩,a⟩:=h;exact⟨⟨g,bp h1 f λr e=>j r (by obtain⟨m,p⟩:=bM h1 e;omega) (a r e)⟩,a⟩
theorem iC.mono {R R':ak} (h:iC R w v l) (a:∀r,R r->R' r):iC R' w v l:=⟨h.1,λr e=>a r (h.2 r e)⟩
def ki (R:ak) (w:x3) (L:List pg) (s:av):Prop:=L.length=s.funs.length/\ ∀ (j:Nat) x f,L[j]? =σ x->s.funs[j]? =σ f->iC R w x.aP f.sc/\iC R w x.szv f.aj/\x.at_=eI s j
def lU (R:ak) (w:x3) (E:List qJ) (s:av):Prop:=E.length=s.gW.length/\ ∀ (j:Nat) x e,E[j]? =σ x->s.gW[j]? =σ e->x.v=e.v/\iC R w x.aP e.sc/\iC R w x.bv e.s3
theorem ki.ab {R S:ak} {L:List pg} {s:av} (h:ki R w L s) (a:ah S w w') (e:∀r,r<w.heap.size->R r->¬S r):ki R w' L s:=⟨h.1,λj x f I ae=>by
 obtain⟨h1,m,p⟩:=h.2 j x f I ae;exact⟨h1.ab a e,m.ab a e,p⟩⟩
theorem lU.ab {R S:ak} {E:List qJ} {s:av} (h:lU R w E s) (a:ah S w w') (e:∀r,r<w.heap.size->R r->¬S r):lU R w' E s:=⟨h.1,λj x f I ae=>by
 obtain⟨h1,m,p⟩:=h.2 j x f I ae;exact⟨h1,m.ab a e,p.ab a e⟩⟩
theorem ki.mono {R R':ak} {L:List pg} {s:av} (h:ki R w L s) (a:∀r,R r->R' r):ki R' w L s:=⟨h.1,λj x f I ae=>by
 obtain⟨h1,e,m⟩:=h.2 j x f I ae;exact⟨h1.mono a,e.mono a,m⟩⟩
theorem lU.mono {R R':ak} {E:List qJ} {s:av} (h:lU R w E s) (a:∀r,R r->R' r):lU R' w E s:=⟨h.1,λj x f I ae=>by
 obtain⟨h1,e,m⟩:=h.2 j x f I ae;exact⟨h1,e.mono a,m.mono a⟩⟩
theorem s9 {a b c:x3} (h:Ext a b) (k:ah S b c) (f:∀r o,a.heap[r]? =σ o->fm o=true->¬S r):Ext a c:=
 ⟨Y9 h.size k.size,λr o e J=>k.aZ r o (h.aZ r o e J) J (f r o e J)⟩
theorem dt.cut {A:ak} {t:aB} (h:dt w ag A t):dt w ag (λr=>A r/\r<w.heap.size) t:=by
 obtain⟨q,s,go,dc,a7,x,dE,h1,e,f,j,y⟩:=h;refine⟨⟨q,h1.lt⟩,s,go,dc,a7,x,dE,h1,e,f,j,λr a=>⟨y r a,?_⟩⟩;rcases a with a|a|a
 .obtain⟨m,p⟩:=e.leads a;omega
 .obtain⟨m,p⟩:=f.leads a;omega
 .obtain⟨m,p⟩:=j.leads a;omega
def eK (w:x3) (ad ag j:Nat) (e f h:x1) (A R:ak) (n:aR) (s:av) (t:aB):Prop:=
 (A ad/\(∀r,A r->¬R r)/\(∀r,R r->r<w.heap.size)/\ ∀r,A r->r<w.heap.size)/\ ∃a6 m ge,∃ (L:List pg) (E:List qJ) (a:ak) (w0:x3),
  af w ad cE [Γ j,Γ ag,e,f,h]/\(fU w0 j n/\Ext w0 w/\ ∀r o,w0.heap[r]? =σ o->fm o=true->R r)/\
  (dt w ag a t/\(∀r,a r->A r)/\¬a ad/\ ∀r,leads e r\/leadsTo f r\/leadsTo h r->A r/\¬a r)/\au .i64 ai w a6 e (h7 s)/\
  (bg lT 3 ed w m f L/\ki R w L s)/\bg Ns 3 uX w ge h E/\lU R w E s
theorem eK.ab {S:ak} {x:Nat} {y B C:x1} {A R:ak} {n:aR} {s:av} {t:aB} (h:eK w ad ag x y B C A R n s t) (e:ah S w w') (f:∀r,r<w.heap.size->A r\/R r->¬S r):eK w' ad ag x y B C A R n s t:=by
 obtain⟨⟨h1,j,U,V⟩,a6,W,ge,L,E,X,w0,F,⟨Y,G,H⟩,⟨Z,m,aa,p⟩,I,⟨K,ac⟩,M,ae⟩:=h;have z:=e.size;refine⟨⟨h1,j,λr a=>by have:=U r a;omega,λr a=>by have:=V r a;omega⟩,a6,W,ge,L,E,X,w0,F.ab e (f _ F.lt (.inl h1)),⟨Y,s9 G e λr o a af J=>f r (by have:=G.size;have:=(o8.1 a).1;omega) (.inr (H r o a af)) J,H⟩,
  ⟨?_,m,aa,p⟩,bp I e λr a J=>f r ?_ (.inl (p r (.inl a)).1) J,⟨K.ab e λr a J=>f r ?_ (.inl (p r (.inr (.inl a))).1) J,ac.ab e λr a h=>f r a (.inr h)⟩,M.ab e λr a J=>f r ?_ (.inl (p r (.inr (.inr a))).1) J,ae.ab e λr a h=>f r a (.inr h)⟩
 .obtain⟨N,ai,go,dc,a7,aj,dE,O,P,Q,T,q⟩:=Z;refine⟨N,ai,go,dc,a7,aj,dE,O.ab e (f _ O.lt (.inl (m _ N))),P.ab e λr a J=>?_,Q.ab e λr a J=>?_,T.ab e λr a J=>?_,q⟩
  .exact f r (by obtain⟨h1,j⟩:=P.leads a;omega) (.inl (m _ (q r (.inl a)))) J
  .exact f r (by obtain⟨h1,j⟩:=Q.leads a;omega) (.inl (m _ (q r (.inr (.inl a))))) J
  .exact f r (by obtain⟨h1,j⟩:=T.leads a;omega) (.inl (m _ (q r (.inr (.inr a))))) J
 .obtain⟨h1,j⟩:=bM I a;omega
 .obtain⟨h1,j⟩:=K.leads a;omega
 .obtain⟨h1,j⟩:=M.leads a;omega
theorem eK.ext {e f j:x1} {A R:ak} {n:aR} {s:av} {t:aB} (h:eK w ad ag a e f j A R n s t) (I:Ext w w'):eK w' ad ag a e f j A R n s t:=h.ab (I.ab λ_=>False) λ_ _ _ h=>h
theorem eK.qK {z:Nat} {C F G:x1} {A R:ak} {n:aR} {s:av} {t:aB} (h:eK w ad ag z C F G A R n s t):∃p,dt w ag p t/\ ∀m w' bw,Grow p w m w'->dt w' ag m bw-> ∃aQ,Grow A w aQ w'/\eK w' ad ag z C F G aQ R n s bw:=by
 obtain⟨⟨h1,f,H,I⟩,a6,V,ge,L,E,p,w0,K,⟨W,X,M⟩,⟨Y,j,N,q⟩,O,⟨P,Z⟩,Q,aa⟩:=h;refine⟨p,Y,λS w' bw x ac=>?_⟩;have T:=ac.cut;have e:Grow p w (λr=>S r/\r<w'.heap.size) w':=⟨x.1,λr a=>x.2.1 r a.1,λr a=>⟨x.2.2 r a,by have:=I r (j r a);have:=x.1.size;omega⟩⟩;obtain⟨m,U⟩:∃B:ak,B=λr=>S r/\r<w'.heap.size:=⟨_,rfl⟩;rw[<-U] at T e;have ae:∀r,m r->r<w'.heap.size:=λr h=>by rw[U] at h;exact h.2
 refine⟨λr=>A r\/m r,⟨e.1.mono λr _ a=>j r a,λr a=>?_,λr a=>.inl a⟩,⟨.inl h1,λr a y=>?_,λr a=>?_,λr a=>?_⟩,a6,V,ge,L,E,m,w0,K.ab e.1 N,⟨W,s9 X e.1 λr o a af J=>f r (j r J) (M r o a af),M⟩,
  ⟨T,λr a=>.inr a,λa=>?_,λr a=>⟨.inl (q r a).1,λah=>?_⟩⟩,bp O e.1 λr a J=>(q r (.inl a)).2 J,⟨P.ab e.1 λr a J=>(q r (.inr (.inl a))).2 J,Z.ab e.1 λr _ a J=>f r (j r J) a⟩,Q.ab e.1 λr a J=>(q r (.inr (.inr a))).2 J,aa.ab e.1 λr _ a J=>f r (j r J) a⟩
 .rcases a with a|a
  .exact .inl a
  .exact (e.2.1 r a).imp (j r) id
 .have:=H r y;rcases a with a|a
  .exact f r a y
  .rcases e.2.1 r a with h|h
   .exact f r (j r h) y
   .omega
 .have:=H r a;have:=e.1.size;omega
 .rcases a with a|a
  .have:=I r a;have:=e.1.size;omega
  .exact ae r a
 .rcases e.2.1 _ a with h|h
  .exact N h
  .have:=K.lt;omega
 .rcases e.2.1 r ah with h|h
  .exact (q r a).2 h
  .rcases a with a|a|a
   .obtain⟨h1,f⟩:=bM O a;omega
   .obtain⟨h1,f⟩:=P.leads a;omega
   .obtain⟨h1,f⟩:=Q.leads a;omega
def StateM (w:x3) (ad ag:Nat) (A R:ak) (n:aR) (s:av) (t:aB):Prop:=∃a e f h,eK w ad ag a e f h A R n s t
theorem StateM.ab {S:ak} {A R:ak} {n:aR} {s:av} {t:aB} (h:StateM w ad ag A R n s t) (a:ah S w w') (e:∀r,r<w.heap.size->A r\/R r->¬S r):StateM w' ad ag A R n s t:=by
 obtain⟨f,j,m,p,h⟩:=h;exact⟨f,j,m,p,h.ab a e⟩
theorem StateM.ext {A R:ak} {n:aR} {s:av} {t:aB} (h:StateM w ad ag A R n s t) (I:Ext w w'):StateM w' ad ag A R n s t:=h.ab (I.ab λ_=>False) λ_ _ _ h=>h
theorem StateM.qK {A R:ak} {n:aR} {s:av} {t:aB} (h:StateM w ad ag A R n s t):∃a,dt w ag a t/\ ∀e w' bw,Grow a w e w'->dt w' ag e bw-> ∃aQ,Grow A w aQ w'/\StateM w' ad ag aQ R n s bw:=by
 obtain⟨f,j,m,p,h⟩:=h;obtain⟨a,h1,q⟩:=h.qK;exact⟨a,h1,λe w' bw r x=>by
  obtain⟨aQ,y,z⟩:=q e w' bw r x;exact⟨aQ,y,f,j,m,p,z⟩⟩
def nO (s s':av):Prop:=h7 s'=h7 s/\s'.funs.length=s.funs.length/\(∀ (j:Nat) a,s'.funs[j]? =σ a-> ∃f,s.funs[j]? =σ f/\a.sc=f.sc/\a.aj=f.aj/\eI s' j=eI s j)/\s'.gW=s.gW
theorem eK.same {e m p:x1} {A R:ak} {n:aR} {s s':av} {t:aB} (h:eK w ad ag a e m p A R n s t) (J:nO s s'):eK w ad ag a e m p A R n s' t:=by
 obtain⟨aG,a6,r,ge,L,E,y,w0,z,B,C,F,⟨G,q⟩,H,K⟩:=h;obtain⟨M,N,O,P⟩:=J;refine⟨aG,a6,r,ge,L,E,y,w0,z,B,C,by rw[M];exact F,⟨G,q.1.trans N.symm,λj x Q I S=>?_⟩,H,?_⟩
 .obtain⟨f,ae,T,U,V⟩:=O j Q S;rw[T,U,V];exact q.2 j x f I ae
 .unfold lU;rw[P];exact K
theorem StateM.same {A R:ak} {n:aR} {s s':av} {t:aB} (h:StateM w ad ag A R n s t) (J:nO s s'):StateM w ad ag A R n s' t:=by
 obtain⟨a,e,f,j,h⟩:=h;exact⟨a,e,f,j,h.same J⟩
theorem ta {α β:Type} {f:α->List β}:∀ {L:List α} {i j:Nat} {a b:α},L[i]? =σ a->(f b).length=(f a).length->(((L.set i b).take j).flatMap f).length=((L.take j).flatMap f).length
 |[],_,_,_,_,h,_=>by simp at h
 |x::L,0,j,a,b,h,e=>by
  cases h;cases j with
  |zero=>rfl
  |succ j=>simp[e]
 |x::L,i+1,j,a,b,h,e=>by
  have h:L[i]? =σ a:=by simpa using h
  cases j with
  |zero=>rfl
  |succ j=>
   rw[List.set_cons_succ,List.take_succ_cons,List.take_succ_cons,X5,X5,p9,p9,ta h e]
theorem CZ (s:av) (c:Int):nO s {s with zero:=c}:=⟨rfl,rfl,λj f h=>⟨f,h,rfl,rfl,rfl⟩,rfl⟩
theorem C0 {s:av} {i:Nat} {x y:br} (I:s.vars[i]? =σ x) (a:y.un.length=x.un.length):nO s {s with vars:=s.vars.set i y}:=by
 have ae:(fV y).length=(fV x).length:=by simp[fV,a]
 refine⟨?_,rfl,λj f h=>⟨f,h,rfl,rfl,?_⟩,rfl⟩
 .unfold h7;rw[show ({s with vars:=s.vars.set i y}:av).vars.length=s.vars.length from Z2];apply List.map_congr_left;intro j _;unfold fG;rw[ta I ae]
 .unfold eI;have:=ta (j:=s.vars.length) I ae;rw[j9 Ξ,j9 (p8 _)] at this;show 3+(((s.vars.set i y).flatMap fV).length+_)=_;rw[this]
theorem Nt {s:av} {i:Nat} {x y:cz} (I:s.funs[i]? =σ x) (m:y.cs.length=x.cs.length) (h1:y.sc=x.sc) (p:y.aj=x.aj):nO s {s with funs:=s.funs.set i y}:=by
 have ae:(fi y).length=(fi x).length:=by simp[fi,m]
 refine⟨rfl,Z2,λj f h=>?_,rfl⟩;have h:(s.funs.set i y)[j]? =σ f:=h;have e:eI {s with funs:=s.funs.set i y} j=eI s j:=by
  unfold eI;show 3+(_+(((s.funs.set i y).take j).flatMap fi).length)=_;rw[ta I ae]
 by_cases a:i=j
 .subst a;rw[c9 (x4.1 I).1] at h;cases h;exact⟨x,I,h1,p,e⟩
 .rw[Y2 a] at h;exact⟨f,h,rfl,rfl,e⟩
theorem aB.wr (t:aB) (i:Nat) (x:Int):(t.set i x).marks=t.marks:=by
 unfold aB.set;cases t.cells[i]? with
 |none=>rfl
 |some c=>
  simp only;cases t.marks.getLast? with
  |none=>rfl
  |some m=>simp only;split<;>rfl
theorem aB.C1 (t:aB) (i:Nat) (x:Int):(t.set i x).iq=t.iq:=by
 unfold aB.set;cases t.cells[i]? with
 |none=>rfl
 |some c=>
  simp only;cases t.marks.getLast? with
  |none=>rfl
  |some m=>simp only;split<;>rfl
theorem aB.C2 (t:aB) (i:Nat) (x:Int):(t.set i x).cells.length=t.cells.length:=by
 have h:=congrArg S7 (aB.p0 (t:=t) (i:=i) (x:=x));rw[Z2] at h;unfold aB.bP at h;rwa [u7,u7] at h
theorem aB.C3 (t:aB) (i:Nat) (x:Int):(t.set i x).olds.length<=t.olds.length+1:=by
 unfold aB.set;cases t.cells[i]? with
 |none=>exact Nat.le_succ _
 |some c=>
  simp only;cases t.marks.getLast? with
  |none=>exact Nat.le_succ _
  |some m=>simp only;split<;>simp
theorem aB.ws {t:aB} (h:t.marks=[]) (i:Nat) (x:Int):(t.set i x).olds=t.olds:=by
 unfold aB.set;cases t.cells[i]? with
 |none=>rfl
 |some c=>simp only[h,List.getLast?_nil]
def fH (t:aB) (l:Λ):Nat->aB
 |0=>t.grow l.length
 |i+1=>(fH t l i).set (t.cells.length+i) (l.getD i 0)
def mA (t:aB) (l:Λ):aB:=fH t l l.length
theorem qL (t:aB) (l:Λ):∀i,(fH t l i).marks=t.marks
 |0=>rfl
 |i+1=>(aB.wr _ _ _).trans (qL t l i)
theorem C4 (t:aB) (l:Λ):∀i,(fH t l i).iq=t.iq
 |0=>rfl
 |i+1=>(aB.C1 _ _ _).trans (C4 t l i)
theorem wu (t:aB) (l:Λ):∀i,(fH t l i).cells.length=t.cells.length+l.length
 |0=>by simp[fH,aB.grow]
 |i+1=>(aB.C2 _ _ _).trans (wu t l i)
theorem wv (t:aB) (l:Λ):∀i,(fH t l i).olds.length<=t.olds.length+i
 |0=>p8 _
 |i+1=>by have:=aB.C3 (fH t l i) (t.cells.length+i) (l.getD i 0);have:=wv t l i;show (aB.set _ _ _).olds.length<=_;omega
theorem C5 {t:aB} (h:t.marks=[]) (l:Λ):∀i,(fH t l i).olds=t.olds
 |0=>rfl
 |i+1=>(aB.ws ((qL t l i).trans h) _ _).trans (C5 h l i)
theorem C6 (t:aB) (l:Λ):∀i,i<=l.length->(fH t l i).bP=t.bP++(l.take i++r9 (l.length-i) 0)
 |0,_=>by rw[List.take_zero,List.nil_append];exact aB.Jc
 |i+1,h=>by
  have a:=C6 t l i Ω;show (aB.set _ _ _).bP=_;have e:t.bP.length=t.cells.length:=by simp[aB.bP]
  rw[aB.p0,a,T3 _ _ Ω,e,R3,T3 _ _ (by rw[l9];omega),l9,Nat.min_eq_left Ω,V6,show l.length-i=(l.length-(i+1))+1 by omega,List.replicate_succ,List.set_cons_zero,u9,v8,x6 (show i<l.length by omega)];simp only[l7,V1,T0,List.singleton_append]
theorem C7 (t:aB) (l:Λ):(mA t l).bP=t.bP++l:=by
 unfold mA;rw[C6 t l _ (p8 _),o5,V6,List.replicate_zero,U2]
theorem ee.fH {h:List aB} {t:aB} (hk:ee t h) (l:Λ):∀i,ee (fH t l i) h
 |0=>hk.grow
 |i+1=>(ee.fH hk l i).set
theorem kW {s:Go.Sem x1} {x:x1} (h:aa x7 s w (λv=>v=x)):cC x7 s x w:=by
 obtain⟨v,h,rfl⟩:=h;exact h
theorem tb {off:Nat} {z:Nat} {a:r8} {cs:List x1} {x:x1} (f:af w ad e cs) (h:∀ (K:x1->Prop),aa x7 (u5 cE (Γ ad) z) w K=K (.pointer (σ ⟨ad,0+off,ν⟩))) (j:jt x7 a=true) (m:cs[0+off]? =σ x):
  cC x7 (u4 a (.pointer (σ ⟨ad,0+off,ν⟩))) x w/\cC x7 (u5 cE (Γ ad) z) (.pointer (σ ⟨ad,0+off,ν⟩)) w/\cC x7 (bK (Γ ad)) (Γ ad) w/\True:=
 ⟨r6 j (f.cell m),kW (by rw[h]),kW (by rw[bS]),trivial⟩
def C8 (w:x3) (r:Nat):Prop:=∃e c,af w r e c/\(e=fu\/e=eD\/e=kI\/e=gh\/e=cE\/e=ed\/e=uX)
def ev (w:x3) (r:Nat):Prop:=C8 w r\/ ∀o,w.heap[r]? =σ o->fm o≠true
theorem nP {U:x3} {r:Nat} (hk:∀o,w.heap[r]? =σ o->fm o=true->¬ev w r->U.heap[r]? =σ o) (h:ev U r):ev w r:=by
 by_cases a:ev w r
 .exact a
 .refine absurd (.inr λo j J=>?_) a;have h1:=hk o j J a;rcases h with⟨e,c,f,he⟩|m
  .refine a (.inl ⟨e,c,?_,he⟩);unfold af at f ⊢;rw[h1] at f;rw[j];exact f
  .exact m o h1 J
theorem jI {U V:x3} (I:Ext w U) (a:ah (ev U) U V):ah (ev w) w V:=(I.ab _).trans (a.mono λr _ h=>nP (λo e J _=>I.aZ r o e J) h)
theorem wx {U V:x3} (h:ah (ev w) w U) (a:ah (ev U) U V):ah (ev w) w V:=h.trans (a.mono λr _ e=>nP (λo f J j=>h.aZ r o f J j) e)
theorem dt.min {A:ak} {t:aB} (h:dt w ag A t):dt w ag (λr=>A r/\C8 w r) t:=by
 obtain⟨p,q,go,dc,a7,s,dE,h1,f,j,m,x⟩:=h;refine⟨⟨p,_,_,h1,.inl rfl⟩,q,go,dc,a7,s,dE,h1,f,j,m,λr a=>⟨x r a,?_⟩⟩;rcases a with a|a|a
 .obtain⟨rfl,c,e⟩:=dY f a;exact⟨_,c,e,.inr (.inl rfl)⟩
 .obtain⟨rfl,c,e⟩:=dY j a;exact⟨_,c,e,.inr (.inr (.inl rfl))⟩
 .obtain⟨rfl,c,e⟩:=dY m a;exact⟨_,c,e,.inr (.inr (.inr (.inl rfl)))⟩
theorem eK.wy {m p q:x1} {A R:ak} {n:aR} {s:av} {t:aB} (h:eK w ad ag j m p q A R n s t):∃a,dt w ag a t/\ ∀x w' bw,Grow a w x w'->dt w' ag x bw->ah (ev w) w w'/\ ∃aQ,Grow A w aQ w'/\eK w' ad ag j m p q aQ R n s bw:=by
 obtain⟨a,y,z⟩:=h.qK;refine⟨_,y.min,λB U bw e C=>⟨e.1.mono λr _ h=>.inl h.2,?_⟩⟩;exact z (λr=>a r\/B r) U _ ⟨e.1.mono λr _ h=>h.1,λr f=>f.elim .inl λh=>(e.2.1 r h).imp (λh=>h.1) id,λr f=>.inl f⟩ (C.mono λr h=>.inr h)
theorem C9 {y:Nat} {B C:x1} {A R:ak} {n:aR} {s:av} {t:aB} {j:x1} (h:eK w ad ag y z B C A R n s t) (G:aF .i64 w j l) (P:∀r,leads j r->¬A r) (aG:t.cells.length+l.length<=100000000) (aI:t.olds.length+l.length<=100000000) (hm:t.marks.length<=100000000):
  am x7 zf [Γ ad,j] w λv w'=>v=Δ (t.cells.length:Int)/\ah (ev w) w w'/\ ∃aQ,Grow A w aQ w'/\eK w' ad ag y z B C aQ R n s (mA t l):=by
 refine az func96 ?_;obtain⟨_,a6,Q,ge,L,E,_,w0,H,_⟩:=id h;obtain⟨S,J,K⟩:=h.wy;rw[aO cE.p 1 H rfl,aU ax.u G];refine (Nf (n:=l.length) J ⟨Ω,Ω,hm⟩ Ω).mono ?_;rintro _ U _ ⟨rfl,W,X,Y⟩;obtain⟨Z,aa,N,ab⟩:=K W U _ X Y;have O:∀ {aQ:ak} {w':x3},Grow A w aQ w'->aF .i64 w' j l:=λae=>hI G ae.1 λr af a ai c ac aj=>P r ⟨a,ai,c,ac,aj⟩ af;rw[aU ax.u (O N)];have an:=G.le;refine ch.range l.length (λi V=>ah (ev w) w V/\ ∃f,Grow A w f V/\eK V ad ag y z B C f R n s (fH t l i)) an ⟨Z,aa,N,ab⟩ ?_ ?_
 .rintro i V k hi ⟨M,f,m,q⟩ hk;refine bE Ω ?_;obtain⟨x,I⟩:=aH (l:=l) hi;rw[be ax.u ap.i Ψ (O m) I];obtain⟨_,a6,Q,ge,L,E,_,w0,H,_⟩:=id q;obtain⟨S,J,K⟩:=q.wy;have aJ:=wu t l i;have aK:=wv t l i;have ao:=qL t l i;rw[aO cE.p 1 H rfl,aM,wrap_i64 Ω Ω];refine (s7 (i:=t.cells.length+i) J Ω Ω ⟨Ω,Ω,by rw[ao];exact hm⟩).mono ?_;rintro _ aq _ ⟨rfl,au,aw,ay⟩;obtain⟨aA,aC,aD,aE⟩:=K au aq _ aw ay;rw[aM];refine hk _ ⟨wx M aA,aC,m.trans aD,?_⟩;have e:fH t l (i+1)=(fH t l i).set (t.cells.length+i) x:=by
   show (fH t l i).set _ (l.getD i 0)=_;rw[v8,I];rfl
  rw[e];exact aE
 .rintro V k ⟨M,f,m,q⟩;rw[aN,al];exact⟨λh=>Ω,λ_=>⟨rfl,M,f,m,q⟩⟩
def iD (s:av) (sc aj cs:Λ):av:={s with funs:=s.funs++[⟨sc,aj,1,cs⟩]}
def nQ (s:av) (t:aB) (cs:Λ):aB:=(mA t (1::cs)).set 1 ((s.funs.length+1:Nat):Int)
theorem Nu {s:av} {t:aB} {sc aj cs:Λ} (h:t.bP=s.cells):(nQ s t cs).bP=(iD s sc aj cs).cells:=by
 unfold nQ iD;rw[aB.p0,C7,h,<-Nk];rfl
theorem Nv {bh:Nat} {bi aS bj:x1} {A R:ak} {n:aR} {s:av} {t:aB} {aP:x1} {sc aj cs:Λ} {g bU:Nat} {S:x1} {k:Int}
  (h:eK w ad ag bh bi aS bj A R n s t) (ac:t.bP=s.cells) (ck:aF .i64 w aP sc) (dt:∀r,leads aP r->¬A r) (bk:db w g bU S aj k cs) (bV:¬A g/\¬A bU/\ ∀r,leads S r->¬A r) (du:sc.length<=1000)
  (aZ:t.cells.length+cs.length+1<=100000000) (bl:t.olds.length+cs.length+1<=100000000) (hm:t.marks.length<=100000000) (ae:s.funs.length<=1000000):
  am x7 GC [Γ ad,aP,Γ g] w λv w'=>v=Δ (s.funs.length:Int)/\ah (ev w) w w'/\ ∃aQ R' bz,Grow A w aQ w'/\eK w' ad ag bh bi bz bj aQ R' n (iD s sc aj cs) (nQ s t cs)/\(∀r,R r->R' r)/\ ∀r,R' r->R r\/leads S r\/w.heap.size<=r:=by
 have dv:t.cells.length=s.cells.length:=by rw[<-ac];simp[aB.bP]
 have dw:=qI s;have cl:eI (iD s sc aj cs) s.funs.length=t.cells.length:=by
  unfold eI iD;simp only[List.take_left];omega
 have cm:∀j,j<s.funs.length->eI (iD s sc aj cs) j=eI s j:=λj bA=>by
  unfold eI iD;simp only[List.take_append_of_le_length (show j<=s.funs.length by omega)]
 have cn:h7 (iD s sc aj cs)=h7 s:=rfl;refine az func98 ?_;refine dh (λU=>ah (ev w) w U/\ ∃aQ R' bz,Grow A w aQ U/\eK U ad ag bh bi bz bj aQ R' n (iD s sc aj cs) (mA t (1::cs))/\(∀r,R r->R' r)/\ ∀r,R' r->R r\/leads S r\/w.heap.size<=r) ?_ ?_
 .rintro U ⟨cp,dx,cq,cr,ct,cu,cw,cz⟩;intro V bB _ _;have bW:=cu.ext bB;obtain⟨_,a6,bC,ge,L,E,_,w0,aq,_,_,_,⟨ba,bm⟩,_⟩:=id bW;have bn:L.length=s.funs.length+1:=by rw[bm.1];simp[iD]
  rw[aO cE.p 1 aq rfl,aO cE.p 3 aq rfl,e9 e5.u ba];obtain⟨bX,cA,cB⟩:=bW.wy;have cD:=wu t (1::cs) (1::cs).length;have cF:=wv t (1::cs) (1::cs).length;have cG:=qL t (1::cs) (1::cs).length;simp only[c7] at cD cF;refine (s7 (i:=1) (y:=1) cA rfl (by show 1<(fH _ _ _).cells.length;simp only[c7];omega) ⟨by show (fH _ _ _).cells.length<=_;simp only[c7];omega,by show (fH _ _ _).olds.length<=_;simp only[c7];omega,by show (fH _ _ _).marks.length<=_;rw[cG];exact hm⟩).mono ?_;rintro _ cH _ ⟨rfl,cI,cJ,cK⟩;obtain⟨cL,cM,cN,bY⟩:=cB cI cH _ cJ cK;obtain⟨_,a6,bC,ge,cO,E,_,w0,aq,_,_,_,⟨ba,cP⟩,_⟩:=id bY;have dy:cO.length=s.funs.length+1:=by rw[cP.1];simp[iD]
  rw[aO cE.p 3 aq rfl,e9 e5.u ba,dJ,wrap_i64 Ω Ω];refine⟨by congr 1;omega,wx cp (jI bB cL),cM,cq,cr,ct.trans ((Grow.ext bB).trans cN),?_,cw,cz⟩;have e:nQ s t cs=(mA t (1::cs)).set 1 (L.length:Int):=by unfold nQ;rw[bn]
  rw[e];exact bY
 intro ay cR;intro aK aT _ _;have bZ:=h.ext aT;obtain⟨_,a6,bC,ge,L,E,_,w0,aq,_⟩:=id bZ;rw[aO cE.p 3 aq rfl];have z4:=aT.size;have bo:∀ {C:x3} {Z W:x1} {a1 al:Nat},Ext aK C->w.heap.size<=a1->w.heap.size<=al->au .i64 ai C a1 Z sc->au .i64 ap C al W (1::cs)->(∀r,leads Z r\/leads W r->¬A r)->
   am x7 zf [Γ ad,W] C λcS aw=>
    (Ext aK aw\/cC x7 (u4 e5 (.pointer (σ ⟨ad,0+3,ν⟩))) aS aw/\cC x7 (u5 cE (Γ ad) 3) (.pointer (σ ⟨ad,0+3,ν⟩)) aw/\cC x7 (bK (Γ ad)) (Γ ad) aw/\True)/\
    aa x7 (Instr.build ed #[(0,Z),(1,.agg #[S]),(2,cS)]) aw λt22=>
    aC x7 (Y0 e5 1 #[(0,t22)]) aw λcT aA=>
     (Ext aK aA\/cC x7 (u4 e5 (.pointer (σ ⟨ad,0+3,ν⟩))) aS aA/\cC x7 (u5 cE (Γ ad) 3) (.pointer (σ ⟨ad,0+3,ν⟩)) aA/\cC x7 (bK (Γ ad)) (Γ ad) aA/\True)/\
    aC x7 (b8 #[e5,e5] e5 #[aS,cT]) aA λcU bq=>
     aa x7 (bK (Γ ad)) bq λt25=>
     aa x7 (u5 cE t25 3) bq λcV=>
     aC x7 (o6 e5 cV cU) bq λ(_:Unit) aU=>
      ay aU:=by
  intro C Z W a1 al G b0 X H N bD;have cW:=bZ.ext G;refine (C9 cW N.ls (λr m=>bD r (.inr m)) (by simp only[c7];omega) (by simp only[c7];omega) hm).mono ?_;rintro _ aw _ ⟨rfl,cX,bb,a2,cY⟩;obtain⟨⟨b1,b2,cZ,b3⟩,a6,bC,ge,L,E,bX,w0,aq,⟨c0,c1,b5⟩,⟨c2,b6,b7,aL⟩,bE,⟨ba,bm⟩,bF,c3⟩:=id cY;have aI:au .i64 ai aw a1 Z sc:=bp H a2.1 λr m=>bD r (.inl m);have br:au .i64 ai C (Classical.choose (show ∃gs,au .i64 ai w gs S aj from by obtain⟨⟨_,gs,_,q,_⟩,_⟩:=bk;exact⟨gs,q⟩)) S aj:=((Classical.choose_spec (show ∃gs,au .i64 ai w gs S aj from by obtain⟨⟨_,gs,_,q,_⟩,_⟩:=bk;exact⟨gs,q⟩)).ext aT).ext G;have c4:=bp br a2.1 bV.2.2;refine⟨.inr (tb (off:=3) (z:=3) aq (λK=>by rw[aW cE.p rfl]) Ψ rfl),?_⟩;rw[dn (cs:=#[Z,S,Δ (t.cells.length:Int)]) (by obtain⟨_,_,_,rfl⟩:=dg H.ls;obtain⟨_,_,_,rfl⟩:=dg br.ls;kernel_rfl)];let a:pg:=⟨Z,S,t.cells.length⟩;have c5:∀u∈lT a,u.oneCell'=true:=by
   intro u hu;simp[lT] at hu;rcases hu with rfl|rfl|rfl
   .exact H.ls.cells.2
   .exact br.ls.cells.2
   .rfl
  refine h2 (f:=lT) (a:=a) e5.u ed.i Ω rfl rfl λdz dA aA dC M c6=>?_;refine⟨.inr (tb (off:=3) (z:=3) (aq.ext M) (λK=>by rw[aW cE.p rfl]) Ψ rfl),?_⟩;have bc:=ba.ext M;have bn:L.length=s.funs.length:=bm.1;refine iw (f:=lT) (a:=a) e5.u ed.i rfl bc (by simpa using c6.sl) c5 Ω Ω λb9 c8 bq bd c9 ca=>?_;have be:=aq.ext M;have cb:=be.ab ca λhe=>cQ bc be Φ he;rw[bS,aW cE.p rfl];refine bt e5.i (eH bd.sl).1 (eH bd.sl).2 cb Ξ λaU bG dD bH=>?_;have bH:af aU ad cE [Γ bh,Γ ag,bi,b9,bj]:=bH;have aD:ah (λr=>leadsTo aS r\/r=ad) aA aU:=(ca.mono λr _ h=>.inl h).trans (bG.mono λr _ h=>.inr h);have z9:=G.size;have dE:=a2.1.size;have dF:=M.size;have dG:=aD.size;have bI:∀r,(leadsTo aS r\/r=ad)->bb r:=λr m=>m.elim (λm=>(aL r (.inr (.inl m))).1) λm=>m▸b1;have bJ:∀r,(leadsTo aS r\/r=ad)->¬R r:=λr m=>b2 r (bI r m);have da:ah (ev w) w aU:=wx (jI (aT.trans G) cX) (jI M (aD.mono λr _ m=>by
   rcases m with m|rfl
   .obtain⟨_,c,aZ⟩:=dY bc m;exact .inl ⟨_,c,‹r=_› ▸aZ,Φ⟩
   .exact .inl ⟨_,_,be,Φ⟩))
  let dc:ak:=λr=>bb r\/(aA.heap.size<=r/\r<aU.heap.size);let bL:ak:=λr=>R r\/(leads S r/\r<aw.heap.size)\/(leads Z r/\r<aw.heap.size);have dH:∀r,r<w.heap.size->bb r->A r:=λr m h=>(a2.2.1 r h).elim id λh=>Ω
  have bN:∀r,leads Z r->w.heap.size<=r/\r<C.heap.size:=λr m=>by obtain⟨h1,a7⟩:=bM H m;omega
  have cc:∀r,leads S r->r<C.heap.size:=λr m=>by obtain⟨h1,a7⟩:=bM br m;omega
  have bu:∀r,leads Z r\/leads S r->¬bb r:=λr m dd=>by
   rcases a2.2.1 r dd with h|h
   .rcases m with m|m
    .exact bD r (.inl m) h
    .exact bV.2.2 r m h
   .rcases m with m|m
    .have:=bN r m;omega
    .have:=cc r m;omega
  refine cR _ ⟨da,dc,bL,b9,(Grow.ext (aT.trans G)).trans (a2.trans ((Grow.ext M).trans ⟨aD.mono λr _ m=>bI r m,λr m=>m.imp id And.left,λr m=>.inl m⟩)),?_,λr m=>.inl m,λr m=>?_⟩
  rotate_left
  .rcases m with m|m|m
   .exact .inl m
   .exact .inr (.inl m.1)
   .exact .inr (.inr (bN r m.1).1)
  have cd:∀ {v:x1} {bf:Nat} {l:Λ},au .i64 ai aA bf v l->(∀r,leads v r->¬bb r)->au .i64 ai aU bf v l:=λhm de=>bp hm aD λr m J=>de r m (bI r J);have ce:∀r,bL r->r<aA.heap.size:=λr m=>by
   rcases m with m|m|m
   .have:=cZ r m;omega
   .omega
   .omega
  refine⟨⟨.inl b1,λr m aM=>?_,λr m=>by have:=ce r m;omega,λr m=>m.elim (λm=>by have:=b3 r m;omega) And.right⟩,a6,c8,ge,L++[a],E,bX,w0,bH,⟨c0,s9 (c1.trans M) aD λr o m bl J=>bJ r J (b5 r o m bl),λr o m bl=>.inl (b5 r o m bl)⟩,⟨(c2.ext M).ab aD λr m J=>?_,λr m=>.inl (b6 r m),b7,λr m=>?_⟩,?_,⟨bd.ab bG λr m he=>?_,?_⟩,(bF.ext M).ab aD λr m J=>?_,?_⟩
  .have:=ce r aM;rcases m with m|m
   .rcases aM with aM|aM|aM
    .exact b2 r m aM
    .exact bu r (.inr aM.1) m
    .exact bu r (.inl aM.1) m
   .omega
  .rcases J with J|rfl
   .exact (aL r (.inr (.inl J))).2 m
   .exact b7 m
  .rcases m with m|m|m
   .exact⟨.inl (aL r (.inl m)).1,(aL r (.inl m)).2⟩
   .obtain⟨h1,a7⟩:=bd.leads m;rcases c9 r m with h|h
    .exact⟨.inl (aL r (.inr (.inl h))).1,(aL r (.inr (.inl h))).2⟩
    .refine⟨.inr ⟨h,by have:=bG.size;omega⟩,λdf=>?_⟩;have:=b3 r (b6 r df);omega
   .exact⟨.inl (aL r (.inr (.inr m))).1,(aL r (.inr (.inr m))).2⟩
  .rw[cn];exact bp (bE.ext M) aD λr m J=>by
    rcases J with J|rfl
    .obtain⟨rfl,c,aZ⟩:=dY bc J;exact b4 (bE.ext M) aZ Φ m rfl
    .exact b4 (bE.ext M) be Φ m rfl
  .have he:r=ad:=he;subst he;exact cQ bd cb Φ m
  .refine⟨by rw[p9,bn];simp[iD],λj x f I aV=>?_⟩;have aV:(s.funs++[⟨sc,aj,1,cs⟩])[j]? =σ f:=aV;by_cases bA:j<s.funs.length
   .rw[Y1 Ω] at I;rw[Y1 bA] at aV;obtain⟨di,dj,dk⟩:=((((ki.ab bm (M.ab λ_=>False) λ_ _ _ h=>h).ab aD λr _ m J=>bJ r J m).mono (R':=bL) λr m=>.inl m)).2 j x f I aV;exact⟨di,dj,by rw[cm j bA];exact dk⟩
   .have bO:j=s.funs.length:=by have:=(x4.1 aV).1;simp at this;omega
    rw[Y4 Ω,bn,bO,V6] at I;rw[Y4 Ω,bO,V6] at aV;cases I;cases aV;refine⟨⟨⟨_,cd (aI.ext M) λr m=>bu r (.inl m)⟩,λr m=>.inr (.inr ⟨m,?_⟩)⟩,⟨⟨_,cd (c4.ext M) λr m=>bu r (.inr m)⟩,λr m=>.inr (.inl ⟨m,?_⟩)⟩,?_⟩
    .have:=bN r m;omega
    .have:=cc r m;omega
    .rw[bO,cl]
  .rcases J with J|rfl
   .obtain⟨rfl,c,aZ⟩:=dY bc J;exact cQ (bF.ext M) aZ Φ m
   .exact cQ (bF.ext M) be Φ m
  .exact ((lU.ab c3 (M.ab λ_=>False) λ_ _ _ h=>h).ab aD λr _ m J=>bJ r J m).mono λr m=>.inl m
 have a8:=bk.ext aT;have cg:=ck.ext aT;have dl:∀r,A r->r<w.heap.size:=h.1.2.2.2;obtain⟨_,⟨_,_,dI⟩,dK,dL⟩:=id bk;have dM:cs.length<=4096:=Ω
 have bw:∀ {aE:x3} {aX aY:x1} {Y:Nat} {K:x1->x3->Prop},Ext aK aE->aK.heap.size<=Y->au .i64 ap aE Y aX [1]->aF .i64 aE aY cs->
   (∀W al C,Ext aK C->ah (λr=>r=Y) aE C->w.heap.size<=al->au .i64 ap C al W (1::cs)->(Ext aK C->K W C))->aC x7 (b8 #[ax,ax] ax #[aX,aY]) aE K:=by
  intro aE aX aY Y K B bx aG aJ dm;refine iT ax.u ap.i rfl aG aJ Θ Θ λW al C X N aH=>?_;have G:Ext aK C:=B.put aH Ω;have dp:=B.size;exact dm W al C G aH Ω N G
 have aN:∀ {v:x1} {bf:Nat} {dq:o4} {e:r8} {dr:x3} {l:Λ},au dq e dr bf v l->w.heap.size<=bf-> ∀r,leads v r->¬A r:=λhm dN r m ds=>by
  obtain⟨h1,_⟩:=bM hm m;have:=dl r ds;omega
 refine⟨?_,?_⟩
 .refine (kP cg Ω).mono ?_;rintro Z ch _ ⟨O,a1,b0,H⟩;have z5:=O.size;refine⟨.inl O,?_,?_⟩
  .refine (oX (a8.ext O)).mono ?_;rintro _ ci _ ⟨rfl,P⟩;have an:=O.trans P;have dO:=an.size;have dP:=P.size;have cj:=(a8.ext O).ext P;refine⟨.inl an,?_,?_⟩
   .refine eo ax.u ap.i rfl λaX Y aE bx B aG=>?_;refine⟨.inl (an.trans B),?_⟩;refine (mr (cj.ext B)).mono ?_;rintro aY bQ _ ⟨Q,bR,bT,aJ⟩;have ao:=(an.trans B).trans Q;refine⟨.inl ao,?_⟩;refine bw ao Ω (aG.ext Q) aJ.ls λW al C G aH X N _=>⟨.inl G,?_⟩;have aI:=bp (((H.ext P).ext B).ext Q) aH λr m he=>by have he:r=Y:=he;obtain⟨h1,a7⟩:=bM H m;omega
    exact bo G Ω X aI N λr m=>m.elim (aN H Ω r) (aN N X r)
   .refine (mr cj).mono ?_;rintro aY aE _ ⟨B,bR,bT,aJ⟩;refine⟨.inl (an.trans B),?_⟩;have dp:=B.size;refine eo ax.u ap.i rfl λaX Y bQ bx Q aG=>?_;have ao:=(an.trans B).trans Q;refine⟨.inl ao,?_⟩;refine bw ao Ω aG (aJ.ls.ext Q) λW al C G aH X N _=>⟨.inl G,?_⟩;have aI:=bp (((H.ext P).ext B).ext Q) aH λr m he=>by have he:r=Y:=he;obtain⟨h1,a7⟩:=bM H m;omega
    exact bo G Ω X aI N λr m=>m.elim (aN H Ω r) (aN N X r)
  .refine eo ax.u ap.i rfl λaX Y ci bx P aG=>?_;have an:=O.trans P;refine⟨.inl an,?_⟩;refine (oX ((a8.ext O).ext P)).mono ?_;rintro _ aE _ ⟨rfl,B⟩;have bg:=an.trans B;refine⟨.inl bg,?_⟩;refine (mr (((a8.ext O).ext P).ext B)).mono ?_;rintro aY bQ _ ⟨Q,bR,bT,aJ⟩;have ao:=bg.trans Q;refine⟨.inl ao,?_⟩;refine bw ao Ω ((aG.ext B).ext Q) aJ.ls λW al C G aH X N _=>⟨.inl G,?_⟩;have aI:=bp (((H.ext P).ext B).ext Q) aH λr m he=>by have he:r=Y:=he;obtain⟨h1,a7⟩:=bM H m;omega
   exact bo G Ω X aI N λr m=>m.elim (aN H Ω r) (aN N X r)
 .refine eo ax.u ap.i rfl λaX Y ch bx O aG=>?_;refine⟨.inl O,?_⟩;have z5:=O.size;have dQ:Y<ch.heap.size:=sL aG Ξ;refine (kP (cg.ext O) Ω).mono ?_;rintro Z ci _ ⟨P,a1,b0,H⟩;have an:=O.trans P;refine⟨.inl an,?_⟩;refine (oX ((a8.ext O).ext P)).mono ?_;rintro _ aE _ ⟨rfl,B⟩;have bg:=an.trans B;refine⟨.inl bg,?_⟩;refine (mr (((a8.ext O).ext P).ext B)).mono ?_;rintro aY bQ _ ⟨Q,bR,bT,aJ⟩;have ao:=bg.trans Q;refine⟨.inl ao,?_⟩;refine bw ao Ω (((aG.ext P).ext B).ext Q) aJ.ls λW al C G aH X N _=>⟨.inl G,?_⟩;have aI:=bp ((H.ext B).ext Q) aH λr m he=>by have he:r=Y:=he;obtain⟨h1,a7⟩:=bM H m;omega
  exact bo G Ω X aI N λr m=>m.elim (aN H Ω r) (aN N X r)
theorem gX {P:W0} {E:r8} {k:o4} {b g:Nat} {x:x1} {m:Λ} {K:x1->x3->Prop} (s:P.underlying t=σ (.slice e)) (hi:aS P e 1 b z) (y:z.cells.size=1)
  (h:au k e w g v l) (I:aF k w x m) (A:(l.length+m.length)*b<=140737488355328) (B:l.length+m.length<=9223372036854775807)
  (C:∀a f w',au k e w' f a (l++m)->(∀r,leads a r->leads v r\/w.heap.size<=r)->ah (λr=>leads v r) w w'->K a w'):aC P (b8 #[t,t] E #[v,x]) w K:=by
 rcases h.2 with⟨ac,F⟩|⟨cap,cs,ac,J,L⟩
 .have G:l=[]:=c8 F;subst G;have h':au k e w w.heap.size v []:=by rw[ac];exact au.nil _ _ _ _
  refine iT s hi y h' I A B λa f w' p hm q=>C a f w' hm (λr j=>.inr ?_) (q.mono λr j he=>by have he:r=w.heap.size:=he;omega);obtain⟨H,_⟩:=bM hm j;omega
 .refine iT s hi y h I A B λa f w' p hm q=>C a f w' hm (λr j=>?_) (q.mono λr j he=>⟨_,_,_,ac,he.symm⟩);obtain⟨H,_⟩:=bM hm j;rcases p with p|p
  .exact .inl ⟨_,_,_,ac,by show g=r;omega⟩
  .exact .inr Ω
def addVar (s:av) (u:Λ):av:={s with vars:=s.vars++[newVar u]}
theorem Nw (s:av) (u:Λ):h7 (addVar s u)=h7 s++[((3+(s.vars.flatMap fV).length:Nat):Int)]:=by
 unfold h7 addVar;rw[p9,R2,List.range_succ,b6];congr 1
 .apply List.map_congr_left;intro i hi;have:=List.mem_range.1 hi;unfold fG;simp only[List.take_append_of_le_length (show i<=s.vars.length by omega)]
 .simp[fG]
theorem Nx {s:av} {u:Λ} (ae:s.funs=[]):(addVar s u).cells=s.cells++(0::0::u):=by
 unfold av.cells addVar iB;simp only[ae,List.flatMap_nil,U2,List.flatMap_append,List.flatMap_singleton,T0];rfl
def eS (n:aR) (i j:Nat):av:=⟨n.zero,(n.unary.take i).map newVar,(n.funs.take j).map (kh n.sizes),[]⟩
theorem Da {n:aR} {i:Nat} {u:Λ} (h:n.unary[i]? =σ u):eS n (i+1) 0=addVar (eS n i 0) u:=by
 unfold eS addVar;simp only[u9,h,l7,b6,List.map_singleton]
theorem Ny {n:aR} {i:Nat} {g:cK} (h:n.funs[j]? =σ g):eS n i (j+1)=iD (eS n i j) g.1 (bV n.sizes g.1) g.2:=by
 unfold eS iD;simp only[u9,h,l7,b6,List.map_singleton];rfl
theorem wz (n:aR):eS n n.unary.length n.funs.length=cS n:=by
 unfold eS cS;rw[o5,o5]
theorem wA {α β:Type} {f:α->List β} {b:Nat}:∀ {L:List α},(∀x∈L,(f x).length<=b)->(L.flatMap f).length<=L.length*b
 |[],_=>Ξ
 |x::L,h=>by
  rw[X5,p9,c7,V9];have:=wA (L:=L) λy a=>h y (.tail _ a);have:=h x (.head _);omega
theorem tc {n:aR} (a:jG n) (ae:n.funs.length<=256) (i j:Nat):(eS n i j).cells.length<=2000000:=by
 rw[qI];have h1:=wA (f:=fV) (b:=34) (L:=(eS n i j).vars) λx I=>by
  obtain⟨u,hu,rfl⟩:=n9.1 (show x∈(n.unary.take i).map newVar from I);obtain⟨p,h⟩:=X1.1 (S3 hu);have y:=a.kf;have A:=(x4.1 h).1;obtain⟨z,m⟩:=aH (l:=n.sizes) (i:=p) Ω;have r:=(a.unary p z u m h).1;have e:=a.sizes.2.2 z (x5 m);show u.length+2<=34;omega
 have r:=wA (f:=fi) (b:=4097) (L:=(eS n i j).funs) λx I=>by
  obtain⟨g,s,rfl⟩:=n9.1 (show x∈(n.funs.take j).map (kh n.sizes) from I);have e:=(a.funs g (S3 s)).1;have q:=e.len;have w:=e.small;show g.2.length+1<=4097;omega
 have e:(eS n i j).vars.length<=64:=by
  show ((n.unary.take i).map newVar).length<=64;rw[u7,l9];have:=a.kf;have:=a.sizes.2.1;omega
 have q:(eS n i j).funs.length<=256:=by
  show ((n.funs.take j).map (kh n.sizes)).length<=256;rw[u7,l9];omega
 have w:=X4 34 e;have B:=X4 4097 q;omega
def Plain (t:aB):Prop:=t.marks=[]/\t.olds=[]/\ee t []/\t.iq=0
theorem Plain.set {t:aB} (h:Plain t) (i:Nat) (x:Int):Plain (t.set i x):=⟨(aB.wr _ _ _).trans h.1,(aB.ws h.1 _ _).trans h.2.1,h.2.2.1.set,(aB.C1 _ _ _).trans h.2.2.2⟩
theorem Plain.lay {t:aB} (h:Plain t) (l:Λ):Plain (mA t l):=⟨(qL _ _ _).trans h.1,(C5 h.1 _ _).trans h.2.1,h.2.2.1.fH l _,(C4 _ _ _).trans h.2.2.2⟩
theorem Plain.put {s:av} {t:aB} (h:Plain t) (cs:Λ):Plain (nQ s t cs):=(h.lay _).set _ _
def Nz (w:x3) (R0:ak) (n:aR) (v:x1) (w':x3):Prop:=Ext w w'/\ ∃ad ag A R t,v=Γ ad/\StateM w' ad ag A R n (cS n) t/\t.bP=(cS n).cells/\Plain t/\(∀r,A r->w.heap.size<=r)/\ ∀r,R r->R0 r\/w.heap.size<=r
theorem NA {w0:x3} {R0:ak} {s:Nat} {n:aR} (aL:fU w0 s n) (aw:Ext w0 w) (bh:∀r o,w0.heap[r]? =σ o->fm o=true->R0 r) (aN:∀r,R0 r->r<w.heap.size) (B:jG n) (ae:n.funs.length<=256):am x7 y2 [Γ s] w (Nz w R0 n):=by
 have h:=aL.ext aw;have bW:=B.kf;have c1:=B.sizes.2.1;refine az func29 ?_;rw[c5 me.u];simp only[b9,aY];refine (Ng (n:=3) Ω).mono ?_;rintro _ U _ ⟨ay,ag,rfl,bX⟩;rw[dn (cs:=#[Γ s,Γ ag,.slice ν 0 0,.slice ν 0 0,.slice ν 0 0]) Ψ];refine bo λad V c2 Q S=>?_;have S:af V ad cE [Γ s,Γ ag,.slice ν 0 0,.slice ν 0 0,.slice ν 0 0]:=S;have c3:=ay.size;have c4:=Q.size;have c6:=S.lt;have bY:eK V ad ag s (.slice ν 0 0) (.slice ν 0 0) (.slice ν 0 0) (λr=>r=ad\/(w.heap.size<=r/\r<U.heap.size)) R0 n ⟨0,[],[],[]⟩ ⟨r9 3 ⟨0,0⟩,[],[],0⟩:=by
  refine⟨⟨.inl rfl,λr m N=>?_,λr m=>?_,λr m=>?_⟩,0,0,0,[],[],λr=>w.heap.size<=r/\r<U.heap.size,w0,S,⟨aL,aw.trans (ay.trans Q),bh⟩,⟨(bX.cut).ext Q,λr m=>.inr m,λm=>?_,λr m=>?_⟩,au.nil _ _ _ _,⟨bg.nil _ _ _ _ _,rfl,λj x f I=>by simp at I⟩,bg.nil _ _ _ _ _,rfl,λj x f I=>by simp at I⟩
  .have N:=aN r N;rcases m with m|m<;>omega
  .have m:=aN r m;omega
  .rcases m with m|m<;>omega
  .omega
  .rcases m with m|m|m
   .obtain⟨a,c7,c,aS,c8⟩:=m;cases aS
   .exact (fg m).elim
   .exact (fg m).elim
 intro c9 W _ _;have bZ:=bY.ext W;rw[aO cE.p 1 (S.ext W) rfl];refine (No (h.ext ((ay.trans Q).trans W))).mono ?_;rintro _ da _ ⟨rfl,aA⟩;refine⟨.inl aA,?_⟩;have b0:=bZ.ext aA;obtain⟨aT,b1,b2⟩:=b0.qK;refine (s7 (i:=0) (y:=0) b1 rfl Φ ⟨Ξ,Ξ,Ξ⟩).mono ?_;rintro _ bi _ ⟨_,b3,b5,b6⟩;obtain⟨b7,bj,aU⟩:=b2 b3 bi _ b5 b6;have aU:=aU.same (CZ ⟨0,[],[],[]⟩ n.zero);have z3:=W.size;have z4:=aA.size;have b8:=((ay.trans Q).trans W).trans aA;have bk:Ext w bi:=b8.then bj.1 λr m he=>by rcases he with he|he<;>omega
 refine (wq (h.ext bk)).mono ?_;rintro _ db _ ⟨rfl,bl⟩;refine ch.range n.sizes.length (λi aC=>∃A H t,Ext w aC/\eK aC ad ag s H (.slice ν 0 0) (.slice ν 0 0) A R0 n (eS n i 0) t/\t.bP=(eS n i 0).cells/\Plain t/\ ∀r,A r->w.heap.size<=r) Ω
  ⟨b7,_,_,bk.trans bl,aU.ext bl,?_,?_,λr m=>?_⟩ ?_ ?_
 .rw[aB.p0];rfl
 .exact Plain.set (t:=⟨r9 3 ⟨0,0⟩,[],[],0⟩) ⟨rfl,rfl,⟨rfl,rfl,λc C=>by rw[(List.mem_replicate.1 C).2];exact p8 _⟩,rfl⟩ _ _
 .rcases bj.2.1 r m with he|he
  .rcases he with he|he<;>omega
  .omega
 .rintro i aC ca hi ⟨A,H,t,O,aV,X,Y,aD⟩ cb;obtain⟨u,hu⟩:=aH (l:=n.unary) (i:=i) Ω;obtain⟨bm,bn⟩:=aH (l:=n.sizes) (i:=i) Ω;have dc:u.length<=32:=by
   have dd:=(B.unary i bm u bn hu).1;have de:=B.sizes.2.2 bm (x5 bn);omega
  refine bE Ω ?_;refine (CW (h.ext O) B).mono ?_;rintro df dg _ ⟨cc,_,cd⟩;obtain⟨dh,di,ce⟩:=cd u Ω (by rw[u6];exact hu);intro aX bq _ _;have aZ:=cc.trans bq;have br:=aV.ext aZ;obtain⟨⟨_,_,_,Z⟩,a6,bu,ge,L,E,aT,w0,aE,_⟩:=id br;have dj:=aZ.size;have dk:=O.size;rw[aO cE.p 2 aE rfl];refine r5 (l:=[0,0]) ax.u ap.i Ω rfl Ψ λcg dl dm dp aF bw=>?_;refine⟨.inl aF,?_⟩;refine gX ax.u ap.i rfl bw ((ce.ext bq).ls.ext aF) Θ Θ λci dq cj ck cl cn=>?_;have bx:∀r,leads cg r->aX.heap.size<=r:=λr m=>by obtain⟨aS,_⟩:=bM bw m;omega
  have aG:Ext aX cj:=aF.then cn λr m he=>by have:=bx r he;omega
  refine⟨.inl aG,?_⟩;have cp:=br.ext aG;have cq:∀r,leads ci r->aX.heap.size<=r:=λr m=>by
   rcases cl r m with h|h
   .exact bx r h
   .have:=aF.size;omega
  have cr:t.cells.length<=2000000:=by
   have h1:=tc B ae i 0;rw[<-X] at h1;unfold aB.bP at h1;rwa [u7] at h1
  have ct:t.olds.length=0:=by rw[Y.2.1];rfl
  have cu:t.marks.length=0:=by rw[Y.1];rfl
  refine (C9 cp ck.ls (λr m q=>by have:=Z r q;have:=cq r m;omega) Θ Θ Ω).mono ?_;rintro _ dr _ ⟨rfl,_,a1,a2,cw⟩;obtain⟨⟨bz,bA,cz,bB⟩,a6,bu,ge,L,E,aT,w0,aE,⟨cA,cB,bC⟩,⟨cC,bD,bF,aI⟩,cD,⟨cF,cG⟩,cH,cI⟩:=id cw;refine⟨.inr (tb (off:=2) (z:=2) aE (λK=>by rw[aW cE.p rfl]) Ψ rfl),?_⟩;refine eo (k:=.i64) an.u ai.i rfl λds dt bG du G cJ=>?_;have a7:=aE.ext G;refine⟨.inr (tb (off:=2) (z:=2) a7 (λK=>by rw[aW cE.p rfl]) Ψ rfl),?_⟩;have bH:(h7 (eS n i 0)).length=i:=by
   unfold h7 eS;simp only[u7,List.length_range,l9];omega
  have bI:=cD.ext G;refine gX an.u ai.i rfl bI cJ.ls (by rw[bH];simp;omega) (by rw[bH];simp;omega) λbJ cK dv aa cL bK=>?_;have bL:=a7.ab bK λhe=>b4 bI a7 Φ he rfl;rw[bS,aW cE.p rfl];refine bt an.i aa.ls.cells.1 aa.ls.cells.2 bL Ξ λa8 ba dw bb=>?_;have bb:af a8 ad cE [Γ s,Γ ag,bJ,.slice ν 0 0,.slice ν 0 0]:=bb;rw[aM];have C:ah (λr=>leads H r\/r=ad) bG a8:=(bK.mono λr _ h=>.inl h).trans (ba.mono λr _ h=>.inr h);have dx:=aG.size;have z12:=a2.1.size;have dy:=G.size;have dz:=C.size;have bN:∀r,a1 r->w.heap.size<=r:=λr m=>(a2.2.1 r m).elim (aD r) λh=>Ω
  have bO:∀r,(leads H r\/r=ad)->a1 r:=λr m=>m.elim (λm=>(aI r (.inl m)).1) λm=>m▸bz;have cM:(eS n (i+1) 0).cells=(eS n i 0).cells++(0::0::u):=by rw[Da hu];exact Nx rfl
  have cN:t.cells.length=3+((eS n i 0).vars.flatMap fV).length:=by
   have h1:=congrArg S7 X;rw[qI] at h1;unfold aB.bP at h1;rw[u7] at h1;have:((eS n i 0).funs.flatMap fi).length=0:=by simp[eS]
   omega
  refine cb _ ⟨λr=>a1 r\/(bG.heap.size<=r/\r<a8.heap.size),bJ,mA t ([0,0]++u),?_,⟨⟨.inl bz,λr m N=>?_,λr m=>by have:=cz r m;omega,λr m=>?_⟩,cK,bu,ge,L,E,aT,w0,bb,⟨cA,s9 (cB.trans G) C λr o m cO J=>bA r (bO r J) (bC r o m cO),bC⟩,⟨(cC.ext G).ab C λr m J=>?_,λr m=>.inl (bD r m),bF,λr m=>?_⟩,?_,⟨(cF.ext G).ab C λr m J=>?_,?_⟩,(cH.ext G).ab C λr m J=>?_,?_⟩,?_,Y.lay _,λr m=>?_⟩
  .exact ((O.trans (aZ.trans aG)).then a2.1 λr m he=>by have:=aD r he;omega).trans G |>.then C λr m J=>by have:=bN r (bO r J);omega
  .rcases m with m|m
   .exact bA r m N
   .have N:=aN r N;omega
  .rcases m with m|m
   .have:=bB r m;omega
   .exact m.2
  .rcases J with J|rfl
   .exact (aI r (.inl J)).2 m
   .exact bF m
  .rcases m with m|m|m
   .have dA:=(bM aa m);rcases cL r m with h|h
    .exact⟨.inl (aI r (.inl h)).1,(aI r (.inl h)).2⟩
    .refine⟨.inr ⟨h,by have:=ba.size;omega⟩,λcP=>by have:=bB r (bD r cP);omega⟩
   .exact (fg m).elim
   .exact (fg m).elim
  .rw[Da hu,Nw,<-cN];exact bp aa ba λr m he=>by
    have he:r=ad:=he;subst he;exact b4 aa bL Φ m rfl
  .exact (fg m).elim
  .refine⟨cG.1,λj x f I bc=>?_⟩;have bc:((n.funs.take 0).map (kh n.sizes))[j]? =σ f:=bc;simp at bc
  .exact (fg m).elim
  .refine⟨cI.1,λj x e I he=>?_⟩;have he:([]:List wo)[j]? =σ e:=he;simp at he
  .rw[C7,cM,X];rfl
  .rcases m with m|m
   .exact bN r m
   .omega
 .rintro aC ca ⟨A,H,t,O,aV,X,Y,aD⟩;refine cm Ω ?_;refine (CV (h.ext O)).mono ?_;rintro _ dC _ ⟨rfl,bQ⟩;refine ch.range n.funs.length (λj ac=>∃A R aJ t,Ext w ac/\eK ac ad ag s H aJ (.slice ν 0 0) A R n (eS n n.sizes.length j) t/\t.bP=(eS n n.sizes.length j).cells/\Plain t/\(∀r,A r->w.heap.size<=r)/\ ∀r,R r->R0 r\/w.heap.size<=r) Ω
   ⟨A,_,_,t,O.trans bQ,aV.ext bQ,X,Y,aD,λ_ h=>.inl h⟩ ?_ ?_
  .rintro j ac cQ cR ⟨A,R,aJ,t,M,aj,P,al,ao,bd⟩ cT;obtain⟨g,aK⟩:=aH (l:=n.funs) cR;have be:=(B.funs g (x5 aK)).1;refine bE Ω ?_;refine (Np (h.ext M) B aK).mono ?_;rintro aP dD _ ⟨aq,gs,dE,bR⟩;refine (Nr aL (aw.trans (M.trans aq)) aK).mono ?_;rintro _ dF _ ⟨av,gt,dG,cU,rfl,dH,dI,cV,bT⟩;have z0:=aw.size;have cW:∀r,leads cU r->r<w.heap.size:=λr m=>by obtain⟨c,bf⟩:=bT r m;have:=bf.lt;omega
   have cX:=(aj.ext aq).ext av;have Z:∀r,A r->r<ac.heap.size:=aj.1.2.2.2;have dJ:=aq.size;have cr:t.cells.length<=2000000:=by
    have h1:=tc B ae n.sizes.length j;rw[<-P] at h1;unfold aB.bP at h1;rwa [u7] at h1
   have ct:t.olds.length=0:=by rw[al.2.1];rfl
   have cu:t.marks.length=0:=by rw[al.1];rfl
   have dK:g.2.length<=4096:=by have:=be.len;have:=be.small;omega
   have dL:g.1.length<=6:=be.scope.2;refine (Nv (sc:=g.1) cX P (bR.ls.ext av) (λr m q=>by have:=Z r q;obtain⟨aS,_⟩:=bM bR m;omega) cV ⟨λq=>by have:=Z _ q;omega,λq=>by have:=Z _ q;omega,λr m q=>by have:=ao r q;have:=cW r m;omega⟩ Ω Ω Ω Ω ?_).mono ?_
   .show ((n.funs.take j).map (kh n.sizes)).length<=_;rw[u7,l9];omega
   rintro _ dM _ ⟨rfl,_,aQ,R',cY,bU,cZ,dN,c0⟩;rw[aM];have bV:=Ny (i:=n.sizes.length) aK;refine cT _ ⟨aQ,R',cY,nQ (eS n n.sizes.length j) t g.2,((M.trans aq).trans av).then bU.1 (λr m q=>by have:=ao r q;omega),?_,?_,al.put _,λr m=>?_,λr m=>?_⟩
   .rw[bV];exact cZ
   .rw[bV];exact Nu P
   .rcases bU.2.1 r m with h|h
    .exact ao r h
    .have:=M.size;have:=av.size;omega
   .rcases c0 r m with h|h|h
    .exact bd r h
    .exact .inl (by obtain⟨c,bf⟩:=bT r h;exact bh r _ bf rfl)
    .exact .inr (by have:=M.size;have:=aq.size;have:=av.size;omega)
  .rintro ac cQ ⟨A,R,aJ,t,M,aj,P,al,ao,bd⟩;refine cm Ω ?_;have e:eS n n.sizes.length n.funs.length=cS n:=by rw[<-bW];exact wz n
   rw[e] at aj P;exact⟨M,ad,ag,A,R,t,rfl,⟨s,H,aJ,_,aj⟩,P,al,ao,bd⟩
theorem NB (K:Bytes l) (S:l.length<=100000):am x7 Hk [bN l] w λv w'=>v=j8 l/\Ext w w':=by
 refine az func146 ?_;refine ii (λac ad U=>Ext w U/\ ∃ (m:Λ) (s:Int),ac=bN m/\ad=Δ s/\Bytes m/\m.length<=100000/\oS l m s) ?_ ?_
 .rintro _ _ U ⟨L,m,s,rfl,rfl,G,aw,H⟩;rw[nt c0.u,bh,al];refine⟨λM=>?_,λM=>?_⟩
  .have N:m=[]:=c8 Ω;exact⟨by rw[sf H (by rw[N];rfl)],L⟩
  have N:m≠[]:=λh=>M (by rw[h];rfl);refine oh.range m.length (λi _ _ O P f=>Ext U f/\ ∃ (n:Int) (a:Bool),O= .int .u64 n/\P= .bool a/\mj n a ((m.take i).foldl eY 0)/\(m.take i).all gk=true) Ω ⟨Ext.refl _,0,false,rfl,rfl,I9,rfl⟩ ?_ ?_
  .rintro i af t3 _ _ f ag hi ⟨A,n,a,rfl,rfl,p,B⟩ ah;obtain⟨b,q⟩:=aH (l:=m) hi;have ax:=G b (x5 q);rw[nt c0.u];refine bE Ω ?_;refine vf (λ_ _ O P j=>Ext U j/\ ∃ (n:Int) (a:Bool),O= .int .u64 n/\P= .bool a/\mj n a ((m.take (i+1)).foldl eY 0)/\(m.take (i+1)).all gk=true) ?_ ?_
   .rintro aA aB a3 a4 j ai;rw[aM];exact ah _ _ _ _ _ ai
   intro ay r;refine aV (λv j=>f=j/\v= .bool (!gk b)) ?_ ?_
   rotate_left
   .intro Q e;rw[p2 rfl c0.u G q,aN,al];refine⟨λh=>e _ _ ⟨rfl,by unfold gk;rw[decide_eq_false Ω];rfl⟩,λh=>?_⟩;rw[p2 rfl c0.u G q,bR];refine e _ _ ⟨rfl,?_⟩;unfold gk;congr 1;by_cases W:57<b
    .rw[decide_eq_true W,decide_eq_false Ω];rfl
    .rw[decide_eq_false W,decide_eq_true Ω];rfl
   rintro _ _ ⟨rfl,rfl⟩;cases R:gk b with
   |false=>
    rw[W5,bQ];exact⟨by rw[sf H (A5 q R)],L.trans A⟩
   |true=>
    rw[Y7,aY];have aj:=of_decide_eq_true R;have J:=I8 p aj;rw[A3 q,A2 q,B,R] at r;have ak:=p.1;have an:=p.2.1;refine aV (λv j=>f=j/\v= .bool (a||decide (461168601842738790<n))) ?_ ?_
    rotate_left
    .intro Q e;rw[bR,al];refine⟨λh=>e _ _ ⟨rfl,by rw[decide_eq_true h,Bool.or_true]⟩,λh=>e _ _ ⟨rfl,by rw[decide_eq_false h,Bool.or_false]⟩⟩
    rintro _ _ ⟨rfl,rfl⟩;by_cases C:a=true\/461168601842738790<n
    .have ae:(a||decide (461168601842738790<n))=true:=by rcases C with h|h<;>simp[h]
     rw[if_pos C,ae] at J;rw[ae,bI,Y7,aY];exact r _ _ _ _ _ ⟨A,n,true,rfl,rfl,J,rfl⟩
    .have ae:(a||decide (461168601842738790<n))=false:=by
      cases a with
      |true=>exact absurd (.inl rfl) C
      |false=>simp;omega
     rw[if_neg C,ae] at J;have aC:¬461168601842738790<n:=λh=>C (.inr h);rw[ae,bI,W5,bQ,gE,p2 rfl c0.u G q,dJ,wrap_u8 Ω Ω,eW cD.u fs.u,wrap_u64 Ω Ω,wrap_u64 Ω Ω,aM,wrap_u64 Ω Ω];exact r _ _ _ _ _ ⟨A,_,false,rfl,rfl,J,rfl⟩
  .rintro af t3 _ _ f ag ⟨A,n,a,rfl,rfl,p,B⟩;rw[o5] at B p;rw[nt c0.u];refine cm Ω ?_;have X:=Ja p;have ak:=p.1;have an:=p.2.1;have ao:∀ {x:Int},x=m.foldl eY 0->0<=x->x<=4611686018427387904->(aa x7 (convert fs ap (.int .u64 x)) f λaq=>
     aa x7 (aJ .mul ap false false (Δ s) aq) f λau=>(λv w'=>v=j8 l/\Ext w w') (.tuple #[au,(Δ 0)]) f):=by
    intro x I M h1;rw[eW fs.u ap.u,wrap_i64 Ω Ω,gE];have hw:X2.wrap (s*x)=s*x:=by
     rcases H.1 with rfl|rfl<;>exact wrap_i64 Ω Ω
    rw[hw];refine⟨?_,L.trans A⟩;rw[A8 H (A4 N B),I]
   refine aV (λv j=>f=j/\v= .int .u64 (m.foldl eY 0)) ?_ ?_
   .rintro _ _ ⟨rfl,rfl⟩;have Y:=r2 (l:=m) (n:=0) B ⟨T2 _,Φ⟩;exact ao rfl Y.1 Y.2
   intro Q e;refine aV (λv j=>f=j/\v= .bool (a||decide (4611686018427387904<n))) ?_ ?_
   .rintro _ _ ⟨rfl,rfl⟩;rw[cb];refine⟨λh=>e _ _ ⟨rfl,?_⟩,λh=>e _ _ ⟨rfl,?_⟩⟩
    .have h':a=true\/4611686018427387904<n:=by simpa using h
     rw[X,if_pos h']
    .have h':¬(a=true\/4611686018427387904<n):=by
      intro E;rcases E with E|E
      .simp[E] at h
      .simp[E] at h
     rw[X,if_neg h']
   .intro aD Z;cases a with
    |true=>rw[bQ];exact Z _ _ ⟨rfl,rfl⟩
    |false=>rw[aY,bR];exact Z _ _ ⟨rfl,by rw[Bool.false_or]⟩
 .intro ay r;refine aV (λv V=>w=V/\ ∃c:Bool,v= .bool c/\(c=true↔l[0]? =σ 45)) ?_ ?_
  .rintro _ _ ⟨rfl,c,rfl,ab⟩;rw[cb];refine⟨λav=>?_,λae=>?_⟩
   .obtain⟨m,rfl⟩:∃m,l=45::m:=by
     have:=ab.1 av;cases l with
     |nil=>simp at this
     |cons x m=>exact⟨m,by simp at this;rw[this]⟩
    rw[Al (y:=1) (i:=1) rfl c0.u Ξ];exact r _ _ _ ⟨Ext.refl _,m,-1,rfl,rfl,λb z=>K b (.tail _ z),by simp at S;omega,A6⟩
   .refine r _ _ _ ⟨Ext.refl _,l,1,rfl,rfl,K,S,A7 λb z he=>?_⟩;subst he;have:=ab.2 z;rw[ae] at this;cases this
  .intro Q e;rw[nt c0.u,bR,al];refine⟨λh=>?_,λh=>e _ _ ⟨rfl,false,rfl,?_⟩⟩
   .obtain⟨b,z⟩:=aH (l:=l) (i:=0) Ω;rw[p2 (y:=0) (i:=0) rfl c0.u K z,bh];refine e _ _ ⟨rfl,_,rfl,?_⟩;rw[decide_eq_true_eq,z];exact⟨λh=>by rw[h],λh=>j6 h⟩
   .have:l=[]:=c8 Ω;subst this;simp
theorem NC {s:Go.Sem x1} (h:aa x7 s w λu=>u=v) (hk:K v):aa x7 s w K:=by
 obtain⟨u,h1,rfl⟩:=h;exact⟨u,h1,hk⟩
abbrev gY:Type:=Λ×Int
def fI (x:gY):List x1:=[bN x.1,Δ x.2]
theorem wB (x:gY):∀u∈fI x,u.oneCell'=true:=by
 intro u hu;simp[fI] at hu;rcases hu with rfl|rfl<;>rfl
def iE (w:x3) (v:x1) (L:List gY):Prop:=ca w 2 v L.length (L.flatMap fI)
theorem wC {g:Nat} {L:List gY} (h:bg fI 2 cj w g v L):iE w v L:=h.sl
theorem Db {L:List gY} {a:r8} (h:iE w v L):aa x7 (W6 #[fd] a #[v]) w K=K (Δ (L.length:Int)):=by
 obtain⟨_,_,_,_,_,rfl,_⟩:=h;exact hE fd.u
theorem ND {cs:List x1} (h:ca w k v n cs) (f:ah S w w') (m:∀r,leadsTo v r->¬S r):ca w' k v n cs:=by
 obtain⟨h1,b,o,base,cap,rfl,p,q,e,s⟩:=h;refine⟨h1,b,o,base,cap,rfl,p,q,e,?_⟩;rcases Q0 n with a|a
 .have:cs=[]:=c8 (by rw[h1,a,Nat.zero_mul]);subst this;intro j v ac;simp at ac
 .have x:=e a;exact js f (m b ⟨⟨b,o,ν⟩,n,cap,by rw[x],rfl⟩) s
theorem iE.ab {L:List gY} (h:iE w v L) (a:ah S w w') (e:∀r,leadsTo v r->¬S r):iE w' v L:=ND h a e
theorem Dc {x:gY} {L:List gY} (h:iE w v (x::L)) (a:∀b o,w.rangeAt b o (fI x)->K (.pointer (σ ⟨b,o,ν⟩))):aa x7 (j5 fd v (Δ 0)) w K:=by
 obtain⟨_,b,o,base,cap,rfl,_,_,e,f⟩:=h;have:=e6 (P:=x7) (w:=w) (K:=K) (k:=.i64) (c:=cap) fd.u cj.i (show 0<(x::L).length by simp) e;rw[show ((0:Nat):Int)=0 from rfl] at this;rw[this];refine a _ _ λj u hu=>?_;have m:=(x4.1 hu).1;rw[Nat.zero_mul,Nat.add_zero];exact f j u (by rw[X5,Y1 m];exact hu)
theorem NE {x:gY} {L:List gY} (h:iE w v (x::L)) (s:∀j,(∀w',iE w' v (x::L)->iE w' j L)->(∀r,leadsTo j r->leadsTo v r)->K j):aa x7 (V3 fd v (σ (Δ 1)) ν ν) w K:=by
 have B:=h;obtain⟨_,b,o,base,cap,rfl,C,_⟩:=h;rw[hF fd.u cj.i (ng 1 1 rfl) jv fw Ξ Ω (p8 _)];refine s _ (λw' y=>?_) λr z=>?_
 .have:=ca.part (l:=1) (h:=(x::L).length) (m:=cap) y Ξ (p8 _) Ω (p8 _);have e:(((x::L).flatMap fI).drop (1*2)).take (((x::L).length-1)*2)=L.flatMap fI:=by
   rw[X5];have A:(L.flatMap fI).length=L.length*2:=h0 (k:=2) λ_ _=>rfl;show (L.flatMap fI).take _=_;rw[j9 (by rw[A,c7,Nat.add_sub_cancel];exact p8 _)]
  rw[e] at this;exact this
 .obtain⟨a,n,c,f,p⟩:=z;split at f
  .cases f;exact⟨_,_,_,rfl,p⟩
  .cases base with
   |none=>cases f
   |some q=>cases f;exact⟨_,_,_,rfl,p⟩
theorem NF {g:Nat} {L:List gY} (x:y=(n:Int)) (h:bg fI 2 cj w g v L) (z:n<=L.length) (A:∀p,iE w p (L.take n)->(∀r,leadsTo p r->leadsTo v r)->K p):aa x7 (V3 fd v ν (σ (Δ y)) ν) w K:=by
 have B:=wC h;obtain⟨_,b,o,base,cap,rfl,F,_⟩:=h.sl;rw[hF fd.u cj.i ju (nh n y x) fw (X3 _) Ω (p8 _)];refine A _ ?_ λr C=>?_
 .have:=ca.part (l:=0) (h:=n) (m:=cap) B (X3 _) z Ω (p8 _);have e:((L.flatMap fI).drop (0*2)).take ((n-0)*2)=(L.take n).flatMap fI:=by
   rw[Nat.zero_mul,List.drop_zero,Nat.sub_zero,qn (f:=fI) (k:=2) n λ_ _=>rfl]
  rw[e] at this;have E:(L.take n).length=n-0:=by rw[l9];omega
  unfold iE;rw[E];exact this
 .obtain⟨a,n,c,j,s⟩:=C;split at j
  .cases j;exact⟨_,_,_,rfl,s⟩
  .cases base with
   |none=>cases j
   |some q=>cases j;exact⟨_,_,_,rfl,s⟩
def NG (w:x3) (pl:Λ) (v:x1) (w':x3):Prop:=Ext w w'/\ ∃a L,∃bad:Int,v= .tuple #[a,Δ bad]/\iE w' a L/\L.map (·.1)=(lex pl).1/\(0<=bad↔(lex pl).2=false)/\(∀r,leadsTo a r->w.heap.size<=r)/\ ∀r,leadsTo a r-> ∃c,af w' r cj c
theorem NH {p:x1} (R:aF .u8 w p pl) (ax:Bytes pl) (ba:pl.length<=65536):am x7 Gt [p] w (NG w pl):=by
 refine az func83 ?_;rw[aU cM.u R];refine oh.range pl.length (λi _ _ z H U=>Ext w U/\ ∃g L,∃ (m:List (Λ)) (A:Λ) (op:Bool),H= .bool op/\bg fI 2 cj U g z L/\L.map (·.1)=(if op then m++[A] else m)/\(op=true->A.length<=i)/\L.length<=i/\hW (pl.drop i) m A op=lex pl/\ ∀r,leadsTo z r->w.heap.size<=r) R.le
  ⟨Ext.refl _,0,[],[],[],false,rfl,bg.nil _ _ _ _ _,rfl,(λh=>by cases h),p8 _,Jq pl,λr B=>(fg B).elim⟩ ?_ ?_
 rotate_left
 .rintro aB t3 z H U aC ⟨E,g,L,m,A,op,rfl,C,y,_,_,q,G⟩;refine cm Ω ?_;rw[List.drop_length] at q;have q:(if op then m++[A] else m,true)=lex pl:=q;exact⟨E,z,L,-1,rfl,wC C,by rw[y,<-q],by rw[<-q];simp,G,λr B=>by obtain⟨rfl,c,X⟩:=dY C B;exact⟨c,X⟩⟩
 rintro i aB t3 z H U aC hi ⟨E,g,L,m,A,op,rfl,C,y,aj,bb,q,G⟩ aD;obtain⟨b,Y⟩:=aH (l:=pl) hi;have bc:=ax b (x5 Y);have ak:pl.drop i=b::pl.drop (i+1):=by rw[X7 hi,(x4.1 Y).2]
 rw[ak] at q;unfold hW at q;refine bE Ω ?_;refine vf (λ_ _ z H Z=>Ext w Z/\ ∃g L,∃ (m:List (Λ)) (A:Λ) (op:Bool),H= .bool op/\bg fI 2 cj Z g z L/\L.map (·.1)=(if op then m++[A] else m)/\(op=true->A.length<=i+1)/\L.length<=i+1/\hW (pl.drop (i+1)) m A op=lex pl/\ ∀r,leadsTo z r->w.heap.size<=r) ?_ ?_
 .rintro bd bf a3 a4 Z aE;rw[aM];exact aD _ _ _ _ _ aE
 intro ay an;rw[be cM.u cD.i Ψ (R.ext E) Y];refine aV (λv N=>U=N/\v= .bool (cw b)) ?_ ?_
 rotate_left
 .intro ab s;unfold cw at s;rw[bh,al];refine⟨λh=>s _ _ ⟨rfl,by rw[decide_eq_true (.inl h)]⟩,λh1=>?_⟩;rw[bh,al];refine⟨λh=>s _ _ ⟨rfl,by rw[decide_eq_true (.inr (.inl h))]⟩,λS=>?_⟩;rw[bh,al];refine⟨λh=>s _ _ ⟨rfl,by rw[decide_eq_true (.inr (.inr (.inl h)))]⟩,λaG=>?_⟩;rw[bh];refine s _ _ ⟨rfl,?_⟩;congr 1;rw[V5,decide_eq_true_eq,decide_eq_true_eq];exact⟨λh=>.inr (.inr (.inr h)),λh=>by rcases h with h|h|h|h;exact absurd h h1;exact absurd h S;exact absurd h aG;exact h⟩
 rintro _ _ ⟨rfl,rfl⟩;cases J:cw b with
 |true=>
  rw[bQ];rw[if_pos J] at q;exact an _ _ _ _ _ ⟨E,g,L,_,[],false,rfl,C,y,(λh=>by cases h),Ω,q,G⟩
 |false=>
  rw[aY];rw[if_neg (by rw[J];simp)] at q;refine aV (λv N=>U=N/\v= .bool (!bJ b)) ?_ ?_
  rotate_left
  .intro ab s;unfold bJ at s;rw[aN,al];refine⟨λh=>s _ _ ⟨rfl,by rw[decide_eq_false Ω];rfl⟩,λh=>?_⟩;rw[bR];refine s _ _ ⟨rfl,?_⟩;by_cases S:126<b
   .rw[decide_eq_true S,decide_eq_false Ω];rfl
   .rw[decide_eq_false S,decide_eq_true Ω];rfl
  rintro _ _ ⟨rfl,rfl⟩;cases hw:bJ b with
  |false=>
   rw[W5,bQ];rw[if_neg (by rw[hw];simp)] at q;refine aV (λv N=>U=N/\ ∃V,iE U v V/\V.map (·.1)=m/\(∀r,leadsTo v r->w.heap.size<=r)/\ ∀r,leadsTo v r->leadsTo z r) ?_ ?_
   .rintro v _ ⟨rfl,V,ac,aI,W,aJ⟩;exact⟨E,v,V,(i:Int),rfl,ac,by rw[aI,<-q],by rw[<-q];simp,W,λr B=>by obtain⟨rfl,c,X⟩:=dY C (aJ r B);exact⟨c,X⟩⟩
   .intro ab s;cases op with
    |false=>
     rw[aY];rw[if_neg Ξ] at y;exact s _ _ ⟨rfl,L,wC C,y,G,λ_ h=>h⟩
    |true=>
     rw[bQ];rw[if_pos rfl] at y;have ad:L.length=m.length+1:=by have:=congrArg S7 y;simpa using this
     rw[e9 fd.u C,dJ,wrap_i64 Ω Ω];refine NF (n:=m.length) Ω C Ω λO ac W=>s _ _ ⟨rfl,_,ac,?_,λr B=>G r (W r B),W⟩;rw[List.map_take,y,List.take_left]
  |true=>
   rw[Y7,aY];rw[if_pos hw] at q;refine aV (λz ae=>Ext w ae/\ ∃g M,∃x:gY,bg fI 2 cj ae g z (M++[x])/\M.map (·.1)=m/\x.1=(if op then A else[])/\(M++[x]).length<=i+1/\ ∀r,leadsTo z r->w.heap.size<=r) ?_ ?_
   .rintro bi ae ⟨ao,aK,M,x,aL,aO,I,aP,ap⟩;intro af ag _ _;have Q:=aL.ext ag;have aq:(M++[x])[M.length]? =σ x:=Ξ
    have bj:(M++[x]).length=M.length+1:=Ξ
    rw[e9 fd.u Q,dJ,wrap_i64 Ω Ω,dr (i:=M.length) Ω fd.u cj.i Q Ω,aW cj.p rfl,aA (o:=M.length*2+0) Ψ (Q.range aq 0 _ rfl),aM,wrap_i64 Ω Ω];obtain⟨bk,au⟩:∃O,aF .u8 af O [b]/\aa x7 (V3 cM p (σ (Δ (i:Int))) (σ (Δ ((i:Int)+1))) ν) af (λv=>v=O):=by
     have aQ:=R.ext (ao.trans ag);have:=r4 (P:=x7) (low:=σ (Δ (i:Int))) (high:=σ (Δ ((i:Int)+1))) (K:=λv=>aF .u8 af v [b]) cM.u cD.i aQ (ng i _ rfl) (nh (i+1) ((i:Int)+1) Ω) Ω Ω λO av=>by
      have e:((ints .u8 pl).drop (i*1)).take ((i+1-i)*1)=ints .u8 [b]:=by
       simp only[V8,show i+1-i=1 by omega];rw[ints,<-List.map_drop,<-List.map_take,ak];rfl
      rw[e] at av;exact aF.of (n:=i+1-i) av
     obtain⟨v,aR,aS⟩:=this;exact⟨v,aS,v,aR,rfl⟩
    refine NC au.2 ?_;have bl:x.1.length<=65536:=by
     rw[I];cases op with
     |true=>rw[if_pos rfl];have:=aj rfl;omega
     |false=>simp
    rw[vh cM.u cD.u c0.u au.1,vg Θ,dr (i:=M.length) Ω fd.u cj.i Q Ω,aW cj.p rfl];refine o0 (f:=fI) (j:=0) (a:=x) (a':=(x.1++[b],x.2)) c0.i rfl rfl Q aq rfl Ω λbm aT bn aw=>?_;have e:(M++[x]).set M.length (x.1++[b],x.2)=M++[(x.1++[b],x.2)]:=by
     rw[T3 _ _ (p8 _),V6];rfl
    rw[e] at aw;refine an _ _ _ _ _ ⟨(ao.trans ag).then aT (λr B he=>by have:=ap r he;omega),aK,_,m,x.1++[b],true,rfl,aw,by rw[b6,aO];rfl,λ_=>?_,by simp at aP ⊢;omega,?_,ap⟩
    .rw[p9,I];cases op with
     |true=>rw[if_pos rfl];have:=aj rfl;simp;omega
     |false=>simp
    .rw[<-q,I];cases op with
     |true=>rfl
     |false=>rfl
   .intro ab s;cases op with
    |true=>
     rw[bI,Y7,aY];rw[if_pos rfl] at y;have ad:L.length=m.length+1:=by have:=congrArg S7 y;simpa using this
     obtain⟨M,x,rfl⟩:∃M x,L=M++[x]:=by
      have:L≠[]:=λh=>by rw[h] at ad;simp at ad
      exact⟨L.dropLast,L.getLast this,(List.dropLast_concat_getLast this).symm⟩
     rw[b6] at y;obtain⟨aX,ah⟩:=List.append_inj' y Ξ;refine s _ _ ⟨E,g,M,x,C,aX,?_,Ω,G⟩;rw[if_pos rfl];have ah:[x.1]=[A]:=ah;exact (List.cons.inj ah).1
    |false=>
     rw[bI,W5,bQ];rw[if_neg Ξ] at y;rw[dn (cs:=#[bN [],Δ (i:Int)]) Ψ];refine h2 (f:=fI) (a:=(([],(i:Int)):gY)) fd.u cj.i Ω rfl rfl λv9 bo bp bq ai aZ=>?_;have a1:=C.ext ai;refine iw (f:=fI) (a:=(([],(i:Int)):gY)) fd.u cj.i rfl a1 (by simpa using aZ.sl) (wB _) Ω Ω λO a2 br a6 a7 a8=>?_;have bt:=E.size;have z9:=ai.size;refine s _ _ ⟨(E.trans ai).then a8 (λr B he=>by have:=G r he;omega),a2,L,_,a6,y,rfl,Θ,λr B=>?_⟩;rcases a7 r B with h|h
     .exact G r h
     .omega
structure wD where
 v:x1
 t:Λ
 c:Int
def nR (y:wD):List x1:=[y.v,Δ y.c]
def kj (w:x3) (g:Nat) (v:x1) (l:List (Λ×Int)):Prop:=∃L:List wD,bg nR 2 b3 w g v L/\(∀y∈L,∃gy,au .i64 ap w gy y.v y.t)/\L.map (λy=>(y.t,y.c))=l
structure iF where
 aP:x1
 szv:x1
 o:Int
 b0:x1
def eT (h:iF):List x1:=[h.aP,h.szv,Δ h.o,h.b0]
def gK (w:x3) (h:iF) (x:cv):Prop:=(∃g,au .i64 ap w g h.aP x.scope)/\(∃g,au .i64 ap w g h.szv x.sizes)/\h.o=x.other/\ ∃g,kj w g h.b0 x.lines
def gZ (w:x3) (r:Nat):Prop:=∃e c,af w r e c/\e≠ap/\e≠b3
theorem ew {g:Nat} (h:au .i64 ap w g v l) (f:ah S w w') (j:∀r,S r->gZ w r\/w.heap.size<=r):au .i64 ap w' g v l:=bp h f λr a J=>by
 rcases j r J with⟨e,c,m,p,_⟩|q
 .exact b4 h m (λhe=>p he.symm) a rfl
 .obtain⟨s,x⟩:=bM h a;omega
theorem wE {α:Type} {f:α->List x1} {g:Nat} {L:List α} (h:bg f k e w g v L) (m:ah S w w') (p:∀r,S r->(∃a c,af w r a c/\a≠e)\/w.heap.size<=r):bg f k e w' g v L:=h.ab m λr j J=>by
 rcases p r J with⟨a,c,q,s⟩|x
 .exact cQ h q (λhe=>s he.symm) j
 .obtain⟨y,z⟩:=h.leads j;omega
theorem kj.dF {g:Nat} {l:List (Λ×Int)} (h:kj w g v l) (a:ah S w w') (f:∀r,S r->gZ w r\/w.heap.size<=r):kj w' g v l:=by
 obtain⟨L,h1,j,m⟩:=h;refine⟨L,wE h1 a λr p=>(f r p).imp (λ⟨e,c,q,_,s⟩=>⟨e,c,q,s⟩) id,λy x=>?_,m⟩;obtain⟨gy,hm⟩:=j y x;exact⟨gy,ew hm a f⟩
theorem gK.dF {h:iF} {x:cv} (aG:gK w h x) (a:ah S w w') (e:∀r,S r->gZ w r\/w.heap.size<=r):gK w' h x:=by
 obtain⟨⟨g1,h1⟩,⟨f,j⟩,m,p,q⟩:=aG;exact⟨⟨g1,ew h1 a e⟩,⟨f,ew j a e⟩,m,p,q.dF a e⟩
theorem gK.ext {h:iF} {x:cv} (aG:gK w h x) (I:Ext w w'):gK w' h x:=aG.dF (I.ab λ_=>False) λ_ h=>h.elim
theorem gK.one {h:iF} {x:cv} (aG:gK w h x):∀u∈eT h,u.oneCell'=true:=by
 obtain⟨⟨g1,h1⟩,⟨f,a⟩,j,m,L,e,_⟩:=aG;intro u hu;simp[eT] at hu;rcases hu with rfl|rfl|rfl|rfl
 .exact h1.ls.cells.2
 .exact a.ls.cells.2
 .rfl
 .exact (eH e.sl).2
def lV (w:x3) (a:x1) (f:List gY) (gs:Nat) (sv:x1) (L:List iF) (e:List cv):Prop:=(iE w a f/\ ∀r,leadsTo a r-> ∃c,af w r cj c)/\bg eT 4 a1 w gs sv L/\e.length=L.length/\ ∀ (i:Nat) h x,L[i]? =σ h->e[i]? =σ x->gK w h x
theorem lV.dF {m:x1} {s:List gY} {gs:Nat} {L:List iF} {y:List cv} (h:lV w m s gs sv L y) (j:ah S w w') (p:∀r,S r->(∃e c,af w r e c/\e≠ap/\e≠b3/\e≠cj/\¬leadsTo sv r)\/w.heap.size<=r):lV w' m s gs sv L y:=by
 obtain⟨⟨h1,z⟩,A,C,E⟩:=h;have hw:∀r,leadsTo m r->¬S r:=λr a J=>by
  obtain⟨c,f⟩:=z r a;rcases p r J with⟨e,F,B,_,_,q,_⟩|G
  .exact q (fa B f)
  .have:=f.lt;omega
 refine⟨⟨h1.ab j hw,λr a=>?_⟩,A.ab j λr a J=>?_,C,λi aG x hi I=>(E i aG x hi I).dF j λr a=>(p r a).imp (λ⟨e,c,f,H,K,_⟩=>⟨e,c,f,H,K⟩) id⟩
 .obtain⟨c,f⟩:=z r a;exact⟨c,f.ab j (hw r a)⟩
 .rcases p r J with⟨e,F,B,_,_,_,q⟩|G
  .exact q a
  .obtain⟨M,N⟩:=A.leads a;omega
def gw (a:x1) (e f bad h big j told:Int) (sv:x1):List x1:=[a,Δ e,Δ f,Δ bad,Δ h,Δ big,Δ j,Δ told,sv]
def NI (N:Nat) (so:Option aD) (a:List gY) (e bad big told:Int) (L:List iF) (f:List cv):Prop:=match so with
 |some s=>bad=0/\e≠0/\(big≠0↔s.big=true)/\(s.big=false->told=s.told)/\True/\a.map (·.1)=s.toks/\(∀t∈s.toks,Bytes t/\t.length<=65536)/\f.map (λx=>(x.sizes,x.lines))=s.shared/\L.length+a.length<=100000
 |none=>bad≠0/\L.length<=N
def bH (w:x3) (g B:Nat) (H:ak) (N:Nat) (so:Option aD):Prop:=100000<=N/\ ∃w0 a e gs sv L f,∃ (j h bad m big p told:Int),w0.heap.size=B/\ah (λr=>r=g) w0 w/\(∃c,af w0 g bA c)/\af w g bA (gw a j h bad m big p told sv)/\lV w0 a e gs sv L f/\(∀r,leadsTo sv r->H r)/\NI N so e h bad big told L f
theorem lV.g {g:Nat} {e:x1} {f:List gY} {gs:Nat} {L:List iF} {j:List cv} (h:lV w e f gs sv L j) (p:ah (λr=>r=g) w w') (q:∃c,af w g bA c):lV w' e f gs sv L j:=
 h.dF p λr a=>.inl (by
  have a:r=g:=a;subst a;obtain⟨c,m⟩:=q;exact⟨_,c,m,Φ,Φ,Φ,λs=>cQ h.2.1 m Φ s⟩)
theorem bH.new {g:Nat} {H:ak} {so:Option aD} (h:bH w g B H N so) (a:ah S w w') (e:∀r,S r->B<=r):bH w' g B H N so:=by
 obtain⟨q,w0,s,x,gs,sv,L,y,z,A,bad,C,big,E,told,h1,f,j,F,G,I,K⟩:=h;have m:g<w0.heap.size:=by obtain⟨c,M⟩:=j;exact M.lt
 exact⟨q,w0,s,x,gs,sv,L,y,z,A,bad,C,big,E,told,h1,⟨Y9 f.size a.size,λr o p J m=>a.aZ r o (f.aZ r o p J m) J λO=>by
  have:=e r O;have:=(o8.1 p).1;omega⟩,j,F.ab a λJ=>by have:=e g J;omega,G,I,K⟩
theorem bH.ext {g:Nat} {H:ak} {so:Option aD} (h:bH w g B H N so) (I:Ext w w'):bH w' g B H N so:=h.new (I.ab λ_=>False) λ_ h=>h.elim
theorem bH.base {g:Nat} {H:ak} {so:Option aD} (h:bH w g B H N so):bH w g w.heap.size H N so:=by
 obtain⟨e,w0,f,j,gs,sv,L,m,p,q,bad,r,big,s,told,h1,x,y,a,z,A,C⟩:=h;exact⟨e,w,f,j,gs,sv,L,m,p,q,bad,r,big,s,told,rfl,ah.refl _ _,⟨_,a⟩,a,z.g x y,A,C⟩
theorem bH.dF {g:Nat} {H:ak} {so:Option aD} (h:bH w g B H N so) (j:ah S w w') (m:∀r,S r->(∃e c,af w r e c/\e≠ap/\e≠b3/\e≠cj/\e≠bA/\¬H r)\/w.heap.size<=r):bH w' g w'.heap.size H N so:=by
 obtain⟨y,w0,p,q,gs,sv,L,s,z,A,bad,C,big,E,told,h1,F,G,f,I,x,K⟩:=h.base;have M:lV w p q gs sv L s:=I.g F G;have a:=f.ab j λJ=>by
  rcases m g J with⟨e,c,a,_,_,_,O,_⟩|X
  .exact O (fa a f)
  .have:=f.lt;omega
 refine⟨y,w',p,q,gs,sv,L,s,z,A,bad,C,big,E,told,rfl,ah.refl _ _,⟨_,a⟩,a,M.dF j λr P=>(m r P).imp (λ⟨e,c,a,Q,R,U,_,V⟩=>⟨e,c,a,Q,R,U,λW=>V (x r W)⟩) id,x,K⟩
theorem bH.lt {g:Nat} {H:ak} {so:Option aD} (h:bH w g B H N so):g<B/\B<=w.heap.size:=by
 obtain⟨f,w0,j,m,gs,sv,L,p,q,r,bad,s,big,x,told,h1,a,⟨c,e⟩,_⟩:=h;have:=e.lt;have:=a.size;omega
theorem hM {g:Nat} {H:ak} {so:Option aD} (h:bH w g B H N so):∃a,∃ (e f bad j big m told:Int),∃sv,af w g bA (gw a e f bad j big m told sv)/\(so.isSome=true↔bad=0):=by
 obtain⟨r,w0,a,x,gs,sv,L,y,e,f,bad,j,big,m,told,h1,z,A,q,C,E,p⟩:=h;refine⟨a,e,f,bad,j,big,m,told,sv,q,?_⟩;cases so with
 |none=>exact⟨(λh=>by cases h),λh=>absurd h p.1⟩
 |some s=>exact⟨λ_=>p.1,λ_=>rfl⟩
theorem k3 {g:Nat} {H:ak} {so:Option aD} (h:bH w g B H N so):aa x7 (bK (Γ g)) w (λa=>aa x7 (u5 bA a 3) w λt45=>aa x7 (u4 ai t45) w λt46=>aa x7 (aJ .eql ai false true t46 (Δ 0)) w K)=K (.bool so.isSome):=by
 obtain⟨f,j,m,bad,q,big,r,told,sv,e,hi⟩:=hM h;rw[aO bA.p 3 e rfl,bh];congr 2;rw[V5,decide_eq_true_eq];exact hi.symm
theorem qM {g:Nat} {H:ak} {so:Option aD} (h:bH w g B H N so):aa x7 (bK (Γ g)) w (λf=>aa x7 (u5 bA f 3) w λt45=>aa x7 (u4 ai t45) w λt46=>aa x7 (aJ .neq ai false true t46 (Δ 0)) w K)=K (.bool (!so.isSome)):=by
 obtain⟨m,q,r,bad,s,big,x,told,sv,j,hi⟩:=hM h;rw[aO bA.p 3 j rfl,bz];congr 2;cases e:so.isSome with
 |true=>have a:=hi.1 e;simp[a]
 |false=>
  have a:bad≠0:=λa=>by rw[hi.2 a] at e;cases e
  simp[a]
def ph (w:x3) (g B:Nat) (H:ak) (N:Nat) (so:Option aD) (w':x3):Prop:=ah (λr=>r=g) w w'/\bH w' g B H N so
theorem nS {g:Nat} {H:ak} {so:Option aD} {e at_:Int} (h:bH w g B H N so) (he:e≠0):am x7 m8 [Γ g,Δ e,Δ at_] w λ_ w'=>ph w g B H N ν w':=by
 refine az func88 ?_;rw[k3 h];cases so with
 |none=>rw[S6,aY];exact⟨ah.refl _ _,h⟩
 |some s=>
  rw[T8,bQ];obtain⟨x,w0,f,y,gs,sv,L,z,j,m,bad,P,big,q,told,h1,A,C,E,G,I,J⟩:=h;rw[bS,aW bA.p rfl];refine bt (g:=g) (o:=3) ai.i rfl rfl E (by simp[gw]) λU K Q M=>?_;rw[bS,aW bA.p rfl];refine bt (g:=g) (o:=4) ai.i rfl rfl M (by simp[gw]) λV O R a=>?_;have a:af V g bA (gw f j m e at_ big q told sv):=a;have r:=K.trans O;obtain⟨_,_,_,_,_,_,_,_,S⟩:=J;exact⟨r,x,w0,f,y,gs,sv,L,z,j,m,e,at_,big,q,told,h1,A.trans r,C,a,G,I,he,Ω⟩
theorem mB {g:Nat} {H:ak} {so:Option aD} {b:Bool} {at_:Int} (h:bH w g B H N so):am x7 rJ [Γ g,.bool b,Δ at_] w λ_ w'=>ph w g B H N (so.map (bd b)) w':=by
 refine az func85 ?_;obtain⟨G,w0,e,I,gs,sv,L,J,f,j,bad,m,big,W,told,h1,K,M,q,O,P,r⟩:=id h;refine aV (λv U=>w=U/\v= .bool (b&&decide (big=0)&&so.isSome)) ?_ ?_
 .rintro _ _ ⟨rfl,rfl⟩;rw[cb];refine⟨λQ=>?_,λae=>⟨ah.refl _ _,G,w0,e,I,gs,sv,L,J,f,j,bad,m,big,W,told,h1,K,M,q,O,P,?_⟩⟩
  .rw[V0,V0] at Q;obtain⟨⟨X,ac⟩,Y⟩:=Q;rw[bS,aW bA.p rfl];refine bt (g:=g) (o:=5) ai.i rfl rfl q (by simp[gw]) λU Z ad aa=>?_;rw[bS,aW bA.p rfl];refine bt (g:=g) (o:=6) ai.i rfl rfl aa (by simp[gw]) λV ab ag x=>?_;have x:af V g bA (gw e f j bad m 5 at_ told sv):=x;have R:=Z.trans ab;refine⟨R,G,w0,e,I,gs,sv,L,J,f,j,bad,m,5,at_,told,h1,K.trans R,M,x,O,P,?_⟩;cases so with
   |none=>cases Y
   |some s=>
    obtain⟨y,z,S,A,C⟩:=r;exact⟨y,z,⟨λ_=>by show (s.big||b)=true;rw[X,Bool.or_true],λ_=>Ω⟩,λaG=>A (T4.1 aG).1,C⟩
  .cases so with
   |none=>exact r
   |some s=>
    obtain⟨y,z,S,A,C⟩:=r;refine⟨y,z,?_,λaG=>A (T4.1 aG).1,C⟩;show big≠0↔(s.big||b)=true;cases b with
    |false=>rw[Bool.or_false];exact S
    |true=>
     have a:big≠0:=by simpa using ae
     simp[a]
 .intro ay E;cases b with
  |false=>rw[aY];exact E _ _ ⟨rfl,Ξ⟩
  |true=>
   rw[bQ,aO bA.p 5 q rfl,bh,al];refine⟨λa=>?_,λa=>E _ _ ⟨rfl,by rw[decide_eq_false a];simp⟩⟩;rw[k3 h];exact E _ _ ⟨rfl,by rw[decide_eq_true a];simp⟩
def jf (so:Option aD):Option (Λ×aD):=so.bind dL
theorem Dd {g:Nat} {H:ak} {so:Option aD} (h:bH w g B H N so):am x7 Gu [Γ g] w λv w'=>ph w g B H N ((jf so).map (·.2)) w'/\ ∃ (t:Λ) (n:Int),v= .agg #[bN t,Δ n]/\Bytes t/\t.length<=65536/\ ∀q,jf so=σ q->t=q.1:=by
 have aF:=h.lt;refine az func84 ?_;refine bG cj.i λa U bk m y=>?_;have h1:=h.ext m;have zero:∀ {f:x3},ph U g B H N ν f->af f a cj [.string ⟨#[]⟩,Δ 0]->jf so=ν->(aa x7 (Instr.build cj #[]) f λt9=>
   aC x7 (o6 cj (Γ a) t9) f λ(_:Unit) V=>
   aa x7 (do loadVar cj (<-asAddr (Γ a))) V λaG=>(λv w'=>ph w g B H N ((jf so).map (·.2)) w'/\ ∃ (t:Λ) (n:Int),v= .agg #[bN t,Δ n]/\Bytes t/\t.length<=65536/\ ∀q,jf so=σ q->t=q.1) aG V):=by
  intro f j G O;rw[dn (cs:=#[.string ⟨#[]⟩,Δ 0]) Ψ];refine ck (vs:=[.string ⟨#[]⟩,Δ 0]) cj.i rfl rfl (by intro v ac;simp at ac;rcases ac with rfl|rfl<;>rfl) G λaH X bl aI=>?_;rw[fO cj.p cj.i rfl aI.range,O];have aJ:=m.size;have bm:=aF;refine⟨⟨hp ((m.ab _).trans j.1) X λr e he=>?_,j.2.new X λr e=>?_⟩,[],0,rfl,(λb aK=>by cases aK),Ξ,λq P=>by cases P⟩
  .have he:r=a:=he;omega
  .have e:r=a:=e;omega
 rw[qM h1];cases so with
 |none=>
  rw[S6,W5,bQ];exact zero ⟨ah.refl _ _,h1⟩ y rfl
 |some s=>
 rw[T8,Y7,aY];obtain⟨aL,w0,bn,Q,gs,sv,L,Y,Z,ad,bad,ae,big,ag,told,aM,ai,aj,z,I,aN,aP⟩:=id h1;have aQ:=I.g ai aj;obtain⟨⟨J,bo⟩,_⟩:=id aQ;obtain⟨aR,an,aS,aT,aU,ao,ap,aV,aX⟩:=id aP;rw[aO bA.p 0 z rfl,Db J,bh,al];refine⟨λaq=>?_,λaq=>?_⟩
 .have aZ:Q=[]:=c8 Ω;have A:s.toks=[]:=by rw[<-ao,aZ];rfl
  have O:jf (σ s)=ν:=by show dL s=ν;unfold dL;rw[A]
  intro f K _ _;have G:=z.ext K;rw[aO bA.p 2 G rfl,aO bA.p 1 G rfl];refine (nS (h1.ext K) an).mono ?_;rintro _ aH _ j;have a1:=y.lt;exact zero ⟨(K.ab _).trans j.1,j.2⟩ ((y.ext K).ab j.1 λhe=>by have he:a=g:=he;omega) O
 .obtain⟨x,C,rfl⟩:∃x l,Q=x::l:=by
   cases Q with
   |nil=>exact absurd rfl aq
   |cons x l=>exact⟨x,l,rfl⟩
  have A:s.toks=x.1::C.map (·.1):=by rw[<-ao];rfl
  have a2:jf (σ s)=σ (x.1,{s with toks:=C.map (·.1)}):=by show dL s=_;unfold dL;rw[A]
  have au:=ap x.1 (by rw[A];exact .head _);rw[aO bA.p 0 z rfl];refine Dc J λb o a6=>?_;rw[bO cj.p cj.i rfl a6];refine bG cj.i λav bp bq a7 a8=>?_;refine ck (vs:=fI x) cj.i rfl rfl (wB x) a8 λba bb br aw=>?_;have M:Ext U ba:=a7.put bb Ω;have ax:=z.ext M;rw[aO bA.p 0 ax rfl];refine NE (J.ab (M.ab λ_=>False) λ_ _ h=>h) λR ay bc=>?_;have aA:=ay U J;rw[bS,aW bA.p rfl];refine bt (g:=g) (o:=0) fd.i (eH aA).1 (eH aA).2 ax (by simp[gw]) λE S bu W=>?_;have W:af E g bA (gw R Z ad bad ae big ag told sv):=W;have a1:=z.lt;have bw:=aw.lt;have bx:=y.lt;have aJ:=m.size;have bd:af E av cj (fI x):=aw.ab S λhe=>by have he:av=g:=he;omega
  rw[bO cj.p cj.i rfl bd.range];have be:af E a cj [.string ⟨#[]⟩,Δ 0]:=(af.ext y M).ab S λhe=>by have he:a=g:=he;omega
  refine ck (vs:=fI x) cj.i rfl rfl (wB x) be λbz aB bB bf=>?_;rw[fO cj.p cj.i rfl bf.range];have aE:ah (λr=>r=g) U E:=(M.ab _).trans S;rw[a2];refine⟨⟨hp ((m.ab _).trans aE) aB λr e he=>?_,?_⟩,x.1,x.2,rfl,au.1,au.2,λq P=>by cases P;rfl⟩
  .have he:r=a:=he;omega
  .have bg:lV w0 R C gs sv L Y:=⟨⟨ay w0 I.1.1,λr e=>I.1.2 r (bc r e)⟩,I.2⟩;have bi:bH E g B H N (σ {s with toks:=C.map (·.1)}):=⟨aL,w0,R,C,gs,sv,L,Y,Z,ad,bad,ae,big,ag,told,aM,ai.trans aE,aj,W,bg,aN,aR,an,aS,aT,aU,rfl,λt bj=>ap t (by rw[A];exact .tail _ bj),aV,by simp at aX;omega⟩;refine bi.new aB λr e=>?_;have e:r=a:=e;omega
theorem NJ {lo hi:Int} {so:Option aD}:bb lo hi so=match jf so with
  |none=>ν
  |some (w,s)=>match gl w with
   |none=>ν
   |some n=>if lo<=n/\n<=hi then σ (n,s) else ν:=by
 cases so with
 |none=>rfl
 |some s=>rfl
theorem kk {g:Nat} {H:ak} {so:Option aD} {lo hi:Int} (h:bH w g B H N so):am x7 lv [Γ g,Δ lo,Δ hi] w λv w'=>ph w g B H N ((bb lo hi so).map (·.2)) w'/\ ∃n at_:Int,v= .tuple #[Δ n,Δ at_]/\(∀q,bb lo hi so=σ q->n=q.1)/\(bb lo hi so=ν->n=0):=by
 have ax:=h.lt;refine az func86 ?_;refine (Dd h).mono ?_;rintro _ U _ ⟨⟨M,h1⟩,t,at_,rfl,X,aA,O⟩;have aB:=h1.lt;refine bG cj.i λY V aC Z aa=>?_;refine ck (vs:=[bN t,Δ at_]) cj.i rfl rfl (by intro v ac;simp at ac;rcases ac with rfl|rfl<;>rfl) aa λad ae aE P=>?_;have Q:Ext U ad:=Z.put ae Ω;have af:=h1.ext Q;rw[aT cj.p 0 P rfl];refine (NB X Ω).mono ?_;rintro _ C _ ⟨rfl,E⟩;have G:=af.ext E;have R:=P.ext E;have ag:=Q.trans E;have aF:=M.size;obtain⟨n,e,ai,I,aj⟩:∃n e:Int,j8 t= .tuple #[Δ n,Δ e]/\(∀m,gl t=σ m->n=m/\e=0)/\(gl t=ν->e≠0):=by
  unfold j8;cases gl t with
  |none=>exact⟨0,4,rfl,(λm hm=>by cases hm),λ_=>Ω⟩
  |some m=>exact⟨m,0,rfl,(λm hm=>by cases hm;exact⟨rfl,rfl⟩),λh=>by cases h⟩
 rw[ai,bi,bj];have a:=NJ (lo:=lo) (hi:=hi) (so:=so);have S:ah (λr=>r=g) w C:=M.trans (ag.ab _);refine dh (λx=>ah (λr=>r=g) C x/\bH x g B H N ((bb lo hi so).map (·.2))) ?_ ?_
 .rintro x ⟨y,s⟩;rw[qM s];cases z:bb lo hi so with
  |none=>
   rw[z] at s;rw[Option.map_none,S6,W5,bQ];exact⟨⟨S.trans y,s⟩,0,0,rfl,(λq z=>by cases z),λ_=>rfl⟩
  |some q=>
   rw[z] at s a;rw[Z3,T8,Y7,aY];intro aH J _ _;have an:=(R.ab y λhe=>by have he:Y=g:=he;omega).ext J;rw[aT cj.p 1 an rfl];refine⟨⟨(S.trans y).trans (J.ab _),s.ext J⟩,n,at_,rfl,λaI ao=>?_,λh=>by cases h⟩;cases ao;cases j:jf so with
   |none=>rw[j] at a;cases a
   |some p=>
    obtain⟨bw,K⟩:=p;have L:=O (bw,K) j;subst L;rw[j] at a;simp only at a;cases f:gl t with
    |none=>rw[f] at a;cases a
    |some m=>
     rw[f] at a;simp only at a;split at a
     .cases a;exact (I m f).1
     .cases a
 .intro ay W;refine aV (λv x=>C=x/\ ∃c:Bool,v= .bool c/\(c=true->bb lo hi so=ν)/\(c=false->(bb lo hi so).map (·.2)=(jf so).map (·.2))) ?_ ?_
  .rintro _ _ ⟨rfl,c,rfl,ap,aq⟩;rw[cb];refine⟨λh=>?_,λh=>W _ ⟨ah.refl _ _,by rw[aq h];exact G⟩⟩;rw[aT cj.p 1 R rfl];refine (nS G Ω).mono ?_;rintro _ x _ ⟨y,s⟩;exact W _ ⟨y,by rw[ap h];exact s⟩
  .intro aJ A;rw[k3 G];cases j:jf so with
   |none=>
    rw[j] at a;simp only at a;rw[Option.map_none,S6,aY];exact A _ _ ⟨rfl,false,rfl,(λh=>by cases h),λ_=>by rw[a,j];rfl⟩
   |some p=>
    obtain⟨bw,K⟩:=p;have L:=O (bw,K) j;subst L;rw[j] at a;simp only at a;rw[Z3,T8,bQ,bz,al];refine⟨λhe=>?_,λhe=>?_⟩
    .refine A _ _ ⟨rfl,true,rfl,λ_=>?_,λh=>by cases h⟩;cases f:gl t with
     |none=>rw[a,f]
     |some m=>exact absurd (I m f).2 he
    .have au:e=0:=Z9.1 he;cases f:gl t with
     |none=>exact absurd au (aj f)
     |some m=>
      rw[f] at a;simp only at a;have av:=(I m f).1;subst av;rw[aN,al];refine⟨λaw=>A _ _ ⟨rfl,true,rfl,λ_=>by rw[a,if_neg Ω],λh=>by cases h⟩,λaw=>?_⟩;rw[bR];refine A _ _ ⟨rfl,_,rfl,λaG=>?_,λaG=>?_⟩
      .rw[a,if_neg (by have:=of_decide_eq_true aG;omega)]
      .rw[a,if_pos (by have:=of_decide_eq_false aG;omega),j];rfl
theorem wF {ba bv:x1} {a b:Λ} (e:aF .i64 w ba a) (q:aF .i64 w bv b):am x7 rL [ba,bv] w λv w'=>v= .bool (decide (a=b))/\Ext w w':=by
 refine az func147 ?_;rw[aU ax.u e,aU ax.u q,bz,al];refine⟨λh=>⟨by rw[decide_eq_false];intro he;rw[he] at h;exact h rfl,Ext.refl _⟩,λh=>?_⟩;have r:a.length=b.length:=by have:=Z9.1 h;omega
 rw[aU ax.u e];refine bX.range a.length (λi _ U=>Ext w U/\a.take i=b.take i) e.le ⟨Ext.refl _,rfl⟩ ?_ ?_
 .rintro i _ U k hi ⟨m,f⟩ hk;obtain⟨x,I⟩:=aH (l:=a) hi;obtain⟨y,p⟩:=aH (l:=b) (i:=i) Ω;refine bE Ω ?_;intro V s _ _;have j:=m.trans s;rw[be ax.u ap.i Ψ (e.ext j) I,be ax.u ap.i Ψ (q.ext j) p,bz,al];refine⟨λz=>⟨by rw[decide_eq_false];intro he;rw[he,p] at I;exact z (j6 I).symm,j⟩,λhe=>?_⟩;rw[aM];refine hk _ _ ⟨j,?_⟩;rw[u9,u9,f,I,p,Z9.1 he]
 .rintro _ U k ⟨m,f⟩;rw[aN,al];refine⟨λh=>Ω,λ_=>⟨?_,m⟩⟩;rw[o5,r,o5] at f;rw[decide_eq_true f]
def ha (w:x3) (B a:Nat) (x:cv):Prop:=∃aP szv b0 g1 e f,af w a a1 [aP,szv,Δ x.other,b0]/\au .i64 ap w g1 aP x.scope/\au .i64 ap w e szv x.sizes/\kj w f b0 x.lines/\(∀r,leads aP r\/leads szv r->B<=r)/\(∀r,leads aP r->¬leads szv r)/\B<=a
def De (w:x3) (r:Nat):Prop:=(∃e c,af w r e c/\e≠ap/\e≠b3/\e≠a1)\/w.heap.size<=r
theorem ha.dF {f:Nat} {x:cv} (h:ha w B f x) (a:ah S w w') (p:∀r,S r->De w r):ha w' B f x:=by
 obtain⟨aP,szv,b0,g1,q,s,h1,y,z,A,C,E,F⟩:=h;have j:∀r,S r->gZ w r\/w.heap.size<=r:=λr G=>(p r G).imp (λ⟨e,c,m,H,I,_⟩=>⟨e,c,m,H,I⟩) id;refine⟨aP,szv,b0,g1,q,s,h1.ab a λJ=>?_,ew y a j,ew z a j,A.dF a j,C,E,F⟩;rcases p f J with⟨e,c,m,_,_,K⟩|L
 .exact K (fa m h1)
 .have:=h1.lt;omega
theorem ha.ext {x:cv} (h:ha w B a x) (I:Ext w w'):ha w' B a x:=h.dF (I.ab λ_=>False) λ_ h=>h.elim
theorem kl {g:Nat} {H:ak} {so:Option aD} (h:bH w g B H N so):∀r,r=g->De w r:=λr a=>by
 subst a;obtain⟨f,j,m,bad,p,big,q,told,sv,e,_⟩:=hM h;exact .inl ⟨_,_,e,Φ,Φ,Φ⟩
def gL (g B:Nat):ak:=λr=>r=g\/B<=r
theorem NK {n:Int} {acc:Λ} {s:aD}:cN (λacc s=>match bf 0 (n-1) s with
 |none=>ν
 |some (v,s)=>if v∈acc then ν else σ (v,s)) (k+1) acc s=match bf 0 (n-1) s with
  |none=>ν
  |some (v,s')=>if v∈acc then ν else cN (λacc s=>match bf 0 (n-1) s with
 |none=>ν
 |some (v,s)=>if v∈acc then ν else σ (v,s)) k (acc++[v]) s':=by
 rw[cN];cases bf 0 (n-1) s with
 |none=>rfl
 |some q=>
  obtain⟨v,s'⟩:=q;simp only;by_cases ac:v∈acc
  .rw[if_pos ac,if_pos ac]
  .rw[if_neg ac,if_neg ac]
def Df (n:Int) (k:Nat) (acc:Λ) (s:aD):Option (Λ×aD):=cN (λacc s=>match bf 0 (n-1) s with
 |none=>ν
 |some (v,s)=>if v∈acc then ν else σ (v,s)) k acc s
theorem Dg {g f ar:Nat} {H:ak} {s:aD} {so:Option aD} {Z:x1} {aL aO:x3->Prop} (aG:bH w g B H N so) (b3:so=σ s\/(so=ν/\ar=0)) (b5:ha w B f ⟨[],[],0,[]⟩) (b7:∀c,af w f a1 c->c[3]? =σ (.slice ν 0 0)) (bF:au .i64 ap w gz Z all) (b9:∀r,leads Z r->r<B) (dl:all.length<=100001) (dm:ar<=4611686018427387904) (aQ:so=σ s->s.toks.length<=100000)
  (ao:so=σ s-> ∀w' x,ah (gL g B) w w'->eZ all.length ar s=ν->bH w' g B H N ν->ha w' B f x->aL w')
  (ca:so=ν->aO w)
  (aR:so=σ s-> ∀w' scope s',ah (gL g B) w w'->eZ all.length ar s=σ (scope,s')->bH w' g B H N (σ s')->ha w' B f ⟨scope,scope.map λv=>all.getD v.toNat 0,0,[]⟩->(∀c,af w' f a1 c->c[3]? =σ (.slice ν 0 0))->aO w'):
  ch (Δ 0) w λi m k=>
   cu (α:=x1->x3->Prop) (λ(cb:x1) (K:x3)=>
    Split cb (aa x7 (W6 #[ax] ai #[Z]) K λt53=>
   aa x7 (aJ .sub ap false true t53 (Δ 1)) K λcc=>
   am x7 lv [Γ g,(Δ 0),cc] K λt55 z=>
   aa x7 (Z4 t55 0) z λaS=>
   aa x7 (Z4 t55 1) z λcd=>
   aa x7 (bK (Γ g)) z λce=>
   aa x7 (u5 bA ce 3) z λcg=>
   aa x7 (u4 ai cg) z λci=>
   aa x7 (aJ .neq ai false true ci (Δ 0)) z λcj=>
   Split cj (aL z)
    (aa x7 (u5 a1 (Γ f) 0) z λck=>
   aa x7 (u4 ax ck) z λbG=>
   aa x7 (W6 #[ax] ai #[bG]) z λt66=>
   ch (Δ 0) z λaX C cl=>
    aa x7 (aJ .lss ai false false aX t66) C λcm=>
    Split cm (aa x7 (j5 ax bG aX) C λcn=>
    aa x7 (u4 ap cn) C λt70=>
    aa x7 (aJ .eql ap false false t70 aS) C λcp=>
    Split cp (am x7 m8 [Γ g,(Δ 4),cd] C λt76 aZ=>aL aZ)
     (aa x7 (aJ .add ai false true aX (Δ 1)) C λcq=>
    cl cq C))
     (aa x7 (u5 a1 (Γ f) 0) C λcr=>
   aa x7 (u4 ax cr) C λct=>
   aC x7 (Y0 ax 1 #[(0,aS)]) C λcw ad=>
   aC x7 (b8 #[ax,ax] ax #[ct,cw]) ad λcz a2=>
   aa x7 (u5 a1 (Γ f) 0) a2 λcA=>
   aC x7 (o6 ax cA cz) a2 λ(_:Unit) P=>
   en P λR=>
   aa x7 (u5 a1 (Γ f) 1) R λa6=>
   aa x7 (u4 ax a6) R λbI=>
   aa x7 (j5 ax Z aS) R λcB=>
   aa x7 (u4 ap cB) R λcD=>
   aC x7 (Y0 ax 1 #[(0,cD)]) R λcE Y=>
    (Ext R Y\/cC x7 (u4 ax a6) bI Y/\cC x7 (u5 a1 (Γ f) 1) a6 Y/\True)/\
   aC x7 (b8 #[ax,ax] ax #[bI,cE]) Y λcF a7=>
    aa x7 (u5 a1 (Γ f) 1) a7 λcG=>
    aC x7 (o6 ax cG cF) a7 λ(_:Unit) S=>
     aa x7 (aJ .add ap false true i (Δ 1)) S λcH=>
   k cH S)))
     (aO K)) λbJ=>
   aa x7 (aJ .lss ap false false i (Δ (ar:Int))) m λcI=>
   Split cI (aa x7 (bK (Γ g)) m λcJ=>
   aa x7 (u5 bA cJ 3) m λcK=>
   aa x7 (u4 ai cK) m λt45=>
   aa x7 (aJ .eql ai false true t45 (Δ 0)) m λt46=>
   bJ t46 m)
    (bJ (.bool false) m):=by
 have dn:=aG.lt;rcases b3 with rfl|⟨rfl,rfl⟩
 rotate_left
 .refine ch.range 0 (λ_ U=>w=U) Ω rfl (λi U k hi=>Ω) ?_;rintro _ k rfl;refine aV (λv K=>w=K/\v= .bool false) ?_ ?_
  .rintro _ _ ⟨rfl,rfl⟩;rw[aY];exact ca rfl
  .intro ay ae;rw[aN,al];exact⟨λh=>Ω,λ_=>ae _ _ ⟨rfl,rfl⟩⟩
 have h:=aG;have aQ:=aQ rfl;have ao:=ao rfl;have aR:=aR rfl;refine ch.range ar (λi m=>∃scope M,ah (gL g B) w m/\bH m g B H N (σ M)/\ha m B f ⟨scope,scope.map λv=>all.getD v.toNat 0,0,[]⟩/\scope.length=i/\scope.length+M.toks.length<=100000/\eZ all.length ar s=Df all.length (ar-i) scope M/\ ∀c,af m f a1 c->c[3]? =σ (.slice ν 0 0)) Ω ⟨[],s,ah.refl _ _,h,b5,rfl,by simpa using aQ,rfl,b7⟩ ?_ ?_
 rotate_left
 .rintro m k ⟨scope,M,aq,Q,av,bL,cL,A,a8⟩;refine aV (λv K=>m=K/\v= .bool false) ?_ ?_
  .rintro _ _ ⟨rfl,rfl⟩;rw[aY];rw[V6] at A;exact aR m scope M aq A Q av a8
  .intro ay ae;rw[aN,al];exact⟨λh=>Ω,λ_=>ae _ _ ⟨rfl,rfl⟩⟩
 rintro i m k hi ⟨scope,M,aq,Q,av,bL,cL,A,a8⟩ hk;refine aV (λv K=>m=K/\v= .bool true) ?_ ?_
 rotate_left
 .intro ay ae;refine bE Ω ?_;rw[k3 Q];exact ae _ _ ⟨rfl,rfl⟩
 rintro _ _ ⟨rfl,rfl⟩;rw[bQ];have bN:∀ {w':x3},ah (gL g B) w w'->au .i64 ap w' gz Z all:=λcM=>bp bF cM λr e J=>by
  rcases J with rfl|J
  .obtain⟨cN,E,ag,bad,cO,big,cP,told,sv,G,_⟩:=hM h;exact b4 bF G Φ e rfl
  .have:=b9 r e;omega
 rw[aU ax.u (bN aq).ls,dJ,wrap_i64 Ω Ω];refine (kk Q).mono ?_;rintro _ z _ ⟨⟨ba,I⟩,n,at_,rfl,bc,cR⟩;rw[bi,bj,qM I];have bd:=av.dF ba (kl Q);have bg:ah (gL g B) w z:=aq.trans (ba.mono λr _ h=>.inl h);have cS:=NK (n:=(all.length:Int)) (k:=ar-(i+1)) (acc:=scope) (s:=M);have cT:ar-i=(ar-(i+1))+1:=Ω
 rw[cT] at A;unfold Df at A;rw[cS] at A;have cU:bb 0 ((all.length:Int)-1) (σ M)=bf 0 ((all.length:Int)-1) M:=rfl;rw[cU] at I bc cR ⊢;cases aw:bf 0 ((all.length:Int)-1) M with
 |none=>
  rw[aw] at I A;rw[Option.map_none,S6,W5,bQ];exact ao z _ bg A I bd
 |some q=>
  obtain⟨v,bk⟩:=q;rw[aw] at I A bc;have cV:n=v:=bc _ rfl;subst cV;have dp:=(hJ aw).1;have dq:=(dB aw).1;simp only at A;rw[Z3,T8,Y7,aY];have I:bH z g B H N (σ bk):=I;obtain⟨aP,szv,b0,g1,cW,bl,f1,f2,f3,f4,f5,f6,f7⟩:=id bd;rw[aT a1.p 0 f1 rfl,aU ax.u f2.ls];have dr:scope.length<=100000:=Ω
  refine ch.range scope.length (λj C=>z=C/\n∉scope.take j) Ω ⟨rfl,Ξ⟩ ?_ ?_
  .rintro j _ cX cY ⟨rfl,az⟩ cZ;obtain⟨u,hu⟩:=aH (l:=scope) cY;rw[aN,al];refine⟨λ_=>?_,λh=>by simp only at h;omega⟩;rw[be ax.u ap.i Ψ f2.ls hu,bh,al];refine⟨λhe=>?_,λc0=>?_⟩
   .refine (nS I Ω).mono ?_;rintro _ aZ _ ⟨bO,c1⟩;rw[if_pos (by rw[<-he];exact x5 hu)] at A;exact ao aZ _ (bg.trans (bO.mono λr _ h=>.inl h)) A c1 (bd.dF bO (kl I))
   .rw[aM];refine cZ _ ⟨rfl,?_⟩;rw[u9,hu];intro hm;rcases o7.1 hm with hm|hm
    .exact az hm
    .simp at hm;exact c0 hm.symm
  .rintro _ cX ⟨rfl,az⟩;rw[o5] at az;rw[aN,al];refine⟨λh=>by simp only at h;omega,λ_=>?_⟩;rw[if_neg az] at A;rw[aT a1.p 0 f1 rfl];refine eo ax.u ap.i rfl λds dt ad du O c2=>?_;have dv:=I.lt;refine gX ax.u ap.i rfl (f2.ext O) c2.ls Θ Θ λV bm a2 aA c3 bP=>?_;have aB:=f1.ext O;have f113:=aB.ab bP λhe=>b4 (f2.ext O) aB Φ he rfl;rw[aW a1.p rfl];refine bt (g:=f) (o:=0) ax.i aA.ls.cells.1 aA.ls.cells.2 f113 Ξ λP bR dw aE=>?_;have aE:af P f a1 [V,szv,Δ 0,b0]:=aE;intro R bn _ _;have aj:ah (λr=>leads aP r\/r=f) ad P:=(bP.mono λr _ h=>.inl h).trans (bR.mono λr _ h=>.inr h);have bS:∀r,(leads aP r\/r=f)->gL g B r:=λr e=>.inr (e.elim (λe=>f5 r (.inl e)) λe=>e▸f7);have bT:ah (gL g B) w P:=(bg.trans (O.ab _)).trans (aj.mono λr _ e=>bS r e);have c4:ah (gL g B) w R:=bT.trans (bn.ab _);have c5:au .i64 ap P cW szv _:=bp (f3.ext O) aj λr e J=>by
    rcases J with J|rfl
    .exact f6 r J e
    .exact b4 (f3.ext O) aB Φ e rfl
   have c6:au .i64 ap P bm V (scope++[n]):=bp aA bR λr e he=>by
    have he:r=f:=he;subst he;exact b4 aA f113 Φ e rfl
   have c7:∀r,(leads aP r\/r=f)->(∃c,af ad r ap c)\/ ∃c,af ad r a1 c:=λr e=>by
    rcases e with e|rfl
    .obtain⟨E,_⟩:=bM f2 e;obtain⟨_,⟨ac,_⟩|⟨_,cs,ac,G,_⟩⟩:=f2.ext O
     .rw[ac] at e;obtain⟨a,c8,c,E,ag⟩:=e;cases E
     .exact .inl ⟨cs,E▸G⟩
    .exact .inr ⟨_,aB⟩
   have c9:kj P bl b0 []:=by
    obtain⟨L,W,da,bo⟩:=f4.dF (O.ab λ_=>False) λ_ h=>h.elim;have bq:L=[]:=List.map_eq_nil_iff.1 bo;subst bq;refine⟨[],W.ab aj λr e J=>?_,λy br=>(by cases br),rfl⟩;rcases c7 r J with⟨c,G⟩|⟨c,G⟩
    .exact cQ W G Φ e
    .exact cQ W G Φ e
   have db:bH P g B H N (σ bk):=(I.ext O).new aj λr e=>by
    rcases bS r e with rfl|h
    .rcases e with e|e
     .exact f5 _ (.inl e)
     .exact e▸f7
    .exact h
   rw[aT a1.p 1 (aE.ext bn) rfl];have dc:all[n.toNat]? =σ (all.getD n.toNat 0):=by rw[v8,x6 Ω];rfl
   rw[fx (y:=n) (i:=n.toNat) Ω ax.u ap.i Ψ (bN c4).ls dc];refine eo ax.u ap.i rfl λdx dy Y dz bU dd=>?_;refine⟨.inl bU,?_⟩;have X:=bn.trans bU;have f316:=c5.ext X;have bV:(scope.map λv=>all.getD v.toNat 0).length=scope.length:=u7 _;refine gX ax.u ap.i rfl f316 dd.ls (by simp at bV ⊢;omega) (by simp at bV ⊢;omega) λbu de a7 aF bW bX=>?_;have aI:=aE.ext X;have bY:=aI.ab bX λhe=>b4 f316 aI Φ he rfl;rw[aW a1.p rfl];refine bt (g:=f) (o:=1) ax.i aF.ls.cells.1 aF.ls.cells.2 bY Ξ λS bZ dA an=>?_;have an:af S f a1 [V,bu,Δ 0,b0]:=an;rw[aM];have aK:ah (λr=>leads szv r\/r=f) Y S:=(bX.mono λr _ h=>.inl h).trans (bZ.mono λr _ h=>.inr h);have b1:∀r,(leads szv r\/r=f)->B<=r:=λr e=>e.elim (λe=>f5 r (.inr e)) λe=>e▸f7;have bw:=c6.ext X;have dC:=O.size;have dD:=aj.size;have bx:∀r,leads V r->B<=r/\¬leads szv r:=λr e=>by
    rcases c3 r e with h|h
    .exact⟨f5 r (.inl h),f6 r h⟩
    .exact⟨Ω,λbz=>by obtain⟨E,ag⟩:=bM f3 bz;omega⟩
   have df:au .i64 ap S bm V (scope++[n]):=bp bw aK λr e J=>by
    rcases J with J|rfl
    .exact (bx r e).2 J
    .exact b4 bw aI Φ e rfl
   have dg:=bp aF bZ λr e he=>by
    have he:r=f:=he;subst he;exact b4 aF bY Φ e rfl
   have dh:kj S bl b0 []:=by
    obtain⟨L,W,da,bo⟩:=c9.dF (X.ab λ_=>False) λ_ h=>h.elim;have bq:L=[]:=List.map_eq_nil_iff.1 bo;subst bq;refine⟨[],W.ab aK λr e J=>?_,λy br=>(by cases br),rfl⟩;rcases J with J|rfl
    .obtain⟨E,_⟩:=bM f316 J;obtain⟨_,⟨ac,_⟩|⟨_,cs,ac,G,_⟩⟩:=f316
     .rw[ac] at J;obtain⟨a,c8,c,E,ag⟩:=J;cases E
     .exact cQ W (E▸G) Φ e
    .exact cQ W aI Φ e
   refine hk _ ⟨scope++[n],bk,((bT.trans (X.ab _)).trans (aK.mono λr _ e=>.inr (b1 r e))),(db.ext X).new aK b1,⟨V,bu,b0,bm,de,bl,an,df,by rw[b6];exact dg,dh,λr e=>?_,λr e bz=>?_,f7⟩,by rw[p9,bL];rfl,by rw[p9];simp;omega,A,λc bB=>?_⟩
   .rcases e with e|e
    .exact (bx r e).1
    .rcases bW r e with h|h
     .exact f5 r (.inr h)
     .have:=X.size;omega
   .rcases bW r bz with h|h
    .exact (bx r e).2 h
    .obtain⟨E,ag⟩:=bM bw e;omega
   .have di:c=[V,bu,Δ 0,b0]:=by
     unfold af at bB an;rw[an] at bB;have:=(Obj.cells.inj (j6 bB)).1;exact (Array.toList_inj.2 this).symm
    have dj:b0= .slice ν 0 0:=by
     obtain⟨dE,dG,dH,_,_,_,bC,_⟩:=av;have b2:=a8 _ bC;have bD:=bC.ab ba λhe=>by
      have he:f=g:=he;obtain⟨cN,E,ag,bad,cO,big,cP,told,sv,G,_⟩:=hM Q;subst he;exact absurd (fa G bC) Φ
     unfold af at bD f1;rw[f1] at bD;have dk:=Array.toList_inj.2 (Obj.cells.inj (j6 bD)).1;have Q:=congrArg (λl=>l[3]?) dk;simp at Q;simp at b2;rw[Q,b2]
    rw[di,dj];rfl
theorem NL {s:x1->x3->Prop} (h:aF .i64 w sv l) (h1:∀z∈l,1<=z) (H:∀c:Int,(4096<c↔dq l=true)->s (Δ c) w):
  bX (Δ 1) (Δ 0) w λx m a I=>
   aa x7 (aJ .lss ai false false m (Δ (l.length:Int))) a λJ=>
   Split J (cu (α:=x1->x3->Prop) (λ(K:x1) (y:x3)=>
    aa x7 (aJ .add ai false true m (Δ 1)) y λL=>
    I K L y) λA=>
   aa x7 (j5 ax sv m) a λM=>
   aa x7 (u4 ap M) a λB=>
   cu (α:=x1->x3->Prop) (λ(N:x1) (f:x3)=>
    aa x7 (aJ .mul ap false false x N) f λC=>
    aa x7 (aJ .gtr ap false true C (Δ 4096)) f λO=>
    Split O (A (Δ 4097) f)
     (A C f)) λE=>
   aa x7 (aJ .gtr ap false true B (Δ 4096)) a λP=>
   Split P (E (Δ 4097) a)
    (E B a))
    (s x a):=by
 refine bX.range l.length (λi c U=>w=U/\ ∃p:Int,p=aK ((l.take i).map λk=>min k 4097)/\1<=p/\c=Δ (if 4096<p then 4097 else p)) h.le ⟨rfl,1,by simp[aK],Ω,by rw[if_neg Ω]⟩ ?_ ?_
 .rintro i _ _ Q hi ⟨rfl,p,j,R,rfl⟩ S;obtain⟨z,q⟩:=aH (l:=l) hi;have X:=h1 z (x5 q);have e:aK ((l.take (i+1)).map λk=>min k 4097)=p*min z 4097:=by
   rw[j,u9,q,l7,b6,U6,List.map_nil,Bf]
  have Y:p*1<=p*min z 4097:=Int.mul_le_mul_of_nonneg_left Ω Ω;refine bE Ω ?_;refine aV (λv V=>w=V/\v=Δ (if 4096<p*min z 4097 then 4097 else p*min z 4097)) ?_ ?_
  .rintro _ _ ⟨rfl,rfl⟩;rw[aM];exact S _ _ ⟨rfl,_,e.symm,Ω,rfl⟩
  intro ay r;rw[be ax.u ap.i Ψ h q];refine aV (λv V=>w=V/\v=Δ (min z 4097)) ?_ ?_
  .rintro _ _ ⟨rfl,rfl⟩;rw[gE];by_cases F:4096<p
   .rw[if_pos F];have W:(4097:Int)*1<=4097*min z 4097:=Int.mul_le_mul_of_nonneg_left Ω Ω;rw[wrap_i64 Ω Ω,bR,al];refine⟨λ_=>r _ _ ⟨rfl,by rw[if_pos Ω]⟩,λZ=>Ω⟩
   .rw[if_neg F];have W:p*min z 4097<=4096*4097:=by
     have ab:=Int.mul_le_mul_of_nonneg_right (show p<=4096 by omega) (show 0<=min z 4097 by omega);have ac:=Int.mul_le_mul_of_nonneg_left (show min z 4097<=4097 by omega) (show (0:Int)<=4096 by omega);omega
    rw[wrap_i64 Ω Ω,bR,al];exact⟨λaG=>r _ _ ⟨rfl,by rw[if_pos aG]⟩,λaG=>r _ _ ⟨rfl,by rw[if_neg aG]⟩⟩
  .intro ad G;rw[bR,al];exact⟨λaG=>G _ _ ⟨rfl,by congr 1;omega⟩,λaG=>G _ _ ⟨rfl,by congr 1;omega⟩⟩
 .rintro _ _ Q ⟨rfl,p,j,R,rfl⟩;rw[o5] at j;rw[aN,al];refine⟨λh=>Ω,λ_=>H _ ?_⟩;unfold dq;rw[<-j,decide_eq_true_eq];split
  .exact⟨λ_=>Ω,λ_=>Ω⟩
  .exact Iff.rfl
theorem NM {g aq:Nat} {H:ak} {so:Option aD} {szv:x1} {Z:x3->Prop} (h:bH w g B H N so) (C:au .i64 ap w gz szv sizes) (aF:∀z∈sizes,1<=z/\z<=aw) (bq:sizes.length<=100001)
  (R:af w aq b3 [.slice ν 0 0,Δ 0]) (aG:B<=aq)
  (ac:∀t w' aL gt,t.length=sizes.length->ah (λr=>r=g\/r=aq\/w.heap.size<=r) w w'->af w' aq b3 [aL,Δ 0]->au .i64 ap w' gt aL t->(∀r,leads aL r->w.heap.size<=r)->bH w' g B H N ((e0 sizes [] so).map (·.2))->(∀q,e0 sizes [] so=σ q->t=q.1)->Z w'):
  ch (Δ 0) w λS s aI=>
      aa x7 (aJ .lss ai false false S (Δ (sizes.length:Int))) s λaK=>
      Split aK (aa x7 (j5 ax szv S) s λaN=>
      aa x7 (u4 ap aN) s λaO=>
      aa x7 (aJ .sub ap false true aO (Δ 1)) s λaP=>
      am x7 lv [Γ g,(Δ 0),aP] s λad E=>
      aa x7 (Z4 ad 0) E λaQ=>
      aa x7 (Z4 ad 1) E λbr=>
      aa x7 (u5 b3 (Γ aq) 0) E λaR=>
      aa x7 (u4 ax aR) E λaS=>
      aC x7 (Y0 ax 1 #[(0,aQ)]) E λaU aV=>
      aC x7 (b8 #[ax,ax] ax #[aS,aU]) aV λaX ae=>
      aa x7 (u5 b3 (Γ aq) 0) ae λaY=>
      aC x7 (o6 ax aY aX) ae λ(_:Unit) ag=>
      aa x7 (aJ .add ai false true S (Δ 1)) ag λaZ=>
      aI aZ ag)
       (Z s):=by
 have bu:=R.lt;have bw:=h.lt;refine ch.range sizes.length (λj U=>∃t aL gt f,t.length=j/\ah (λr=>r=g\/r=aq\/w.heap.size<=r) w U/\af U aq b3 [aL,Δ 0]/\au .i64 ap U gt aL t/\(∀r,leads aL r->w.heap.size<=r)/\bH U g B H N f/\e0 sizes [] so=e0 (sizes.drop j) t f) C.ls.le
  ⟨[],_,0,so,rfl,ah.refl _ _,R,au.nil _ _ _ _,(λr e=>by obtain⟨a,n,c,L,W⟩:=e;cases L),h,rfl⟩ ?_ ?_
 rotate_left
 .rintro U a1 ⟨t,aL,gt,f,M,x,O,G,y,I,he⟩;refine cm Ω ?_;rw[List.drop_length] at he;cases f with
  |none=>
   have he:e0 sizes [] so=ν:=he;exact ac t U aL gt M x O G y (by rw[he];exact I) (λq m=>by rw[he] at m;cases m)
  |some f=>
   have he:e0 sizes [] so=σ (t,f):=he;exact ac t U aL gt M x O G y (by rw[he];exact I) (λq m=>by rw[he] at m;cases m;rfl)
 rintro j U a1 aj ⟨t,aL,gt,f,M,x,O,G,y,I,he⟩ a2;obtain⟨z,X⟩:=aH (l:=sizes) aj;have a6:=aF z (x5 X);have bx:z<=4611686018427387904:=a6.2;have a7:au .i64 ap U gz szv sizes:=bp C x λr e J=>by
  rcases J with rfl|rfl|J
  .obtain⟨a8,L,W,bad,ba,big,bc,told,sv,K,_⟩:=hM h;exact b4 C K Φ e rfl
  .exact b4 C R Φ e rfl
  .obtain⟨L,W⟩:=bM C e;omega
 refine bE Ω ?_;rw[be ax.u ap.i Ψ a7.ls X,dJ,wrap_i64 Ω Ω];refine (kk I).mono ?_;rintro _ V _ ⟨⟨P,bd⟩,n,at_,rfl,bf,bz⟩;rw[bi,bj];have bg:aq≠g:=Ω
 have al:=O.ab P λhe=>bg he;have bh:∃c,af U g bA c:=by obtain⟨a8,L,W,bad,ba,big,bc,told,sv,K,_⟩:=hM I;exact⟨_,K⟩
 have an:au .i64 ap V gt aL t:=bp G P λr e he=>by
  have he:r=g:=he;obtain⟨c,K⟩:=bh;exact b4 G K Φ e he
 rw[aT b3.p 0 al rfl];refine eo ax.u ap.i rfl λa3 bB bk bC A bl=>?_;refine gX ax.u ap.i rfl (an.ext A) bl.ls Θ Θ λao bm bD Q bn av=>?_;have ay:=al.ext A;have az:=ay.ab av λhe=>b4 (an.ext A) ay Φ he rfl;rw[aW b3.p rfl];refine bt (g:=aq) (o:=0) ax.i Q.ls.cells.1 Q.ls.cells.2 az Ξ λaA aB bF Y=>?_;have Y:af aA aq b3 [ao,Δ 0]:=Y;rw[aM];have aE:ah (λr=>leads aL r\/r=aq) bk aA:=(av.mono λr _ h=>.inl h).trans (aB.mono λr _ h=>.inr h);have bG:=x.size;have bI:=P.size;have z3:=A.size;refine a2 _ ⟨t++[n],ao,bm,(bb 0 (z-1) f).map (·.2),by simp[M],?_,Y,bp Q aB λr e he=>?_,λr e=>?_,?_,?_⟩
 .refine (x.trans (P.mono λr _ h=>.inl h)).trans ((A.ab _).trans (aE.mono λr _ h=>?_));exact h.elim (λh=>.inr (.inr (y r h))) λh=>.inr (.inl h)
 .have he:r=aq:=he;subst he;exact b4 Q az Φ e rfl
 .rcases bn r e with h|h
  .exact y r h
  .omega
 .refine (bd.ext A).new aE λr e=>?_;rcases e with e|rfl
  .have:=y r e;omega
  .exact aG
 .rw[he];have bo:sizes.drop j=z::sizes.drop (j+1):=by rw[X7 aj,(x4.1 X).2]
  rw[bo,BQ];cases m:bb 0 (z-1) f with
  |none=>rfl
  |some q=>
   obtain⟨v,bJ⟩:=q;have:=bf _ m;subst this;rfl
theorem wG {g:Nat} {t:Λ} {c:Int} (h:au .i64 ap w g v t):∀u∈nR ⟨v,t,c⟩,u.oneCell'=true:=by
 intro u hu;simp[nR] at hu;rcases hu with rfl|rfl
 .exact h.ls.cells.2
 .rfl
def NN (sizes:Λ) (cnt i:Nat) (s0:aD) (A:List (Λ×Int)) (so:Option aD):Prop:=(∃s,so=σ s/\cN (dM sizes) cnt [] s0=cN (dM sizes) (cnt-i) A s/\A.length+s.toks.length<=100000)\/(so=ν/\cN (dM sizes) cnt [] s0=ν)
theorem NO {g G g1 a7 W:Nat} {H:ak} {s0:aD} {aP szv b0:x1} {scope:Λ} {o n:Int} {aB:List (Λ×Int)} {bY:x3->Prop} (h:bH w g B H N (σ s0)) (f1:af w G a1 [aP,szv,Δ o,b0]) (f2:au .i64 ap w g1 aP scope) (f3:au .i64 ap w a7 szv sizes) (f4:kj w W b0 aB)
  (f5:∀r,leads aP r\/leads szv r->B<=r) (f6:∀r,leads aP r->¬leads szv r) (f7:B<=G) (cX:∀z∈sizes,1<=z/\z<=aw) (cY:sizes.length<=100001) (eV:n<=4611686018427387904) (bq:0<n->aB=[]/\ ∀r,¬leadsTo b0 r) (cZ:s0.toks.length<=100000)
  (bZ:∀w' A br,ah (gL g B) w w'->ha w' B G ⟨scope,sizes,o,A⟩->bH w' g B H N br->(n<=0->A=aB/\br=σ s0)->(0<n->br=(cN (dM sizes) n.toNat [] s0).map (·.2)/\ ∀q,cN (dM sizes) n.toNat [] s0=σ q->A=q.1)->bY w'):
  ch (Δ 0) w λb1 ac c0=>
     cu (α:=x1->x3->Prop) (λ(c1:x1) (b2:x3)=>
      Split c1 (aC x7 (R7 b3 true (.tuple #[])) b2 λx X=>
     aa x7 (u5 a1 (Γ G) 1) X λc2=>
     aa x7 (u4 ax c2) X λb5=>
     aa x7 (W6 #[ax] ai #[b5]) X λc3=>
     ch (Δ 0) X λbu ad c4=>
      aa x7 (aJ .lss ai false false bu c3) ad λc5=>
      Split c5 (aa x7 (j5 ax b5 bu) ad λc6=>
      aa x7 (u4 ap c6) ad λc7=>
      aa x7 (aJ .sub ap false true c7 (Δ 1)) ad λc8=>
      am x7 lv [Γ g,(Δ 0),c8] ad λb7 aE=>
      aa x7 (Z4 b7 0) aE λc9=>
      aa x7 (Z4 b7 1) aE λeW=>
      aa x7 (u5 b3 x 0) aE λda=>
      aa x7 (u4 ax da) aE λdb=>
      aC x7 (Y0 ax 1 #[(0,c9)]) aE λdc dd=>
      aC x7 (b8 #[ax,ax] ax #[db,dc]) dd λde b9=>
      aa x7 (u5 b3 x 0) b9 λdf=>
      aC x7 (o6 ax df de) b9 λ(_:Unit) ca=>
      aa x7 (aJ .add ai false true bu (Δ 1)) ca λdg=>
      c4 dg ca)
       (am x7 lv [Γ g,(Δ 0),(Δ 4611686018427387904)] ad λcb C=>
     aa x7 (Z4 cb 0) C λdi=>
     aa x7 (Z4 cb 1) C λdj=>
     aa x7 (u5 a1 (Γ G) 3) C λdk=>
     aa x7 (u4 dU dk) C λcc=>
     aa x7 (W6 #[dU] ai #[cc]) C λdl=>
     ch (Δ 0) C λbx I dm=>
      aa x7 (aJ .lss ai false false bx dl) I λdn=>
      Split dn (cu (α:=x3->Prop) (λ(ao:x3)=>
       aa x7 (aJ .add ai false true bx (Δ 1)) ao λdp=>
       dm dp ao) λcd=>
      aa x7 (j5 dU cc bx) I λdq=>
      aa x7 (u4 b3 dq) I λds=>
      aC x7 (R7 b3 true (.tuple #[])) I λy ce=>
      aC x7 (o6 b3 y ds) ce λ(_:Unit) K=>
      cu (α:=x1->x3->Prop) (λ(dt:x1) (aF:x3)=>
       Split dt (am x7 m8 [Γ g,(Δ 4),dj] aF λeX cg=>
        cd cg)
        (cd aF)) λci=>
      aa x7 (bK (Γ g)) K λdu=>
      aa x7 (u5 bA du 3) K λdv=>
      aa x7 (u4 ai dv) K λdw=>
      aa x7 (aJ .eql ai false true dw (Δ 0)) K λdx=>
      Split dx (aa x7 (u5 b3 x 0) K λdy=>
       aa x7 (u4 ax dy) K λdz=>
      aa x7 (u5 b3 y 0) K λdA=>
      aa x7 (u4 ax dA) K λdC=>
      am x7 rL [dz,dC] K λdD cj=>
      ci dD cj)
       (ci (.bool false) K))
       (aa x7 (u5 b3 x 1) I λdE=>
     aC x7 (o6 ap dE di) I λ(_:Unit) Y=>
     aa x7 (u5 a1 (Γ G) 3) Y λdG=>
     aa x7 (u4 dU dG) Y λdH=>
     aa x7 (u4 b3 x) Y λdI=>
     aC x7 (Y0 dU 1 #[(0,dI)]) Y λdJ a8=>
     aC x7 (b8 #[dU,dU] dU #[dH,dJ]) a8 λdK bz=>
     aa x7 (u5 a1 (Γ G) 3) bz λdL=>
     aC x7 (o6 dU dL dK) bz λ(_:Unit) Z=>
     aa x7 (aJ .add ap false true b1 (Δ 1)) Z λdN=>
     c0 dN Z)))
       (bY b2)) λcl=>
     aa x7 (aJ .lss ap false false b1 (Δ n)) ac λdO=>
     Split dO (aa x7 (bK (Γ g)) ac λdP=>
     aa x7 (u5 bA dP 3) ac λdQ=>
     aa x7 (u4 ai dQ) ac λdR=>
     aa x7 (aJ .eql ai false true dR (Δ 0)) ac λdS=>
     cl dS ac)
      (cl (.bool false) ac):=by
 have dT:=h.lt;refine ch.range n.toNat (λi U=>∃A so b0 W,ah (gL g B) w U/\af U G a1 [aP,szv,Δ o,b0]/\au .i64 ap U g1 aP scope/\au .i64 ap U a7 szv sizes/\kj U W b0 A/\(0<n-> ∀r,leadsTo b0 r->B<=r)/\bH U g B H N so/\(n<=0->A=aB/\so=σ s0)/\(0<n->NN sizes n.toNat i s0 A so)) Ω
  ⟨aB,σ s0,b0,W,ah.refl _ _,f1,f2,f3,f4,λQ r m=>absurd m ((bq Q).2 r),h,λ_=>⟨rfl,rfl⟩,λQ=>.inl ⟨s0,rfl,by rw[(bq Q).1];rfl,by rw[(bq Q).1];simpa using cZ⟩⟩ ?_ ?_
 rotate_left
 .rintro U k ⟨A,so,b0,W,aG,av,ba,aI,aK,bB,ae,cn,E⟩;refine aV (λv V=>U=V/\v= .bool false) ?_ ?_
  .rintro _ _ ⟨rfl,rfl⟩;rw[aY];refine bZ U A so aG ⟨aP,szv,b0,g1,a7,W,av,ba,aI,aK,f5,f6,f7⟩ ae cn λQ=>?_;rcases E Q with⟨s,rfl,he,_⟩|⟨rfl,he⟩
   .rw[V6] at he;rw[he];exact⟨rfl,λq M=>by cases M;rfl⟩
   .rw[he];exact⟨rfl,λq M=>by cases M⟩
  .intro ay bC;rw[aN,al];exact⟨λh=>Ω,λ_=>bC _ _ ⟨rfl,rfl⟩⟩
 rintro i U k hi ⟨A,so,b0,W,aG,av,ba,aI,aK,bB,ae,cn,E⟩ hk;have Q:0<n:=Ω
 refine aV (λv V=>U=V/\v= .bool so.isSome) ?_ ?_
 rotate_left
 .intro ay bC;refine bE Ω ?_;rw[k3 ae];exact bC _ _ ⟨rfl,rfl⟩
 rintro _ _ ⟨rfl,rfl⟩;rcases E Q with⟨ey,rfl,he,eY⟩|⟨rfl,he⟩
 rotate_left
 .rw[S6,aY];refine bZ U A ν aG ⟨aP,szv,b0,g1,a7,W,av,ba,aI,aK,f5,f6,f7⟩ ae (λh=>Ω) λ_=>?_;rw[he];exact⟨rfl,λq M=>by cases M⟩
 rw[T8,bQ];have eZ:=ae.lt;refine bG b3.i λaq X e1 aO bD=>?_;have bD:af X aq b3 [.slice ν 0 0,Δ 0]:=bD;have dV:=av.ext aO;have cp:=aI.ext aO;have e2:=aO.size;have e3:=av.lt;rw[aW a1.p rfl,aA Ψ (dV.cell (o:=0+1) rfl),aU ax.u cp.ls];refine NM (ae.ext aO) cp cX cY bD Ω λt ad aL gt e4 dW dX dZ ea eb ec=>?_;refine (kk eb).mono ?_;rintro _ C _ ⟨⟨bF,bc⟩,c,at_,rfl,ed,e5⟩;rw[bi,bj];have bI:aq≠g:=Ω
 have cq:G≠g:=by have:=h.lt;omega
 have ee:ah (λr=>r=g\/r=aq\/X.heap.size<=r) X C:=dW.trans (bF.mono λr _ h=>.inl h);have cr:∀ {S:Nat->Prop},(∀r,S r->r=g\/U.heap.size<=r)-> ∀r,S r->gZ U r\/U.heap.size<=r:=λef r m=>(ef r m).imp (λhe=>by
  subst he;obtain⟨ct,aQ,aR,bad,cw,big,cz,told,sv,E,_⟩:=hM ae;exact⟨_,_,E,Φ,Φ⟩) id
 have bd:ah (λr=>r=g\/U.heap.size<=r) U C:=(aO.ab _).trans (ee.mono λr _ h=>h.elim .inl λh=>h.elim (λh=>.inr Ω) λh=>.inr Ω);have cA:af C G a1 [aP,szv,Δ o,b0]:=av.ab bd λh=>h.elim cq λh=>Ω
 obtain⟨L,be,cB,bJ⟩:=aK.dF bd (cr λr m=>m);have cC:af C aq b3 [aL,Δ 0]:=dX.ab bF λhe=>bI he;have cD:au .i64 ap C gt aL t:=bp dZ bF λr m he=>by
  have he:r=g:=he;have:=ea r m;omega
 have e6:L.length=A.length:=by rw[<-bJ,u7]
 rw[aT a1.p 3 cA rfl,e9 dU.u be];generalize cE:(bb 0 4611686018427387904 (V4 (λx=>x.snd) (e0 sizes [] (σ ey)))).map (·.2)=ag at bc;have e7:=bd.size;refine ch.range L.length (λj I=>ah (λr=>r=g) C I/\bH I g B H N (if t∈(L.take j).map (·.t) then ν else ag)) be.le ⟨ah.refl _ _,by simpa using bc⟩ ?_ ?_
 .rintro j I eg cF ⟨O,aS⟩ eh;obtain⟨y,P⟩:=aH (l:=L) cF;have bL:∃c,af C g bA c:=by obtain⟨ct,aQ,aR,bad,cw,big,cz,told,sv,E,_⟩:=hM bc;exact⟨_,E⟩
  have aj:∀r,r=g->gZ C r\/C.heap.size<=r:=λr m=>by
   subst m;obtain⟨c,E⟩:=bL;exact .inl ⟨_,c,E,Φ,Φ⟩
  have bg:=wE be O λr m=>(aj r m).imp (λ⟨e,c,E,_,aX⟩=>⟨e,c,E,aX⟩) id;obtain⟨e8,ei⟩:=cB y (x5 P);have cG:=ew ei O aj;have bM:=ew cD O aj;have bh:=cC.ab O λhe=>bI he;refine bE Ω ?_;have bN:t∈(L.take (j+1)).map (·.t)↔t∈(L.take j).map (·.t)\/t=y.t:=by
   rw[u9,P,l7,b6,o7];simp
  refine dh (λao=>ah (λr=>r=g) C ao/\bH ao g B H N (if t∈(L.take (j+1)).map (·.t) then ν else ag)) ?_ ?_
  .rintro ao ej;rw[aM];exact eh _ ej
  intro fa cH;rw[dr rfl dU.u b3.i bg cF,bO b3.p b3.i rfl (bg.range P)];refine bG b3.i λgy ce fb ek em=>?_;refine ck (vs:=nR y) b3.i rfl rfl (wG cG) em λK en fc eo=>?_;have aZ:Ext I K:=ek.put en Ω;have cI:=aS.ext aZ;have cJ:ah (λr=>r=g) C K:=O.trans (aZ.ab _);refine aV (λv aF=>∃b:Bool,v= .bool b/\Ext K aF/\(b=true->t=y.t)/\(b=false->t≠y.t\/(if t∈(L.take j).map (·.t) then ν else ag)=ν)) ?_ ?_
  .rintro _ aF ⟨b,rfl,bP,ep,er⟩;have an:=cI.ext bP;cases b with
   |true=>
    rw[bQ];refine (nS an Ω).mono ?_;rintro _ cg _ ⟨es,et⟩;refine cH _ ⟨(cJ.trans (bP.ab _)).trans es,?_⟩;rw[if_pos (bN.2 (.inr (ep rfl)))];exact et
   |false=>
    rw[aY];refine cH _ ⟨cJ.trans (bP.ab _),?_⟩;by_cases hm:t∈(L.take j).map (·.t)
    .rw[if_pos (bN.2 (.inl hm))];rw[if_pos hm] at an;exact an
    .rw[if_neg hm] at an;rcases er rfl with aX|cK
     .rw[if_neg (λh=>(bN.1 h).elim hm aX)];exact an
     .rw[if_neg hm] at cK;rw[cK] at an ⊢;split<;>exact an
  .intro fd cL;rw[k3 cI];cases a2:(if t∈(L.take j).map (·.t) then ν else ag) with
   |none=>
    rw[S6,aY];exact cL _ _ ⟨false,rfl,Ext.refl _,(λh=>by cases h),λ_=>.inr a2⟩
   |some fe=>
    rw[T8,bQ];have eu:=bh.ext aZ;rw[aT b3.p 0 eu rfl,aT b3.p 0 eo rfl];refine (wF (bM.ls.ext aZ) (cG.ls.ext aZ)).mono ?_;rintro _ cj _ ⟨rfl,ev⟩;exact cL _ _ ⟨_,rfl,ev,λh=>of_decide_eq_true h,λh=>.inl (of_decide_eq_false h)⟩
 .rintro I eg ⟨O,aS⟩;rw[o5] at aS;have ez:L.map (·.t)=A.map (·.1):=by rw[<-bJ,S8];rfl
  rw[ez] at aS;have bL:∃c,af C g bA c:=by obtain⟨ct,aQ,aR,bad,cw,big,cz,told,sv,E,_⟩:=hM bc;exact⟨_,E⟩
  have aj:∀r,r=g->gZ C r\/C.heap.size<=r:=λr m=>by
   subst m;obtain⟨c,E⟩:=bL;exact .inl ⟨_,c,E,Φ,Φ⟩
  have cM:∀r,(r=g\/U.heap.size<=r)->gZ U r\/U.heap.size<=r:=cr λr m=>m;have bk:ah (λr=>r=g\/U.heap.size<=r) U I:=bd.trans (O.mono λr _ h=>.inl h);have eA:=cA.ab O λhe=>cq he;have eB:=ew ba bk cM;have eC:=ew aI bk cM;have bg:=wE be O λr m=>(aj r m).imp (λ⟨e,c,E,_,aX⟩=>⟨e,c,E,aX⟩) id;have eD:∀y∈L,∃gy,au .i64 ap I gy y.v y.t:=λy P=>by
   obtain⟨gy,hm⟩:=cB y P;exact⟨gy,ew hm O aj⟩
  have bM:=ew cD O aj;have bh:=cC.ab O λhe=>bI he;refine cm Ω ?_;rw[aW b3.p rfl];refine bt (g:=aq) (o:=1) ap.i rfl rfl bh Ξ λY az ff bR=>?_;have bR:af Y aq b3 [aL,Δ c]:=bR;have eE:G≠aq:=Ω
  have cO:=eA.ab az λhe=>eE he;have fg:U.heap.size<=aq:=Ω
  have eF:∀r,leadsTo b0 r->r≠aq:=λr m=>by obtain⟨aQ,aR⟩:=aK.choose_spec.1.leads m;omega
  have eI:=bg.ab az λr m he=>eF r m he;rw[aT a1.p 3 cO rfl,bO b3.p b3.i rfl bR.range];let a:wD:=⟨aL,t,c⟩;have bl:∀ {v:x1} {a6:Nat} {l:Λ},au .i64 ap I a6 v l->au .i64 ap Y a6 v l:=λhm=>bp hm az λr m he=>by
   have he:r=aq:=he;exact b4 hm bh Φ m he
  have cP:=bl bM;refine h2 (f:=nR) (a:=a) dU.u b3.i Ω rfl rfl λv45 fh a8 fi R eJ=>?_;have bS:=eI.ext R;refine iw (f:=nR) (a:=a) dU.u b3.i rfl bS (by simpa using eJ.sl) (wG (cP.ext R)) Ω Ω λbT cR bz bm eK cS=>?_;have bU:=cO.ext R;have cT:=bU.ab cS λhe=>cQ bS bU Φ he;rw[aW a1.p rfl];refine bt (g:=G) (o:=3) dU.i (eH bm.sl).1 (eH bm.sl).2 cT Ξ λZ cU fj bV=>?_;have bV:af Z G a1 [aP,szv,Δ o,bT]:=bV;rw[aM];have bW:ah (λr=>leadsTo b0 r\/r=G) a8 Z:=(cS.mono λr _ h=>.inl h).trans (cU.mono λr _ h=>.inr h);have bn:∀ {v:x1} {a6:Nat} {l:Λ},au .i64 ap a8 a6 v l->au .i64 ap Z a6 v l:=λhm=>bp hm bW λr m J=>by
   rcases J with J|rfl
   .obtain⟨rfl,fk,E⟩:=dY bS J;exact b4 hm E Φ m rfl
   .exact b4 hm bU Φ m rfl
  have cV:∀r,(leadsTo b0 r\/r=G)->B<=r:=λr m=>m.elim (λm=>bB Q r m) λm=>m▸f7;have eL:bH Y g B H N (if t∈A.map (·.1) then ν else ag):=aS.new az λr m=>by
   have m:r=aq:=m;omega
  have eM:=(eL.ext R).new bW cV;have eN:ah (gL g B) U Z:=((bk.mono λr _ h=>h.elim .inl λh=>.inr Ω).trans (az.mono λr _ h=>.inr (by have h:r=aq:=h;omega))).trans ((R.ab _).trans (bW.mono λr _ h=>.inr (cV r h)));have eO:kj Z cR bT (A++[(t,c)]):=⟨L++[a],bm.ab cU λr m he=>by
   have he:r=G:=he;subst he;exact cQ bm cT Φ m,λy P=>by
   rcases o7.1 P with P|P
   .obtain⟨gy,hm⟩:=eD y P;exact⟨gy,bn ((bl hm).ext R)⟩
   .rw[o9.1 P];exact⟨gt,bn (cP.ext R)⟩,by rw[b6,bJ];rfl⟩
  refine hk _ ⟨A++[(t,c)],_,bT,cR,aG.trans eN,bV,bn ((bl eB).ext R),bn ((bl eC).ext R),eO,λ_ r m=>?_,eM,λh=>Ω,λ_=>?_⟩
  .rcases eK r m with h|h
   .exact bB Q r h
   .have:=aG.size;have:=bk.size;have:=az.size;have:=R.size;have:=dT.2;omega
  .have eP:n.toNat-i=(n.toNat-(i+1))+1:=Ω
   rw[eP] at he;obtain⟨eQ,eR⟩:=BU (sizes:=sizes) (acc:=A) (st:=ey) (t:=t) (c:=c) ec ed;cases M:bb 0 aw ((e0 sizes [] (σ ey)).map (·.2)) with
   |none=>
    have a2:ag=ν:=by rw[<-cE];show (bb 0 aw _).map _=ν;rw[M];rfl
    rw[oW (eQ M)] at he;refine .inr ⟨?_,he⟩;rw[a2];split<;>rfl
   |some q=>
    have a2:ag=σ q.2:=by rw[<-cE];show (bb 0 aw _).map _=_;rw[M];rfl
    have bo:=eR q M;by_cases hm:t∈A.map (·.1)
    .rw[if_pos hm] at bo;rw[oW bo] at he;exact .inr ⟨by rw[if_pos hm],he⟩
    .rw[if_neg hm] at bo;rw[sq bo] at he;refine .inl ⟨q.2,by rw[if_neg hm,a2],he,?_⟩;cases bX:e0 sizes [] (σ ey) with
     |none=>rw[bX] at M;cases M
     |some p=>
      rw[bX] at M;obtain⟨bw,cW⟩:=p;have aQ:ip sizes [] ey=σ (bw,cW):=bX;obtain⟨u,_,_,eS⟩:=vz aQ;have aR:bf 0 aw cW=σ q:=M;obtain⟨fm,fo⟩:=q;have eU:=dB aR;have:=eS.1;have:=eU.1;rw[p9];simp only[R2];omega
def jJ (s:aD):Prop:=s.big=false->0<=s.told/\s.told<=16384
def jK (neg:Bool) (ar:Nat) (scope sizes:Λ) (e:Option aD):Option (cv×aD):=match bb 0 aw (e.map (bd (decide (6<ar)||dq sizes))) with
 |none=>ν
 |some (other,f)=>match dN sizes f with
  |none=>ν
  |some (lines,a)=>σ (⟨scope,sizes,other,lines⟩,if neg=true then {a with shared:=a.shared++[(sizes,lines)]} else a)
theorem Dh {s s':aD} {l:List (Λ×Int)} (h:dN sizes s=σ (l,s')):s'.toks.length+1<=s.toks.length/\s'.shared=s.shared:=by
 unfold dN at h;cases j:bf (-aw) aw s with
 |none=>rw[j] at h;cases h
 |some q=>
  obtain⟨n,e⟩:=q;have p:=dB j;have z:=p.1;have r:=p.eqs.2.2;rw[j] at h;simp only at h;split at h
  .split at h
   .cases h
   .split at h
    .cases h;exact⟨Ω,r⟩
    .cases h
  .have h':cN (dM sizes) n.toNat [] (bd (decide (16384<min (e.told+n) aw)) {e with told:=min (e.told+n) aw})=σ (l,s'):=h;have:=ka (f:=dM sizes) (λ_ t=>t.toks.length<=e.toks.length/\t.shared=e.shared) (λacc t a bw w y=>by
    obtain⟨_,_,_,x⟩:=oT y;have h1:=x.1;have m:=x.eqs.2.2;exact⟨by have:=w.1;omega,m.trans w.2⟩) n.toNat [] (bd (decide (16384<min (e.told+n) aw)) {e with told:=min (e.told+n) aw}) l s' ⟨p8 _,rfl⟩ h'
   obtain⟨⟨h1,m⟩,_⟩:=this;exact⟨Ω,m.trans r⟩
theorem td {g:Nat} {H:ak} {s:aD} (h:bH w g B H N (σ s)):s.toks.length<=100000/\s.shared.length+s.toks.length<=100000:=by
 obtain⟨j,w0,m,p,gs,sv,L,q,r,x,bad,y,big,z,told,h1,A,C,E,e,F,G,I,J,K,M,a,O,f,P⟩:=h;have Q:=e.2.2.1;refine⟨by rw[<-a,u7];omega,by rw[<-a,<-f,u7,u7];omega⟩
def Di (w:x3) (g h B:Nat) (H:ak) (e:Option (cv×aD)) (v:x1) (w':x3):Prop:=∃f x a,ah (λr=>r=g\/H r\/r=h\/B<=r) w w'/\v= .agg (eT f).toArray/\gK w' f x/\bH w' g w'.heap.size a 100001 (e.map (·.2))/\(∀q,e=σ q->x=q.1)/\(∀r,H r->a r)/\(∀r,a r->H r\/B<=r)/\ ∀r,a r->r<w'.heap.size
theorem Dj {g C M ar:Nat} {H:ak} {P:Option aD} {neg:Bool} {dy:Int} {scope:Λ} {Q:x1->x3->Prop}
  (h:bH w g B H 100000 P) (dz:ha w B C ⟨scope,sizes,0,[]⟩) (fj:∀c,af w C a1 c->c[3]? =σ (.slice ν 0 0)) (dA:∀z∈sizes,1<=z/\z<=aw) (fk:sizes.length<=100001) (dC:af w M a1 [.slice ν 0 0,.slice ν 0 0,Δ 0,.slice ν 0 0]) (jw:M<B) (cG:¬H M) (cH:∀r,H r->r<B) (fm:∀an,P=σ an->jJ an)
  (fo:∀v w',Di w g M B H (jK neg ar scope sizes P) v w'->Q v w'):
  aa x7 (u5 a1 (Γ C) 1) w λfp=>
  aa x7 (u4 ax fp) w λdD=>
  aa x7 (W6 #[ax] ai #[dD]) w λfq=>
  bX (Δ 1) (Δ 0) w λdE cY aE fs=>
   aa x7 (aJ .lss ai false false cY fq) aE λft=>
   Split ft (cu (α:=x1->x3->Prop) (λ(fu:x1) (dG:x3)=>
    aa x7 (aJ .add ai false true cY (Δ 1)) dG λfv=>
    fs fu fv dG) λdH=>
   aa x7 (j5 ax dD cY) aE λfw=>
   aa x7 (u4 ap fw) aE λdI=>
   cu (α:=x1->x3->Prop) (λ(fx:x1) (cI:x3)=>
    aa x7 (aJ .mul ap false false dE fx) cI λdK=>
    aa x7 (aJ .gtr ap false true dK (Δ 4096)) cI λfy=>
    Split fy (dH (Δ 4097) cI)
     (dH dK cI)) λdL=>
   aa x7 (aJ .gtr ap false true dI (Δ 4096)) aE λfz=>
   Split fz (dL (Δ 4097) aE)
    (dL dI aE))
    (cu (α:=x3->Prop) (λ(bW:x3)=>
   am x7 lv [(Γ g),(Δ 0),(Δ 4611686018427387904)] bW λdO bB=>
   aa x7 (Z4 dO 0) bB λfA=>
   aa x7 (Z4 dO 1) bB λjx=>
   aa x7 (u5 a1 (Γ C) 2) bB λfB=>
   aC x7 (o6 ap fB fA) bB λ(_:Unit) be=>
   am x7 lv [(Γ g),(Δ (-4611686018427387904)),(Δ 4611686018427387904)] be λdP N=>
   aa x7 (Z4 dP 0) N λbC=>
   aa x7 (Z4 dP 1) N λdQ=>
   aa x7 (bK (Γ g)) N λfD=>
   aa x7 (u5 bA fD 3) N λfE=>
   aa x7 (u4 ai fE) N λfF=>
   aa x7 (aJ .neq ai false true fF (Δ 0)) N λfG=>
   Split fG (aa x7 (u4 a1 (Γ C)) N λbY=>
    aC x7 (o6 a1 (Γ M) bY) N λ(_:Unit) bg=>
    aa x7 (do loadVar a1 (<-asAddr (Γ M))) bg λbZ=>
 Q bZ bg)
    (cu (α:=x3->Prop) (λ(aR:x3)=>
    ch (Δ 0) aR λdR bo fH=>
     cu (α:=x1->x3->Prop) (λ(fI:x1) (b1:x3)=>
      Split fI (aC x7 (R7 b3 true (.tuple #[])) b1 λx cJ=>
     aa x7 (u5 a1 (Γ C) 1) cJ λfJ=>
     aa x7 (u4 ax fJ) cJ λdS=>
     aa x7 (W6 #[ax] ai #[dS]) cJ λfK=>
     ch (Δ 0) cJ λcZ bD fL=>
      aa x7 (aJ .lss ai false false cZ fK) bD λfM=>
      Split fM (aa x7 (j5 ax dS cZ) bD λfN=>
      aa x7 (u4 ap fN) bD λfP=>
      aa x7 (aJ .sub ap false true fP (Δ 1)) bD λfQ=>
      am x7 lv [(Γ g),(Δ 0),fQ] bD λdT b2=>
      aa x7 (Z4 dT 0) b2 λfR=>
      aa x7 (Z4 dT 1) b2 λjy=>
      aa x7 (u5 b3 x 0) b2 λfS=>
      aa x7 (u4 ax fS) b2 λfU=>
      aC x7 (Y0 ax 1 #[(0,fR)]) b2 λfV fW=>
      aC x7 (b8 #[ax,ax] ax #[fU,fV]) fW λfX dV=>
      aa x7 (u5 b3 x 0) dV λfY=>
      aC x7 (o6 ax fY fX) dV λ(_:Unit) dW=>
      aa x7 (aJ .add ai false true cZ (Δ 1)) dW λfZ=>
      fL fZ dW)
       (am x7 lv [(Γ g),(Δ 0),(Δ 4611686018427387904)] bD λdX bE=>
     aa x7 (Z4 dX 0) bE λgb=>
     aa x7 (Z4 dX 1) bE λgc=>
     aa x7 (u5 a1 (Γ C) 3) bE λgd=>
     aa x7 (u4 dU gd) bE λdZ=>
     aa x7 (W6 #[dU] ai #[dZ]) bE λgf=>
     ch (Δ 0) bE λc0 bF gg=>
      aa x7 (aJ .lss ai false false c0 gf) bF λgh=>
      Split gh (cu (α:=x3->Prop) (λ(ea:x3)=>
       aa x7 (aJ .add ai false true c0 (Δ 1)) ea λgi=>
       gg gi ea) λeb=>
      aa x7 (j5 dU dZ c0) bF λgj=>
      aa x7 (u4 b3 gj) bF λgk=>
      aC x7 (R7 b3 true (.tuple #[])) bF λy gl=>
      aC x7 (o6 b3 y gk) gl λ(_:Unit) aF=>
      cu (α:=x1->x3->Prop) (λ(gm:x1) (ec:x3)=>
       Split gm (am x7 m8 [(Γ g),(Δ 4),gc] ec λjz gn=>
        eb gn)
        (eb ec)) λed=>
      aa x7 (bK (Γ g)) aF λgp=>
      aa x7 (u5 bA gp 3) aF λgq=>
      aa x7 (u4 ai gq) aF λgu=>
      aa x7 (aJ .eql ai false true gu (Δ 0)) aF λgv=>
      Split gv (aa x7 (u5 b3 x 0) aF λgx=>
       aa x7 (u4 ax gx) aF λgA=>
      aa x7 (u5 b3 y 0) aF λgB=>
      aa x7 (u4 ax gB) aF λgC=>
      am x7 rL [gA,gC] aF λgD gE=>
      ed gD gE)
       (ed (.bool false) aF))
       (aa x7 (u5 b3 x 1) bF λgF=>
     aC x7 (o6 ap gF gb) bF λ(_:Unit) cK=>
     aa x7 (u5 a1 (Γ C) 3) cK λgH=>
     aa x7 (u4 dU gH) cK λgI=>
     aa x7 (u4 b3 x) cK λgJ=>
     aC x7 (Y0 dU 1 #[(0,gJ)]) cK λgM gN=>
     aC x7 (b8 #[dU,dU] dU #[gI,gM]) gN λgO ee=>
     aa x7 (u5 a1 (Γ C) 3) ee λgP=>
     aC x7 (o6 dU gP gO) ee λ(_:Unit) ef=>
     aa x7 (aJ .add ap false true dR (Δ 1)) ef λgQ=>
     fH gQ ef)))
       (cu (α:=x3->Prop) (λ(ad:x3)=>
     aa x7 (u4 a1 (Γ C)) ad λgR=>
     aC x7 (o6 a1 (Γ M) gR) ad λ(_:Unit) eg=>
     aa x7 (do loadVar a1 (<-asAddr (Γ M))) eg λgS=>
 Q gS eg) λeh=>
    Split (.bool neg) (en b1 λao=>
     aa x7 (bK (Γ g)) ao λc1=>
     aa x7 (u5 bA c1 8) ao λc2=>
     aa x7 (u4 dw c2) ao λei=>
     aa x7 (u4 a1 (Γ C)) ao λgT=>
     aC x7 (Y0 dw 1 #[(0,gT)]) ao λgU aS=>
     (Ext ao aS\/cC x7 (u4 dw c2) ei aS/\cC x7 (u5 bA c1 8) c2 aS/\cC x7 (bK (Γ g)) c1 aS/\True)/\
     aC x7 (b8 #[dw,dw] dw #[ei,gU]) aS λgV cL=>
      aa x7 (bK (Γ g)) cL λgW=>
      aa x7 (u5 bA gW 8) cL λgX=>
      aC x7 (o6 dw gX gV) cL λ(_:Unit) bp=>
      eh bp)
     (eh b1))) λej=>
     aa x7 (aJ .lss ap false false dR bC) bo λgY=>
     Split gY (aa x7 (bK (Γ g)) bo λg0=>
     aa x7 (u5 bA g0 3) bo λg2=>
     aa x7 (u4 ai g2) bo λg3=>
     aa x7 (aJ .eql ai false true g3 (Δ 0)) bo λg4=>
     ej g4 bo)
      (ej (.bool false) bo)) λek=>
   aa x7 (aJ .lss ap false true bC (Δ 0)) N λg5=>
   Split g5 (cu (α:=x1->x3->Prop) (λ(g6:x1) (W:x3)=>
     Split g6 (am x7 m8 [(Γ g),(Δ 4),dQ] W λjA c3=>
     aa x7 (u4 a1 (Γ C)) c3 λg7=>
     aC x7 (o6 a1 (Γ M) g7) c3 λ(_:Unit) em=>
     aa x7 (do loadVar a1 (<-asAddr (Γ M))) em λg8=>
 Q g8 em)
     (aa x7 (bK (Γ g)) W λg9=>
    aa x7 (u5 bA g9 8) W λhb=>
    aa x7 (u4 dw hb) W λhc=>
    aa x7 (Op.unary .neg bC) W λhd=>
    aa x7 (aJ .sub ap false true hd (Δ 1)) W λhg=>
    aa x7 (j5 dw hc hg) W λhh=>
    aa x7 (u5 a1 hh 3) W λhj=>
    aa x7 (u4 dU hj) W λhl=>
    aa x7 (u5 a1 (Γ C) 3) W λhn=>
    aC x7 (o6 dU hn hl) W λ(_:Unit) eo=>
    ek eo)) λep=>
    en N λO=>
    aa x7 (Op.unary .neg bC) O λho=>
    aa x7 (bK (Γ g)) O λhp=>
    aa x7 (u5 bA hp 8) O λhq=>
    aa x7 (u4 dw hq) O λhr=>
    aa x7 (W6 #[dw] ai #[hr]) O λhs=>
    aa x7 (aJ .gtr ap false false ho hs) O λht=>
    Split ht (ep (.bool true) O)
    (aa x7 (bK (Γ g)) O λhy=>
    aa x7 (u5 bA hy 8) O λhz=>
    aa x7 (u4 dw hz) O λhA=>
    aa x7 (Op.unary .neg bC) O λhB=>
    aa x7 (aJ .sub ap false true hB (Δ 1)) O λhC=>
    aa x7 (j5 dw hA hC) O λhD=>
    aa x7 (u5 a1 hD 1) O λhE=>
    aa x7 (u4 ax hE) O λhF=>
    aa x7 (u5 a1 (Γ C) 1) O λhG=>
    aa x7 (u4 ax hG) O λhH=>
    am x7 rL [hF,hH] O λhI c4=>
    aa x7 (Op.unary .not hI) c4 λhK=>
    ep hK c4))
    (aa x7 (bK (Γ g)) N λhL=>
    aa x7 (u5 bA hL 7) N λhN=>
    aa x7 (u4 ap hN) N λhO=>
    aa x7 (aJ .add ap false false hO bC) N λhP=>
    aa x7 (bK (Γ g)) N λhQ=>
    aa x7 (u5 bA hQ 7) N λhR=>
    aC x7 (o6 ap hR hP) N λ(_:Unit) aG=>
    cu (α:=x3->Prop) (λ(aI:x3)=>
     aa x7 (bK (Γ g)) aI λhS=>
     aa x7 (u5 bA hS 7) aI λhT=>
     aa x7 (u4 ap hT) aI λhU=>
     aa x7 (aJ .gtr ap false true hU (Δ 16384)) aI λhV=>
     am x7 rJ [(Γ g),hV,dQ] aI λjB c5=>
     ek c5) λer=>
    aa x7 (bK (Γ g)) aG λhW=>
    aa x7 (u5 bA hW 7) aG λhX=>
    aa x7 (u4 ap hX) aG λhY=>
    aa x7 (aJ .gtr ap false true hY (Δ 4611686018427387904)) aG λhZ=>
    Split hZ (aa x7 (bK (Γ g)) aG λh0=>
    aa x7 (u5 bA h0 7) aG λh3=>
    aC x7 (o6 ap h3 (Δ 4611686018427387904)) aG λ(_:Unit) es=>
    er es)
    (er aG)))) λet=>
  aa x7 (aJ .gtr ap false true (Δ (ar:Int)) (Δ 6)) aE λh4=>
  Split h4 (am x7 rJ [(Γ g),(.bool true),(Δ dy)] aE λjC h5=>
  et h5)
   (aa x7 (aJ .gtr ap false true dE (Δ 4096)) aE λh6=>
  am x7 rJ [(Γ g),h6,(Δ dy)] aE λjD h7=>
  et h7)):=by
 have h8:=h.lt;have eu:M≠g:=λhe=>by
  obtain⟨aq,Y,Z,bad,av,big,az,told,sv,m,_⟩:=hM h;subst he;exact absurd (fa m dC) Φ
 obtain⟨aP,szv,b0,g1,cM,cO,f1,f2,f3,f4,f5,f6,f7⟩:=id dz;have b4:C≠g:=Ω
 have ret:∀ {E:x3} {x:cv} {R:ak},ha E B C x->af E M a1 [.slice ν 0 0,.slice ν 0 0,Δ 0,.slice ν 0 0]->ah (λr=>r=g\/H r\/B<=r) w E->bH E g E.heap.size R 100001 ((jK neg ar scope sizes P).map (·.2))->(∀q,jK neg ar scope sizes P=σ q->x=q.1)->¬R M->(∀r,H r->R r)->(∀r,R r->H r\/B<=r)->(∀r,R r->r<E.heap.size)->
   (aa x7 (u4 a1 (Γ C)) E λbY=>
    aC x7 (o6 a1 (Γ M) bY) E λ(_:Unit) bg=>
    aa x7 (do loadVar a1 (<-asAddr (Γ M))) bg λbZ=>Q bZ bg):=by
  intro E x R c6 c7 h9 ia I ib c8 ic ie;obtain⟨aP,szv,b0,g1,cM,cO,c9,da,db,dc,dd,ev,ey⟩:=c6;let ac:iF:=⟨aP,szv,x.other,b0⟩;have b5:gK E ac x:=⟨⟨g1,da⟩,⟨cM,db⟩,rfl,cO,dc⟩;rw[bO a1.p a1.i rfl (show E.rangeAt C 0 (eT ac) from c9.range)];refine ck (vs:=eT ac) a1.i rfl rfl b5.one c7 λjE de ig ih=>?_;rw[fO a1.p a1.i rfl ih.range];have ii:∀r,r=M->gZ E r\/E.heap.size<=r:=λr j=>by subst j;exact .inl ⟨_,_,c7,Φ,Φ⟩
  refine fo _ _ ⟨ac,x,R,(h9.mono λr _ h=>?_).trans (de.mono λr _ h=>.inr (.inr (.inl h))),rfl,b5.dF de ii,ia.dF de λr j=>.inl ?_,I,c8,ic,λr j=>by rw[ig];exact ie r j⟩
  .exact h.elim .inl λh=>h.elim (λh=>.inr (.inl h)) λh=>.inr (.inr (.inr h))
  .have j:r=M:=j;subst j;exact⟨_,_,c7,Φ,Φ,Φ,Φ,ib⟩
 have df:∀ {E:x3},ah (gL g B) w E->af E M a1 [.slice ν 0 0,.slice ν 0 0,Δ 0,.slice ν 0 0]:=λaX=>dC.ab aX λJ=>J.elim eu λh=>Ω
 have dg:∀ {E:x3},ah (gL g B) w E->ah (λr=>r=g\/H r\/B<=r) w E:=λaX=>aX.mono λr _ h=>h.elim .inl λh=>.inr (.inr h);have ez:∀ {E:x3} {eA:Nat} {R:ak} {so:Option aD},bH E g eA R 100000 so->bH E g eA R 100001 so:=λj=>by
  obtain⟨b7,w0,aq,bh,gs,sv,L,aB,Y,Z,bad,av,big,az,told,h1,ij,ik,il,im,di,dj⟩:=j;refine⟨Ω,w0,aq,bh,gs,sv,L,aB,Y,Z,bad,av,big,az,told,h1,ij,ik,il,im,di,?_⟩;rename_i so;cases so with
  |none=>exact⟨dj.1,by have:=dj.2;omega⟩
  |some s=>exact dj
 have eB:∀ {E:x3} {x:cv},ha E B C x->ah (gL g B) w E->bH E g B H 100000 ν->jK neg ar scope sizes P=ν->(aa x7 (u4 a1 (Γ C)) E λbY=>
    aC x7 (o6 a1 (Γ M) bY) E λ(_:Unit) bg=>
    aa x7 (do loadVar a1 (<-asAddr (Γ M))) bg λbZ=>Q bZ bg):=λc6 aX j eC=>
  ret c6 (df aX) (dg aX) (by rw[eC];exact ez j.base) (λq S=>by rw[eC] at S;cases S) cG (λ_ h=>h) (λ_ h=>.inl h) λr j=>by have:=cH r j;have:=aX.size;omega
 rw[aT a1.p 1 f1 rfl,aU ax.u f3.ls];refine NL f3.ls (λz io=>(dA z io).1) λc aX=>?_;refine dh (λbW=>ah (λr=>r=g) w bW/\bH bW g B H 100000 (P.map (bd (decide (6<ar)||dq sizes)))) ?_ ?_
 rotate_left
 .intro ay aZ;rw[bR,al];refine⟨λdi=>?_,λdi=>?_⟩
  .refine (mB h).mono ?_;rintro _ U _ a2;refine aZ _ ⟨a2.1,?_⟩;rw[decide_eq_true (show 6<ar by omega),Bool.true_or];exact a2.2
  .rw[bR];refine (mB h).mono ?_;rintro _ U _ a2;refine aZ _ ⟨a2.1,?_⟩;have e:dq sizes=decide (4096<c):=by rw[V5,decide_eq_true_eq];exact aX.symm
   rw[decide_eq_false (show ¬6<ar by omega),Bool.false_or,e];exact a2.2
 rintro bW ⟨ip,iq⟩;refine (kk iq).mono ?_;rintro _ bB _ ⟨⟨ir,it⟩,o,jF,rfl,iu,jG⟩;rw[bi,bj];have bG:ah (λr=>r=g) w bB:=ip.trans ir;have jH:=dz.dF bG (kl h);have f123:=f1.ab bG λhe=>b4 he;rw[aW a1.p rfl];refine bt (g:=C) (o:=2) ap.i rfl rfl f123 Ξ λbe b9 jI bJ=>?_;have bJ:af be C a1 [aP,szv,Δ o,b0]:=bJ;have dk:∀r,r=g->gZ w r\/w.heap.size<=r:=λr j=>(kl h r j).imp (λ⟨e,c,m,a6,a7,_⟩=>⟨e,c,m,a6,a7⟩) id;have bL:∀ {E:x3} {c:List x1},af E C a1 c-> ∀r,r=C->gZ E r\/E.heap.size<=r:=λm r j=>by subst j;exact .inl ⟨_,_,m,Φ,Φ⟩
 have f224:=ew (ew f2 bG dk) b9 (bL f123);have f324:=ew (ew f3 bG dk) b9 (bL f123);have eD:=(f4.dF bG dk).dF b9 (bL f123);have bM:=it.new b9 λr j=>by have j:r=C:=j;omega
 have eE:ah (gL g B) w be:=(bG.mono λr _ h=>.inl h).trans (b9.mono λr _ h=>.inr (by have h:r=C:=h;omega));refine (kk bM).mono ?_;rintro _ N _ ⟨⟨bk,a8⟩,n,jL,rfl,iv,eF⟩;rw[bi,bj,qM a8];have eI:ah (gL g B) w N:=eE.trans (bk.mono λr _ h=>.inl h);have ix:ha be B C ⟨scope,sizes,o,[]⟩:=⟨aP,szv,b0,g1,cM,cO,bJ,f224,f324,eD,f5,f6,f7⟩;have eJ:=ix.dF bk (kl bM);cases ba:bb (-4611686018427387904) 4611686018427387904 (V4 (λx=>x.snd) (bb 0 4611686018427387904 (P.map (bd (decide (6<ar)||dq sizes))))) with
 |none=>
  rw[ba] at a8;rw[Option.map_none,S6,W5,bQ];refine eB eJ eI a8 ?_;unfold jK;cases V:bb 0 aw (P.map (bd (decide (6<ar)||dq sizes))) with
  |none=>rfl
  |some p=>
   obtain⟨o',K⟩:=p;have iy:bb 0 4611686018427387904 (P.map (bd (decide (6<ar)||dq sizes)))=σ (o',K):=V;rw[iy] at ba;have e:bf (-aw) aw K=ν:=ba;simp only;unfold dN;rw[e]
 |some q=>
 obtain⟨jM,G⟩:=q;have iz:=iv _ ba;subst iz;rw[ba] at a8;have a8:bH N g B H 100000 (σ G):=a8;rw[Z3,T8,Y7,aY];obtain⟨K,V,dl⟩:∃K,bb 0 aw (P.map (bd (decide (6<ar)||dq sizes)))=σ (o,K)/\bf (-aw) aw K=σ (n,G):=by
  cases V:bb 0 4611686018427387904 (P.map (bd (decide (6<ar)||dq sizes))) with
  |none=>rw[V] at ba;cases ba
  |some p=>
   obtain⟨o',K⟩:=p;have:=iu _ V;subst this;rw[V] at ba;exact⟨K,V,ba⟩
 have ca:jK neg ar scope sizes P=match dN sizes K with
   |none=>ν
   |some (lines,G)=>σ (⟨scope,sizes,o,lines⟩,if neg=true then {G with shared:=G.shared++[(sizes,lines)]} else G):=by
  unfold jK;rw[V]
 have iA:=(hJ dl).1;have iB: -4611686018427387904<=n/\n<=4611686018427387904:=iA;have eK:dN sizes K=(if n<0 then match G.shared[(-n-1).toNat]? with
   |none=>ν
   |some (z,l)=>if z=sizes then σ (l,G) else ν
  else cN (dM sizes) n.toNat [] (bd (decide (16384<min (G.told+n) aw)) {G with told:=min (G.told+n) aw})):=by
  unfold dN;rw[dl];rfl
 have iC:jJ G:=by
  cases bN:P with
  |none=>rw[bN] at V;cases V
  |some an=>
   rw[bN] at V;have dm:bf 0 aw (bd (decide (6<ar)||dq sizes) an)=σ (o,K):=V;have cP:=(dB dm).eqs;have cb:=(dB dl).eqs;intro m;rw[cb.2.1,cP.2.1] at m;rw[cb.1,cP.1];exact fm an bN (T4.1 m).1
 refine dh (λaR=>ah (gL g B) w aR/\ ∃bq cc cR bl,af aR C a1 [aP,szv,Δ o,bq]/\au .i64 ap aR g1 aP scope/\au .i64 ap aR cM szv sizes/\kj aR cc bq cR/\bH aR g B H 100000 (σ bl)/\(0<n->cR=[]/\ ∀r,¬leadsTo bq r)/\dN sizes K=(if n<=0 then σ (cR,bl) else cN (dM sizes) n.toNat [] bl)) ?_ ?_
 .rintro aR ⟨iD,bq,cc,cR,bl,c9,da,db,dc,dd,ev,ey⟩;refine NO dd c9 da db dc f5 f6 f7 dA fk iB.2 ev (td dd).1 λb1 A dn iE eL eM iG cd=>?_;have bP:=iD.trans iE;have br:dn=(dN sizes K).map (·.2)/\ ∀q,dN sizes K=σ q->A=q.1:=by
   rw[ey];by_cases dp:n<=0
   .obtain⟨Y,Z⟩:=iG dp;rw[if_pos dp];exact⟨Z,λq S=>by cases S;exact Y⟩
   .rw[if_neg dp];exact cd Ω
  obtain⟨br,a2⟩:=br;cases neg with
  |false=>
   refine dh (λad=>b1=ad) ?_ ?_
   .rintro _ rfl;refine ret eL (df bP) (dg bP) ?_ ?_ cG (λ_ h=>h) (λ_ h=>.inl h) λr j=>by have:=cH r j;have:=bP.size;omega
    .have:(jK false ar scope sizes P).map (·.2)=dn:=by
      rw[ca,br];cases dN sizes K with
      |none=>rfl
      |some p=>rfl
     rw[this];exact ez eM.base
    .intro q S;rw[ca] at S;cases ae:dN sizes K with
     |none=>rw[ae] at S;cases S
     |some p=>
      rw[ae] at S;have:=a2 p ae;cases S;rw[this]
   .intro ay aZ;rw[aY];exact aZ _ rfl
  |true=>
   refine dh (λad=>∃R,ah (λr=>r=g\/H r\/B<=r) w ad/\ha ad B C ⟨scope,sizes,o,A⟩/\af ad M a1 [.slice ν 0 0,.slice ν 0 0,Δ 0,.slice ν 0 0]/\bH ad g ad.heap.size R 100001 ((jK true ar scope sizes P).map (·.2))/\¬R M/\(∀r,H r->R r)/\(∀r,R r->H r\/B<=r)/\ ∀r,R r->r<ad.heap.size) ?_ ?_
   .rintro ad ⟨R,iH,iI,a3,a4,a5,iJ,iK,iL⟩;refine ret iI a3 iH a4 ?_ a5 iJ iK iL;intro q S;rw[ca] at S;cases ae:dN sizes K with
    |none=>rw[ae] at S;cases S
    |some p=>
     rw[ae] at S;have:=a2 p ae;cases S;rw[this]
   .intro ay aZ;rw[bQ];intro ao ce _ _;have iM:=eM.ext ce;have iN:=eL.ext ce;have iO:=(df bP).ext ce;obtain⟨b7,w0,aq,bh,gs,sv,L,aB,Y,Z,bad,av,big,az,told,cS,bu,bw,ag,bx,bm,bz⟩:=id iM;have iP:=bx.g bu bw;obtain⟨⟨iQ,eN⟩,aK,cg,ci⟩:=id iP;have iR:∀r,leadsTo sv r->r<B:=λr j=>cH r (bm r j);rw[aO bA.p 8 ag rfl];obtain⟨eO,eP,bq,eQ,eR,cc,eS,eU,eV,eW,iS,iT,iU⟩:=id iN;let ac:iF:=⟨eO,eP,o,bq⟩;let x:cv:=⟨scope,sizes,o,A⟩;have b5:gK ao ac x:=⟨⟨eQ,eU⟩,⟨eR,eV⟩,rfl,cc,eW⟩;rw[bO a1.p a1.i rfl (show ao.rangeAt C 0 (eT ac) from eS.range)];refine h2 (f:=eT) (a:=ac) dw.u a1.i Ω rfl rfl λjN jO aS jP X iV=>?_;refine⟨.inl X,?_⟩;have jQ:L.length<=100000:=by
     cases dn with
     |none=>exact bz.2
     |some s=>have:=bz.2.2.2.2.2.2.2.2;omega
    have ds:=aK.ext X;refine iw (f:=eT) (a:=ac) dw.u a1.i rfl ds (by simpa using iV.sl) (b5.ext X).one Ω Ω λeX iW cL cj iX eY=>?_;have dt:=ag.ext X;have eZ:=dt.ab eY λhe=>cQ ds dt Φ he;rw[bS,aW bA.p rfl];refine bt (g:=g) (o:=8) dw.i (eH cj.sl).1 (eH cj.sl).2 eZ (by simp[gw]) λbp du jR cT=>?_;have cT:af bp g bA (gw aq Y Z bad av big az told eX):=cT;have aL:ah (λr=>leadsTo sv r\/r=g) aS bp:=(eY.mono λr _ h=>.inl h).trans (du.mono λr _ h=>.inr h);have cU:∀r,(leadsTo sv r\/r=g)->gZ aS r\/aS.heap.size<=r:=λr j=>by
     rcases j with j|rfl
     .obtain⟨rfl,c,m⟩:=dY ds j;exact .inl ⟨_,c,m,Φ,Φ⟩
     .exact .inl ⟨_,_,dt,Φ,Φ⟩
    have e0:∀ {ac x},gK ao ac x->gK bp ac x:=λhe=>(he.ext X).dF aL cU;have z50:=ce.size;have jS:=X.size;have z53:=aL.size;have jT:=bP.size;have jU:=h8.2;refine aZ _ ⟨λr=>H r\/(ao.heap.size<=r/\r<bp.heap.size),?_,?_,?_,?_,?_,λr j=>.inl j,λr j=>j.imp id λj=>Ω,λr j=>?_⟩
    .refine (((dg bP).trans (ce.ab _)).trans (X.ab _)).trans (aL.mono λr _ j=>?_);exact j.elim (λj=>.inr (.inl (bm r j))) .inl
    .have iY:=eS.ext X;refine⟨eO,eP,bq,eQ,eR,cc,iY.ab aL λj=>?_,ew (eU.ext X) aL cU,ew (eV.ext X) aL cU,(eW.dF (X.ab λ_=>False) λ_ h=>h.elim).dF aL cU,iS,iT,iU⟩;rcases j with j|j
     .have:=iR _ j;omega
     .exact b4 j
    .exact (iO.ext X).ab aL λj=>j.elim (λj=>cG (bm _ j)) eu
    .refine⟨Ω,bp,aq,bh,iW,eX,L++[ac],aB++[x],Y,Z,bad,av,big,az,told,rfl,ah.refl _ _,⟨_,cT⟩,cT,⟨⟨?_,λr j=>?_⟩,cj.ab du λr j he=>?_,by rw[p9,p9,cg];rfl,λi iZ i0 hi cl=>?_⟩,λr j=>?_,?_⟩
     .refine (iQ.ab (X.ab λ_=>False) λ_ _ h=>h).ab aL λr j J=>?_;obtain⟨c,m⟩:=eN r j;rcases J with J|rfl
      .obtain⟨rfl,i1,dv⟩:=dY aK J;exact absurd (fa m dv) Φ
      .exact absurd (fa m ag) Φ
     .obtain⟨c,m⟩:=eN r j;refine⟨c,(m.ext X).ab aL λJ=>?_⟩;rcases J with J|rfl
      .obtain⟨rfl,i1,dv⟩:=dY aK J;exact absurd (fa m dv) Φ
      .exact absurd (fa m ag) Φ
     .have he:r=g:=he;subst he;exact cQ cj eZ Φ j
     .by_cases i2:i<L.length
      .rw[Y1 i2] at hi;rw[Y1 Ω] at cl;exact e0 (ci i iZ i0 hi cl)
      .rw[Y4 Ω] at hi;rw[Y4 Ω] at cl;have i3:i-L.length=0:=by have:=(x4.1 hi).1;simp at this;omega
       have c8:i-aB.length=0:=Ω
       rw[i3] at hi;rw[c8] at cl;cases hi;cases cl;exact e0 b5
     .rcases iX r j with h|h
      .exact .inl (bm r h)
      .have:=(cj.leads j);have:=du.size;exact .inr ⟨Ω,Ω⟩
     .rw[ca];cases ae:dN sizes K with
      |none=>
       rw[ae] at br;rw[br] at bz;exact⟨bz.1,by rw[p9];simp;have:=bz.2;omega⟩
      |some p=>
       obtain⟨lines,bl⟩:=p;rw[ae] at br;rw[br] at bz;have i4:=a2 _ ae;obtain⟨cm,cn,cp,cq,cr,bT,ct,aQ,cV⟩:=id bz;have e1:=Dh ae;refine⟨cm,cn,cp,cq,cr,bT,ct,?_,?_⟩
       .show (aB++[x]).map _=bl.shared++[(sizes,lines)];rw[b6,aQ];simp only[x,U6,List.map_nil];rw[i4]
       .have jV:K.shared.length+K.toks.length<=100000:=by
         cases bN:P with
         |none=>rw[bN] at V;cases V
         |some an=>
          rw[bN] at V h;have dm:bf 0 aw (bd (decide (6<ar)||dq sizes) an)=σ (o,K):=V;have t9:=dB dm;have cP:=t9.1;have cb:=t9.eqs.2.2;have t3:=(td h).2;have e2:(bd (decide (6<ar)||dq sizes) an).toks=an.toks:=rfl;have e3:(bd (decide (6<ar)||dq sizes) an).shared=an.shared:=rfl;rw[e2] at cP;rw[e3] at cb;rw[cb];omega
        have e4:L.length=bl.shared.length:=by rw[<-aQ,u7,cg]
        have i5:bh.length=bl.toks.length:=by rw[<-bT,u7]
        rw[e1.2] at e4;rw[p9,e4,i5];simp only[R2];have:=e1.1;omega
    .rintro (j|j)
     .exact cG j
     .omega
    .rcases j with j|j
     .have:=cH r j;omega
     .exact j.2
 .intro ay aZ;rw[aN,al];refine⟨λi6=>?_,λi7=>?_⟩
  .
   refine aV (λv W=>Ext N W/\ ∃b:Bool,v= .bool b/\(b=true->dN sizes K=ν)/\(b=false-> ∃lines,dN sizes K=σ (lines,G)/\G.shared[(-n-1).toNat]? =σ (sizes,lines))) ?_ ?_
   .rintro _ W ⟨bU,b,rfl,i8,i9⟩;have cW:=a8.ext bU;have ja:=eJ.ext bU;have e5:=eI.trans (bU.ab _);cases b with
    |true=>
     rw[bQ];refine (nS cW Ω).mono ?_;rintro _ c3 _ ⟨e6,jb⟩;exact eB (ja.dF e6 (kl cW)) (e5.trans (e6.mono λr _ h=>.inl h)) jb (by rw[ca,i8 rfl])
    |false=>
     rw[aY];obtain⟨lines,jc,bV⟩:=i9 rfl;obtain⟨b7,w0,aq,bh,gs,sv,L,aB,Y,Z,bad,av,big,az,told,cS,bu,bw,ag,bx,bm,cm,cn,cp,cq,cr,bT,ct,aQ,cV⟩:=id cW;obtain⟨_,aK,cg,ci⟩:=bx.g bu bw;have cw:(-n-1).toNat<L.length:=by
      have h1:=(x4.1 bV).1;rw[<-aQ,u7] at h1;omega
     obtain⟨hk,cz⟩:∃h,L[(-n-1).toNat]? =σ h:=⟨_,x6 cw⟩;obtain⟨bc,cA⟩:=aH (l:=aB) (i:=(-n-1).toNat) Ω;obtain⟨_,_,_,jd,aj⟩:=ci _ hk bc cz cA;have je:bc.lines=lines:=by
      rw[<-aQ,x8,cA] at bV;have:=j6 bV;exact (Prod.mk.inj this).2
     rw[aO bA.p 8 ag rfl,lD,wrap_i64 Ω Ω,dJ,wrap_i64 Ω Ω,dr (i:=(-n-1).toNat) Ω dw.u a1.i aK cw,aW a1.p rfl,aA Ψ (aK.range cz 3 _ rfl)];obtain⟨jW,e7,jX,jY⟩:=id aj;have cX:af W C a1 [aP,szv,Δ o,b0]:=(bJ.ab bk λhe=>b4 he).ext bU;have jf:=(ew f224 bk λr j=>(kl bM r j).imp (λ⟨e,c,m,a6,a7,_⟩=>⟨e,c,m,a6,a7⟩) id).ext bU;have jg:=(ew f324 bk λr j=>(kl bM r j).imp (λ⟨e,c,m,a6,a7,_⟩=>⟨e,c,m,a6,a7⟩) id).ext bU;rw[aW a1.p rfl];refine bt (g:=C) (o:=3) dU.i (eH e7.sl).1 (eH e7.sl).2 cX Ξ λeo cB jZ jh=>?_;refine aZ _ ⟨e5.trans (cB.mono λr _ h=>.inr (by have h:r=C:=h;omega)),hk.b0,jd,lines,G,jh,ew jf cB (bL cX),ew jg cB (bL cX),?_,cW.new cB λr j=>by have j:r=C:=j;omega,λh=>Ω,by rw[jc,if_pos Ω]⟩;rw[<-je];exact aj.dF cB (bL cX)
   .intro j1 e8;intro O cD _ _;have ji:=a8.ext cD;obtain⟨b7,w0,aq,bh,gs,sv,L,aB,Y,Z,bad,av,big,az,told,cS,bu,bw,ag,bx,bm,cm,cn,cp,cq,cr,bT,ct,aQ,cV⟩:=id ji;obtain⟨_,aK,cg,ci⟩:=bx.g bu bw;have j2:G.shared.length=L.length:=by rw[<-aQ,u7,cg]
    have aj:=eK;rw[if_pos i6] at aj;rw[lD,wrap_i64 Ω Ω,aO bA.p 8 ag rfl,e9 dw.u aK,bR,al];refine⟨λcd=>e8 _ _ ⟨cD,true,rfl,λ_=>?_,λh=>by cases h⟩,λcd=>?_⟩
    .rw[aj,Z6 Ω]
    have cw:(-n-1).toNat<L.length:=Ω
    obtain⟨hk,cz⟩:∃h,L[(-n-1).toNat]? =σ h:=⟨_,x6 cw⟩;obtain⟨bc,cA⟩:=aH (l:=aB) (i:=(-n-1).toNat) Ω;obtain⟨_,⟨gz,jj⟩,_,_⟩:=ci _ hk bc cz cA;have bV:G.shared[(-n-1).toNat]? =σ (bc.sizes,bc.lines):=by rw[<-aQ,x8,cA];rfl
    rw[bV] at aj;simp only at aj;rw[aO bA.p 8 ag rfl,lD,wrap_i64 Ω Ω,dJ,wrap_i64 Ω Ω,dr (i:=(-n-1).toNat) Ω dw.u a1.i aK cw,aW a1.p rfl,aA Ψ (aK.range cz 1 _ rfl)];have jk:af O C a1 [aP,szv,Δ o,b0]:=(bJ.ab bk λhe=>b4 he).ext cD;have jl:=(ew f324 bk λr j=>(kl bM r j).imp (λ⟨e,c,m,a6,a7,_⟩=>⟨e,c,m,a6,a7⟩) id).ext cD;rw[aT a1.p 1 jk rfl];refine (wF jj.ls jl.ls).mono ?_;rintro _ c4 _ ⟨rfl,jm⟩;rw[bI];refine e8 _ _ ⟨cD.trans jm,_,rfl,λm=>?_,λm=>?_⟩
    .have jn:bc.sizes≠sizes:=by simpa using m
     rw[aj,if_neg jn]
    .have fb:bc.sizes=sizes:=by simpa using m
     exact⟨bc.lines,by rw[aj,if_pos fb],by rw[bV,fb]⟩
  .
   have aj:=eK;rw[if_neg i7] at aj;obtain⟨b7,w0,aq,bh,gs,sv,L,aB,Y,Z,bad,av,big,az,told,cS,bu,bw,ag,bx,bm,cm,cn,cp,cq,cr,bT,ct,aQ,cV⟩:=id a8;rw[aO bA.p 7 ag rfl,aM];generalize jo:X2.wrap (told+n)=bn;have fc:G.big=false->bn=G.told+n/\0<=bn:=λm=>by
    obtain⟨e2,e3⟩:=iC m;have jp:=cq m;rw[<-jo,jp,wrap_i64 Ω Ω];exact⟨rfl,Ω⟩
   rw[bS,aW bA.p rfl];refine bt (g:=g) (o:=7) ap.i rfl rfl ag (by simp[gw]) λaG fd j3 cE=>?_;have cE:af aG g bA (gw aq Y Z bad av big az bn sv):=cE;refine dh (λaI=>ah (λr=>r=g) N aI/\af aI g bA (gw aq Y Z bad av big az (min bn aw) sv)) ?_ ?_
   rotate_left
   .intro j7 fe;rw[aO bA.p 7 cE rfl,bR,al];refine⟨λcd=>?_,λcd=>fe _ ⟨fd,?_⟩⟩
    .rw[bS,aW bA.p rfl];refine bt (g:=g) (o:=7) ap.i rfl rfl cE (by simp[gw]) λes jq j8 jr=>?_;refine fe _ ⟨fd.trans jq,?_⟩;have e:min bn aw=4611686018427387904:=by unfold aw;omega
     rw[e];exact jr
    .have e:min bn aw=bn:=by unfold aw;omega
     rw[e];exact cE
   rintro aI ⟨ff,fh⟩;have js:bH aI g B H 100000 (σ {G with told:=min (G.told+n) aw}):=⟨b7,w0,aq,bh,gs,sv,L,aB,Y,Z,bad,av,big,az,_,cS,bu.trans ff,bw,fh,bx,bm,cm,cn,cp,λm=>by
    have m:G.big=false:=m;rw[(fc m).1],cr,bT,ct,aQ,cV⟩
   rw[aO bA.p 7 fh rfl,bR];refine (mB js).mono ?_;rintro _ c5 _ ⟨jt,fi⟩;have ju:(σ {G with told:=min (G.told+n) aw}).map (bd (decide (16384<min bn aw)))=σ (bd (decide (16384<min (G.told+n) aw)) {G with told:=min (G.told+n) aw}):=by
    show σ (bd _ _)=_;congr 1;unfold bd;cases m:G.big with
    |true=>simp
    |false=>rw[(fc m).1]
   rw[ju] at fi;have cF:ah (λr=>r=g) be c5:=(bk.trans ff).trans jt;have dx:∀r,r=g->gZ be r\/be.heap.size<=r:=λr j=>(kl bM r j).imp (λ⟨e,c,m,a6,a7,_⟩=>⟨e,c,m,a6,a7⟩) id;have jv:b0= .slice ν 0 0:=by
    have:=fj _ f1;simpa using this
   refine aZ _ ⟨eE.trans (cF.mono λr _ h=>.inl h),b0,cO,[],_,bJ.ab cF λhe=>b4 he,ew f224 cF dx,ew f324 cF dx,eD.dF cF dx,fi,λ_=>⟨rfl,λr j=>by rw[jv] at j;exact fg j⟩,?_⟩;rw[aj];by_cases eF:n<=0
   .have:n=0:=Ω
    subst this;rw[if_pos (T2 _)];rfl
   .rw[if_neg eF]
theorem Dk {s:aD}:c6 all s=match bf (-aw) aw s with
  |none=>ν
  |some (a,f)=>match eZ all.length a.natAbs f with
   |none=>ν
   |some (scope,e)=>jK (decide (a<0)) a.natAbs scope (scope.map λv=>all.getD v.toNat 0) (σ e):=by
 unfold c6;cases bf (-aw) aw s with
 |none=>rfl
 |some q=>
  obtain⟨a,f⟩:=q;simp only;cases eZ all.length a.natAbs f with
  |none=>rfl
  |some p=>
   obtain⟨scope,e⟩:=p;simp only;unfold jK;show _=match bf 0 aw (bd (decide (6<a.natAbs)||dq (scope.map λv=>all.getD v.toNat 0)) e) with
    |none=>ν
    |some (other,h)=>_
   cases bf 0 aw (bd (decide (6<a.natAbs)||dq (scope.map λv=>all.getD v.toNat 0)) e) with
   |none=>rfl
   |some m=>
    obtain⟨o,h⟩:=m;simp only;cases dN (scope.map λv=>all.getD v.toNat 0) h with
    |none=>rfl
    |some r=>
     obtain⟨ls,w⟩:=r;by_cases j:a<0
     .simp[j]
     .simp[j]
def wH (w:x3) (g:Nat) (H:ak) (e:Option (cv×aD)) (v:x1) (w':x3):Prop:=∃f x a,ah (λr=>r=g\/H r) w w'/\v= .agg (eT f).toArray/\gK w' f x/\bH w' g w'.heap.size a 100001 (e.map (·.2))/\(∀q,e=σ q->x=q.1)/\(∀r,H r->a r)/\(∀r,a r->H r\/w.heap.size<=r)/\ ∀r,a r->r<w'.heap.size
theorem Dl {n:Int} {s s':aD} (h:eZ n k s=σ (l,s')):s'.toks.length+l.length<=s.toks.length/\s'.told=s.told/\s'.big=s.big/\s'.shared=s.shared/\ ∀v∈l,0<=v/\v<n:=by
 have:=ka (f:=kb n) (λ(acc:Λ) t=>t.toks.length+acc.length<=s.toks.length/\t.told=s.told/\t.big=s.big/\t.shared=s.shared/\ ∀v∈acc,0<=v/\v<n) (λacc t a bw j e=>by
  unfold kb at e;cases p:bf 0 (n-1) t with
  |none=>rw[p] at e;cases e
  |some q=>
   obtain⟨v,A⟩:=q;rw[p] at e;simp only at e;split at e
   .cases e
   .cases e;have r:=dB p;have B:=(hJ p).1;obtain⟨w,x,z⟩:=r.eqs;have t0:=r.1;refine⟨by have:=j.1;rw[p9];simp only[R2];omega,w.trans j.2.1,x.trans j.2.2.1,z.trans j.2.2.2.1,λy m=>?_⟩;rcases o7.1 m with m|m
    .exact j.2.2.2.2 y m
    .rw[o9.1 m];omega) k [] s l s' ⟨Ξ,rfl,rfl,rfl,λv ac=>by cases ac⟩ h
 exact this.1
theorem NP {g B0:Nat} {H:ak} {s:aD} {N:x1} (h:bH w g B0 H 100000 (σ s)) (Z:au .i64 ap w gz N all) (ad:∀z∈all,1<=z/\z<=aw) (aR:all.length<=100001) (O:∀r,H r->r<w.heap.size) (bm:jJ s):
  am x7 ze [Γ g,N] w (wH w g H (c6 all s)):=by
 have bW:=h.lt;refine az func87 ?_;refine bG a1.i λE U bX P Q=>?_;have Q:af U E a1 [.slice ν 0 0,.slice ν 0 0,Δ 0,.slice ν 0 0]:=Q;refine bG a1.i λI V bY R S=>?_;have S:af V I a1 [.slice ν 0 0,.slice ν 0 0,Δ 0,.slice ν 0 0]:=S;have h1:=(h.ext P).base;have ae:=h1.ext R;have bZ:=P.size;have aS:=Q.lt;have b1:=S.lt;refine (kk ae).mono ?_;rintro _ C _ ⟨⟨W,j⟩,a,b2,rfl,ag,ai⟩;rw[bi,bj,aN];have bn:I≠g:=Ω
 have aj:E≠g:=Ω
 have an:=S.ab W λhe=>bn he;have ao:=(Q.ext R).ab W λhe=>aj he;have aT:au .i64 ap C gz N all:=bp ((Z.ext P).ext R) W λr e he=>by
  have he:r=g:=he;obtain⟨aU,A,G,bad,aW,big,aX,told,sv,X,_⟩:=hM h;subst he;exact b4 Z X Φ e rfl
 have aY:∀r,leads N r->r<U.heap.size:=λr e=>by obtain⟨A,G⟩:=bM Z e;omega
 have aq:ha C U.heap.size I ⟨[],[],0,[]⟩:=⟨_,_,_,0,0,0,an,au.nil _ _ _ _,au.nil _ _ _ _,⟨[],bg.nil _ _ _ _ _,λy bo=>(by cases bo),rfl⟩,(λr e=>by rcases e with⟨a,n,c,A,G⟩|⟨a,n,c,A,G⟩<;>cases A),(λr e=>by obtain⟨a,n,c,A,G⟩:=e;cases A),Ω⟩;have av:∀c,af C I a1 c->c[3]? =σ (.slice ν 0 0):=λc ax=>by
  unfold af at ax an;rw[an] at ax;have:=Array.toList_inj.2 (Obj.cells.inj (j6 ax)).1;simp at this;rw[<-this];rfl
 have aZ:ah (λr=>r=g) U C:=(R.ab _).trans W;have b3:U.heap.size<=C.heap.size:=aZ.size;have aA:∀ {f:x3} {aB:Option (cv×aD)} {v:x1} {w':x3},ah (gL g U.heap.size) C f->aB=c6 all s->Di f g E U.heap.size H aB v w'->wH w g H (c6 all s) v w':=by
  rintro f aB v w' B rfl ⟨M,x,bq,aE,aF,aH,aI,a2,a6,a7,br⟩;refine⟨M,x,bq,?_,aF,aH,aI,a2,a6,λr e=>(a7 r e).imp id λh=>Ω,br⟩;refine hp (hp ((P.ab _).trans (aZ.mono λr _ h=>.inl h)) B λr e he=>?_) aE λr e he=>?_
  .exact he.elim .inl λhe=>Ω
  .rcases he with he|he|he|he
   .exact .inl he
   .exact .inr he
   .omega
   .omega
 have bt:∀ {f:x3} {x:cv},ah (gL g U.heap.size) C f->c6 all s=ν->bH f g U.heap.size H 100000 ν->ha f U.heap.size I x->
   (aa x7 (u4 a1 (Γ I)) f λbu=>
    aC x7 (o6 a1 (Γ E) bu) f λ(_:Unit) a8=>
    aa x7 (do loadVar a1 (<-asAddr (Γ E))) a8 λbw=>wH w g H (c6 all s) bw a8):=by
  intro f x B ba aJ bx;obtain⟨aP,szv,b0,g1,bz,bA,aE,aF,aH,aI,a2,a6,a7⟩:=bx;let M:iF:=⟨aP,szv,x.other,b0⟩;have bc:gK f M x:=⟨⟨g1,aF⟩,⟨bz,aH⟩,rfl,bA,aI⟩;have aK:=ao.ab B λJ=>J.elim aj λh=>Ω
  rw[bO a1.p a1.i rfl (show f.rangeAt I 0 (eT M) from aE.range)];refine ck (vs:=eT M) a1.i rfl rfl bc.one aK λb5 aL b6 bB=>?_;rw[fO a1.p a1.i rfl bB.range];have bC:∀r,r=E->gZ f r\/f.heap.size<=r:=λr e=>by subst e;exact .inl ⟨_,_,aK,Φ,Φ⟩
  have b7:=B.size;refine aA B rfl ⟨M,x,H,aL.mono λr _ h=>.inr (.inr (.inl h)),rfl,bc.dF aL bC,?_,(λq m=>by rw[ba] at m;cases m),λ_ h=>h,λ_ h=>.inl h,λr e=>by have:=O r e;omega⟩;rw[ba];have bD:bH f g U.heap.size H 100001 ν:=by
   obtain⟨b8,w0,aU,bE,gs,sv,L,bF,A,G,bad,aW,big,aX,told,h1,ae,j,bI,bJ,aM,bd⟩:=aJ;exact⟨Ω,w0,aU,bE,gs,sv,L,bF,A,G,bad,aW,big,aX,told,h1,ae,j,bI,bJ,aM,bd.1,by have:=bd.2;omega⟩
  refine bD.dF aL λr e=>.inl ?_;have e:r=E:=e;subst e;exact⟨_,_,aK,Φ,Φ,Φ,Φ,λaG=>by have:=O _ aG;omega⟩
 have K:=Dk (all:=all) (s:=s);have bK:bb (-4611686018427387904) 4611686018427387904 (σ s)=bf (-aw) aw s:=rfl;rw[bK] at j ag ai;have b9: -4611686018427387904<=a/\a<=4611686018427387904:=by
  cases m:bf (-aw) aw s with
  |none=>have:=ai m;omega
  |some q=>have:=ag q m;rw[this];exact (hJ (n:=q.1) (s':=q.2) m).1
 refine aV (λv bL=>C=bL/\v=Δ (a.natAbs:Int)) ?_ ?_
 rotate_left
 .intro ay be;rw[al];refine⟨λca=>?_,λcb=>be _ _ ⟨rfl,by congr 1;omega⟩⟩;rw[lD,wrap_i64 Ω Ω];exact be _ _ ⟨rfl,by congr 1;omega⟩
 rintro _ _ ⟨rfl,rfl⟩;have bh:∀r,H r->r<U.heap.size:=λr e=>by have:=O r e;omega
 have bk:¬H E:=λaG=>by have:=O _ aG;omega
 have bN:∀ {scope:Λ},(∀v∈scope,0<=v/\v<(all.length:Int))-> ∀z∈scope.map (λv=>all.getD v.toNat 0),1<=z/\z<=aw:=λac z bP=>by
  obtain⟨v,bQ,rfl⟩:=n9.1 bP;have:=ac v bQ;refine ad _ ?_;rw[v8,x6 Ω];exact T9 _
 cases m:bf (-aw) aw s with
 |none=>
  rw[m] at j K;have bR:=ai m;subst bR;refine Dg (s:=s) (ar:=(0:Int).natAbs) j (.inr ⟨rfl,rfl⟩) aq av aT aY aR Φ (λh=>by cases h) ?_ ?_ ?_
  .intro h;cases h
  .intro _;exact Dj (neg:=decide ((0:Int)<0)) j aq av (λz ad=>by cases ad) Ξ ao aS bk bh (λbS J=>by cases J) λv w' aO=>aA (ah.refl _ _) (by rw[K];rfl) aO
  .intro h;cases h
 |some q=>
  obtain⟨a',bl⟩:=q;rw[m] at j K;have:=ag _ m;subst this;simp only at K;have j:bH C g U.heap.size H 100000 (σ bl):=j;have bT:=dB m;refine Dg (s:=bl) (ar:=a.natAbs) j (.inl rfl) aq av aT aY aR Ω (λ_=>(td j).1) ?_ ?_ ?_
  .intro _ f x B Y aJ aQ;exact bt B (by rw[K,Y]) aJ aQ
  .intro h;cases h
  .intro _ f scope s' B Y aM aQ bU;obtain⟨cc,bV,t3,t4,t5⟩:=Dl Y;rw[Y] at K;obtain⟨A,G,cd⟩:=bT.eqs;refine Dj (neg:=decide (a<0)) aM aQ bU (bN t5) ?_ (ao.ab B λJ=>J.elim aj λh=>Ω) aS bk bh (λbS J=>?_) λv w' aO=>aA B K.symm aO
   .rw[u7];have:=(td j).1;omega
   .cases J;intro X;rw[t3,G] at X;rw[bV,A];exact bm X
theorem NQ {s s':aD} {l:List (Λ×Int)} (h:dN sizes s=σ (l,s')) (r:jJ s):jJ s':=by
 unfold dN at h;cases m:bf (-aw) aw s with
 |none=>rw[m] at h;cases h
 |some q=>
  obtain⟨n,e⟩:=q;obtain⟨w,x,t3⟩:=(dB m).eqs;have p:jJ e:=λj=>by rw[w];exact r (by rw[<-x];exact j)
  rw[m] at h;simp only at h;split at h
  .split at h
   .cases h
   .split at h
    .cases h;exact p
    .cases h
  .rename_i G;have h':cN (dM sizes) n.toNat [] (bd (decide (16384<min (e.told+n) aw)) {e with told:=min (e.told+n) aw})=σ (l,s'):=h;have:=ka (f:=dM sizes) (λ_ t=>jJ t) (λacc t a bw y z=>by
    obtain⟨_,_,_,A⟩:=oT z;obtain⟨B,C,H⟩:=A.eqs;intro j;rw[B];exact y (by rw[<-C];exact j)) n.toNat [] (bd (decide (16384<min (e.told+n) aw)) {e with told:=min (e.told+n) aw}) l s' (λj=>by
     obtain⟨E,F⟩:=T4.1 j;have I:=p E;have J:=of_decide_eq_false F;show 0<=min (e.told+n) aw/\min (e.told+n) aw<=16384;unfold aw at*;omega) h'
   exact this.1
theorem NR {s s':aD} {x:cv} (h:c6 all s=σ (x,s')):s'.toks.length+1<=s.toks.length/\(jJ s->jJ s'):=by
 rw[Dk] at h;cases m:bf (-aw) aw s with
 |none=>rw[m] at h;cases h
 |some q=>
  obtain⟨a,E⟩:=q;rw[m] at h;simp only at h;have z:=dB m;cases J:eZ all.length a.natAbs E with
  |none=>rw[J] at h;cases h
  |some p=>
   obtain⟨scope,f⟩:=p;rw[J] at h;simp only at h;obtain⟨T,F,t3,_⟩:=Dl J;unfold jK at h;have e:bb 0 aw ((σ f).map (bd (decide (6<a.natAbs)||dq (scope.map λv=>all.getD v.toNat 0))))=bf 0 aw (bd (decide (6<a.natAbs)||dq (scope.map λv=>all.getD v.toNat 0)) f):=rfl;rw[e] at h;cases r:bf 0 aw (bd (decide (6<a.natAbs)||dq (scope.map λv=>all.getD v.toNat 0)) f) with
   |none=>rw[r] at h;cases h
   |some G=>
    obtain⟨o,A⟩:=G;rw[r] at h;simp only at h;have B:=dB r;cases j:dN (scope.map λv=>all.getD v.toNat 0) A with
    |none=>rw[j] at h;cases h
    |some H=>
     obtain⟨ls,w⟩:=H;rw[j] at h;simp only[Y8,S0] at h;obtain⟨_,I⟩:=h;have U:=Dh j;have K:(bd (decide (6<a.natAbs)||dq (scope.map λv=>all.getD v.toNat 0)) f).toks=f.toks:=rfl;have L:=B.1;rw[K] at L;have V:=z.1;obtain⟨M,N,_⟩:=z.eqs;obtain⟨f1,f2,_⟩:=B.eqs;have y:s'.toks=w.toks/\s'.told=w.told/\s'.big=w.big:=by
      rw[<-I];split<;>exact⟨rfl,rfl,rfl⟩
     refine⟨by rw[y.1];omega,λO=>?_⟩;have P:jJ A:=λC=>by
      rw[f2] at C;rw[f1];have Q:f.big=false:=(T4.1 C).1;show 0<=f.told/\f.told<=16384;rw[F,M];exact O (by rw[<-N,<-t3];exact Q)
     have R:=NQ j P;intro S;rw[y.2.1];exact R (by rw[<-y.2.2];exact S)
theorem bH.shrink {g:Nat} {H:ak} {so:Option aD} (h:bH w g B H N so):∃a,bH w g B a N so/\(∀r,a r->H r)/\ ∀r,a r-> ∃c,af w r a1 c:=by
 obtain⟨q,w0,s,x,gs,sv,L,y,z,A,bad,C,big,E,told,h1,f,j,F,m,G,I⟩:=h;refine⟨λr=>leadsTo sv r,⟨q,w0,s,x,gs,sv,L,y,z,A,bad,C,big,E,told,h1,f,j,F,m,λr e=>e,I⟩,G,λr e=>?_⟩;obtain⟨rfl,c,p⟩:=dY m.2.1 e;refine⟨c,p.ab f λhe=>?_⟩;obtain⟨K,J⟩:=j;subst he;exact absurd (fa p J) Φ
theorem bH.low {g:Nat} {H:ak} {s:aD} (h:bH w g B H N (σ s)):bH w g B H 100000 (σ s):=by
 obtain⟨E,w0,a,e,gs,sv,L,f,j,m,bad,p,big,q,told,h1,r,x,y,z,A,C⟩:=h;exact⟨p8 _,w0,a,e,gs,sv,L,f,j,m,bad,p,big,q,told,h1,r,x,y,z,A,C⟩
theorem bH.up {g M:Nat} {H:ak} {so:Option aD} (h:bH w g B H N so) (E:N<=M):bH w g B H M so:=by
 obtain⟨F,w0,e,f,gs,sv,L,j,m,p,bad,q,big,r,told,h1,x,y,z,A,C,a⟩:=h;refine⟨Ω,w0,e,f,gs,sv,L,j,m,p,bad,q,big,r,told,h1,x,y,z,A,C,?_⟩;cases so with
 |none=>exact⟨a.1,by have:=a.2;omega⟩
 |some s=>exact a
def k4 {α:Type} (f:List α->aD->Option (α×aD)) (cnt i:Nat) (a:Option aD) (A:List α) (so:Option aD):Prop:=a.bind (cN f cnt [])=(match so with
 |none=>ν
 |some s=>cN f (cnt-i) A s)
theorem k4.step {α:Type} {f:List α->aD->Option (α×aD)} {cnt i:Nat} {j:Option aD} {A:List α} {s:aD} {a:α} {m:Option aD} (h:k4 f cnt i j A (σ s)) (hi:i<cnt) (h1:m=(f A s).map (·.2)) (p:∀q,f A s=σ q->a=q.1):k4 f cnt (i+1) j (A++[a]) m:=by
 unfold k4 at*;rw[h,show cnt-i=(cnt-(i+1))+1 by omega];simp only;cases e:f A s with
 |none=>rw[oW e,h1,e];rfl
 |some q=>
  obtain⟨a',s'⟩:=q;have:=p _ e;subst this;rw[sq e,h1,e];rfl
theorem NS {s0:aD} {t acc:Λ} {n most m k:Int} {F:List cv} {w x y z G so6 e:Option aD} (h1:w=((dL s0).map (·.2)).map (bd (decide (64<t.length)))) (P:∀q,dL s0=σ q->t=q.1)
  (p:x=((bb 1 aw w).map (·.2)).map (bd (decide (64<n)))) (M:∀q,bb 1 aw w=σ q->n=q.1) (h:y=(bb 1 aw x).map (·.2)) (hm:∀q,bb 1 aw x=σ q->most=q.1)
  (f:z=((bb 0 aw y).map (·.2)).map (bd (decide (256<m)))) (N:∀q,bb 0 aw y=σ q->m=q.1) (a:G=((bb 1 aw z).map (·.2)).map (bd (decide (2147483648<k)))) (hk:∀q,bb 1 aw z=σ q->k=q.1)
  (r:G.bind (cN (fP most) n.toNat [])=so6.map λs=>(acc,s)) (j:so6.bind (cN (λ_ s=>c6 acc s) m.toNat [])=e.map λs=>(F,s)):hG s0=e.map λs=>(⟨t,k,acc,F⟩,s):=by
 unfold hG;cases H:dL s0 with
 |none=>
  rw[H] at h1;subst h1;subst p;subst h;subst f;subst a;have:so6=ν:=by cases so6 with|none=>rfl|some s=>cases r
  subst this;cases e with|none=>rfl|some s=>cases j
 |some Q=>
 obtain⟨bw,A⟩:=Q;have:=P _ H;subst this;rw[H] at h1;have h1:w=σ (bd (decide (64<t.length)) A):=h1;subst h1;simp only;have R:bb 1 aw (σ (bd (decide (64<t.length)) A))=bf 1 aw (bd (decide (64<t.length)) A):=rfl;rw[R] at p M;cases I:bf 1 aw (bd (decide (64<t.length)) A) with
 |none=>
  rw[I] at p;subst p;subst h;subst f;subst a;have:so6=ν:=by cases so6 with|none=>rfl|some s=>cases r
  subst this;cases e with|none=>rfl|some s=>cases j
 |some S=>
 obtain⟨aa,B⟩:=S;have:=M _ I;subst this;rw[I] at p;have p:x=σ (bd (decide (64<n)) B):=p;subst p;simp only;have T:bb 1 aw (σ (bd (decide (64<n)) B))=bf 1 aw (bd (decide (64<n)) B):=rfl;rw[T] at h hm;cases J:bf 1 aw (bd (decide (64<n)) B) with
 |none=>
  rw[J] at h;subst h;subst f;subst a;have:so6=ν:=by cases so6 with|none=>rfl|some s=>cases r
  subst this;cases e with|none=>rfl|some s=>cases j
 |some U=>
 obtain⟨ci,C⟩:=U;have:=hm _ J;subst this;rw[J] at h;have h:y=σ C:=h;subst h;simp only;have V:bb 0 aw (σ C)=bf 0 aw C:=rfl;rw[V] at f N;cases K:bf 0 aw C with
 |none=>
  rw[K] at f;subst f;subst a;have:so6=ν:=by cases so6 with|none=>rfl|some s=>cases r
  subst this;cases e with|none=>rfl|some s=>cases j
 |some W=>
 obtain⟨ab,E⟩:=W;have:=N _ K;subst this;rw[K] at f;have f:z=σ (bd (decide (256<m)) E):=f;subst f;simp only;have X:bb 1 aw (σ (bd (decide (256<m)) E))=bf 1 aw (bd (decide (256<m)) E):=rfl;rw[X] at a hk;cases L:bf 1 aw (bd (decide (256<m)) E) with
 |none=>
  rw[L] at a;subst a;have:so6=ν:=by cases so6 with|none=>rfl|some s=>cases r
  subst this;cases e with|none=>rfl|some s=>cases j
 |some Y=>
 obtain⟨ac,O⟩:=Y;have:=hk _ L;subst this;rw[L] at a;have a:G=σ (bd (decide (2147483648<k)) O):=a;subst a;simp only;have r:cN (fP most) n.toNat [] (bd (decide (2147483648<k)) O)=so6.map λs=>(acc,s):=r;rw[r];cases so6 with
 |none=>cases e with|none=>rfl|some s=>cases j
 |some Z=>
  simp only[Z3];have j:cN (λ_ s=>c6 acc s) m.toNat [] Z=e.map λs=>(F,s):=j;rw[j];cases e<;>rfl
def pi (w:x3) (gr:Nat) (e:x1) (a:List cv):Prop:=∃L,bg eT 4 a1 w gr e L/\a.length=L.length/\ ∀ (i:Nat) h x,L[i]? =σ h->a[i]? =σ x->gK w h x
def nT (w:x3) (e:Nat) (f:bZ):Prop:=∃szv gz a gr,af w e dA [bN f.name,Δ f.k,szv,a]/\au .i64 ap w gz szv f.sizes/\pi w gr a f.funs
theorem pi.ext {gr:Nat} {a:x1} {e:List cv} (h:pi w gr a e) (I:Ext w w'):pi w' gr a e:=by
 obtain⟨L,h1,f,j⟩:=h;exact⟨L,h1.ext I,f,λi aG x hi m=>(j i aG x hi m).ext I⟩
theorem nT.ext {f:bZ} (h:nT w a f) (I:Ext w w'):nT w' a f:=by
 obtain⟨szv,gz,e,gr,h1,j,m⟩:=h;exact⟨szv,gz,e,gr,h1.ext I,j.ext I,m.ext I⟩
def NT (w:x3) (pl:Λ) (v:x1) (w':x3):Prop:=Ext w w'/\ ∃n e:Int,(gm pl=ν->v= .tuple #[.pointer ν,Δ n,Δ e])/\ ∀f,gm pl=σ f-> ∃a,v= .tuple #[Γ a,Δ n,Δ e]/\nT w' a f
theorem NU {w0:x3} {g y:Nat} {so6:Option aD} {t acc:Λ} {k R bad:Int} {szv p:x1} {Q:x1->x3->Prop} (dc:ah (λr=>w0.heap.size<=r) w0 w) (b0:af w y dA [bN t,Δ k,szv,.slice ν 0 0]) (dd:au .i64 ap w gz szv acc)
  (h:bH w g B bu 100000 so6) (de:∀s,so6=σ s->jJ s/\s.toks.length<=100000/\(∀z∈acc,1<=z/\z<=aw)/\acc.length<=100001) (fb:w0.heap.size<=g) (fc:w0.heap.size<=y) (df:aF .u8 w0 p pl) (fe:0<=R/\R<=4611686018427387904)
  (bj:∀v w' M bk,Ext w0 w'->so6.bind (cN (λ_ s=>c6 acc s) R.toNat [])=bk.map (λs=>(M,s))->
   (∀s,bk=σ s->s.toks=[]/\¬0<=bad/\s.big=false->v= .tuple #[Γ y,Δ (pl.length:Int),Δ 0]/\nT w' y ⟨t,k,acc,M⟩)->
   ((∀s,bk=σ s->¬(s.toks=[]/\¬0<=bad/\s.big=false))-> ∃n e:Int,v= .tuple #[.pointer ν,Δ n,Δ e])->Q v w'):
  ch (Δ 0) w λb1 C dg=>
   cu (α:=x1->x3->Prop) (λ(di:x1) (N:x3)=>
    Split di (en N λG=>
   aa x7 (bK (Γ y)) G λaH=>
   aa x7 (u5 dA aH 3) G λaI=>
   aa x7 (u4 dw aI) G λbl=>
   aa x7 (bK (Γ y)) G λdj=>
   aa x7 (u5 dA dj 2) G λdk=>
   aa x7 (u4 ax dk) G λdl=>
   am x7 ze [(Γ g),dl] G λdm ae=>
    (Ext G ae\/cC x7 (u4 dw aI) bl ae/\cC x7 (u5 dA aH 3) aI ae/\cC x7 (bK (Γ y)) aH ae/\True)/\
   aC x7 (Y0 dw 1 #[(0,dm)]) ae λdn S=>
    (Ext G S\/cC x7 (u4 dw aI) bl S/\cC x7 (u5 dA aH 3) aI S/\cC x7 (bK (Γ y)) aH S/\True)/\
    aC x7 (b8 #[dw,dw] dw #[bl,dn]) S λdp aZ=>
     aa x7 (bK (Γ y)) aZ λdq=>
     aa x7 (u5 dA dq 3) aZ λdr=>
     aC x7 (o6 dw dr dp) aZ λ(_:Unit) aK=>
     aa x7 (aJ .add ap false true b1 (Δ 1)) aK λds=>
   dg ds aK)
     (cu (α:=x3->Prop) (λ(P:x3)=>
   cu (α:=x3->Prop) (λ(E:x3)=>
    aa x7 (bK (Γ g)) E λdt=>
    aa x7 (u5 bA dt 3) E λdu=>
    aa x7 (u4 ai du) E λdv=>
    aa x7 (aJ .neq ai false true dv (Δ 0)) E λdx=>
    Split dx (en E λY=>
     aa x7 (bK (Γ g)) Y λdy=>
     aa x7 (u5 bA dy 4) Y λdz=>
     aa x7 (u4 ai dz) Y λdC=>
     aa x7 (bK (Γ g)) Y λdD=>
     aa x7 (u5 bA dD 3) Y λdE=>
     aa x7 (u4 ai dE) Y λdG=>
     Q (.tuple #[(.pointer ν),dC,dG]) Y)
     (aa x7 (bK (Γ g)) E λdH=>
    aa x7 (u5 bA dH 5) E λdI=>
    aa x7 (u4 ai dI) E λdJ=>
    aa x7 (aJ .neq ai false true dJ (Δ 0)) E λdK=>
    Split dK (en E λZ=>
     aa x7 (bK (Γ g)) Z λdL=>
     aa x7 (u5 bA dL 6) Z λdM=>
     aa x7 (u4 ai dM) Z λdN=>
     aa x7 (bK (Γ g)) Z λdO=>
     aa x7 (u5 bA dO 5) Z λdP=>
     aa x7 (u4 ai dP) Z λdQ=>
     Q (.tuple #[(.pointer ν),dN,dQ]) Z)
     (aa x7 (W6 #[cM] ai #[p]) E λdR=>
    Q (.tuple #[(Γ y),dR,(Δ 0)]) E))) λb2=>
   cu (α:=x1->x3->Prop) (λ(dS:x1) (a2:x3)=>
    Split dS (am x7 m8 [(Γ g),(Δ 11),(Δ bad)] a2 λff b4=>
     b2 b4)
     (b2 a2)) λb5=>
   aa x7 (bK (Γ g)) P λdT=>
   aa x7 (u5 bA dT 3) P λdU=>
   aa x7 (u4 ai dU) P λdV=>
   aa x7 (aJ .eql ai false true dV (Δ 0)) P λdW=>
   Split dW (aa x7 (aJ .geq ai false true (Δ bad) (Δ 0)) P λdX=>
   b5 dX P)
    (b5 (.bool false) P)) λb6=>
  cu (α:=x1->x3->Prop) (λ(dZ:x1) (U:x3)=>
   Split dZ (aa x7 (bK (Γ g)) U λea=>
    aa x7 (u5 bA ea 0) U λeb=>
    aa x7 (u4 fd eb) U λec=>
    aa x7 (j5 fd ec (Δ 0)) U λed=>
    aa x7 (u5 cj ed 1) U λee=>
    aa x7 (u4 ai ee) U λef=>
    am x7 m8 [(Γ g),(Δ 4),ef] U λfh bm=>
    b6 bm)
    (b6 U)) λb7=>
  aa x7 (bK (Γ g)) N λeg=>
  aa x7 (u5 bA eg 3) N λeh=>
  aa x7 (u4 ai eh) N λei=>
  aa x7 (aJ .eql ai false true ei (Δ 0)) N λej=>
  Split ej (aa x7 (bK (Γ g)) N λek=>
  aa x7 (u5 bA ek 0) N λem=>
  aa x7 (u4 fd em) N λeo=>
  aa x7 (W6 #[fd] ai #[eo]) N λep=>
  aa x7 (aJ .gtr ai false true ep (Δ 0)) N λer=>
  b7 er N)
   (b7 (.bool false) N))) λb9=>
   aa x7 (aJ .lss ap false false b1 (Δ R)) C λes=>
   Split es (aa x7 (bK (Γ g)) C λet=>
   aa x7 (u5 bA et 3) C λeu=>
   aa x7 (u4 ai eu) C λev=>
   aa x7 (aJ .eql ai false true ev (Δ 0)) C λey=>
   b9 ey C)
    (b9 (.bool false) C):=by
 have ca:y≠g:=λhe=>by
  obtain⟨ag,ac,ad,bad,aj,big,an,told,sv,A,_⟩:=hM h;subst he;exact absurd (fa A b0) Φ
 refine⟨λbn C=>∃i:Nat,bn=Δ (i:Int)/\i<=R.toNat/\ah (λr=>w0.heap.size<=r) w0 C/\ ∃O gr M so,∃H:ak,af C y dA [bN t,Δ k,szv,O]/\au .i64 ap C gz szv acc/\pi C gr O M/\(∀r,leadsTo O r->w0.heap.size<=r/\¬H r)/\¬H y/\(∀r,leads szv r->¬H r)/\(∀r,H r->w0.heap.size<=r)/\bH C g C.heap.size H 100001 so/\k4 (λ_ s=>c6 acc s) R.toNat i so6 M so/\
   ∀s,so=σ s->jJ s/\M.length+s.toks.length<=100000/\(∀z∈acc,1<=z/\z<=aw)/\acc.length<=100001,λbn _=>R.toNat-(bU bn).toNat,
  ⟨0,rfl,X3 _,dc,_,0,[],so6,bu,b0,dd,⟨[],bg.nil _ _ _ _ _,rfl,λi h x hi=>by simp at hi⟩,λr m=>(fg m).elim,id,λr _ h=>h,λr h=>h.elim,h.base.up Ω,?_,λs J=>?_⟩,?_⟩
 .unfold k4;cases so6<;>rfl
 .obtain⟨ez,eA,a3,a4⟩:=de s J;exact⟨ez,by simpa using eA,a3,a4⟩
 rintro _ C ⟨i,rfl,hi,a6,O,gr,M,so,H,cb,cc,cd,aL,bo,eB,ce,X,bp,eC⟩;refine aV (λv N=>C=N/\((v= .bool true/\i<R.toNat/\ ∃s,so=σ s)\/(v= .bool false/\(so=ν\/i=R.toNat)))) ?_ ?_
 rotate_left
 .intro ay bq;rw[aN,al];refine⟨λcg=>?_,λfi=>bq _ _ ⟨rfl,.inr ⟨rfl,.inr Ω⟩⟩⟩;rw[k3 X];cases so with
  |none=>exact bq _ _ ⟨rfl,.inr ⟨rfl,.inl rfl⟩⟩
  |some s=>exact bq _ _ ⟨rfl,.inl ⟨rfl,Ω,s,rfl⟩⟩
 rintro _ _ ⟨rfl,⟨rfl,cg,s,rfl⟩|⟨rfl,eD⟩⟩
 .
  rw[bQ];intro G ao _ _;obtain⟨ci,fj,ck,cl⟩:=eC s rfl;have aP:=cb.ext ao;obtain⟨eE,cm,aQ,cn⟩:=(X.ext ao).low.shrink;have br:=cc.ext ao;have eF:=cd.ext ao;rw[aO dA.p 3 aP rfl,aO dA.p 2 aP rfl];refine (NP cm br ck cl (λr m=>by obtain⟨c,A⟩:=cn r m;exact A.lt) ci).mono ?_;rintro _ ae _ ⟨bw,x,cp,aq,rfl,cq,eI,eJ,fk,cr,eK⟩;have ct:∃c,af G g bA c:=by obtain⟨ag,ac,ad,bad,aj,big,an,told,sv,A,_⟩:=hM cm;exact⟨_,A⟩
  have cw:∀r,(r=g\/eE r)->gZ G r\/G.heap.size<=r:=λr m=>by
   rcases m with rfl|m
   .obtain⟨c,A⟩:=ct;exact .inl ⟨_,c,A,Φ,Φ⟩
   .obtain⟨c,A⟩:=cn r m;exact .inl ⟨_,c,A,Φ,Φ⟩
  have bx:=aP.ab aq λm=>m.elim (λhe=>ca he) λm=>bo (aQ _ m);have st:∀ {w':x3},af w' y dA [bN t,Δ k,szv,O]->cC x7 (u4 dw (.pointer (σ ⟨y,0+3,ν⟩))) O w'/\cC x7 (u5 dA (Γ y) 3) (.pointer (σ ⟨y,0+3,ν⟩)) w'/\cC x7 (bK (Γ y)) (Γ y) w'/\True:=λA=>
   ⟨r6 Ψ (A.cell (o:=0+3) rfl),kW (by rw[aW dA.p rfl]),kW (by rw[bS]),trivial⟩
  refine⟨.inr (st bx),?_⟩;refine h2 (f:=eT) (a:=bw) dw.u a1.i Ω rfl rfl λfm fo S fp V eL=>?_;refine⟨.inr (st (bx.ext V)),?_⟩;obtain⟨L,av,bB,bC⟩:=id eF;have eM:bg eT 4 a1 ae gr O L:=av.ab aq λr m J=>J.elim (λhe=>by
   obtain⟨c,A⟩:=ct;subst he;exact cQ av A Φ m) λJ=>(aL r m).2 (aQ r J)
  have bD:=eM.ext V;refine iw (f:=eT) (a:=bw) dw.u a1.i rfl bD (by simpa using eL.sl) (cq.ext V).one Ω Ω λcz eN aZ a7 eO cA=>?_;have bE:=bx.ext V;have cB:=bE.ab cA λhe=>cQ bD bE Φ he;rw[bS,aW dA.p rfl];refine bt (g:=y) (o:=3) dw.i (eH a7.sl).1 (eH a7.sl).2 cB Ξ λaK cD fq bF=>?_;have bF:af aK y dA [bN t,Δ k,szv,cz]:=bF;have fs:i<=4611686018427387904:=Ω
  rw[aM,wrap_i64 Ω Ω];have az:ah (λr=>leadsTo O r\/r=y) S aK:=(cA.mono λr _ h=>.inl h).trans (cD.mono λr _ h=>.inr h);have cE:∀r,(leadsTo O r\/r=y)-> ∃e c,af S r e c/\e≠ap/\e≠b3/\e≠cj/\e≠bA:=λr m=>by
   rcases m with m|rfl
   .obtain⟨rfl,c,A⟩:=dY bD m;exact⟨_,c,A,Φ,Φ,Φ,Φ⟩
   .exact⟨_,_,bE,Φ,Φ,Φ,Φ⟩
  have bG:∀r,(leadsTo O r\/r=y)->gZ S r\/S.heap.size<=r:=λr m=>by
   obtain⟨e,c,A,bI,bJ,_⟩:=cE r m;exact .inl ⟨e,c,A,bI,bJ⟩
  have ft:=ao.size;have fu:=aq.size;have fv:=V.size;have fw:=az.size;have cF:∀r,leadsTo O r->r<G.heap.size:=λr m=>by obtain⟨ac,ad⟩:=av.leads m;omega
  have aR:∀r,r<G.heap.size->¬H r->¬cp r:=λr m eP bL=>(cr r bL).elim (λh=>eP (aQ r h)) λh=>Ω
  have eQ:∀r,leads szv r->r<G.heap.size:=λr m=>by obtain⟨ac,ad⟩:=bM br m;omega
  refine⟨⟨i+1,rfl,Ω,?_,cz,eN,M++[x],_,cp,bF,ew ((ew br aq cw).ext V) az bG,⟨L++[bw],a7.ab cD λr m he=>?_,by rw[p9,p9,bB];rfl,λj cG eR aB aS=>?_⟩,λr m=>?_,aR y aP.lt bo,λr m=>aR r (eQ r m) (eB r m),λr m=>?_,?_,bp.step cg rfl λq K=>eJ q K,λs' W=>?_⟩,by simp only[bU];omega⟩
  .refine (((a6.trans (ao.ab _)).trans (aq.mono λr _ h=>?_)).trans (V.ab _)).trans (az.mono λr _ h=>?_)
   .exact h.elim (λh=>Ω) λh=>ce r (aQ r h)
   .exact h.elim (λh=>(aL r h).1) λh=>Ω
  .have he:r=y:=he;subst he;exact cQ a7 cB Φ m
  .by_cases eS:j<L.length
   .rw[Y1 eS] at aB;rw[Y1 Ω] at aS;exact (((bC j cG eR aB aS).dF aq cw).ext V).dF az bG
   .rw[Y4 Ω] at aB;rw[Y4 Ω] at aS;have eU:j-L.length=0:=by have:=(x4.1 aB).1;simp at this;omega
    have eV:j-M.length=0:=Ω
    rw[eU] at aB;rw[eV] at aS;cases aB;cases aS;exact (cq.ext V).dF az bG
  .rcases eO r m with h|h
   .exact⟨(aL r h).1,aR r (cF r h) (aL r h).2⟩
   .exact⟨by have:=a6.size;omega,λbL=>by have:=eK r bL;omega⟩
  .rcases cr r m with h|h
   .exact ce r (aQ r h)
   .have:=a6.size;omega
  .refine (eI.ext V).dF az λr m=>.inl ?_;obtain⟨e,c,A,bI,bJ,eW,eX⟩:=cE r m;refine⟨e,c,A,bI,bJ,eW,eX,?_⟩;rcases m with m|rfl
   .exact aR r (cF r m) (aL r m).2
   .exact aR _ aP.lt bo
  .cases bO:c6 acc s with
   |none=>rw[bO] at W;cases W
   |some q=>
    obtain⟨fx,cH⟩:=q;rw[bO] at W;cases W;obtain⟨fy,eY⟩:=NR bO;refine⟨eY ci,?_,ck,cl⟩;rw[p9];simp only[R2];omega
 .
  rw[aY];have bP:so6.bind (cN (λ_ s=>c6 acc s) R.toNat [])=so.map λs=>(M,s):=by
   unfold k4 at bp;rw[bp];cases so with
   |none=>rfl
   |some s=>
    rcases eD with h|rfl
    .cases h
    .simp only[V6];rfl
  have row:∀ {w':x3},ah (λr=>r=g) C w'->pi w' gr O M/\af w' y dA [bN t,Δ k,szv,O]/\au .i64 ap w' gz szv acc:=λa8=>by
   obtain⟨ag,ac,ad,bad,aj,big,an,told,sv,A,_⟩:=hM X;have cI:∀r,r=g->gZ C r\/C.heap.size<=r:=λr m=>by subst m;exact .inl ⟨_,_,A,Φ,Φ⟩
   obtain⟨L,av,bB,bC⟩:=id cd;refine⟨⟨L,av.ab a8 λr m he=>?_,bB,λi h x hi I=>(bC i h x hi I).dF a8 cI⟩,cb.ab a8 λhe=>ca he,ew cc a8 cI⟩;have he:r=g:=he;subst he;exact cQ av A Φ m
  refine dh (λP=>ah (λr=>r=g) C P/\bH P g C.heap.size H 100001 (so.bind λs=>if s.toks=[] then σ s else ν)) ?_ ?_
  rotate_left
  .intro fz cJ;refine aV (λv U=>C=U/\ ∃b:Bool,v= .bool b/\(b=true-> ∃s,so=σ s/\s.toks≠[])/\(b=false-> ∀s,so=σ s->s.toks=[])) ?_ ?_
   .rintro _ _ ⟨rfl,b,rfl,bT,bV⟩;cases b with
    |true=>
     obtain⟨s,rfl,ba⟩:=bT rfl;rw[bQ];obtain⟨cK,cL,ag,aT,gs,sv,L,cP,ac,ad,bW,aj,big,an,told,cR,bb,bc,aE,bd,cS,cT,cU,be,cV,cW,bf,cX,cY,cZ⟩:=id X;obtain⟨⟨bX,eZ⟩,_⟩:=bd.g bb bc;obtain⟨x,fA,rfl⟩:∃x l,aT=x::l:=by
      cases aT with
      |nil=>exact absurd bf.symm (by simpa using ba)
      |cons x l=>exact⟨x,l,rfl⟩
     rw[aO bA.p 0 aE rfl];refine Dc bX λb o e0=>?_;rw[aW cj.p rfl,aA Ψ (e0 1 _ rfl)];refine (nS X Ω).mono ?_;rintro _ bm _ ⟨e1,e2⟩;refine cJ _ ⟨e1,?_⟩;show bH bm g _ H 100001 (if s.toks=[] then σ s else ν);rw[if_neg ba];exact e2
    |false=>
     rw[aY];refine cJ _ ⟨ah.refl _ _,?_⟩;cases so with
     |none=>exact X
     |some s=>
      show bH _ g _ H 100001 (if s.toks=[] then σ s else ν);rw[if_pos (bV rfl s rfl)];exact X
   .intro fB c0;rw[k3 X];cases so with
    |none=>
     rw[S6,aY];exact c0 _ _ ⟨rfl,false,rfl,(λh=>by cases h),λ_ s J=>by cases J⟩
    |some s=>
     rw[T8,bQ];obtain⟨cK,cL,ag,aT,gs,sv,L,cP,ac,ad,bW,aj,big,an,told,cR,bb,bc,aE,bd,cS,cT,cU,be,cV,cW,bf,cX,cY,cZ⟩:=id X;obtain⟨⟨bX,eZ⟩,_⟩:=bd.g bb bc;rw[aO bA.p 0 aE rfl,Db bX,bR];have fD:aT.length=s.toks.length:=by rw[<-bf,u7]
     refine c0 _ _ ⟨rfl,_,rfl,λh=>⟨s,rfl,λaX=>?_⟩,λh s' W=>?_⟩
     .have:=of_decide_eq_true h;have cG:s.toks.length=0:=by rw[aX];rfl
      omega
     .cases W;have:=of_decide_eq_false h;exact c8 Ω
  rintro P ⟨c1,bY⟩;refine dh (λE=>ah (λr=>r=g) C E/\bH E g C.heap.size H 100001 (so.bind λs=>if s.toks=[]/\¬0<=bad then σ s else ν)) ?_ ?_
  rotate_left
  .intro fE c2;refine aV (λv a2=>P=a2/\ ∃b:Bool,v= .bool b/\(b=true->(so.bind λs=>if s.toks=[]/\¬0<=bad then σ s else ν)=ν)/\(b=false->(so.bind λs=>if s.toks=[]/\¬0<=bad then σ s else ν)=so.bind λs=>if s.toks=[] then σ s else ν)) ?_ ?_
   .rintro _ _ ⟨rfl,b,rfl,bT,bV⟩;cases b with
    |true=>
     rw[bQ];refine (nS bY Ω).mono ?_;rintro _ b4 _ ⟨e3,e4⟩;exact c2 _ ⟨c1.trans e3,by rw[bT rfl];exact e4⟩
    |false=>
     rw[aY];exact c2 _ ⟨c1,by rw[bV rfl];exact bY⟩
   .intro fF c3;rw[k3 bY];cases K:(so.bind λs=>if s.toks=[] then σ s else ν) with
    |none=>
     rw[S6,aY];refine c3 _ _ ⟨rfl,false,rfl,(λh=>by cases h),λ_=>?_⟩;cases so with
     |none=>rfl
     |some s=>
      have K:(if s.toks=[] then σ s else ν)=ν:=K;show (if s.toks=[]/\¬0<=bad then σ s else ν)=(if s.toks=[] then σ s else ν);rw[K];split at K
      .cases K
      .rename_i ba;rw[if_neg (λh=>ba h.1)]
    |some s=>
     rw[T8,bQ,cO];refine c3 _ _ ⟨rfl,_,rfl,λh=>?_,λh=>?_⟩
     .have aX:=of_decide_eq_true h;cases so with
      |none=>rfl
      |some s=>exact if_neg λh=>h.2 aX
     .have aX:=of_decide_eq_false h;cases so with
      |none=>rfl
      |some s=>
       show (if s.toks=[]/\¬0<=bad then σ s else ν)=(if s.toks=[] then σ s else ν);by_cases J:s.toks=[]
       .rw[if_pos J,if_pos ⟨J,aX⟩]
       .rw[if_neg J,if_neg λh=>J h.1]
  rintro E ⟨c4,bh⟩;obtain⟨e5,e6,e7⟩:=row c4;have e8:ah (λr=>w0.heap.size<=r) w0 E:=a6.trans (c4.mono λr _ h=>by have h:r=g:=h;omega);have bi:Ext w0 E:=e8.ext λr m he=>Ω
  rw[qM bh];cases K:(so.bind λs=>if s.toks=[]/\¬0<=bad then σ s else ν) with
  |none=>
   rw[S6,W5,bQ];intro Y c5 _ _;obtain⟨ag,ac,ad,bW,aj,big,an,told,sv,A,_⟩:=hM (bh.ext c5);rw[aO bA.p 4 A rfl,aO bA.p 3 A rfl];refine bj _ _ M so (bi.trans c5) bP (λs J aG=>?_) λ_=>⟨_,_,rfl⟩;subst J;have K:(if s.toks=[]/\¬0<=bad then σ s else ν)=ν:=K;rw[if_pos ⟨aG.1,aG.2.1⟩] at K;cases K
  |some s=>
   rw[K] at bh;rw[T8,Y7,aY];obtain⟨s',rfl,W⟩:∃s',so=σ s'/\(if s'.toks=[]/\¬0<=bad then σ s' else ν)=σ s:=by
    cases so with
    |none=>cases K
    |some s'=>exact⟨s',rfl,K⟩
   split at W
   .rename_i c7;cases W;obtain⟨cK,cL,ag,aT,gs,sv,L,cP,ac,ad,bW,aj,big,an,told,cR,bb,bc,aE,bd,cS,cT,cU,be,cV,cW,bf,cX,cY,cZ⟩:=id bh;rw[aO bA.p 5 aE rfl,bz,al];refine⟨λbZ=>?_,λbZ=>?_⟩
    .intro Z c9 _ _;have da:=aE.ext c9;rw[aO bA.p 6 da rfl,aO bA.p 5 da rfl];refine bj _ _ M _ (bi.trans c9) bP (λcH db aG=>?_) λ_=>⟨_,_,rfl⟩;cases db;rw[be.1 bZ] at aG;cases aG.2.2
    .rw[aU cM.u (df.ext bi)];refine bj _ _ M _ bi bP (λcH db aG=>⟨rfl,szv,gz,O,gr,e6,e7,e5⟩) λe9=>?_;refine absurd ⟨c7.1,c7.2,?_⟩ (e9 s rfl);cases A:s.big with
     |false=>rfl
     |true=>exact absurd (be.2 A) bZ
   .cases W
def Zero (so:Option aD):Prop:=∀s,so=σ s->s.told=0/\s.toks.length<=100000
theorem Zero.big {so:Option aD} (h:Zero so) (b:Bool):Zero (so.map (bd b)):=λs J=>by
 cases so with
 |none=>cases J
 |some s0=>cases J;exact h s0 rfl
theorem zero_num {lo hi:Int} {so:Option aD} (h:Zero so):Zero ((bb lo hi so).map (·.2)):=λs J=>by
 cases so with
 |none=>cases J
 |some s0=>
  have J:V4 (λx=>x.2) (bf lo hi s0)=σ s:=J;cases a:bf lo hi s0 with
  |none=>rw[a] at J;cases J
  |some q=>
   obtain⟨n,f⟩:=q;rw[a] at J;cases J;have e:=dB a;have:=e.1;obtain⟨h1,j⟩:=h s0 rfl;exact⟨e.eqs.1.trans h1,by show f.toks.length<=100000;omega⟩
theorem NV {so:Option aD} (h:Zero so):Zero ((jf so).map (·.2)):=λs J=>by
 cases so with
 |none=>cases J
 |some s0=>
  have J:V4 (λx=>x.2) (dL s0)=σ s:=J;cases a:dL s0 with
  |none=>rw[a] at J;cases J
  |some q=>
   obtain⟨n,e⟩:=q;rw[a] at J;cases J;obtain⟨U,V⟩:=sg a;obtain⟨h1,f⟩:=h s0 rfl;have:s0.toks.length=e.toks.length+1:=by rw[U];rfl
   exact⟨by show e.told=0;rw[V];exact h1,by show e.toks.length<=100000;omega⟩
theorem NW {so:Option aD} {f:bZ} (h:hG ⟨(lex pl).1,0,false,[]⟩=so.map λs=>(f,s)) (a:¬65536<pl.length):gm pl=so.bind λs=>if s.toks=[]/\(lex pl).2=true/\s.big=false then σ f else ν:=by
 unfold gm;rw[if_neg a,h];cases so<;>rfl
theorem NX (a:pl.length<=60000):(∀t∈(lex pl).1,Bytes t/\t.length<=65536)/\(lex pl).1.length<=60000:=by
 refine⟨λt e=>?_,Y9 (pY pl.length pl (p8 _)) a⟩;obtain⟨_,f,j⟩:=r1 pl.length pl (p8 _) t e;refine⟨λb h=>?_,Ω⟩;have:=of_decide_eq_true (f b h);omega
theorem Dm {p:x1} (an:aF .u8 w p pl) (cw:Bytes pl) (cz:pl.length<=60000):am x7 FX [p] w (NT w pl):=by
 obtain⟨cA,dN⟩:=NX cz;refine az func27 ?_;rw[aU cM.u an,bR,al];refine⟨λh=>Ω,λ_=>?_⟩;refine (NH an cw Ω).mono ?_;rintro _ U _ ⟨aI,ao,bh,bad,rfl,bk,bl,cB,dO,bm⟩;rw[bi,bj,aU cM.u (an.ext aI),dn (cs:=#[ao,Δ (pl.length:Int),Δ 4,Δ 0,Δ 0,Δ 0,Δ 0,Δ 0,.slice ν 0 0]) (by obtain⟨_,_,_,_,_,rfl,_⟩:=bk;kernel_rfl)];refine bo λg V dP aq S=>?_;have S:af V g bA (gw ao (pl.length:Int) 4 0 0 0 0 0 (.slice ν 0 0)):=S;have dQ:=aI.size;have dR:=aq.size;have dS:=S.lt;refine dh (λB=>Ext w B/\ah (λr=>r=g) V B/\ ∃W X:Int,X≠0/\af B g bA (gw ao W X 0 0 0 0 0 (.slice ν 0 0))) ?_ ?_
 rotate_left
 .intro ay Q;have bn:=aI.trans aq;rw[cO,al];refine⟨λ_=>?_,λ_=>Q _ ⟨bn,ah.refl _ _,_,_,Ω,S⟩⟩;rw[bS,aW bA.p rfl];refine bt (g:=g) (o:=1) ai.i rfl rfl S (by simp[gw]) λdT cC dU cD=>?_;rw[bS,aW bA.p rfl];refine bt (g:=g) (o:=2) ai.i rfl rfl cD (by simp[gw]) λdV cE dW cF=>?_;have C:=cC.trans cE;exact Q _ ⟨bn.then C λr j he=>by have he:r=g:=he;omega,C,bad,11,Ω,cF⟩
 rintro B ⟨bq,aJ,W,X,cG,br⟩;have z3:=aJ.size;have cH:bH B g B.heap.size bu 100000 (σ ⟨(lex pl).1,0,false,[]⟩):=by
  refine⟨p8 _,B,ao,bh,0,_,[],[],W,X,0,0,0,0,0,rfl,ah.refl _ _,⟨_,br⟩,br,⟨⟨?_,λr j=>?_⟩,bg.nil _ _ _ _ _,rfl,λi h x hi=>by simp at hi⟩,λr j=>fg j,rfl,cG,Ξ,λ_=>rfl,trivial,bl,cA,rfl,?_⟩
  .refine (bk.ab (aq.ab λ_=>False) λ_ _ h=>h).ab aJ λr j he=>?_;have he:r=g:=he;obtain⟨c,L⟩:=bm r j;have:=L.lt;omega
  .obtain⟨c,L⟩:=bm r j;exact⟨c,(L.ext aq).ab aJ λhe=>by have he:r=g:=he;have:=L.lt;omega⟩
  .have:bh.length=(lex pl).1.length:=by rw[<-bl,u7]
   simp only[List.length_nil];omega
 have dX:∀ {P:x3} {cI N:Nat} {H:ak} {so:Option aD},bH P g cI H N so->True:=λ_=>trivial;rw[dn (cs:=#[bN [],Δ 0,.slice ν 0 0,.slice ν 0 0]) Ψ];refine bo λm cJ dY aK av=>?_;have av:af cJ m dA [bN [],Δ 0,.slice ν 0 0,.slice ν 0 0]:=av;have dZ:B.heap.size<=m:=Ω
 have ea:=av.lt;have cK:m≠g:=Ω
 have E:∀ {P Y:x3} {c:List x1},af P m dA c->ah (λr=>r=g) P Y->af Y m dA c:=λL C=>L.ab C λhe=>cK he;refine (Dd (cH.ext aK)).mono ?_;rintro _ cL _ ⟨⟨aL,cP⟩,t,bw,rfl,eb,ec,cQ⟩;refine bG cj.i λbx ed ee cR cS=>?_;refine ck (vs:=[bN t,Δ bw]) cj.i rfl rfl (by intro v ac;simp at ac;rcases ac with rfl|rfl<;>rfl) cS λcT cU ef bz=>?_;have aA:Ext cL cT:=cR.put cU Ω;have cV:=(E av aL).ext aA;rw[aT cj.p 0 bz rfl,bS,aW dA.p rfl];refine bt (g:=m) (o:=0) c0.i rfl rfl cV Ξ λaP aQ eg aR=>?_;have aR:af aP m dA [bN t,Δ 0,.slice ν 0 0,.slice ν 0 0]:=aR;have cW:=(cP.ext aA).new aQ λr j=>by have j:r=m:=j;omega
 have z4:=aK.size;have z5:=aL.size;have eh:=aA.size;have bB:af aP bx cj [bN t,Δ bw]:=bz.ab aQ λhe=>by have he:bx=m:=he;omega
 rw[aT cj.p 0 bB rfl,nt c0.u,bR,aT cj.p 1 bB rfl];have cX:ah (λr=>w.heap.size<=r) w aP:=((((bq.ab _).trans (aK.ab _)).trans (aL.mono λr _ h=>by have h:r=g:=h;omega)).trans (aA.ab _)).trans (aQ.mono λr _ h=>by have h:r=m:=h;omega);have up:∀ {P Y:x3},ah (λr=>w.heap.size<=r) w P->ah (λr=>r=g) P Y->ah (λr=>w.heap.size<=r) w Y:=λh k=>h.trans (k.mono λr _ h=>by have h:r=g:=h;omega);refine (mB cW).mono ?_;rintro _ ei _ ⟨bC,Z⟩;have cY:=up cX bC;have cZ:=E aR bC;generalize aS:(((jf (σ ⟨(lex pl).1,0,false,[]⟩)).map (·.2)).map (bd (decide ((64:Int)<(t.length:Int)))))=aX at Z;refine (kk Z).mono ?_;rintro _ ej _ ⟨⟨bD,c1⟩,n,ek,rfl,bE,c2⟩;rw[bi,bj,bR];refine (mB c1).mono ?_;rintro _ em _ ⟨bF,bI⟩;have c3:=up (up cY bD) bF;have c4:=E (E cZ bD) bF;generalize bJ:((bb 1 4611686018427387904 aX).map (·.2)).map (bd (decide (64<n)))=aZ at bI;refine (kk bI).mono ?_;rintro _ en _ ⟨⟨bK,bL⟩,most,ep,rfl,hm,c5⟩;rw[bi,bj];generalize bM:(bb 1 4611686018427387904 aZ).map (·.2)=a1 at bL;refine (kk bL).mono ?_;rintro _ er _ ⟨⟨bO,c6⟩,a2,es,rfl,bP,c7⟩;rw[bi,bj,bR];refine (mB c6).mono ?_;rintro _ et _ ⟨bT,bV⟩;generalize bW:((bb 0 4611686018427387904 a1).map (·.2)).map (bd (decide (256<a2)))=bX at bV;refine (kk bV).mono ?_;rintro _ eu _ ⟨⟨bY,c8⟩,k,ev,rfl,hk,ey⟩;rw[bi,bj,bR];refine (mB c8).mono ?_;rintro _ ez _ ⟨bZ,b0⟩;generalize b1:((bb 1 4611686018427387904 bX).map (·.2)).map (bd (decide (2147483648<k)))=aa at b0;have c9:=up (up (up (up (up c3 bK) bO) bT) bY) bZ;have da:=E (E (E (E (E c4 bK) bO) bT) bY) bZ;rw[bS,aW dA.p rfl];refine bt (g:=m) (o:=1) ap.i rfl rfl da Ξ λb2 b3 eA a6=>?_;have a6:af b2 m dA [bN t,Δ k,.slice ν 0 0,.slice ν 0 0]:=a6;have db:=b0.new b3 λr j=>by have j:r=m:=j;omega
 have b5:ah (λr=>w.heap.size<=r) w b2:=c9.trans (b3.mono λr _ h=>by have h:r=m:=h;omega);have eB:0<=n/\n<=4611686018427387904:=by
  cases A:bb 1 4611686018427387904 aX with
  |none=>have:=c2 A;omega
  |some q=>have Z:=bE q A;have:=mw (n:=q.1) (s':=q.2) A;omega
 have eC:0<=most/\most<=4611686018427387904:=by
  cases A:bb 1 4611686018427387904 aZ with
  |none=>have:=c5 A;omega
  |some q=>have Z:=hm q A;have:=mw (n:=q.1) (s':=q.2) A;omega
 have dc:0<=a2/\a2<=4611686018427387904:=by
  cases A:bb 0 4611686018427387904 a1 with
  |none=>have:=c7 A;omega
  |some q=>have Z:=bP q A;have:=mw (n:=q.1) (s':=q.2) A;omega
 have dd:Zero (σ (⟨(lex pl).1,0,false,[]⟩:aD)):=λs J=>by cases J;exact⟨rfl,by simp only;omega⟩
 have de:Zero aX:=by rw[<-aS];exact (NV dd).big _
 have df:Zero aZ:=by rw[<-bJ];exact (zero_num de).big _
 have dg:Zero a1:=by rw[<-bM];exact zero_num df
 have di:Zero bX:=by rw[<-bW];exact (zero_num dg).big _
 have b6:Zero aa:=by rw[<-b1];exact (zero_num di).big _
 have eD:=b5.size;refine⟨λa7 M=>∃i:Nat,a7=Δ (i:Int)/\i<=n.toNat/\ah (λr=>w.heap.size<=r) w M/\ ∃szv gz acc so,af M m dA [bN t,Δ k,szv,.slice ν 0 0]/\au .i64 ap M gz szv acc/\(∀r,leads szv r->B.heap.size<=r)/\bH M g B.heap.size bu 100000 so/\k4 (fP most) n.toNat i aa acc so/\ ∀s,so=σ s->s.told=0/\acc.length+s.toks.length<=100000/\ ∀z∈acc,1<=z/\z<=aw,λa7 _=>n.toNat-(bU a7).toNat,
  ⟨0,rfl,X3 _,b5,_,0,[],aa,a6,au.nil _ _ _ _,(λr j=>by obtain⟨a,aB,c,W,X⟩:=j;cases W),db,?_,λs J=>⟨(b6 s J).1,by simpa using (b6 s J).2,λz dj=>by cases dj⟩⟩,?_⟩
 .unfold k4;cases aa<;>rfl
 rintro _ M ⟨i,rfl,hi,a8,szv,gz,acc,so,b7,b8,b9,ad,ba,ca⟩;refine aV (λv dk=>M=dk/\((v= .bool true/\i<n.toNat/\ ∃s,so=σ s)\/(v= .bool false/\(so=ν\/i=n.toNat)))) ?_ ?_
 rotate_left
 .intro ay Q;rw[aN,al];refine⟨λcb=>?_,λeE=>Q _ _ ⟨rfl,.inr ⟨rfl,.inr Ω⟩⟩⟩;rw[k3 ad];cases so with
  |none=>exact Q _ _ ⟨rfl,.inr ⟨rfl,.inl rfl⟩⟩
  |some s=>exact Q _ _ ⟨rfl,.inl ⟨rfl,Ω,s,rfl⟩⟩
 rintro _ _ ⟨rfl,⟨rfl,cb,s,rfl⟩|⟨rfl,dl⟩⟩
 .rw[bQ];obtain⟨dm,eF,dp⟩:=ca s rfl;refine (kk ad).mono ?_;rintro _ eH _ ⟨⟨dq,dr⟩,z,eI,rfl,bc,eJ⟩;rw[bi,bj,bR];refine (mB dr).mono ?_;rintro _ eK _ ⟨ds,dt⟩;have aC:=dq.trans ds;have cc:=E b7 aC;have du:∀r,r=g->gZ M r\/M.heap.size<=r:=λr j=>(kl ad r j).imp (λ⟨e,c,L,dv,dw,_⟩=>⟨e,c,L,dv,dw⟩) id;have cd:=ew b8 aC du;rw[aO dA.p 2 cc rfl];refine eo ax.u ap.i rfl λa22 eL dx eM R dy=>?_;refine gX ax.u ap.i rfl (cd.ext R) dy.ls Θ Θ λce dz eN aE dC cg=>?_;have ch:=cc.ext R;have ci:=ch.ab cg λhe=>b4 (cd.ext R) ch Φ he rfl;rw[bS,aW dA.p rfl];refine bt (g:=m) (o:=2) ax.i aE.ls.cells.1 aE.ls.cells.2 ci Ξ λcl cm eO be=>?_;have be:af cl m dA [bN t,Δ k,ce,.slice ν 0 0]:=be;rw[aM,wrap_i64 Ω Ω];have cn:ah (λr=>leads szv r\/r=m) dx cl:=(cg.mono λr _ h=>.inl h).trans (cm.mono λr _ h=>.inr h);have cp:∀r,(leads szv r\/r=m)->B.heap.size<=r:=λr j=>j.elim (b9 r) λj=>Ω
  have eP:w.heap.size<=B.heap.size:=bq.size;have eQ:=aC.size;have z22:=R.size;have eR:=a8.size;have eS:=ad.lt;refine⟨⟨i+1,rfl,Ω,((up a8 aC).trans (R.ab _)).trans (cn.mono λr _ h=>by have:=cp r h;omega),ce,dz,acc++[z],((bb 1 most (σ s)).map (·.2)).map (bd (decide (32<z))),be,bp aE cm λr j he=>?_,λr j=>?_,(dt.ext R).new cn cp,?_,λs' G=>?_⟩,by simp only[bU];omega⟩
  .have he:r=m:=he;subst he;exact b4 aE ci Φ j rfl
  .rcases dC r j with h|h
   .exact b9 r h
   .omega
  .refine ba.step cb ?_ λq A=>?_
   .show (V4 _ (bf 1 most s)).map _=_;unfold fP;cases A:bf 1 most s with
    |none=>rfl
    |some q=>
     have:=bc q A;obtain⟨cq,aH⟩:=q;subst this;rfl
   .unfold fP at A;cases K:bf 1 most s with
    |none=>rw[K] at A;cases A
    |some ag=>
     rw[K] at A;have:=bc ag K;obtain⟨cq,aH⟩:=ag;cases A;exact this
  .cases K:bf 1 most s with
   |none=>
    have G:(V4 (λx=>x.2) (bf 1 most s)).map (bd (decide (32<z)))=σ s':=G;rw[K] at G;cases G
   |some ag=>
    have G:(V4 (λx=>x.2) (bf 1 most s)).map (bd (decide (32<z)))=σ s':=G;rw[K] at G;have dD:=bc ag K;obtain⟨cq,aH⟩:=ag;cases G;have cr:=dB K;have hN:=(hJ K).1;have eU:=cr.1;refine⟨by show aH.told=0;rw[cr.eqs.1];exact dm,?_,λy aj=>?_⟩
    .rw[p9];show acc.length+1+aH.toks.length<=100000;omega
    .rcases o7.1 aj with aj|aj
     .exact dp y aj
     .rw[o9.1 aj,dD];exact⟨hN.1,by unfold aw;have:=hN.2;simp only at*;omega⟩
 .rw[aY];have dE:aa.bind (cN (fP most) n.toNat [])=so.map λs=>(acc,s):=by
   unfold k4 at ba;rw[ba];cases so with
   |none=>rfl
   |some s=>
    rcases dl with h|rfl
    .cases h
    .simp only[V6];rfl
  refine NU a8 b7 b8 ad (λs J=>?_) Ω Ω an dc λv w' dF dG I dH dI ct=>?_
  .obtain⟨dJ,eV,a3⟩:=ca s J;exact⟨λ_=>by rw[dJ];omega,Ω,a3,Ω⟩
  .have dK:(decide ((64:Int)<(t.length:Int)))=decide (64<t.length):=by rw[V5,decide_eq_true_eq,decide_eq_true_eq];omega
   rw[dK] at aS;have dL:=NS (s0:=⟨(lex pl).1,0,false,[]⟩) aS.symm (λq A=>cQ q A) bJ.symm bE bM.symm hm bW.symm bP b1.symm hk dE dH;have O:=NW dL Ω;have cu:¬0<=bad↔(lex pl).2=true:=by
    rw[cB];cases (lex pl).2<;>simp
   cases dG with
   |none=>
    obtain⟨aB,e,rfl⟩:=ct λs J=>by cases J
    exact⟨I,aB,e,λ_=>rfl,λf ae=>by rw[O] at ae;cases ae⟩
   |some s=>
    have O:gm pl=if s.toks=[]/\(lex pl).2=true/\s.big=false then σ ⟨t,k,acc,dF⟩ else ν:=O;by_cases C:s.toks=[]/\(lex pl).2=true/\s.big=false
    .rw[if_pos C] at O;obtain⟨rfl,dM⟩:=dI s rfl ⟨C.1,cu.2 C.2.1,C.2.2⟩;exact⟨I,_,_,(λae=>by rw[O] at ae;cases ae),λf ae=>⟨m,rfl,by rw[O] at ae;cases ae;exact dM⟩⟩
    .rw[if_neg C] at O;obtain⟨aB,e,rfl⟩:=ct λs' G aG=>by
      cases G;exact C ⟨aG.1,cu.1 aG.2.1,aG.2.2⟩
     exact⟨I,aB,e,λ_=>rfl,λf ae=>by rw[O] at ae;cases ae⟩
theorem Dn {a b:Int}:am x7 HD [Δ a,Δ b] w λv w'=>v=Δ (min a b)/\Ext w w':=by
 refine az func173 ?_;rw[aN,al];exact⟨λh=>⟨by congr 1;omega,Ext.refl _⟩,λh=>⟨by congr 1;omega,Ext.refl _⟩⟩
theorem NY {r:iF} {x:cv} {aL:x1} {t:Λ} {k:Int} (h:gK w r x) (M:(x.lines.map (·.1)).Nodup) (N:aF .i64 w aL t):am x7 Ic [.agg (eT r).toArray,aL,Δ k] w λv w'=>v=Δ (jB x k t)/\Ext w w':=by
 obtain⟨⟨g1,O⟩,⟨ao,P⟩,Q,ap,L,f,R,C⟩:=id h;refine az func225 ?_;refine bo λS U au s a=>?_;have a:af U S a1 (eT r):=by
  obtain⟨_,_,_,W⟩:=dg O.ls;obtain⟨_,_,_,X⟩:=dg P.ls;obtain⟨_,_,_,_,_,Y,_⟩:=f.sl;simp only[eT,W,X,Y] at a ⊢;exact a
 have Z:=f.ext s;have aa:L.length=x.lines.length:=by rw[<-C,u7]
 rw[aT a1.p 2 a rfl,aT a1.p 3 a rfl,e9 dU.u Z,Q];refine bX.range L.length (λi j V=>Ext U V/\ ∃c:Int,j=Δ c/\min c k=k0 x k i t) f.le ⟨Ext.refl _,x.other,rfl,(Cd x k t).symm⟩ ?_ ?_
 .rintro i _ V ab hi ⟨e,c,rfl,m⟩ ac;obtain⟨y,z⟩:=aH (l:=L) hi;obtain⟨gy,E⟩:=R y (x5 z);have A:=s.trans e;have ad:x.lines[i]? =σ (y.t,y.c):=by rw[<-C,x8,z];rfl
  have G:=Cf (k:=k) M ad t;refine bE Ω ?_;refine aV (λj H=>Ext U H/\ ∃c:Int,j=Δ c/\min c k=k0 x k (i+1) t) ?_ ?_
  .rintro j H ae;rw[aM];exact ac _ _ ae
  intro ay I;have J:=f.ext A;rw[dr rfl dU.u b3.i J hi,bO b3.p b3.i rfl (J.range z)];refine bG b3.i λaq av aw ag ah=>?_;refine ck (vs:=nR y) b3.i rfl rfl (wG E) ah λai aj ax K=>?_;have q:Ext V ai:=ag.put aj Ω;rw[aT b3.p 0 K rfl];refine (wF ((E.ls.ext A).ext q) ((N.ext A).ext q)).mono ?_;rintro _ aA _ ⟨rfl,B⟩;rw[al];refine⟨λhe=>?_,λak=>?_⟩
  .rw[aT b3.p 1 (K.ext B) rfl];refine I _ _ ⟨(e.trans q).trans B,y.c,rfl,?_⟩;rw[G,if_pos he.symm]
  .refine I _ _ ⟨(e.trans q).trans B,c,rfl,?_⟩;rw[G,if_neg λhe=>ak he.symm,m]
 .rintro _ V ab ⟨e,c,rfl,m⟩;rw[aa,Ce] at m;refine cm Ω ?_;refine Dn.mono ?_;rintro _ aB _ ⟨rfl,an⟩;exact⟨by rw[m],(s.trans e).trans an⟩
theorem NZ {J:x1} (h:aF .i64 w J l) (L:l.Nodup) (ag:l.length<=64):am x7 Ib [J] w λv w'=>Ext w w'/\ ∃g,au .i64 ai w' g v (bl l)/\ ∀r,leads v r->w.heap.size<=r:=by
 refine az func224 ?_;have M:∀i,i<=64->(((Z8 i).map λ(v:Nat)=>(v:Int)).filter λv=>decide (v∈l)).length<=i:=λi _=>by
  have:=List.length_filter_le (λv=>decide (v∈l)) ((Z8 i).map λ(v:Nat)=>(v:Int));simp at this;omega
 refine bX.range 64 (λi e U=>Ext w U/\ ∃g,au .i64 ai U g e (((Z8 i).map λ(v:Nat)=>(v:Int)).filter λv=>decide (v∈l))/\ ∀r,leads e r->w.heap.size<=r) Ω ⟨Ext.refl _,0,au.nil _ _ _ _,λr s=>by obtain⟨a,n,c,N,ah⟩:=s;cases N⟩ ?_ ?_
 .rintro i e U k hi ⟨y,g,hm,B⟩ hk;refine bE Ω ?_;rw[aU ax.u (h.ext y)];have O:=M i Ω;generalize P:(((Z8 i).map λ(v:Nat)=>(v:Int)).filter λv=>decide (v∈l))=A at hm O;refine bX.range l.length (λj e V=>Ext w V/\ ∃g,au .i64 ai V g e (A++(if (i:Int)∈l.take j then[(i:Int)] else[]))/\ ∀r,leads e r->w.heap.size<=r) h.le ⟨y,g,by simpa using hm,B⟩ ?_ ?_
  .rintro j Q V R S ⟨m,C,f,q⟩ W;obtain⟨x,I⟩:=aH (l:=l) S;refine bE Ω ?_;refine aV (λe z=>Ext w z/\ ∃g,au .i64 ai z g e (A++(if (i:Int)∈l.take (j+1) then[(i:Int)] else[]))/\ ∀r,leads e r->w.heap.size<=r) ?_ ?_
   .rintro aj z X;rw[aM];exact W _ _ X
   intro ay K;have E:(i:Int)∈l.take (j+1)↔(i:Int)∈l.take j\/(i:Int)=x:=by
    rw[u9,I,l7,o7,o9]
   rw[be ax.u ap.i Ψ (h.ext m) I,bh,al];refine⟨λhe=>?_,λY=>?_⟩
   .have Z:(i:Int)∉l.take j:=λhm=>by
     obtain⟨p,G⟩:=X1.1 hm;have aa:p<j:=by have:=(x4.1 G).1;rw[l9] at this;omega
     rw[Z7 aa,<-he] at G;have:=kc L G I;omega
    rw[if_neg Z,U2] at f;refine eo (k:=.i64) an.u ai.i rfl λa3 ak z ao H ab=>?_;refine gX an.u ai.i rfl (f.ext H) ab.ls Θ Θ λaq ac av ad ae af=>?_;have aw:=m.size;have z3:=H.size;refine K _ _ ⟨(m.trans H).then af λr s he=>by have:=q r he;omega,ac,?_,λr s=>(ae r s).elim (q r) λh=>Ω⟩;rw[if_pos (E.2 (.inr he.symm))];exact ad
   .refine K _ _ ⟨m,C,?_,q⟩;have:((i:Int)∈l.take (j+1))=((i:Int)∈l.take j):=propext ⟨λaG=>(E.1 aG).resolve_right λhe=>Y he.symm,λaG=>E.2 (.inl aG)⟩;simp only[this];exact f
  .rintro Q V R ⟨m,C,f,q⟩;rw[o5] at f;refine cm Ω ?_;rw[aM];refine hk _ _ ⟨m,C,?_,q⟩;rw[List.range_succ,b6,List.filter_append,P];by_cases hm:(i:Int)∈l
   .rw[if_pos hm] at f;simpa[hm] using f
   .rw[if_neg hm] at f;simpa[hm] using f
 .rintro e U k ⟨y,g,hm,B⟩;rw[aN,al];exact⟨λh=>Ω,λ_=>⟨y,g,hm,B⟩⟩
structure fl where
 aP:x1
 szv:x1
 a7:x1
 sc:Λ
 cs:Λ
def dk (h:fl):List x1:=[h.aP,h.szv,h.a7]
def pj (h:fl) (r:Nat):Prop:=leads h.a7 r\/leads h.aP r\/leads h.szv r
def fJ (w:x3) (sizes:Λ) (h:fl):Prop:=(∃g,au .i64 ai w g h.aP h.sc)/\(∃g,au .i64 ai w g h.szv (bV sizes h.sc))/\ ∃g,au .i64 ap w g h.a7 h.cs
theorem fJ.ext {h:fl} (aG:fJ w sizes h) (I:Ext w w'):fJ w' sizes h:=by
 obtain⟨⟨g1,h1⟩,⟨a,e⟩,f,j⟩:=aG;exact⟨⟨g1,h1.ext I⟩,⟨a,e.ext I⟩,f,j.ext I⟩
theorem fJ.one {h:fl} (aG:fJ w sizes h):∀u∈dk h,u.oneCell'=true:=by
 obtain⟨⟨g1,h1⟩,⟨f,a⟩,j,e⟩:=aG;intro u hu;simp[dk] at hu;rcases hu with rfl|rfl|rfl
 .exact h1.ls.cells.2
 .exact a.ls.cells.2
 .exact e.ls.cells.2
theorem Do {f:bZ} {x:cv} {aa:iF} (h:gK w aa x) (aD:e8 N f) (bL:x∈f.funs) (cz:au .i64 ap w gz sv f.sizes):
  am x7 HB [.agg (eT aa).toArray,sv,Δ f.k] w λv w'=>Ext w w'/\ ∃c:fl,v= .agg (dk c).toArray/\c.sc=bl x.scope/\c.cs=(hK f.sizes f.k x).2/\fJ w' f.sizes c/\ ∀r,pj c r->w.heap.size<=r:=by
 obtain⟨ad,cA,dO⟩:=aD.funs x bL;have ac:=sH ad aD.sizes.2.1;have bN:=sG ac ad.scope.1;have cB:(bl x.scope).length<=6:=by rw[bN.length_eq];exact cA
 have cC:=pc aD bL;have bP:=B4 x.scope;obtain⟨⟨g1,aE⟩,⟨dP,cD⟩,dQ,dR,cE⟩:=id h;refine az func170 ?_;refine bo λbc U dS bQ ae=>?_;have ae:af U bc a1 (eT aa):=by
  obtain⟨L,cF,_⟩:=cE;obtain⟨_,_,_,C⟩:=dg aE.ls;obtain⟨_,_,_,H⟩:=dg cD.ls;obtain⟨_,_,_,_,_,cG,_⟩:=cF.sl;simp only[eT,C,H,cG] at ae ⊢;exact ae
 refine bG a8.i λbR V dT bd bf=>?_;have bg:=bQ.trans bd;rw[aT a1.p 0 (ae.ext bd) rfl];refine (NZ (aE.ls.ext bg) ad.scope.1 Ω).mono ?_;rintro aP bS _ ⟨aF,gr,bi,cH⟩;rw[dn (cs:=#[aP,.slice ν 0 0,.slice ν 0 0]) (by obtain⟨_,_,_,rfl⟩:=dg bi.ls;kernel_rfl)];refine bG a8.i λz dU cI cJ cK=>?_;refine ck (vs:=[aP,.slice ν 0 0,.slice ν 0 0]) a8.i rfl rfl (by intro u hu;simp at hu;rcases hu with rfl|rfl;exact bi.ls.cells.2;rfl) cK λI cL dV W=>?_;have aI:Ext bS I:=cJ.put cL Ω;have bT:=(bg.trans aF).trans aI;have R:=bi.ext aI;have bj:=((ae.ext bd).ext aF).ext aI;have bU:=(bf.ext aF).ext aI;have dW:=bg.size;have z3:=aF.size;have dX:=bT.size;have dY:=W.lt;have dZ:z=bS.heap.size:=cI;rw[aT a8.p 0 W rfl,aU an.u R.ls];have bW:∀v∈bl x.scope,0<=v/\v<f.sizes.length:=λv hm=>ad.scope.2 v ((qu ac).1 hm);have bm:∀ {w':x3},ah (λr=>r=z\/I.heap.size<=r) I w'->Ext w w':=λbn=>bT.then bn λr m he=>Ω
 have bq:(bV f.sizes (bl x.scope)).length=(bl x.scope).length:=by simp[bV]
 refine ch.range (bl x.scope).length (λi K=>ah (λr=>r=z\/I.heap.size<=r) I K/\ ∃szv gs,af K z a8 [aP,szv,.slice ν 0 0]/\au .i64 ai K gs szv ((bV f.sizes (bl x.scope)).take i)/\ ∀r,leads szv r->I.heap.size<=r) Ω
  ⟨ah.refl _ _,_,0,W,au.nil _ _ _ _,λr m=>by obtain⟨a,n,c,C,H⟩:=m;cases C⟩ ?_ ?_
 .rintro i K cM hi ⟨M,szv,gs,cN,ag,aJ⟩ cO;obtain⟨v,br⟩:=aH (l:=(bl x.scope)) hi;have eb:=bW v (x5 br);have cP:au .i64 ai K gr aP (bl x.scope):=bp R M λr m J=>by
   rcases J with rfl|J
   .exact b4 R W Φ m rfl
   .obtain⟨C,H⟩:=bM R m;omega
  refine bE Ω ?_;rw[be an.u ai.i Ψ cP.ls br];intro ec aj _ _;have bY:=cN.ext aj;have cQ:f.sizes[v.toNat]? =σ (f.sizes.getD v.toNat 0):=by rw[v8,x6 Ω];rfl
  rw[aT a8.p 1 bY rfl,fx (y:=v) (i:=v.toNat) Ω ax.u ap.i Ψ (cz.ext ((bm M).trans aj)).ls cQ];refine eo (k:=.i64) an.u ai.i rfl λed ee cR ef ak cS=>?_;refine⟨.inl ak,?_⟩;have b0:=(ag.ext aj).ext ak;refine gX an.u ai.i rfl b0 cS.ls Θ Θ λcT cU eg aN cV b2=>?_;have b3:=bY.ext ak;have b5:=b3.ab b2 λhe=>b4 b0 b3 Φ he rfl;rw[aW a8.p rfl];refine bt (g:=z) (o:=1) an.i aN.ls.cells.1 aN.ls.cells.2 b5 Ξ λcW b7 eh cX=>?_;rw[aM];have cY:ah (λr=>leads szv r\/r=z) cR cW:=(b2.mono λr _ h=>.inl h).trans (b7.mono λr _ h=>.inr h);have cZ:=M.size;have ei:=(aj.trans ak).size;refine cO _ ⟨((M.trans (aj.ab _)).trans (ak.ab _)).trans (cY.mono λr _ h=>h.elim (λh=>.inr (aJ r h)) .inl),cT,cU,cX,?_,λr m=>(cV r m).elim (aJ r) λh=>Ω⟩;have e:(bV f.sizes (bl x.scope)).take (i+1)=(bV f.sizes (bl x.scope)).take i++[f.sizes.getD v.toNat 0]:=by
   unfold bV;rw[<-List.map_take,<-List.map_take,u9,br,l7,b6];rfl
  rw[e];exact bp aN b7 λr m he=>by
   have he:r=z:=he;subst he;exact b4 aN b5 Φ m rfl
 rintro K cM ⟨M,szv,gs,bw,ag,aJ⟩;rw[<-bq,o5] at ag;refine cm Ω ?_;have ej:=bm M;have aO:b1 (bV f.sizes (bl x.scope)):=⟨by rw[bq];exact cB,pb aD.sizes.2.2 bW⟩;have c0:=cC.small;rw[aT a8.p 1 bw rfl];refine (AB _ ag.ls aO).mono ?_;rintro c1 B _ ⟨aQ,b8⟩;have ek:=i7 aO.2;have em:=lN aO.2;have en:aK (bV f.sizes (bl x.scope))<=4096:=c0;rw[io de.u b8];have aR:ah (λr=>r=z\/I.heap.size<=r) I B:=M.trans (aQ.ab _);have aq:=bw.ext aQ;have b9:=ag.ext aQ;have cZ:=M.size;have ep:=aQ.size;have bx:au .i64 ai B gr aP (bl x.scope):=bp R aR λr m J=>by
  rcases J with rfl|J
  .exact b4 R W Φ m rfl
  .obtain⟨C,H⟩:=bM R m;omega
 have bz:af B bc a1 (eT aa):=bj.ab aR λJ=>J.elim (λhe=>by subst he;exact absurd (fa bj W) Φ) λh=>by have:=bj.lt;omega
 have ca:=bU.ab aR λJ=>J.elim (λhe=>by have:=bf.lt;omega) λh=>by have:=bU.lt;omega
 have cb:∀ {w':x3},ah (λr=>r=z\/B.heap.size<=r) B w'->Ext w w':=λbn=>(bm aR).then bn λr m he=>by
  have he:r=z\/B.heap.size<=r:=he;omega
 have er:z<B.heap.size:=aq.lt;refine ch.range (bk (bV f.sizes (bl x.scope))).length (λq s=>ah (λr=>r=z\/B.heap.size<=r) B s/\ ∃a7 av,af s z a8 [aP,szv,a7]/\au .i64 ap s av a7 (((bk (bV f.sizes (bl x.scope))).take q).map λt=>jB x f.k (oU x.scope (bl x.scope) t))/\ ∀r,leads a7 r->B.heap.size<=r) Ω
  ⟨ah.refl _ _,_,0,aq,au.nil _ _ _ _,λr m=>by obtain⟨a,n,c,C,H⟩:=m;cases C⟩ ?_ ?_
 .rintro q s c2 c3 ⟨E,a7,av,aw,aA,aS⟩ c4;obtain⟨t,aX⟩:∃t,(bk (bV f.sizes (bl x.scope)))[q]? =σ t:=⟨_,x6 c3⟩;have es:t.length=(bl x.scope).length:=by
   have c5:=qa aO.2 (i:=q) Ω;rw[c5] at aX;cases aX;rw[iZ,bq]
  have bA:=cb E;have c6:ao.rep (α:=List (Λ)) true (ea K.heap.size) bu s [c1] (bk (bV f.sizes (bl x.scope))):=ao.ab b8 E λr m h J=>by
   rcases h with h|h
   .have h:K.heap.size<=r:=h;have:=bw.lt;rcases J with J|J<;>omega
   .exact h
  have X:∀ {O:Nat} {P:x1} {Q:Λ},au .i64 ai B O P Q->au .i64 ai s O P Q:=λhm=>bp hm E λr m J=>by
   rcases J with rfl|J
   .exact b4 hm aq Φ m rfl
   .obtain⟨C,H⟩:=bM hm m;omega
  have cc:=X bx;have cd:af s bc a1 (eT aa):=bz.ab E λJ=>J.elim (λhe=>by subst he;exact absurd (fa bz aq) Φ) λh=>by have:=bz.lt;omega
  refine bE Ω ?_;refine kL (α:=Λ) rfl rfl de.u an.i Ψ c6 aX λaL c7=>?_;have c8:=eE c7;rw[aT a1.p 0 cd rfl,aU ax.u (aE.ls.ext bA)];have z12:=E.size;refine bX.range x.scope.length (λp G aY=>Ext s aY/\ ∃go,au .i64 ap aY go G ((x.scope.take p).map λv=>t.getD ((bl x.scope).idxOf v) 0)/\ ∀r,leads G r->s.heap.size<=r) Ω ⟨Ext.refl _,0,au.nil _ _ _ _,λr m=>by obtain⟨a,n,c,C,H⟩:=m;cases C⟩ ?_ ?_
  .rintro p G aY c9 da ⟨Y,go,aB,ce⟩ db;obtain⟨v,bB⟩:=aH (l:=x.scope) da;have dc:v∈bl x.scope:=bN.mem_iff.2 (x5 bB);refine bE Ω ?_;have dd:=bA.trans Y;have df:=aw.ext Y;have dh:=cc.ext Y;rw[be ax.u ap.i Ψ (aE.ls.ext dd) bB,aT a8.p 0 df rfl,aU an.u dh.ls];generalize cg:((x.scope.take p).map λv=>t.getD ((bl x.scope).idxOf v) 0)=A at aB;have et:A.length=p:=by rw[<-cg,u7,l9];omega
   refine bX.range (bl x.scope).length (λj G a2=>Ext s a2/\ ∃go,au .i64 ap a2 go G (A++if v∈(bl x.scope).take j then[t.getD ((bl x.scope).idxOf v) 0] else[])/\ ∀r,leads G r->s.heap.size<=r) Ω ⟨Y,go,by simpa using aB,ce⟩ ?_ ?_
   .rintro j di a2 dj dl ⟨S,bC,Z,aC⟩ dm;obtain⟨u,hu⟩:=aH (l:=(bl x.scope)) dl;have dp:=cc.ext S;refine bE Ω ?_;refine aV (λG bD=>Ext s bD/\ ∃go,au .i64 ap bD go G (A++if v∈(bl x.scope).take (j+1) then[t.getD ((bl x.scope).idxOf v) 0] else[])/\ ∀r,leads G r->s.heap.size<=r) ?_ ?_
    .rintro eu bD dq;rw[aM];exact dm _ _ dq
    intro ay ci;have bF:v∈(bl x.scope).take (j+1)↔v∈(bl x.scope).take j\/v=u:=by
     rw[u9,hu,l7,o7,o9]
    rw[be an.u ai.i Ψ dp.ls hu,bh,al];refine⟨λhe=>?_,λbH=>?_⟩
    .have dr:v∉(bl x.scope).take j:=λhm=>by
      obtain⟨ds,bI⟩:=X1.1 hm;have dt:ds<j:=by have:=(x4.1 bI).1;rw[l9] at this;omega
      rw[Z7 dt,<-he] at bI;have:=kc bP bI hu;omega
     rw[if_neg dr,U2] at Z;have du:t[j]? =σ (t.getD ((bl x.scope).idxOf v) 0):=by
      have:(bl x.scope).idxOf v=j:=qw bP (by rw[hu,he]);rw[this,v8,x6 (show j<t.length by omega)];rfl
     rw[be an.u ai.i Ψ (c8.ext S) du];refine eo ax.u ap.i rfl λev ew ey ez bJ dv=>?_;refine gX ax.u ap.i rfl (Z.ext bJ) dv.ls Θ Θ λeA dw eB dx dy dz=>?_;have eC:=S.size;have eD:=bJ.size;refine ci _ _ ⟨(S.trans bJ).then dz λr m he=>by have:=aC r he;omega,dw,?_,λr m=>(dy r m).elim (aC r) λh=>Ω⟩;rw[if_pos (bF.2 (.inr he.symm))];exact dx
    .refine ci _ _ ⟨S,bC,?_,aC⟩;have:(v∈(bl x.scope).take (j+1))=(v∈(bl x.scope).take j):=propext ⟨λaG=>(bF.1 aG).resolve_right λhe=>bH he.symm,λaG=>bF.2 (.inl aG)⟩;simp only[this];exact Z
   .rintro di a2 dj ⟨S,bC,Z,aC⟩;rw[o5,if_pos dc] at Z;refine cm Ω ?_;rw[aM];refine db _ _ ⟨S,bC,?_,aC⟩;rw[u9,bB,l7,b6,cg];exact Z
  .rintro G aY c9 ⟨Y,go,aB,ce⟩;rw[o5] at aB;refine cm Ω ?_;intro eF cj _ _;have a6:=Y.trans cj;have dA:=aw.ext a6;have dC:=cd.ext a6;rw[aT a8.p 2 dA rfl,bO a1.p a1.i rfl dC.range];refine (NY (h.ext (bA.trans a6)) ad.lines.1 (aB.ls.ext cj)).mono ?_;rintro _ eH _ ⟨rfl,bK⟩;refine⟨.inl bK,?_⟩;refine eo ax.u ap.i rfl λeI eJ dD eK cl dE=>?_;refine⟨.inl (bK.trans cl),?_⟩;have ba:=(a6.trans bK).trans cl;have cn:=aA.ext ba;refine gX ax.u ap.i rfl cn dE.ls Θ Θ λdF dG eL bb dH cp=>?_;have cq:=aw.ext ba;have cr:=cq.ab cp λhe=>b4 cn cq Φ he rfl;rw[aW a8.p rfl];refine bt (g:=z) (o:=2) ax.i bb.ls.cells.1 bb.ls.cells.2 cr Ξ λdI ct eM dJ=>?_;rw[aM];have dK:ah (λr=>leads a7 r\/r=z) dD dI:=(cp.mono λr _ h=>.inl h).trans (ct.mono λr _ h=>.inr h);have eN:=ba.size;refine c4 _ ⟨(E.trans (ba.ab _)).trans (dK.mono λr _ h=>h.elim (λh=>.inr (aS r h)) .inl),dF,dG,dJ,?_,λr m=>(dH r m).elim (aS r) λh=>Ω⟩;rw[u9,aX,l7,b6];exact bp bb ct λr m he=>by
    have he:r=z:=he;subst he;exact b4 bb cr Φ m rfl
 .rintro s c2 ⟨E,a7,av,aw,aA,aS⟩;rw[o5] at aA;refine cm Ω ?_;have X:∀ {O:Nat} {P:x1} {Q:Λ},au .i64 ai B O P Q->au .i64 ai s O P Q:=λhm=>bp hm E λr m J=>by
   rcases J with rfl|J
   .exact b4 hm aq Φ m rfl
   .obtain⟨C,H⟩:=bM hm m;omega
  let c:fl:=⟨aP,szv,a7,bl x.scope,(hK f.sizes f.k x).2⟩;have dL:fJ s f.sizes c:=⟨⟨gr,X bx⟩,⟨gs,X b9⟩,av,aA⟩;rw[bO a8.p a8.i rfl (show s.rangeAt z 0 (dk c) from aw.range)];have cu:=ca.ab E λJ=>J.elim (λhe=>by have:=bf.lt;omega) λh=>by have:=ca.lt;omega
  refine ck (vs:=dk c) a8.i rfl rfl dL.one cu λdM cw eO dN=>?_;rw[fO a8.p a8.i rfl dN.range];have aZ:∀ {O:Nat} {P:x1} {Q:Λ} {e:r8},e≠a8->au .i64 e s O P Q->au .i64 e dM O P Q:=λbH hm=>bp hm cw λr m he=>by
   have he:r=bR:=he;exact b4 hm cu bH m he
  refine⟨(cb E).then cw λr m he=>by have he:r=bR:=he;have:=bQ.size;omega,c,rfl,rfl,rfl,⟨⟨gr,aZ Φ (X bx)⟩,⟨gs,aZ Φ (X b9)⟩,av,aZ Φ aA⟩,λr m=>?_⟩;rcases m with m|m|m
  .have:=aS r m;omega
  .have:=cH r m;omega
  .have:=aJ r m;omega
theorem Dp {h:fl} {g:Nat} (e:fJ w sizes h) (a:af w' g a8 (x1.agg (dk h).toArray).cells.toList):af w' g a8 (dk h):=by
 obtain⟨⟨g1,h1⟩,⟨r,f⟩,s,j⟩:=e;obtain⟨_,_,_,m⟩:=dg h1.ls;obtain⟨_,_,_,p⟩:=dg f.ls;obtain⟨_,_,_,q⟩:=dg j.ls;simp only[dk,m,p,q] at a ⊢;exact a
theorem N0 {a b:fl} (P:fJ w sizes a) (Q:fJ w sizes b) (W:jc a.sc) (X:jc b.sc):am x7 zm [.agg (dk a).toArray,.agg (dk b).toArray] w λv w'=>v= .bool (decide (da a.sc<da b.sc))/\Ext w w':=by
 obtain⟨⟨ga,R⟩,_⟩:=id P;obtain⟨⟨au,Y⟩,_⟩:=id Q;have G:=(vT W X).1;refine az func171 ?_;refine bo λg1 U av Z H=>?_;refine bo λab V aw S J=>?_;have H:=(Dp P H).ext S;have J:=Dp Q J;have m:=Z.trans S;have q:=R.ls.ext m;have z:=Y.ls.ext m;have r:∀ {w':x3},Ext V w'-> ∀ {K:x1->Prop},aa x7 (u5 a8 (Γ g1) 0) w' (λt=>aa x7 (u4 an t) w' K)=K a.aP:=λI K=>by
  rw[aT a8.p 0 (H.ext I) rfl]
 have A:∀ {w':x3},Ext V w'-> ∀ {K:x1->Prop},aa x7 (u5 a8 (Γ ab) 0) w' (λt=>aa x7 (u4 an t) w' K)=K b.aP:=λI K=>by
  rw[aT a8.p 0 (J.ext I) rfl]
 rw[r (Ext.refl _),aU an.u q,A (Ext.refl _),aU an.u z,bz,al];refine⟨λac=>?_,λad=>?_⟩
 .rw[r (Ext.refl _),aU an.u q,A (Ext.refl _),aU an.u z,aN];refine⟨?_,m⟩;congr 1;rw[V5,decide_eq_true_eq,decide_eq_true_eq,G];exact⟨λh=>.inl Ω,λh=>by rcases h with h|h<;>omega⟩
 have ae:a.sc.length=b.sc.length:=by have:=Z9.1 ad;omega
 rw[r (Ext.refl _),aU an.u q];refine bX.range a.sc.length (λi _ L=>Ext V L/\ ∀ (j:Nat) (x y:Int),j<i->a.sc[j]? =σ x->b.sc[j]? =σ y->x=y) R.ls.le ⟨Ext.refl _,λj x y af=>Ω⟩ ?_ ?_
 .rintro i _ L k hi ⟨M,B⟩ hk;obtain⟨x,I⟩:=aH (l:=a.sc) hi;obtain⟨y,C⟩:=aH (l:=b.sc) (i:=i) Ω;have e:fR a.sc b.sc=fR (a.sc.drop i) (b.sc.drop i):=sT B Ω Ω;have ag:a.sc.drop i=x::a.sc.drop (i+1):=by rw[X7 hi,(x4.1 I).2]
  have ah:b.sc.drop i=y::b.sc.drop (i+1):=by rw[X7 (show i<b.sc.length by omega),(x4.1 C).2]
  rw[ag,ah] at e;simp only[fR] at e;refine bE Ω ?_;intro ax aj _ _;have f:=M.trans aj;rw[r f,be an.u ai.i Ψ (q.ext f) I,A f,be an.u ai.i Ψ (z.ext f) C,bz,al];refine⟨λac=>?_,λhe=>?_⟩
  .intro ay ak _ _;have s:=f.trans ak;rw[r s,be an.u ai.i Ψ (q.ext s) I,A s,be an.u ai.i Ψ (z.ext s) C,aN];refine⟨?_,m.trans s⟩;congr 1;rw[V5,decide_eq_true_eq,decide_eq_true_eq,G,e];by_cases E:x<y
   .rw[if_pos E];exact⟨λ_=>.inr ⟨ae,Ω⟩,λ_=>E⟩
   .rw[if_neg E,if_pos (show y<x by omega)];exact⟨λh=>absurd h E,λh=>by rcases h with h|h<;>omega⟩
  .rw[aM];refine hk _ _ ⟨f,λj ao ap af N O=>?_⟩;by_cases aq:j=i
   .subst aq;rw[I] at N;rw[C] at O;cases N;cases O;exact Z9.1 he
   .exact B j ao ap Ω N O
 .rintro _ L k ⟨M,B⟩;rw[aN,al];refine⟨λh=>Ω,λ_=>⟨?_,m.trans M⟩⟩;congr 1;symm;rw[decide_eq_false_iff_not,G];have e:fR a.sc b.sc=fR (a.sc.drop a.sc.length) (b.sc.drop a.sc.length):=sT B (p8 _) Ω;rw[List.drop_length,show b.sc.drop a.sc.length=[] from List.drop_eq_nil_of_le Ω] at e;rw[e];simp only[fR];omega
def du (h:fl):cK:=(h.sc,h.cs)
def km (w:x3) (B g:Nat) (v:x1) (sizes:Λ) (L:List fl):Prop:=bg dk 3 a8 w g v L/\(∀h∈L,fJ w sizes h/\ ∀r,pj h r->B<=r)/\(∀ (i j:Nat) x y,L[i]? =σ x->L[j]? =σ y->i≠j-> ∀r,leads x.a7 r->¬leads y.a7 r)/\ ∀r,leadsTo v r->B<=r
theorem mC {h:fl} (x:fJ w sizes h) (p:ah S w w') (q:∀r,S r->(∃e c,af w r e c/\e≠ai/\e≠ap)\/w.heap.size<=r\/((∃c,af w r ap c)/\¬leads h.a7 r)):fJ w' sizes h:=by
 obtain⟨⟨g1,h1⟩,⟨y,z⟩,A,j⟩:=x;have s:∀ {g:Nat} {v:x1} {l:Λ},au .i64 ai w g v l->au .i64 ai w' g v l:=λhm=>bp hm p λr a J=>by
  rcases q r J with⟨e,c,f,m,_⟩|B|⟨⟨c,f⟩,_⟩
  .exact b4 hm f (λhe=>m he.symm) a rfl
  .obtain⟨C,E⟩:=bM hm a;omega
  .exact b4 hm f Φ a rfl
 refine⟨⟨g1,s h1⟩,⟨y,s z⟩,A,bp j p λr a J=>?_⟩;rcases q r J with⟨e,c,f,_,m⟩|B|⟨_,F⟩
 .exact b4 j f (λhe=>m he.symm) a rfl
 .obtain⟨C,E⟩:=bM j a;omega
 .exact F a
theorem km.ext {g:Nat} {L:List fl} (h:km w B g v sizes L) (I:Ext w w'):km w' B g v sizes L:=⟨h.1.ext I,λx a=>⟨(h.2.1 x a).1.ext I,(h.2.1 x a).2⟩,h.2.2⟩
section
variable {α:Type} {f:α->List x1} {k:Nat} {P:W0} {w:x3} {e:r8} {g:Nat} {v:x1} {L:List α}
theorem N1 {M:List α} (h:bg f k e w g v L) (ae:L.map f=M.map f):bg f k e w g v M:=by
 have j:L.length=M.length:=by have:=congrArg S7 ae;simpa using this
 have hm:L.flatMap f=M.flatMap f:=by rw[List.flatMap_def,List.flatMap_def,ae]
 refine⟨by rw[<-j,<-hm];exact h.1,λa m=>?_⟩;obtain⟨b,p,he⟩:=n9.1 (show f a∈L.map f by rw[ae];exact n9.2 ⟨a,m,rfl⟩);rw[<-he];exact h.2 b p
theorem Dq {b l h':Nat} {low high:Option x1} (r:P.underlying t=σ (.slice e)) (hi:aS P e k b z) (h:bg f k e w g v L) (h1:lF low l) (s:lG high L.length h') (p:l<=h') (aG:h'<=L.length)
  (x:∀q,(∀w',bg f k e w' g v L->ca w' k q ((L.drop l).take (h'-l)).length (((L.drop l).take (h'-l)).flatMap f))->K q):aa P (V3 t v low high ν) w K:=by
 have y:=h.sl;obtain⟨_,B,o,base,cap,rfl,C,_⟩:=y;rw[hF r hi h1 s fw p Ω (p8 _)];refine x _ λw' j=>?_;have:=ca.part (l:=l) (h:=h') (m:=cap) j.sl p aG Ω (p8 _);rw[sx l j.2,qn (h'-l) (λa A=>j.2 a (List.mem_of_mem_drop A))] at this;have el:((L.drop l).take (h'-l)).length=h'-l:=by rw[l9,List.length_drop];omega
 rw[el];exact this
theorem wI {J:r8} {b:Nat} {x:x1} {M:List α} {K:x1->x3->Prop} (s:P.underlying t=σ (.slice e)) (hi:aS P e k b z) (E:z.cells.size=k) (h:bg f k e w g v L) (I:ca w k x M.length (M.flatMap f)) (N:∀a∈M,(f a).length=k) (h1:∀a∈M,∀u∈f a,u.oneCell'=true)
  (y:(L.length+M.length)*b<=140737488355328) (F:L.length+M.length<=9223372036854775807)
  (G:∀j m w',bg f k e w' m j (L++M)->(∀r,leadsTo j r->leadsTo v r\/w.heap.size<=r)->ah (λr=>leadsTo v r) w w'->K j w'):aC P (b8 #[t,t] J #[v,x]) w K:=by
 have H:∀u∈M.flatMap f,u.oneCell'=true:=λu hu=>by
  obtain⟨a,O,hu⟩:=List.mem_flatMap.1 hu;exact h1 a O u hu
 have A:∀j m w',bT w' m e k j (L.length+M.length) (L.flatMap f++M.flatMap f)->bg f k e w' m j (L++M):=λj m w' hm=>⟨by simpa using hm,λb y=>by
  rcases o7.1 y with h'|h'
  .exact h.2 b h'
  .exact N b h'⟩
 rcases h.1.2 with⟨ac,Q⟩|⟨cap,cs,ac,R,_⟩
 .have hm:bT w w.heap.size e k v L.length (L.flatMap f):=⟨h.1.1,.inl ⟨ac,Q⟩⟩;subst ac;refine nk s s hi E hm I H (by simpa using y) (by simpa[maxLen] using F) λj m w' B p C=>G j m w' (A _ _ _ p) (λr q=>.inr ?_) (C.mono λr q h=>Ω);have:=((A _ _ _ p).leads q).1;omega
 .refine nk s s hi E h.1 I H (by simpa using y) (by simpa[maxLen] using F) λj m w' B p C=>G j m w' (A _ _ _ p) (λr q=>?_) (C.mono λr q h=>⟨_,_,_,ac,h.symm⟩);have:=((A _ _ _ p).leads q).1;rcases B with B|B
  .exact .inl ⟨_,_,_,ac,by show g=r;omega⟩
  .exact .inr Ω
theorem N2 {b:Nat} {K:x1->x3->Prop} (a:P.underlying t=σ (.slice e)) (hi:aS P e k b z)
  (h:∀v g w',g=w.heap.size->Ext w w'->bg f k e w' g v []->K v w'):aC P (Y0 t 0 #[]) w K:=
 j1 a hi Ω (cs:=#[]) (by simp[Instr.fill]) λg w' j m p=>by
  exact h _ g w' j m ⟨by simpa using bT.full (k:=k) (n:=0) p Ξ (by simp[maxLen]),λc q=>by cases q⟩
end
theorem te {α:Type} {A B:List α} {s:Nat} {a:α} (J:s<B.length) (e:A[s]? =σ a):(A.take s++B.drop s).set s a=A.take (s+1)++B.drop (s+1):=by
 have f:=(x4.1 e).1;have h1:(A.take s).length=s:=by rw[l9];omega
 rw[T3 _ _ Ω,h1,V6,X7 J,List.set_cons_zero,u9,e,l7,T0];rfl
theorem Dr {α:Type} {A B:List α} {s:Nat} (J:s<=A.length):(A.take s++B.drop s)[s]? =B[s]?:=by
 have h1:(A.take s).length=s:=by rw[l9];omega
 rw[Y4 Ω,h1,V6,List.getElem?_drop,Nat.add_zero]
theorem Ds {g:cK}:∀ {l:List cK} {i:Nat},(∀p<i,∀x,l[p]? =σ x->da x.1<da g.1)->i<=l.length->(∀x,l[i]? =σ x->¬da x.1<da g.1)->hr g l=l.take i++g::l.drop i
 |[],i,_,a,_=>by
  have:i=0:=by simpa using a
  subst this;rfl
 |x::l,0,_,_,e=>by
  unfold hr;rw[if_neg (e x rfl)];rfl
 |x::l,i+1,h1,a,e=>by
  unfold hr;rw[if_pos (h1 0 Ω x rfl),Ds (i:=i) (λp h y f=>h1 (p+1) Ω y f) (by simpa using a) (λy f=>e y f)];rfl
theorem N3 {g:Nat} {L:List fl} {h:fl} {s:Nat} {n:Int} {K:Unit->x3->Prop} (f:km w B g v sizes L) (E:L[j]? =σ h) (J:s<h.cs.length)
  (W:∀w',ah (λr=>leads h.a7 r) w w'->(∀r,leads h.a7 r-> ∃c,af w r ap c)->km w' B g v sizes (L.set j {h with cs:=h.cs.set s n})->K () w'):
  aa x7 (j5 ax h.a7 (Δ (s:Int))) w λt=>aC x7 (o6 ap t (Δ n)) w K:=by
 obtain⟨h1,O,P,X⟩:=f;have M:=(x4.1 E).1;obtain⟨Q,Y⟩:=O h (x5 E);obtain⟨_,_,R,F⟩:=id Q;have G:∀r,leads h.a7 r-> ∃c,af w r ap c:=λr f=>by
  obtain⟨rfl,_⟩:=bM F f;obtain⟨_,⟨ac,_⟩|⟨cap,full,_,z,_⟩⟩:=F
  .obtain⟨a,n,c,e,_⟩:=f;rw[ac] at e;cases e
  .exact⟨_,z⟩
 have Z:∀r,r=R->leads h.a7 r:=λr he=>by
  subst he;obtain⟨_,⟨_,aw⟩|⟨cap,full,e,z,_⟩⟩:=F
  .omega
  .exact⟨_,_,_,e,rfl⟩
 rw[hn rfl ax.u ap.i F J];refine ho ap.i F J λw' A ay ad=>?_;have A:=A.mono (T:=λr=>leads h.a7 r) λr _ he=>Z r he;refine W w' A G ⟨?_,λx I=>?_,λp q x y I ae ag r ai aj=>?_,X⟩
 .refine N1 (h1.ab A λr f J=>?_) ?_
  .obtain⟨c,z⟩:=G r J;exact cQ h1 z Φ f
  .rw[V7];symm;refine Y6 λp=>?_;rw[Y3,x8];by_cases m:j=p
   .subst m;rw[if_pos rfl,if_pos (by simpa using M),E];rfl
   .rw[if_neg m]
 .have ak:x={h with cs:=h.cs.set s n}\/ ∃p,p≠j/\L[p]? =σ x:=by
   obtain⟨p,m⟩:=X1.1 I;rw[Y3] at m;by_cases C:j=p
   .subst C;rw[if_pos rfl,if_pos M] at m;exact .inl (j6 m).symm
   .rw[if_neg C] at m;exact .inr ⟨p,λh=>C h.symm,m⟩
  rcases ak with rfl|⟨p,al,m⟩
  .obtain⟨⟨g1,S⟩,⟨am,U⟩,_⟩:=Q;refine⟨⟨⟨g1,bp S A λr f J=>?_⟩,⟨am,bp U A λr f J=>?_⟩,R,ad⟩,Y⟩
   .obtain⟨c,z⟩:=G r J;exact b4 S z Φ f rfl
   .obtain⟨c,z⟩:=G r J;exact b4 U z Φ f rfl
  .obtain⟨an,ao⟩:=O x (x5 m);refine⟨mC an A λr f=>.inr (.inr ⟨G r f,λN=>P p j x h m E al r N f⟩),ao⟩
 .have V:∀ {p:Nat} {x:fl},(L.set j {h with cs:=h.cs.set s n})[p]? =σ x-> ∃H,L[p]? =σ H/\H.a7=x.a7:=λ{p x} I=>by
   rw[Y3] at I;by_cases C:j=p
   .subst C;rw[if_pos rfl,if_pos M] at I;cases I;exact⟨h,E,rfl⟩
   .rw[if_neg C] at I;exact⟨x,I,rfl⟩
  obtain⟨H,N,ex⟩:=V I;obtain⟨aq,au,av⟩:=V ae;exact P p q H aq N au ag r (by rw[ex];exact ai) (by rw[av];exact aj)
def k5 (f:bZ) (j:Nat):List cK:=(((ff f).take j).filter fB).foldl (λl g=>hr g l) []
theorem Dt {f:bZ} {x:cK} (h:(ff f)[j]? =σ x):k5 f (j+1)=if fB x then hr x (k5 f j) else k5 f j:=by
 unfold k5;rw[u9,h,l7,List.filter_append,U9];cases J:fB x with
 |true=>rw[List.filter_cons_of_pos J];rfl
 |false=>rw[List.filter_cons_of_neg (by simp[J])];rfl
theorem N4 (f:bZ):k5 f (ff f).length=fC f:=by unfold k5 fC;rw[o5]
theorem Du (g:cK):∀l,(hr g l).length=l.length+1
 |[]=>rfl
 |h::l=>by
  unfold hr;split
  .rw[c7,Du g l,c7]
  .rfl
theorem N5 {f:bZ} (e:j<=(ff f).length):(k5 f j).length<=j:=by
 induction j with
 |zero=>simp[k5]
 |succ j a=>
  have:=a Ω;rw[Dt (x:=(ff f)[j]) (x6 Ω)];split
  .rw[Du];omega
  .omega
theorem N6 {g:Nat} {l:x1} {f:bZ} {L:List fl} {Q:x1->x3->Prop} (az:e8 N f) (s:km w B g l f.sizes L) (aA:L.map du=ff f)
  (bM:∀out w' go m,Ext w w'->bg dk 3 a8 w' go out m->(∀h∈m,h∈L)->(∀h∈m,fJ w' f.sizes h)->m.map du=fC f->(∀r,leadsTo out r->w.heap.size<=r)->Q out w'):
  aa x7 (W6 #[cV] ai #[l]) w λbN=>
 bX (.slice ν 0 0) (Δ 0) w λout aB P bP=>
  aa x7 (aJ .lss ai false false aB bN) P λbS=>
  Split bS (cu (α:=x1->x3->Prop) (λ(bT:x1) (R:x3)=>
   aa x7 (aJ .add ai false true aB (Δ 1)) R λbV=>
   bP bT bV R) λbd=>
  aa x7 (j5 cV l aB) P λbW=>
  aa x7 (u4 a8 bW) P λbY=>
  aC x7 (R7 a8 true (.tuple #[])) P λaj bf=>
  aC x7 (o6 a8 aj bY) bf λ(_:Unit) H=>
  aa x7 (u5 a8 aj 2) H λb0=>
  aa x7 (u4 ax b0) H λbh=>
  aa x7 (W6 #[ax] ai #[bh]) H λb1=>
  bX (.bool false) (Δ 0) H λbi aD z b2=>
   aa x7 (aJ .lss ai false false aD b1) z λb3=>
   Split b3 (cu (α:=x1->x3->Prop) (λ(b4:x1) (X:x3)=>
    aa x7 (aJ .add ai false true aD (Δ 1)) X λb5=>
    b2 b4 b5 X) λbj=>
   aa x7 (j5 ax bh aD) z λb6=>
   aa x7 (u4 ap b6) z λb7=>
   Split bi (bj (.bool true) z)
    (aa x7 (aJ .gtr ap false true b7 (Δ 0)) z λb9=>
   bj b9 z))
    (aa x7 (Op.unary .not bi) z λca=>
  Split ca (bd out z)
   (ch (Δ 0) z λi ak cc=>
   cu (α:=x1->x3->Prop) (λ(cd:x1) (S:x3)=>
    Split cd (aa x7 (aJ .add ai false true i (Δ 1)) S λce=>
   cc ce S)
     (en S λC=>
  aa x7 (u4 a8 aj) C λcg=>
  aa x7 (V3 cV out (σ i) ν ν) C λbk=>
  aC x7 (Y0 cV 1 #[(0,cg)]) C λci Y=>
   (Ext C Y\/cC x7 (V3 cV out (σ i) ν ν) bk Y/\True)/\
  aC x7 (b8 #[cV,cV] cV #[ci,bk]) Y λcj aE=>
   aC x7 (Y0 cV 0 #[]) aE λcl an=>
  aa x7 (V3 cV out ν (σ i) ν) an λcn=>
  aC x7 (b8 #[cV,cV] cV #[cl,cn]) an λcp aF=>
  aC x7 (b8 #[cV,cV] cV #[cp,cj]) aF λcq aI=>
  bd cq aI)) λbl=>
   en ak λE=>
   aa x7 (W6 #[cV] ai #[out]) E λcr=>
   aa x7 (aJ .lss ai false false i cr) E λct=>
   Split ct (aa x7 (j5 cV out i) E λcw=>
   aa x7 (u4 a8 cw) E λcz=>
   aa x7 (u4 a8 aj) E λcA=>
   am x7 zm [cz,cA] E λcB bm=>
    bl cB bm)
    (bl (.bool false) E))))
   (Q out P):=by
 have cD:L.length=(ff f).length:=by rw[<-aA,u7]
 have dh:L.length<=256:=by have:=(kZ az).2.2;have:=az.kS;omega
 have bn:=(kZ az).1;rw[e9 cV.u s.1];refine bX.range L.length (λj out U=>∃go m,Ext w U/\bg dk 3 a8 U go out m/\(∀h∈m,h∈L)/\m.map du=k5 f j/\ ∀r,leadsTo out r->w.heap.size<=r) s.1.le
  ⟨0,[],Ext.refl _,bg.nil _ _ _ _ _,λh aG=>(by cases aG),rfl,λr s=>(fg s).elim⟩ ?_ ?_
 rotate_left
 .rintro out U cE ⟨go,m,bo,Z,K,ac,aK⟩;rw[aN,al];refine⟨λh=>Ω,λ_=>bM _ _ go m bo Z K (λh aG=>((s.ext bo).2.1 h (K h aG)).1) ?_ aK⟩;rw[ac,cD,N4]
 rintro j out P cE bp ⟨go,m,ao,Z,K,ac,aK⟩ cF;obtain⟨h,aG⟩:=aH (l:=L) bp;have hm:(ff f)[j]? =σ (du h):=by rw[<-aA,x8,aG];rfl
 have cG:=bn _ (x5 hm);have di:m.length<=256:=by
  have:=N5 (f:=f) (j:=j) Ω;rw[<-ac,u7] at this;omega
 have ad:=s.ext ao;obtain⟨aO,_⟩:=ad.2.1 h (x5 aG);obtain⟨_,_,dj,cH⟩:=id aO;refine bE Ω ?_;refine aV (λaP R=>∃aQ af,Ext w R/\bg dk 3 a8 R aQ aP af/\(∀h∈af,h∈L)/\af.map du=k5 f (j+1)/\ ∀r,leadsTo aP r->w.heap.size<=r) ?_ ?_
 .rintro aP R ⟨aQ,af,h1,cI,cJ,cK,cL⟩;rw[aM];exact cF _ _ ⟨aQ,af,h1,cI,cJ,cK,cL⟩
 intro ay ag;rw[dr rfl cV.u a8.i ad.1 bp,bO a8.p a8.i rfl (ad.1.range aG)];refine bG a8.i λbq bf dl cM cN=>?_;refine ck (vs:=dk h) a8.i rfl rfl aO.one cN λH cO dm br=>?_;have bt:Ext P H:=cM.put cO Ω;have aR:=cH.ext bt;rw[aT a8.p 2 br rfl,aU ax.u aR.ls];refine bX.range h.cs.length (λq sv z=>Ext H z/\sv= .bool ((h.cs.take q).any λc=>decide (0<c))) aR.ls.le ⟨Ext.refl _,rfl⟩ ?_ ?_
 .rintro q _ z cP cQ ⟨V,rfl⟩ cR;obtain⟨c,bu⟩:=aH (l:=h.cs) cQ;have e:(h.cs.take (q+1)).any (λc=>decide (0<c))=((h.cs.take q).any (λc=>decide (0<c))||decide (0<c)):=by
   rw[u9,bu,l7,List.any_append];simp
  refine bE Ω ?_;refine aV (λsv X=>Ext H X/\sv= .bool ((h.cs.take (q+1)).any λc=>decide (0<c))) ?_ ?_
  .rintro _ X ⟨cS,rfl⟩;rw[aM];exact cR _ _ ⟨cS,rfl⟩
  intro ay ag;rw[be ax.u ap.i Ψ (aR.ext V).ls bu,cb];refine⟨λcT=>ag _ _ ⟨V,by rw[e,cT];rfl⟩,λae=>?_⟩;rw[bR];exact ag _ _ ⟨V,by rw[e,ae];rfl⟩
 rintro _ z cP ⟨V,rfl⟩;have bw:=br.ext V;have O:=bt.trans V;rw[o5];refine cm Ω ?_;rw[bI,cb];have aq:=Dt hm;have cU:(h.cs.any λc=>decide (0<c))=fB (du h):=rfl;rw[cU];refine⟨λaS=>?_,λJ=>?_⟩
 .have aS:fB (du h)=false:=by simpa using aS
  rw[aS] at aq;exact ag _ _ ⟨go,m,ao.trans O,Z.ext O,K,by rw[ac,aq];rfl,aK⟩
 have J:fB (du h)=true:=by simpa using J
 rw[J,if_pos rfl] at aq;refine⟨λaW ak=>∃i:Nat,aW=Δ (i:Int)/\i<=m.length/\Ext z ak/\ ∀p<i,∀x,m[p]? =σ x->da x.sc<da h.sc,λaW _=>m.length-(bU aW).toNat,⟨0,rfl,X3 _,Ext.refl _,λp aX=>Ω⟩,?_⟩;rintro _ ak ⟨i,rfl,hi,cW,aZ⟩;refine aV (λaL S=>Ext z S/\((aL= .bool true/\i<m.length/\ ∀x,m[i]? =σ x->da x.sc<da h.sc)\/(aL= .bool false/\ ∀x,m[i]? =σ x->¬da x.sc<da h.sc))) ?_ ?_
 rotate_left
 .intro dn a1;intro E cX _ _;have W:=cW.trans cX;have a2:=Z.ext (O.trans W);rw[e9 cV.u a2,aN,al];refine⟨λaZ=>?_,λdp=>a1 _ _ ⟨W,.inr ⟨rfl,λx I=>absurd (x4.1 I).1 Ω⟩⟩⟩;obtain⟨x,I⟩:=aH (l:=m) (i:=i) Ω;have bx:=K x (x5 I);have cY:jc x.sc:=(bn (du x) (by rw[<-aA];exact n9.2 ⟨x,bx,rfl⟩)).scope;have bz:=ad.ext (O.trans W);rw[dr rfl cV.u a8.i a2 Ω,bO a8.p a8.i rfl (a2.range I),bO a8.p a8.i rfl (show E.rangeAt bq 0 (dk h) from (bw.ext W).range)];refine (N0 (bz.2.1 x bx).1 (bz.2.1 h (x5 aG)).1 cY cG.scope).mono ?_;rintro _ bm _ ⟨rfl,bA⟩;by_cases au:da x.sc<da h.sc
  .rw[decide_eq_true au];exact a1 _ _ ⟨W.trans bA,.inl ⟨rfl,Ω,λy A=>by rw[I] at A;cases A;exact au⟩⟩
  .rw[decide_eq_false au];exact a1 _ _ ⟨W.trans bA,.inr ⟨rfl,λy A=>by rw[I] at A;cases A;exact au⟩⟩
 rintro _ S ⟨bB,⟨rfl,dq,cZ⟩|⟨rfl,c0⟩⟩
 .rw[bQ,aM,wrap_i64 Ω Ω];refine⟨⟨i+1,rfl,Ω,bB,λp aX x I=>?_⟩,by simp only[bU];omega⟩;by_cases c1:p=i
  .subst c1;exact cZ x I
  .exact aZ p Ω x I
 .rw[aY];intro C c2 _ _;have ah:=bB.trans c2;have av:=Z.ext (O.trans ah);have c3:=ad.ext (O.trans ah);have a6:∀x∈m,∀u∈dk x,u.oneCell'=true:=λx I=>(c3.2.1 x (K x I)).1.one;have c4:∀u∈dk h,u.oneCell'=true:=aO.one;rw[bO a8.p a8.i rfl (show C.rangeAt bq 0 (dk h) from (bw.ext ah).range)];refine Dq (h':=m.length) cV.u a8.i av (ng i _ rfl) jv hi (p8 _) λds bC=>?_;refine h2 (f:=dk) (k:=3) (a:=h) cV.u a8.i Ω rfl rfl λdt dv Y dw a7 bD=>?_;refine⟨.inl a7,?_⟩;have c5:(m.drop i).take (m.length-i)=m.drop i:=j9 (by rw[List.length_drop];omega);rw[c5] at bC;refine wI (M:=m.drop i) cV.u a8.i rfl bD (bC Y (av.ext a7)) (λ_ _=>rfl) (λa G=>a6 a (List.mem_of_mem_drop G)) Θ Θ λdx dy aE ba dz c6=>?_;have bF:Ext C aE:=a7.then c6 λr s he=>by have:=(bD.leads he).1;omega
  refine N2 (f:=dk) (k:=3) cV.u a8.i λdA dC an dD bb aw=>?_;have bc:=bF.trans bb;refine Dq (h':=i) cV.u a8.i (av.ext bc) ju (nh i _ rfl) (X3 _) hi λdE bH=>?_;rw[List.drop_zero,Nat.sub_zero] at bH;refine wI (M:=m.take i) cV.u a8.i rfl aw (bH an (av.ext bc)) (λ_ _=>rfl) (λa G=>a6 a (S3 G)) Θ Θ λc7 dF aF c8 c9 bJ=>?_;have dG:=bF.size;have dH:=bb.size;have db:=(ba.ext bb).ab bJ λr s J=>by have:=(ba.leads s).1;have:=(ba.leads s).2;have:=(aw.leads J).1;omega
  refine wI (M:=[h]++m.drop i) cV.u a8.i rfl c8 db.sl (λ_ _=>rfl) (λa G=>?_) Θ Θ λdI dc aI dd de df=>?_
  .rcases o7.1 G with G|G
   .rw[o9.1 G];exact c4
   .exact a6 a (List.mem_of_mem_drop G)
  have bK:Ext C aF:=bc.then bJ λr s he=>by have:=(aw.leads he).1;omega
  have bL:∀r,leadsTo c7 r->C.heap.size<=r:=λr s=>(c9 r s).elim (λh=>by have:=(aw.leads h).1;omega) λh=>Ω
  have dg:Ext C aI:=bK.then df λr s he=>by have:=bL r he;omega
  have dJ:=(ao.trans (O.trans ah)).size;have dK:=bK.size;refine ag _ _ ⟨dc,_,(ao.trans (O.trans ah)).trans dg,dd,λx I=>?_,?_,λr s=>(de r s).elim (λh=>by have:=bL r h;omega) λh=>Ω⟩
  .rcases o7.1 I with I|I
   .exact K x (S3 (by simpa using I))
   .rcases o7.1 I with I|I
    .rw[o9.1 I];exact x5 aG
    .exact K x (List.mem_of_mem_drop I)
  .rw[aq,<-ac,Ds (i:=i) (λp aX x I=>?_) (by simpa using hi) (λx I=>?_)]
   .simp
   .rw[x8] at I;cases A:m[p]? with
    |none=>rw[A] at I;cases I
    |some y=>rw[A] at I;cases I;exact aZ p aX y A
   .rw[x8] at I;cases A:m[i]? with
    |none=>rw[A] at I;cases I
    |some y=>rw[A] at I;cases I;exact c0 y A
end Go.Proofs.YtmgflbkdggdhoaaGreatDoor
