/- own texts, made small by a tool (wip/ holds them as they were written): no statement of the seat. -/
import Derived.Test.YtmgflbkdggdhoaaGreatDoorYc
set_option linter.unusedVariables false
set_option linter.unusedSimpArgs false
set_option linter.unnecessarySimpa false
open Array renaming getElem?_eq_some_iff→n9,getElem?_toList→S4
open Bool renaming not_true→Y6,not_false→X9,and_eq_true→V1,eq_iff_iff→V6,or_eq_false_iff→S3
open Decidable renaming not_not→Z9
open Go renaming Value→x1,World→x3,TypeId→r9,IntKind→o5,Builtin→Z2,Program→W5
open Go.Addr renaming add_mid→T0
open Go.Builtin renaming append_→b9,len_→W8
open Go.Instr renaming loadAt→u4,fieldAt→u5,storeAt→o6,indexAt→j4,extract→Z7,buildSlice→Y4,sliceAt→V4,alloc→S7
open Go.IntKind renaming i64→X2
open Go.Proofs.Tryz renaming prog→x7
open Int renaming toNat_natCast→u6
open List renaming getElem?_eq_some_iff→x4,mem_of_getElem?→x5,getElem?_eq_getElem→x6,getElem?_map→x8,getD_eq_getElem?_getD→v8,length_map→u7,take_add_one→u9,replicate→r8,take_length→p9,length_append→o4,mem_append→o7,mem_singleton→o8,mem_map→l9,eq_nil_of_length_eq_zero→j5,length_take→j6,getElem?_set_self→c7,length_set→c8,length_cons→c9,take_of_length_le→b8,map_append→Z0,getElem?_eq_none→Z6,getElem?_take_of_lt→Z8,getElem?_set_ne→Y0,getElem?_append_left→Y1,getElem?_append_right→Y2,ext_getElem?→Y3,getElem?_set→Y7,mem_iff_getElem?→X1,range→X4,drop_eq_getElem_cons→X5,flatMap_cons→X7,mem_or_eq_of_mem_set→X8,length_eq_one_iff→W7,map_set→V8,append_nil→U4,append_assoc→U6,map_cons→U7,set_append_right→T2,mem_of_mem_take→T4,map_map→T7,foldl_append→S1,length→S6,length_singleton→S9,getElem_mem→R8
open Nat renaming le_refl→p8,le_trans→Y9,zero_add→X0,zero_le→X3,mul_le_mul_right→X6,sub_self→V7,mul_one→U1,add_mul→U2,add_assoc→S8,add_sub_cancel_left→R2,eq_zero_or_pos→R7
open Option renaming toList_some→o9,map_some→Z3,isNone_some→Z4,map_eq_some_iff→Y5,map→V5,getD_some→V9,isSome_some→T1,isSome_none→S5
open Option.some renaming inj→b6,injEq→Y8
open Prod.mk renaming injEq→T9
set_option maxHeartbeats 16000000
open Option renaming some→σ,none→ν
variable {B N a ae gT gz j k n:Nat}{w w':x3}{sv v z:x1}{e t:r9}{y:Int}{K:x1->Prop}{all l pl sizes:Λ}{S:Nat->Prop}
namespace Go.Proofs.YtmgflbkdggdhoaaGreatDoor
open Go Go.Vc Go.RowKit Go.Proofs Go.Proofs.Tryz
set_option maxRecDepth 100000
def Nh (w:x3) (f:b2) (v:x1) (w':x3):Prop:=Ext w w'/\((¬lQ f.funs<=16384/\ ∃e:Int,e≠0/\v= .tuple #[.pointer ν,Δ e])\/ ∃a,v= .tuple #[Γ a,Δ 0]/\CL w.heap.size w' a (cQ f))
theorem eL {cs:List x1} (h:cd w k v n cs):v.cells= #[v]/\v.oneCell'=true:=by
 obtain⟨_,_,_,_,_,rfl,_⟩:=h;exact⟨rfl,rfl⟩
theorem Ni {b0:Nat} {f:b2} (ct:k1 w b0 f) (R:e6 N f) (cu:N<=60000) (cw:f.name≠[]/\ ∀b∈f.name,bK b=true):
  am x7 F3 [Γ b0] w (Nh w f):=by
 have hk:=R.k;refine az func28 ?_;refine (Nc ct R cu cw).mono ?_;rintro _ V _ ⟨aB,⟨cA,e,he,rfl⟩|⟨aC,rfl,cB⟩⟩
 .rw[bo,bp,bm,al];exact⟨λ_=>⟨aB,.inl ⟨cA,e,he,rfl⟩⟩,λh=>absurd he h⟩
 rw[bo,bp,bm,al];refine⟨λh=>absurd rfl h,λ_=>?_⟩;obtain⟨szv,cC,gz,dy,M,bf,bh,b1,aS,cD,cG,cH⟩:=id cB;have dz:M.length<=256:=by
  have h1:=(qu R).2.length_eq;have ao:=(kZ R).2.2;have av:=List.length_filter_le fA (ff f);have aT:=R.kS;have dA:M.length=(fB f).length:=by rw[<-aS,u7]
  omega
 have dC:=R.sizes.2.1;rw[dn (cs:=#[Γ aC,Δ 0,.slice ν 0 0,.slice ν 0 0]) Ψ];refine be λG aa dF bi bj=>?_;have bj:ag aa G fw [Γ aC,Δ 0,.slice ν 0 0,.slice ν 0 0]:=bj;rw[aQ cE.p 2 (bf.ext bi) rfl,aW an.u (bh.ls.ext bi)];refine cz.range f.sizes.length (λi aD=>∃s H aX,Ext V aD/\ag aD G fw [Γ aC,Δ 0,s,.slice ν 0 0]/\hs aD H s aX/\aX.map (·.l)=(f.sizes.take i).map (λz=>r8 z.toNat 0)/\(∀r,leadsTo s r->V.heap.size<=r)/\ ∀h∈aX,∀r,leads h.v r->V.heap.size<=r) Ω
  ⟨_,0,[],bi,bj,⟨bk.nil _ _ _ _ _,λx J=>(by cases J)⟩,rfl,λr q=>(fg q).elim,λx J=>(by cases J)⟩ ?_ ?_
 .rintro i aD cI hi ⟨s,H,aX,ac,aV,bl,aE,aY,K⟩ cJ;obtain⟨z,B⟩:=aH (l:=f.sizes) hi;have dH:=R.sizes.2.2 z (x5 B);have dI:aX.length=i:=by have:=congrArg S6 aE;simp only[u7,j6] at this;omega
  refine bH Ω ?_;rw[bc an.u ai.i Ψ (bh.ls.ext ac) B];intro dJ bn _ _;have cK:=aV.ext bn;rw[aQ fw.p 2 cK rfl];obtain⟨ad,rfl⟩:∃n:Nat,z=n:=⟨z.toNat,Ω⟩;refine jx (k:=.i64) ax.u ap.i Ω Ω λaZ cL dK bt cM=>?_;refine⟨.inl bt,?_⟩;have b3:au .i64 ap cL aZ (.slice (σ ⟨aZ,0,ν⟩) ad ad) (r8 ad 0):=au.of (bW.full (k:=1) (n:=ad) cM Ξ (by simp[maxLen];omega));let a:k2:=⟨.slice (σ ⟨aZ,0,ν⟩) ad ad,r8 ad 0⟩;refine ia (f:=nF) (a:=a) dV.u ax.i Ω rfl rfl λdL dM bu dN bw cN=>?_;refine⟨.inl (bt.trans bw),?_⟩;have a1:=(bn.trans bt).trans bw;have a2:=bl.ext a1;refine iD (f:=nF) (a:=a) dV.u ax.i rfl a2.1 (by simpa using cN.sl) (λu hu=>by rw[o8.1 (show u∈[a.v] from hu)];rfl) Ω Ω λbx bz dO O bA b4=>?_;have aF:∀ {r:Nat},leadsTo s r-> ∃c,ag bu r ax c:=λq=>by
   obtain⟨rfl,c,A⟩:=eb a2.1 q;exact⟨c,A⟩
  have bB:=aV.ext a1;have b5:=bB.ab b4 λhe=>cR a2.1 bB Φ he;rw[bV,aU fw.p rfl];refine bq dV.i (eL O.sl).1 (eL O.sl).2 b5 Ξ λcO b6 dP cP=>?_;rw[aP];have bC:ah (λr=>leadsTo s r\/r=G) bu cO:=(b4.mono λr _ h=>.inl h).trans (b6.mono λr _ h=>.inr h);have S:∀r,(leadsTo s r\/r=G)-> ∃e c,ag bu r e c/\e≠ap:=λr q=>by
   rcases q with q|rfl
   .obtain⟨c,A⟩:=aF q;exact⟨_,c,A,Φ⟩
   .exact⟨_,_,bB,Φ⟩
  have b8:=aB.size;have z3:=ac.size;have dQ:=a1.size;refine cJ _ ⟨bx,bz,aX++[a],(ac.trans a1).then bC (λr q he=>?_),cP,⟨O.ab b6 λr q he=>?_,λy C=>?_⟩,?_,λr q=>?_,λy C r q=>?_⟩
  .rcases he with he|rfl
   .have:=aY r he;omega
   .omega
  .have he:r=G:=he;subst he;exact cR O b5 Φ q
  .rcases o7.1 C with C|C
   .exact a2.qE bC S y C
   .rw[o8.1 C];have b9:=b3.ext bw;exact⟨aZ,br b9 bC λr q U=>by
     obtain⟨e,c,A,cQ⟩:=S r U;exact b7 b9 A (λhe=>cQ he.symm) q rfl⟩
  .rw[Z0,aE,u9,B,o9,Z0];rfl
  .rcases bA r q with h|h
   .exact aY r h
   .omega
  .rcases o7.1 C with C|C
   .exact K y C r q
   .rw[o8.1 C] at q;have cS:=(bO b3 q).1;have:=bn.size;omega
 .rintro aD cI ⟨s,H,aX,ac,aV,bl,aE,aY,K⟩;refine cp Ω ?_;rw[p9] at aE;have cT:=bf.ext ac;have cU:=b1.ext ac;rw[aQ cE.p 3 cT rfl,fh dE.u cU.1];refine cz.range M.length (λi ae=>∃s E H gr aX L,Ext V ae/\ag ae G fw [Γ aC,Δ (dD f i).zero,s,E]/\hs ae H s aX/\aX.map (·.l)=(dD f i).unary/\lR ae w.heap.size gr E f.k f.sizes L/\L.map dR=(dD f i).funs/\(∀r,leadsTo s r\/leadsTo E r->V.heap.size<=r)/\ ∀h∈aX,∀r,leads h.v r->V.heap.size<=r) Ω
   ⟨s,_,H,0,aX,[],ac,aV,bl,aE,⟨bk.nil _ _ _ _ _,λx J=>(by cases J)⟩,rfl,λr q=>q.elim (aY r) λh=>(fg h).elim,K⟩ ?_ ?_
  rotate_left
  .rintro ae cV ⟨s,E,H,gr,aX,L,P,a6,bE,af,bF,aj,W,K⟩;refine cp Ω ?_;have cX:M.length=(fB f).length:=by rw[<-aS,u7]
   have aG:=pb f M.length;rw[cX,s3] at a6 af aj aG;have b8:=aB.size;refine⟨aB.trans P,.inr ⟨G,rfl,Nd (gr:=gr) (nm:=bP f.name) (szv:=szv) (gz:=gz) (fv2:=cC) a6 ?_ ?_ bE af ?_ aj Ω cD cG (λr q=>by have:=W r q;omega) λh aJ r q=>by have:=K h aJ r q;omega⟩⟩
   .rw[aG.1];exact bf.ext P
   .rw[aG.2.1];exact bh.ext P
   .rw[aG.1,aG.2.1];exact bF
  rintro i ae cV hi ⟨s,E,H,gr,aX,L,P,a6,bE,af,bF,aj,W,K⟩ cY;obtain⟨y,C⟩:=aH (l:=M) hi;have cZ:(fB f)[i]? =σ (dR y):=by rw[<-aS,x8,C];rfl
  have a7:fD f.sizes f.k (dR y):=sG R _ (vY aS C);have bG:=b1.ext P;obtain⟨dS,dT,dU,dW⟩:=pb f i;refine bH Ω ?_;refine dg (λaI=>∃s E H gr aX L,Ext V aI/\ag aI G fw [Γ aC,Δ (dD f (i+1)).zero,s,E]/\hs aI H s aX/\aX.map (·.l)=(dD f (i+1)).unary/\lR aI w.heap.size gr E f.k f.sizes L/\L.map dR=(dD f (i+1)).funs/\(∀r,leadsTo s r\/leadsTo E r->V.heap.size<=r)/\ ∀h∈aX,∀r,leads h.v r->V.heap.size<=r) ?_ ?_
  .rintro aI h;rw[aP];exact cY _ h
  intro aA bI;have c0:=bG.2 y (x5 C);obtain⟨⟨c1,bJ⟩,m,o,D,c2,dX,c3⟩:=c0;rw[dx rfl dE.u cF.i bG.1 hi,bR cF.p cF.i rfl (bG.1.range C)];refine bD cF.i λaq dY dZ c5 c6=>?_;refine ch (vs:=ez y) cF.i rfl rfl (sZ bJ) c6 λc7 c8 ea ca=>?_;have bL:Ext ae c7:=c5.put c8 Ω;rw[aM cF.p 1 ca rfl];refine (Cj (c2.ext bL) Ω).mono ?_;rintro _ ec _ ⟨cb,_,aw⟩;obtain⟨g,c9,da,db,rfl,ed,dc,aw,dd⟩:=aw a7.small;have de:dG (bS f.sizes y.sc):=aw.2.2.1.2;have df:db=y.cs:=ic.eq de dd c3;subst df;have X:=bL.trans cb;have bM:=ca.ext cb;have bN:=bJ.ext X;rw[bo,bp,aM cF.p 0 bM rfl,aW an.u bN.ls];have b8:=aB.size;have z9:=P.size;have ee:=X.size;have bQ:=a6.ext X;have bT:=bE.ext X;have bU:=bF.ext X;have bX:=vZ cZ;rw[bg,al];refine⟨λef=>?_,λeg=>?_⟩
  .
   have ak:y.sc=[]:=j5 Ω;have I:dD f (i+1)={dD f i with zero:=y.cs.getD 0 0}:=by rw[bX];unfold iH;simp only[dR,ak]
   refine (mq aw).mono ?_;rintro cc dh _ ⟨a8,eh,ei,di⟩;have ej:y.cs.length=1:=by have:=a7.len;simpa[dR,ak,bS,aN] using this
   have dj:y.cs[0]? =σ (y.cs.getD 0 0):=by rw[v8,x6 Ω];rfl
   rw[fM (y:=0) (i:=0) rfl ax.u ap.i Ψ di.ls dj,bV,aU fw.p rfl];have cd:=bQ.ext a8;refine bq ap.i rfl rfl cd Ξ λek bY em dk=>?_;have S:∀r,r=G-> ∃e c,ag dh r e c/\e≠hh/\e≠cW/\e≠ai/\e≠ap/\e≠ax:=λr q=>by
    subst q;exact⟨_,_,cd,Φ,Φ,Φ,Φ,Φ⟩
   refine bI _ ⟨s,E,H,gr,aX,L,((P.trans X).trans a8).put bY Ω,?_,(bT.ext a8).ab bY (λr q=>?_),by rw[I];exact af,(bU.ext a8).ab bY (λr q=>?_),by rw[I];exact aj,W,K⟩
   .rw[I];exact dk
   .obtain⟨e,c,A,_,_,_,h1,ao⟩:=S r q;exact⟨e,c,A,h1,ao⟩
   .obtain⟨e,c,A,h1,ao,av,aT,_⟩:=S r q;exact⟨e,c,A,h1,ao,av,aT⟩
  rw[bg,al];refine⟨λh1=>?_,λen=>?_⟩
  .
   obtain⟨v,ak⟩:∃v,y.sc=[v]:=W7.1 Ω;have eo:=a7.scope.1 v (by show v∈y.sc;rw[ak];exact .head _);have ep:=a7.vars v (by show v∈y.sc;rw[ak];exact .head _);have I:dD f (i+1)={dD f i with unary:=(dD f i).unary.set v.toNat y.cs}:=by rw[bX];unfold iH;simp only[dR,ak]
   intro er Y _ _;have ce:=bQ.ext Y;have dl:=bM.ext Y;rw[aQ fw.p 2 ce rfl,aM cF.p 0 dl rfl];refine oE (y:=0) (i:=0) rfl an.u ai.i (bN.ls.ext Y) (show y.sc[0]? =σ v by rw[ak];rfl) λb o dm=>?_;rw[ay Ψ dm];refine (mq (aw.ext Y)).mono ?_;rintro cc dp _ ⟨aK,dq,es,aL⟩;refine⟨.inl aK,?_⟩;have aO:=(bT.ext Y).ext aK;have et:aX.length=f.sizes.length:=by have:=congrArg S6 af;rw[u7] at this;omega
   obtain⟨u,hu⟩:=aH (l:=aX) (i:=v.toNat) Ω;rw[dx (i:=v.toNat) Ω dV.u ax.i aO.1 Ω];let a:k2:=⟨cc,y.cs⟩;refine oW (f:=nF) (j:=0) (a:=u) (a':=a) ax.i aL.ls.cells.1 aL.ls.cells.2 aO.1 hu rfl Ω λeu aR ev dr=>?_;have cg:=ce.ext aK;have aF:∀ {r:Nat},leadsTo s r-> ∃c,ag dp r ax c:=λq=>by
    obtain⟨rfl,c,A⟩:=eb aO.1 q;exact⟨c,A⟩
   refine bI _ ⟨s,E,H,gr,aX.set v.toNat a,L,(((P.trans X).trans Y).trans aK).then aR (λr q he=>by have:=W r (.inl he);omega),?_,⟨dr,λz B=>?_⟩,?_,((bU.ext Y).ext aK).ab aR (λr q=>?_),by rw[I];exact aj,W,λz B r q=>?_⟩
   .rw[I];exact cg.ab aR λhe=>cR aO.1 cg Φ he
   .rcases X8 B with B|rfl
    .exact aO.qE aR (λr q=>by obtain⟨c,A⟩:=aF q;exact⟨_,c,A,Φ⟩) z B
    .exact⟨dq,br aL aR λr q U=>by
      obtain⟨c,A⟩:=aF U;exact b7 aL A Φ q rfl⟩
   .rw[I,V8,af]
   .obtain⟨c,A⟩:=aF q;exact⟨_,c,A,Φ,Φ,Φ,Φ⟩
   .rcases X8 B with B|rfl
    .exact K z B r q
    .have cS:=(bO aL q).1;have:=Y.size;omega
  .
   have I:dD f (i+1)={dD f i with funs:=(dD f i).funs++[dR y]}:=by
    rw[bX];unfold iH;have ci:2<=(dR y).1.length:=by show 2<=y.sc.length;omega
    generalize dR y=g at ci ⊢;obtain⟨sc,cs⟩:=g
    match sc,ci with
    |_::_::_,_=>rfl
   intro ew Z _ _;have cj:=bQ.ext Z;have ds:=bM.ext Z;have ck:=bN.ext Z;rw[aQ fw.p 3 cj rfl,aM cF.p 0 ds rfl,dn (cs:=#[y.sv,Γ g]) (by obtain⟨_,_,_,e⟩:=c4 bJ.ls;rw[e];kernel_rfl)];let a:cr:=⟨y.sv,g,y.sc,y.cs⟩;refine ia (f:=ez) (a:=a) kL.u hh.i Ω rfl rfl λey eA ba eB Q dt=>?_;refine⟨.inl Q,?_⟩;have bb:=(bU.ext Z).ext Q;have du:=(bT.ext Z).ext Q;have bZ:=cj.ext Q;have eC:L.length<=256:=by have:=congrArg S6 aj;rw[u7] at this;omega
   refine iD (f:=ez) (a:=a) kL.u hh.i rfl bb.1 (by simpa using dt.sl) (sZ (ck.ext Q)) Ω Ω λbx bz eD O bA cl=>?_;have cm:=bZ.ab cl λhe=>cR bb.1 bZ Φ he;rw[bV,aU fw.p rfl];refine bq kL.i (eL O.sl).1 (eL O.sl).2 cm Ξ λdv cn eE dw=>?_;have bd:ah (λr=>leadsTo E r\/r=G) ba dv:=(cl.mono λr _ h=>.inl h).trans (cn.mono λr _ h=>.inr h);have S:∀r,(leadsTo E r\/r=G)-> ∃e c,ag ba r e c/\e≠cW/\e≠ai/\e≠ap/\e≠ax:=λr q=>by
    rcases q with q|rfl
    .obtain⟨rfl,c,A⟩:=eb bb.1 q;exact⟨_,c,A,Φ,Φ,Φ,Φ⟩
    .exact⟨_,_,bZ,Φ,Φ,Φ,Φ⟩
   have eF:=(Z.trans Q).size;refine bI _ ⟨s,bx,H,bz,aX,L++[a],(((P.trans X).trans Z).trans Q).then bd (λr q he=>?_),?_,du.ab bd (λr q=>?_),by rw[I];exact af,⟨O.ab cn λr q he=>?_,λz B=>?_⟩,?_,λr q=>?_,K⟩
   .rcases he with he|rfl
    .have:=W r (.inr he);omega
    .omega
   .rw[I];exact dw
   .obtain⟨e,c,A,_,_,av,aT⟩:=S r q;exact⟨e,c,A,av,aT⟩
   .have he:r=G:=he;subst he;exact cR O cm Φ q
   .have cq:∀r,(leadsTo E r\/r=G)-> ∃e c,ag ba r e c/\e≠cW/\e≠ai/\e≠ap:=λr q=>by
     obtain⟨e,c,A,h1,ao,av,_⟩:=S r q;exact⟨e,c,A,h1,ao,av⟩
    rcases o7.1 B with B|B
    .exact (bb.2 z B).ab bd cq
    .rw[o8.1 B];have eH:=bL.size;refine qF.ab (w:=ba) ⟨⟨c1,ck.ext Q⟩,⟨c9,da,?_,Ω,λr q=>by have:=dc.2 r q;omega⟩,by show w.heap.size<=g;omega,cH y (x5 C)⟩ bd cq;exact (aw.ext Z).ext Q
   .rw[I,Z0,aj];rfl
   .rcases q with q|q
    .exact W r (.inl q)
    .rcases bA r q with h|h
     .exact W r (.inr h)
     .omega
theorem v7 {z:Array x1} (a:z.size=k):(Z2.zeroCells z n).toList=dM z (n*k):=by
 unfold Z2.zeroCells dM;rw[a]
theorem Nj {P:W5} {p A:r9} {B kn:o5} {b g m:Nat} {xs:List x1} {K:x1->x3->Prop} (X:y=(m:Int)) (M:P.underlying t=σ (.slice e)) (N:P.underlying p=σ (.int kn)) (hi:aT P e k b z) (C:z.cells.size=k)
  (av:0<k) (h1:∀u∈dM z.cells (m*k),u.oneCell'=true) (h:bW w g e k v n xs) (Y:0<m) (Z:(n+m)*b<=140737488355328) (aa:n+m<=9223372036854775807)
  (O:∀E ac w',bW w' ac e k E (n+m) (xs++dM z.cells (m*k))->(∀r,leadsTo E r->leadsTo v r\/w.heap.size<=r)->ah (λr=>leadsTo v r) w w'->K E w'):aD P (b9 #[t,p] A #[v,.int B y]) w K:=by
 subst X;obtain⟨i,hi,F,rfl,Q⟩:=hi;obtain⟨R,hm⟩:=h;have ae:=oy z.cells (m*k);have af:m*i.bytes<=281474976710656:=by
  have:m*i.bytes<=(n+m)*i.bytes:=X6 _ Ω;omega
 have grow:∀ (base:Option Addr) (cap:Nat),v= .slice base n cap->(Z2.firstCells i.size n (.slice base n cap)).run P w.drew= .ok xs.toArray w.drew->cap<n+m->aD P (b9 #[t,p] A #[v,.int B (m:Int)]) w K:=λbase cap ad ai f=>by
  subst ad;have G:=Lib.run_append_grow_zeros (P:=P) w t p A e i z B kn M N hi Q base n cap xs ai m Y Ω f Ω af (growslice_fits f Z);have S:n+m<=grownCap w (n+m) cap e:=grownCap_ge w _ _ _;have aj:grownCap w (n+m) cap e<=maxLen:=grownCap_le_maxLen w (n+m) cap e (by simpa[maxLen] using aa);have aw:=oy z.cells ((grownCap w (n+m) cap e-(n+m))*k);have ax:(n+m)*k<=grownCap w (n+m) cap e*k:=X6 _ S;have ak:(n+m)*k=n*k+m*k:=U2 _ _ _;have ay:(grownCap w (n+m) cap e-(n+m))*k=grownCap w (n+m) cap e*k-(n+m)*k:=Nat.sub_mul _ _ _;refine .of G ((ps w _ (Nat.le_succ _)).trans (pu _ _)) (O _ w.heap.size _ ⟨by rw[o4];omega,.inr ⟨_,xs++dM z.cells (m*k)++dM z.cells ((grownCap w (n+m) cap e-(n+m))*k),rfl,?_,S,aj,?_,?_⟩⟩ (λr H=>?_) (((q8 w _).trans (pt _ _)).ab _))
  .have:=heap_alloc_new w.drew (.cells (xs.toArray++Z2.zeroCells z.cells m++Z2.zeroCells z.cells (grownCap w (n+m) cap e-(n+m))) e);unfold ag;rw[show w.drew.heap.size=w.heap.size from rfl] at this;rw[this];congr 2;apply Array.toList_inj.1;rw[Array.toList_append,Array.toList_append,v7 C,v7 C]
  .rw[o4,o4];omega
  .rw[List.take_append_of_le_length (by rw[o4];omega),b8 (by rw[o4];omega)]
  .obtain⟨a,al,c,q,s⟩:=H;cases q;exact .inr (by simp at s;omega)
 rcases hm with⟨rfl,am⟩|⟨cap,cs,rfl,x,q,s,I,T⟩
 .subst am;have:xs=[]:=j5 (by simpa using R);subst this;exact grow ν 0 rfl (run_firstCells_none w.drew i.size 0 0 0) Ω
 .by_cases f:n+m<=cap
  .have U:(n+m)*k<=cs.length:=by rw[I];exact X6 _ f
   have ak:(n+m)*k=n*k+m*k:=U2 _ _ _;have J:=run_storeCells_cells (P:=P) g (0+n*k) (dM z.cells (m*k)) 0 w (λj V=>by
    rw[ae] at V;rw[Nat.add_zero,X0,x.cell (x6 (show n*k+j<cs.length by omega))];rfl) (λj _=>x.frozen _ _) h1
   simp only[Nat.add_zero] at J;have hw:X2.wrap (m:Int)=m:=by rw[o5.wrap_i64];omega
   have an:¬((m:Int)<0):=Ω
   have ao:¬(281474976710656<(m:Int)*(i.bytes:Int)):=by rw[<-Int.natCast_mul];omega
   have L:¬(m*i.size=0):=Nat.mul_ne_zero Ω Ω;have ap:(Z2.zeroCells z.cells m).toList=dM z.cells (m*k):=v7 C;have G:(b9 #[t,p] A #[.slice (σ ⟨g,0,ν⟩) n cap,.int B (m:Int)]).run P w= .ok (.slice (σ ⟨g,0,ν⟩) (n+m) cap) (w.setCells g (0+n*k) (dM z.cells (m*k))):=by
    simp[b9,run_underlying M,run_underlying N,sizeOf,typeInfo,zeroValue,hi,Q,asInt,asIntOf,hw,f,an,L,ao,ap,Addr.add_lit,F];simp only[X0] at J;rw[J];simp;intro aq;exact absurd aq (by rw[F] at L;exact L)
   obtain⟨au,W⟩:=ni (dM z.cells (m*k)) cs (0+n*k) w x;refine .of G (W.cu x) (O _ g _ ⟨by rw[o4];omega,.inr ⟨cap,_,rfl,au,f,s,by rw[lH,I],?_⟩⟩ (λr H=>.inl ?_) (W.ab.mono λr _ he=>⟨_,_,_,rfl,he.symm⟩))
   .rw[sw Ω U,me (by rw[j6];omega),X0,List.take_take,List.drop_eq_nil_of_le (by rw[j6];omega),U4,Nat.min_eq_left Ω,T]
   .obtain⟨a,al,c,q,s⟩:=H;cases q;exact⟨_,_,_,rfl,s⟩
  .refine grow _ cap rfl ?_ Ω;have U:n*k<=cs.length:=by rw[I];exact X6 _ q
   refine run_firstCells_some w.drew i.size n _ n cap xs (by rw[F];exact R) λj u hu=>?_;rw[T0,X0];have V:=(x4.1 hu).1;rw[<-T,Z8 Ω] at hu;exact x.cell hu
def ie (c:Cell):List x1:=[Δ c.v,.int .u64 (c.st:Int)]
def nI (o:kQ):List x1:=[Δ (o.i:Int),Δ o.c.v,.int .u64 (o.c.st:Int)]
def nJ (m:r1):List x1:=[Δ (m.olds:Int),Δ (m.cells:Int),.int .u64 (m.st:Int)]
def ds (w:x3) (gT:Nat) (A:ak) (t:aC):Prop:=A gT/\ ∃e go de a6 a dH,ag w gT fx [a6,a,dH,.int .u64 (t.iz:Int)]/\bk ie 2 eH w e a6 t.cells/\bk nI 3 kM w go a t.olds/\bk nJ 3 gb w de dH t.marks/\
 ∀r,leadsTo a6 r\/leadsTo a r\/leadsTo dH r->A r
theorem ds.ab {S A:ak} {t:aC} (h:ds w gT A t) (e:ah S w w') (f:∀r,A r->¬S r):ds w' gT A t:=by
 obtain⟨m,p,go,de,a6,q,dH,h1,s,x,y,j⟩:=h;exact⟨m,p,go,de,a6,q,dH,h1.ab e (f _ m),s.ab e λr a=>f r (j r (.inl a)),x.ab e λr a=>f r (j r (.inr (.inl a))),y.ab e λr a=>f r (j r (.inr (.inr a))),j⟩
theorem ds.ext {A:ak} {t:aC} (h:ds w gT A t) (J:Ext w w'):ds w' gT A t:=h.ab (J.ab λ_=>False) λ_ _ h=>h
theorem ds.mono {A B:ak} {t:aC} (h:ds w gT A t) (a:∀r,A r->B r):ds w gT B t:=by
 obtain⟨e,f,go,de,a6,j,dH,h1,m,p,q,s⟩:=h;exact⟨a _ e,f,go,de,a6,j,dH,h1,m,p,q,λr x=>a r (s r x)⟩
def Grow (A:ak) (w:x3) (aS:ak) (w':x3):Prop:=ah A w w'/\(∀r,aS r->A r\/w.heap.size<=r)/\ ∀r,A r->aS r
theorem Grow.refl (A:ak) (w:x3):Grow A w A w:=⟨ah.refl _ _,λ_ h=>.inl h,λ_ h=>h⟩
theorem Grow.ext {A:ak} (h:Ext w w'):Grow A w A w':=⟨h.ab _,λ_ h=>.inl h,λ_ h=>h⟩
theorem Grow.trans {A aS e:ak} {f:x3} (h:Grow A w aS w') (k:Grow aS w' e f):Grow A w e f:=
 ⟨⟨Y9 h.1.size k.1.size,λr o a U j=>k.1.aZ r o (h.1.aZ r o a U j) U λm=>(h.2.1 r m).elim j λp=>by
  have:=(n9.1 a).1;omega⟩,λr a=>by
  rcases k.2.1 r a with h1|h1
  .exact h.2.1 r h1
  .have:=h.1.size;exact .inr Ω,λr a=>k.2.2 r (h.2.2 r a)⟩
theorem CN {A:ak} {t:aC} (h:ds w gT A t):am x7 HS [Γ gT] w λv w'=>v=Δ (t.cells.length:Int)/\Ext w w':=by
 obtain⟨e,f,go,de,a6,j,dH,h1,a,m,q,r⟩:=h;refine az func185 ?_;rw[db pK.u];simp only[Z4,a1];rw[aQ fx.p 0 h1 rfl,fh h0.u a];exact⟨rfl,Ext.refl _⟩
theorem CO {A:ak} {t:aC} {i:Int} (h:ds w gT A t):am x7 He [Γ gT,Δ i] w λv w'=>v= .bool (decide (0<=i/\i<t.cells.length))/\Ext w w':=by
 refine az func133 ?_;refine aV (λv V=>v= .bool (decide (0<=i/\i<t.cells.length))/\Ext w V) (λ_ _ h=>h) ?_;intro aA a;rw[cP,al];refine⟨λe=>?_,λe=>a _ _ ⟨by rw[decide_eq_false];omega,Ext.refl _⟩⟩;refine (CN h).mono ?_;rintro _ V _ ⟨rfl,J⟩;rw[aO];refine a _ _ ⟨?_,J⟩;congr 1;rw[V6,decide_eq_true_eq,decide_eq_true_eq];exact⟨λh=>⟨Ω,h⟩,λh=>h.2⟩
theorem Nk {A:ak} {t:aC} {i:Nat} {c:Cell} (h:ds w gT A t) (f:y=(i:Int)) (a:t.cells[i]? =σ c):am x7 y2 [Γ gT,Δ y] w λv w'=>v=Δ c.v/\Ext w w':=by
 have j:=(x4.1 a).1;refine az func67 ?_;refine (CO h).mono ?_;rintro _ V _ ⟨rfl,J⟩;rw[decide_eq_true Ω,bG,Y6,a1];obtain⟨m,q,go,de,a6,r,dH,h1,e,s,x,z⟩:=h.ext J;rw[aQ fx.p 0 h1 rfl,dx f h0.u eH.i e j,aU eH.p rfl,ay Ψ (e.range a 0 _ rfl)];exact⟨rfl,J⟩
theorem nK {A:ak} {t:aC} {i:Nat} {x:Int} (h:ds w gT A t) (e:y=(i:Int)) (a:t.bT[i]? =σ x):am x7 y2 [Γ gT,Δ y] w λv w'=>v=Δ x/\Ext w w':=by
 unfold aC.bT at a;rw[x8] at a;obtain⟨c,f,rfl⟩:=Y5.1 a;exact Nk h e f
def my (t:aC):Prop:=t.cells.length<=100000000/\t.olds.length<=100000000/\t.marks.length<=100000000
theorem s4 {p go de:Nat} {a6 a dH:x1} {t:aC} {x:x1} (h1:ag w gT fx [a6,a,dH,x]) (f:bk ie 2 eH w p a6 t.cells) (h:bk nI 3 kM w go a t.olds) (j:bk nJ 3 gb w de dH t.marks):
  (¬leadsTo a6 gT/\¬leadsTo a gT/\¬leadsTo dH gT)/\(∀r,leadsTo a6 r->¬leadsTo a r/\¬leadsTo dH r)/\ ∀r,leadsTo a r->¬leadsTo a6 r/\¬leadsTo dH r:=by
 refine⟨⟨cR f h1 Φ,cR h h1 Φ,cR j h1 Φ⟩,λr m=>?_,λr m=>?_⟩
 .obtain⟨rfl,c,e⟩:=eb f m;exact⟨cR h e Φ,cR j e Φ⟩
 .obtain⟨rfl,c,e⟩:=eb h m;exact⟨cR f e Φ,cR j e Φ⟩
theorem s5 {A:ak} {t:aC} {i:Nat} {x:Int} (h:ds w gT A t) (bl:y=(i:Int)) (O:i<t.cells.length) (ao:my t):am x7 y1 [Γ gT,Δ y,Δ x] w λv w'=>v=Δ 0/\ ∃aS,Grow A w aS w'/\ds w' gT aS (t.set i x):=by
 subst bl;obtain⟨c,E⟩:=aH (l:=t.cells) O;refine az func66 ?_;rw[db pK.u];simp only[Z4,a1];refine (CO h).mono ?_;rintro _ V _ ⟨rfl,J⟩;rw[decide_eq_true Ω,bG,Y6,a1];obtain⟨aT,L,go,de,a6,P,dH,h1,aW,au,X,Y⟩:=id (h.ext J);have bm:∀ {aa:x3} {aS:ak} {bu:aC} {st:Nat} {K:x3->Prop},ds aa gT aS bu->bu.cells[i]? =σ ⟨c.v,st⟩->
   (∀q,ah aS aa q->ds q gT aS {bu with cells:=bu.cells.set i ⟨x,st⟩}->K q)->
   (ac x7 (bM (Γ gT)) aa λt77=>
   ac x7 (u5 fx t77 0) aa λbn=>
   ac x7 (u4 h0 bn) aa λbo=>
   ac x7 (j4 h0 bo (Δ (i:Int))) aa λbp=>
   ac x7 (u5 eH bp 0) aa λbr=>
   aD x7 (o6 ap br (Δ x)) aa λ(_:Unit) q=>
   K q):=by
  intro aa aS bu st K av Z bt;obtain⟨aw,L,go,de,a6,P,dH,G,H,Q,R,S⟩:=av;have bw:=(x4.1 Z).1;rw[aQ fx.p 0 G rfl,dx rfl h0.u eH.i H bw,aU eH.p rfl];obtain⟨⟨U,ax,aB⟩,I,_⟩:=s4 G H Q R;refine oW (f:=ie) (j:=0) (a:=⟨c.v,st⟩) (a':=⟨x,st⟩) ap.i rfl rfl H Z rfl Ω λq B bx bz=>?_;exact bt q (B.mono λr _ e=>S r (.inl e)) ⟨aw,L,go,de,a6,P,dH,G.ab B U,bz,Q.ab B λr e he=>(I r he).1 e,R.ab B λr e he=>(I r he).2 e,S⟩
 refine dg (λaa=>∃aS bu st,Grow A V aS aa/\ds aa gT aS bu/\bu.cells[i]? =σ ⟨c.v,st⟩/\t.set i x={bu with cells:=bu.cells.set i ⟨x,st⟩}) ?_ ?_
 .rintro aa ⟨aS,bu,st,bA,av,Z,aE⟩;refine bm av Z λq B au=>⟨by trivial,aS,?_,by rw[aE];exact au⟩;exact (Grow.ext J).trans (bA.trans ⟨B,λ_ h=>.inl h,λ_ h=>h⟩)
 intro aA aF;rw[aQ fx.p 2 h1 rfl,fh rN.u X,bU,al];have aX:∀ (hm:t.marks.getLast? =ν\/ ∃m,t.marks.getLast? =σ m/\¬(c.st<m.st/\i<m.cells)),t.set i x={t with cells:=t.cells.set i ⟨x,c.st⟩}:=λhm=>by
  unfold aC.set;rw[E];rcases hm with hm|⟨m,hm,bB⟩
  .simp only[hm]
  .simp only[hm];rw[if_neg bB]
 refine⟨λbZ=>?_,λb0=>aF _ ⟨A,t,c.st,Grow.refl _ _,h.ext J,E,aX (.inl ?_)⟩⟩
 rotate_left
 .rw[List.getLast?_eq_none_iff];exact j5 Ω
 obtain⟨m,hm⟩:=aH (l:=t.marks) (i:=t.marks.length-1) Ω;have aY:t.marks.getLast? =σ m:=by rw[List.getLast?_eq_getElem?];exact hm
 have b1:=ao.2.2;rw[aQ fx.p 2 h1 rfl,dF,wrap_i64 Ω Ω,dx (i:=t.marks.length-1) Ω rN.u gb.i X Ω,bR gb.p gb.i rfl (X.range hm)];refine bD gb.i λaq aa b2 aZ bC=>?_;refine ch (vs:=nJ m) gb.i rfl rfl (by intro v ad;simp[nJ] at ad;rcases ad with rfl|rfl|rfl<;>rfl) bC λq B bx bE=>?_;have a2:Ext V q:=aZ.put B Ω;have ae:∀ {w':x3},Ext q w'->ag w' aq gb (nJ m):=λJ=>bE.ext J;refine aV (λv aG=>v= .bool (decide (c.st<m.st/\i<m.cells))/\Ext q aG) ?_ ?_
 rotate_left
 .intro b3 a7;intro aG s _ _;have M:=a2.trans s;have a8:=ae s;have N:=aW.ext M;rw[aQ fx.p 0 (h1.ext M) rfl,dx rfl h0.u eH.i N O,aU eH.p rfl,ay Ψ (N.range E 1 _ rfl),aM gb.p 2 a8 rfl,aO,al];refine⟨λba=>?_,λbb=>a7 _ _ ⟨by rw[decide_eq_false];omega,s⟩⟩;rw[aM gb.p 1 a8 rfl,aO];refine a7 _ _ ⟨?_,s⟩;congr 1;rw[V6,decide_eq_true_eq,decide_eq_true_eq];exact⟨λh=>⟨Ω,Ω⟩,λh=>Ω⟩
 rintro _ aG ⟨rfl,s⟩;have M:=a2.trans s;rw[al];refine⟨λba=>?_,λbb=>aF _ ⟨A,t,c.st,Grow.ext M,(h.ext J).ext M,E,aX (.inr ⟨m,aY,bb⟩)⟩⟩;intro b4 af _ _;have W:=M.trans af;have aI:=h1.ext W;have N:=aW.ext W;have bF:=au.ext W;have bH:=X.ext W;rw[bV,aU fx.p rfl,ay Ψ (aI.cell (o:=0+1) rfl),bV,aU fx.p rfl,ay Ψ (aI.cell (o:=0+0) rfl),dx rfl h0.u eH.i N O,bR eH.p eH.i rfl (N.range E)];rw[dn (cs:=#[Δ (i:Int),Δ c.v,.int .u64 (c.st:Int)]) Ψ];let a:kQ:=⟨i,c⟩;have bI:∀u∈nI a,u.oneCell'=true:=by intro v ad;simp[nI] at ad;rcases ad with rfl|rfl|rfl<;>rfl
 refine ia (f:=nI) (a:=a) nc.u kM.i Ω rfl rfl λb5 b6 bc b7 z bJ=>?_;refine⟨.inl z,?_⟩;have bd:=W.trans z;have aJ:=aI.ext z;have be:=N.ext z;have aK:=bF.ext z;have bf:=bH.ext z;obtain⟨⟨U,ax,aB⟩,I,bK⟩:=s4 aJ be aK bf;refine iD (f:=nI) (a:=a) nc.u kM.i rfl aK (by simpa using bJ.sl) bI (by have:=ao.2.1;omega) (by have:=ao.2.1;omega) λaL bg b8 ai bL bh=>?_;rw[bV,aU fx.p rfl];have bi:=aJ.ab bh ax;refine bq nc.i (eL ai.sl).1 (eL ai.sl).2 bi Ξ λC bj b9 aN=>?_;have aN:ag C gT fx [a6,aL,dH,.int .u64 (t.iz:Int)]:=aN;have aj:ah (λr=>leadsTo P r\/r=gT) bc C:=(bh.mono λr _ h=>.inl h).trans (bj.mono λr _ h=>.inr h);have bN:bk ie 2 eH C L a6 t.cells:=be.ab aj λr e he=>he.elim (λhe=>(I r e).1 he) λhe=>U (he▸e);have bO:bk nJ 3 gb C de dH t.marks:=bf.ab aj λr e he=>he.elim (λhe=>(bK r he).2 e) λhe=>aB (he▸e);have bP:bk nI 3 kM C bg aL (t.olds++[a]):=ai.ab bj λr e he=>by
  have he:r=gT:=he;subst he;exact cR ai bi Φ e
 have ca:=bd.size;have cb:=aZ.size;let aP:ak:=λr=>A r\/bc.heap.size<=r;have bQ:Grow A V aP C:=⟨(bd.ab A).trans (aj.mono λr _ he=>he.elim (λhe=>Y r (.inr (.inl he))) λhe=>he▸aT),λr e=>e.imp id λe=>Ω,λr e=>.inl e⟩;have bS:ds C gT aP {t with olds:=t.olds++[a]}:=⟨.inl aT,L,bg,de,a6,aL,dH,aN,bN,bP,bO,λr e=>by
  rcases e with e|e|e
  .exact .inl (Y r (.inl e))
  .rcases bL r e with h|h
   .exact .inl (Y r (.inr (.inl h)))
   .exact .inr h
  .exact .inl (Y r (.inr (.inr e)))⟩
 have bT:ag C aq gb (nJ m):=(ae ((s.trans af).trans z)).ab aj λhe=>by
  rcases he with he|he
  .obtain⟨rfl,cc,bW⟩:=eb aK he;exact absurd (e7 bW (ae ((s.trans af).trans z))) Φ
  .subst he;exact absurd (e7 aJ (ae ((s.trans af).trans z))) Φ
 intro cd aR _ _;have bX:=bS.ext aR;obtain⟨aw,L,go,de,a6,P,dH,G,H,Q,R,S⟩:=bX;rw[aQ fx.p 0 G rfl,aM gb.p 2 (bT.ext aR) rfl,dx rfl h0.u eH.i H O,aU eH.p rfl];obtain⟨⟨U,ax,aB⟩,I,_⟩:=s4 G H Q R;refine oW (f:=ie) (j:=1) (a:=c) (a':=⟨c.v,m.st⟩) fu.i rfl rfl H E rfl Ω λce an cg bY=>?_;have aE:t.set i x={t with olds:=t.olds++[a],cells:=t.cells.set i ⟨x,m.st⟩}:=by
  unfold aC.set;rw[E];simp only[aY];rw[if_pos ba]
 refine aF _ ⟨aP,{t with olds:=t.olds++[a],cells:=t.cells.set i ⟨c.v,m.st⟩},m.st,bQ.trans ((Grow.ext aR).trans ⟨an.mono λr _ e=>S r (.inl e),λ_ h=>.inl h,λ_ h=>h⟩),⟨aw,L,go,de,a6,P,dH,G.ab an U,bY,Q.ab an λr e he=>(I r he).1 e,R.ab an λr e he=>(I r he).2 e,S⟩,?_,?_⟩
 .show (t.cells.set i _)[i]? =_;rw[c7 O]
 .rw[aE];simp only[List.set_set]
theorem CP (n:Nat):dM (#[Δ 0,.int .u64 0]:Array x1) (n*2)=(r8 n (⟨0,0⟩:Cell)).flatMap ie:=by
 have:∀n,dM (#[Δ 0,.int .u64 0]:Array x1) (n*2)=(r8 n (⟨0,0⟩:Cell)).flatMap ie:=by
  intro n;apply Y3;intro j;have p:((r8 n (⟨0,0⟩:Cell)).flatMap ie).length=n*2:=by simp[ie]
  by_cases e:j<n*2
  .have m:(dM (#[Δ 0,.int .u64 0]:Array x1) (n*2))[j]? =σ (if j % 2=0 then Δ 0 else .int .u64 0):=by
    unfold dM;rw[S4,Array.getElem?_map,Array.getElem?_range,if_pos e];rcases Nat.mod_two_eq_zero_or_one j with h|h<;>simp[h]
   have af:=oV (f:=ie) (k:=2) (L:=r8 n (⟨0,0⟩:Cell)) (i:=j / 2) (j:=j % 2) (a:=⟨0,0⟩) (v:=if j % 2=0 then Δ 0 else .int .u64 0) (λa _=>rfl) (by rw[List.getElem?_replicate,if_pos Ω]) (by rcases Nat.mod_two_eq_zero_or_one j with h|h<;>simp[h,ie]);rw[show j / 2*2+j % 2=j by omega] at af;rw[m,af]
  .rw[Z6 (by rw[oy];omega),Z6 Ω]
 exact this n
theorem Nl {A:ak} {t:aC} (h:ds w gT A t) (R:my t) (Z:n<=100000000):am x7 HD [Γ gT,Δ (n:Int)] w λv w'=>v=Δ (t.cells.length:Int)/\ ∃aS,Grow A w aS w'/\ds w' gT aS (t.grow n):=by
 refine az func167 ?_;refine (CN h).mono ?_;rintro _ V _ ⟨rfl,J⟩;refine dg (λaa=>∃aS,Grow A w aS aa/\ds aa gT aS (t.grow n)) (λaa h=>⟨rfl,h⟩) ?_;intro aA y;refine aV (λv aa=>v= .bool (decide (0<n))/\V=aa) ?_ ?_
 rotate_left
 .intro ac S;rw[zv pK.u];simp only[Z4,X9,bQ];rw[bU];refine S _ _ ⟨?_,rfl⟩;congr 1;rw[V6,decide_eq_true_eq,decide_eq_true_eq];omega
 rintro _ _ ⟨rfl,rfl⟩;rw[al];refine⟨λB=>?_,λB=>y _ ⟨A,Grow.ext J,?_⟩⟩
 rotate_left
 .have:n=0:=Ω
  subst this;have e:t.grow 0=t:=by unfold aC.grow;simp
  rw[e];exact h.ext J
 obtain⟨C,ad,go,de,a6,E,dH,h1,G,H,I,f⟩:=id (h.ext J);rw[aQ fx.p 0 h1 rfl];obtain⟨⟨U,W,X⟩,K,ae⟩:=s4 h1 G H I;have af:=R.1;refine Nj (k:=2) (m:=n) rfl h0.u ai.u eH.i rfl Ω (λu hu=>?_) G.1 B Ω Ω λq L aa M Y N=>?_
 .exact Cy Φ Φ u hu
 rw[bV,aU fx.p rfl];have j:bk ie 2 eH aa L q (t.cells++r8 n ⟨0,0⟩):=by
  refine⟨?_,λ_ _=>rfl⟩;have e:(x1.agg #[Δ 0,.int .u64 0]).cells= #[Δ 0,.int .u64 0]:=rfl;rw[e,CP] at M;rw[o4,List.length_replicate,List.flatMap_append];exact M
 have O:=h1.ab N U;refine bq h0.i (eL j.sl).1 (eL j.sl).2 O Ξ λP Q aj s=>?_;have s:ag P gT fx [q,E,dH,.int .u64 (t.iz:Int)]:=s;have x:ah (λr=>leadsTo a6 r\/r=gT) V P:=(N.mono λr _ h=>.inl h).trans (Q.mono λr _ h=>.inr h);have z:=J.size;refine y _ ⟨λr=>A r\/V.heap.size<=r,(Grow.ext J).trans ⟨x.mono λr _ he=>he.elim (λhe=>f r (.inl he)) λhe=>he▸C,λr a=>a,λr a=>.inl a⟩,.inl C,L,go,de,q,E,dH,s,j.ab Q λr a he=>?_,H.ab x λr a he=>he.elim (λhe=>(K r he).1 a) λhe=>W (he▸a),I.ab x λr a he=>he.elim (λhe=>(K r he).2 a) λhe=>X (he▸a),λr a=>?_⟩
 .have he:r=gT:=he;subst he;exact cR j O Φ a
 .rcases a with a|a|a
  .exact (Y r a).imp (λh=>f r (.inl h)) id
  .exact .inl (f r (.inr (.inl a)))
  .exact .inl (f r (.inr (.inr a)))
theorem Nn (q:n<=1000):am x7 GD [Δ (n:Int)] w λv w'=>Ext w w'/\ ∃gT,v=Γ gT/\ds w' gT (eI w.heap.size) ⟨r8 n ⟨0,0⟩,[],[],0⟩:=by
 refine az func92 ?_;rw[uP,Int.max_eq_left Ω];refine zE (k:=2) h0.u eH.i Ω Ω λg V s h f=>?_;rw[dn (cs:=#[.slice (σ ⟨g,0,ν⟩) n n,.slice ν 0 0,.slice ν 0 0,.int .u64 0]) Ψ];refine be λgT aa x j p=>?_;have y:=h.size;have e:(x1.agg #[Δ 0,.int .u64 0]).cells= #[Δ 0,.int .u64 0]:=rfl;have f:ag V g eH ((r8 n (⟨0,0⟩:Cell)).flatMap ie):=by rw[<-CP,<-e];exact f
 have m:bk ie 2 eH V g (.slice (σ ⟨g,0,ν⟩) n n) (r8 n ⟨0,0⟩):=by
  refine⟨?_,λ_ _=>rfl⟩;rw[List.length_replicate];exact bW.full f (by simp[ie]) (by simp[maxLen];omega)
 refine⟨h.trans j,gT,rfl,by show w.heap.size<=gT;omega,g,0,0,_,_,_,p,m.ext j,bk.nil _ _ _ _ _,bk.nil _ _ _ _ _,λr a=>?_⟩;rcases a with a|a|a
 .have:=(m.leads a).1;show w.heap.size<=r;omega
 .exact (fg a).elim
 .exact (fg a).elim
theorem nk {α β:Type} {f:α->List β}:∀ {L:List α} {i j:Nat} {a:α},L[i]? =σ a->j<(f a).length->(L.flatMap f)[((L.take i).flatMap f).length+j]? =(f a)[j]?
 |x::L,0,j,a,h,e=>by
  cases h;rw[List.take_zero,List.flatMap_nil,List.length_nil,X0,X7,Y1 e]
 |x::L,i+1,j,a,h,e=>by
  have h:L[i]? =σ a:=by simpa using h
  rw[List.take_succ_cons,X7,X7,o4,S8,Y2 Ω,R2,nk h e]
theorem wa {α β:Type} {f:α->List β}:∀ {L:List α} {i j:Nat} {a b:α} {x:β},L[i]? =σ a->j<(f a).length->f b=(f a).set j x->(L.flatMap f).set (((L.take i).flatMap f).length+j) x=(L.set i b).flatMap f
 |y::L,0,j,a,b,x,h,e,m=>by
  cases h;rw[List.take_zero,List.flatMap_nil,List.length_nil,X0,X7,List.set_cons_zero,X7,m,List.set_append_left _ _ e]
 |y::L,i+1,j,a,b,x,h,e,m=>by
  have h:L[i]? =σ a:=by simpa using h
  rw[List.take_succ_cons,X7,X7,o4,S8,T2 _ _ Ω,R2,wa h e m,List.set_cons_succ,X7]
theorem CQ {α β:Type} {f:α->List β} {L:List α} {i:Nat} {a:α} (h:L[i]? =σ a) (e:j<(f a).length):((L.take i).flatMap f).length+j<(L.flatMap f).length:=by
 have h1:=nk (f:=f) h e;rw[x6 e] at h1;exact (x4.1 h1).1
structure bB where
 gone:Int
 mask:Int
 un:Λ
structure cb where
 sc:Λ
 aj:Λ
 live:Int
 cs:Λ
structure wb where
 v:Int
 sc:Λ
 sY:Λ
structure av where
 zero:Int
 vars:List bB
 funs:List cb
 gW:List wb
def ht (x:bB):Λ:=x.gone::x.mask::x.un
def fk (x:cb):Λ:=x.live::x.cs
def iI (s:av):Λ:=[s.zero,(s.funs.length:Int),(s.gW.length:Int)]
def av.cells (s:av):Λ:=iI s++(s.vars.flatMap ht++s.funs.flatMap fk)
def fF (s:av) (i:Nat):Nat:=3+((s.vars.take i).flatMap ht).length
def eS (s:av) (j:Nat):Nat:=3+((s.vars.flatMap ht).length+((s.funs.take j).flatMap fk).length)
theorem No (s:av):s.cells[0]? =σ s.zero:=rfl
theorem qG {s:av} {i:Nat} {x:bB} (h:s.vars[i]? =σ x) (e:j<x.un.length+2):s.cells[fF s i+j]? =(ht x)[j]?:=by
 have a:j<(ht x).length:=e;unfold av.cells fF;rw[S8,Y2 (by simp[iI]),show (iI s).length=3 from rfl,R2,Y1 (CQ h a),nk h a]
theorem wc {s:av} {i:Nat} {x:cb} (h:s.funs[i]? =σ x) (a:j<x.cs.length+1):s.cells[eS s i+j]? =(fk x)[j]?:=by
 have e:j<(fk x).length:=a;unfold av.cells eS;rw[S8,S8,Y2 (by simp[iI]),show (iI s).length=3 from rfl,R2,Y2 Ω,R2,nk h e]
theorem Np (s:av) (c:Int):s.cells.set 0 c=({s with zero:=c}:av).cells:=rfl
theorem CR {s:av} {i:Nat} {x y:bB} {c:Int} (h:s.vars[i]? =σ x) (e:j<x.un.length+2) (f:ht y=(ht x).set j c):s.cells.set (fF s i+j) c=({s with vars:=s.vars.set i y}:av).cells:=by
 have a:j<(ht x).length:=e;unfold av.cells fF;rw[S8,T2 _ _ (by simp[iI]),show (iI s).length=3 from rfl,R2,List.set_append_left _ _ (CQ h a),wa h a f];rfl
theorem Nq {s:av} {i:Nat} {x y:cb} {c:Int} (h:s.funs[i]? =σ x) (a:j<x.cs.length+1) (e:fk y=(fk x).set j c):s.cells.set (eS s i+j) c=({s with funs:=s.funs.set i y}:av).cells:=by
 have f:j<(fk x).length:=a;unfold av.cells eS;rw[S8,S8,T2 _ _ (by simp[iI]),show (iI s).length=3 from rfl,R2,T2 _ _ Ω,R2,wa h f e];show _=iI {s with funs:=s.funs.set i y}++_;unfold iI;rw[c8]
theorem Nr {s:av} (x:cb):(s.cells++fk x).set 1 ((s.funs.length+1:Nat):Int)=({s with funs:=s.funs++[x]}:av).cells:=by
 unfold av.cells;simp only[List.flatMap_append,List.flatMap_singleton,iI,o4,S9,U6];rfl
theorem qH (s:av):s.cells.length=3+((s.vars.flatMap ht).length+(s.funs.flatMap fk).length):=by
 unfold av.cells;rw[o4,o4];rfl
def qI (a sc:Λ):Λ:=sc.map λv=>a.getD v.toNat 0
def qJ (k:Int) (a:Int) (p:bB×Int):Int:=if p.1.gone≠0 then a else min (a+p.1.un.getD p.2.toNat 0) k
def qK (k:Int) (a:Λ) (e:Int) (f:cb):Int:=if f.live≠0 then min (e+bj f.aj f.cs (qI a f.sc)) k else e
def dropped (mask:Int) (v:Int):Bool:=mask.toNat.testBit v.toNat
def ig (p:bB×Int):Bool:=decide (p.1.gone≠0)|| !dropped p.1.mask p.2
def gX (k:Int) (s:av) (a:Λ):Int:=if (s.vars.zip a).all ig then s.funs.foldl (qK k a) ((s.vars.zip a).foldl (qJ k) s.zero) else k
def k3 (s:av) (a:Λ):Prop:=a.length=s.vars.length/\ ∀ (i:Nat) x v,s.vars[i]? =σ x->a[i]? =σ v->x.gone≠0\/(0<=v/\v<x.un.length)
structure bt (k:Int) (sizes:Λ) (s:av):Prop where
 eg:1<=k/\k<=2147483648
 hv:1<=sizes.length/\sizes.length<=64/\ ∀z∈sizes,1<=z/\z<=32
 zero:0<=s.zero/\s.zero<=k
 vars:s.vars.length=sizes.length
 var:∀ (i:Nat) x z,s.vars[i]? =σ x->sizes[i]? =σ z->x.un.length=z.toNat/\(∀c∈x.un,0<=c/\c<=k)/\0<=x.mask/\x.mask<4294967296
 funs:∀f∈s.funs,fD sizes k (f.sc,f.cs)/\f.aj=bS sizes f.sc/\2<=f.sc.length
def newVar (u:Λ):bB:=⟨0,0,u⟩
def kp (sizes:Λ) (g:cK):cb:=⟨g.1,bS sizes g.1,1,g.2⟩
def cL (n:aR):av:=⟨n.zero,n.unary.map newVar,n.funs.map (kp n.sizes),[]⟩
theorem Ns {n:aR} (h:jG n):bt n.k n.sizes (cL n):=by
 refine⟨h.k,h.sizes,h.zero,by simp[cL,h.ko],λi x z J e=>?_,λf af=>?_⟩
 .have J:(n.unary.map newVar)[i]? =σ x:=J;rw[x8] at J;obtain⟨u,hu,rfl⟩:=Y5.1 J;obtain⟨h1,a⟩:=h.unary i z u e hu;exact⟨h1,a,Int.le_refl _,by show (0:Int)<_;omega⟩
 .obtain⟨g,j,rfl⟩:=l9.1 af;obtain⟨h1,a⟩:=h.funs g j;exact⟨h1,rfl,a⟩
theorem we {n:aR} (h:fW w a n):am x7 GG [Γ a] w λv w'=>v=Δ (n.sizes.length:Int)/\Ext w w':=by
 obtain⟨j,m,q,r,gr,aX,L,nm,szv,gz,fv2,h1,e,f,s,x,y,z⟩:=h;refine az func94 ?_;rw[db mb.u];simp only[Z4,a1];rw[aQ fw.p 0 h1 rfl,aQ cE.p 2 e rfl,aW an.u f.ls];exact⟨rfl,Ext.refl _⟩
theorem Nt {n:aR} (h:fW w a n):am x7 G3 [Γ a] w λv w'=>v=Δ n.k/\Ext w w':=by
 obtain⟨f,j,m,q,gr,aX,L,nm,szv,gz,fv2,h1,e,r,s,x,y,z⟩:=h;refine az func121 ?_;rw[db mb.u];simp only[Z4,a1];rw[aQ fw.p 0 h1 rfl,aQ cE.p 1 e rfl];exact⟨rfl,Ext.refl _⟩
theorem Nu {n:aR} (h:fW w a n):am x7 GF [Γ a] w λv w'=>v=Δ n.zero/\Ext w w':=by
 obtain⟨e,f,j,m,gr,aX,L,nm,szv,gz,fv2,h1,q,r,s,x,y,z⟩:=h;refine az func93 ?_;rw[db mb.u];simp only[Z4,a1];rw[aQ fw.p 1 h1 rfl];exact⟨rfl,Ext.refl _⟩
theorem CS {n:aR} (h:fW w a n):am x7 zb [Γ a] w λv w'=>v=Δ (n.funs.length:Int)/\Ext w w':=by
 obtain⟨j,m,q,r,gr,aX,L,nm,szv,gz,fv2,h1,s,x,y,z,e,f⟩:=h;refine az func97 ?_;rw[db mb.u];simp only[Z4,a1];rw[aQ fw.p 3 h1 rfl,fh kL.u e.1];exact⟨by rw[<-f,u7],Ext.refl _⟩
theorem CT {r:Nat} {n:aR} {i:Int} (h:fW w r n) (f:jG n):am x7 GH [Γ r,Δ i] w λv w'=>Ext w w'/\(¬(0<=i/\i<n.sizes.length)->v= .slice ν 0 0)/\
  ∀u,0<=i->n.unary[i.toNat]? =σ u-> ∃g,w.heap.size<=g/\au .i64 ap w' g v u:=by
 refine az func95 ?_;have I:=f.ko;refine aV (λv V=>v= .bool (decide (¬(0<=i/\i<n.sizes.length)))/\Ext w V) ?_ ?_
 .rintro _ V ⟨rfl,e⟩;rw[al];refine⟨λB=>⟨e,λ_=>rfl,λu C hu=>?_⟩,λj=>?_⟩
  .have:=(x4.1 hu).1;exact absurd ⟨C,Ω⟩ B
  have j:0<=i/\i<n.sizes.length:=Z9.1 j;obtain⟨J,K,M,N,gr,aX,L,nm,szv,gz,fv2,h1,O,P,m,s,Q,R⟩:=h.ext e;have S:aX.length=n.unary.length:=by rw[<-s,u7]
  obtain⟨a,q⟩:=aH (l:=aX) (i:=i.toNat) Ω;obtain⟨U,hm⟩:=m.2 a (x5 q);rw[aQ fw.p 2 h1 rfl,dx (i:=i.toNat) Ω dV.u ax.i m.1 Ω,ay (o:=i.toNat*1) Ψ (m.1.range q 0 _ rfl)];have x:n.unary[i.toNat]? =σ a.l:=by rw[<-s,x8,q];rfl
  have W:a.l.length<=32:=by
   obtain⟨z,y⟩:=aH (l:=n.sizes) (i:=i.toNat) Ω;have X:=(f.unary i.toNat z a.l y x).1;have Y:=f.sizes.2.2 z (x5 y);omega
  refine (uV hm.ls Ω).mono ?_;rintro v aa _ ⟨E,g,Z,G⟩;refine⟨e.trans E,λH=>absurd j H,λu _ hu=>⟨g,by have:=e.size;omega,?_⟩⟩;rw[x] at hu;cases hu;exact G
 .intro aA A;rw[aO,al];refine⟨λab=>A _ _ ⟨by rw[decide_eq_true];omega,Ext.refl _⟩,λac=>?_⟩;refine (we h).mono ?_;rintro _ V _ ⟨rfl,e⟩;rw[cP];refine A _ _ ⟨?_,e⟩;congr 1;rw[V6,decide_eq_true_eq,decide_eq_true_eq];omega
theorem CU {n:aR} {i:Int} (h:fW w j n) (a:jG n):am x7 Hb [Γ j,Δ i] w λv w'=>Ext w w'/\v=Δ (if 0<=i then n.sizes.getD i.toNat 0 else 0):=by
 refine az func130 ?_;refine (CT h a).mono ?_;rintro v V _ ⟨m,q,r⟩;by_cases e:0<=i/\i<n.sizes.length
 .have s:=a.ko;obtain⟨u,hu⟩:=aH (l:=n.unary) (i:=i.toNat) Ω;obtain⟨z,f⟩:=aH (l:=n.sizes) (i:=i.toNat) Ω;obtain⟨g,_,hm⟩:=r u e.1 hu;rw[aW ax.u hm.ls];refine⟨m,?_⟩;have x:=(a.unary i.toNat z u f hu).1;have y:=a.sizes.2.2 z (x5 f);rw[if_pos e.1,v8,f];congr 1;simp only[V9];omega
 .rw[q e,hJ ax.u];refine⟨m,?_⟩;by_cases p:0<=i
  .rw[if_pos p,v8,Z6 Ω];rfl
  .rw[if_neg p];rfl
theorem CV {n:aR} {j:Int} (h:fW w a n) {K:x1->x3->Prop} (f:∀w',Ext w w'->K (.bool (decide (¬(0<=j/\j<n.funs.length)))) w'):
  ac x7 (aL .lss ai false true (Δ j) (Δ 0)) w λp=>Split p (K (.bool true) w) (am x7 zb [Γ a] w λq m=>ac x7 (aL .geq ai false false (Δ j) q) m λr=>K r m):=by
 rw[aO,al];refine⟨λx=>?_,λy=>?_⟩
 .have:=f w (Ext.refl _);rw[decide_eq_true (show ¬(0<=j/\j<n.funs.length) by omega)] at this;exact this
 .refine (CS h).mono ?_;rintro _ V _ ⟨rfl,s⟩;rw[cP];have:=f V s;have e:decide ((n.funs.length:Int)<=j)=decide (¬(0<=j/\j<n.funs.length)):=by
   rw[V6,decide_eq_true_eq,decide_eq_true_eq];omega
  rw[<-e] at this;exact this
theorem Nv {r:Nat} {n:aR} {g:cK} (h:fW w r n) (y:jG n) (e:n.funs[j]? =σ g):am x7 GJ [Γ r,Δ (j:Int)] w λv w'=>Ext w w'/\ ∃gs,w.heap.size<=gs/\au .i64 ai w' gs v g.1:=by
 refine az func99 ?_;have C:=(x4.1 e).1;refine aV (λv V=>v= .bool (decide (¬(0<=(j:Int)/\(j:Int)<n.funs.length)))/\Ext w V) ?_ λaA z=>CV h λw' J=>z _ _ ⟨rfl,J⟩;rintro _ V ⟨rfl,f⟩;rw[decide_eq_false Ω,a1];obtain⟨E,G,H,I,gr,aX,L,nm,szv,gz,fv2,h1,K,M,N,O,m,s⟩:=h.ext f;have P:L.length=n.funs.length:=by rw[<-s,u7]
 obtain⟨a,q⟩:=aH (l:=L) (i:=j) Ω;have x:dR a=g:=by rw[<-s,x8,q] at e;exact b6 e
 obtain⟨⟨Q,hm⟩,_⟩:=m.2 a (x5 q);rw[aQ fw.p 3 h1 rfl,dx rfl kL.u hh.i m.1 Ω,aU hh.p rfl,ay Ψ (m.1.range q 0 _ rfl)];have R:a.sc.length<=6:=by
  have:=(y.funs g (x5 e)).1.scope.2;rw[<-x] at this;exact this
 refine (kd hm.ls Ω).mono ?_;rintro v aa _ ⟨A,gs,S,B⟩;refine⟨f.trans A,gs,by have:=f.size;omega,?_⟩;rw[<-x];exact B
theorem Nw {g A:Nat} {aj:Λ} {k:Int} {cs:Λ} (h:dd w g A sv aj k cs):am x7 HF [Γ g] w λv w'=>Ext w w'/\ ∃a e,v=Γ a/\w.heap.size<=a/\w.heap.size<=e/\dd w' a e sv aj k cs:=by
 obtain⟨⟨a6,gs,B,hm,C⟩,⟨h1,I,E⟩,U,s⟩:=h;refine az func169 ?_;rw[db eP.u];simp only[Z4,a1];intro V f _ _;have q:=B.ext f;have J:=prod_bound U;rw[bV,aU cW.p rfl,bR (cs:=[sv]) bA.p bA.i rfl (nq q (by
  intro j v ad
  match j,ad with
  |0,ad=>exact ad)),aQ cW.p 1 q rfl,aQ cW.p 2 q rfl]
 refine (uV (C.ls.ext f) Ω).mono ?_;rintro x aa _ ⟨r,e,K,m⟩;refine⟨.inl r,?_⟩;rw[dn (cs:=#[sv,Δ k,x]) (by obtain⟨_,_,_,rfl⟩:=c4 hm.ls;obtain⟨_,_,_,rfl⟩:=c4 m.ls;kernel_rfl)];refine be λa L M y G=>?_;have N:=f.size;have O:=r.size;have P:=m;have z:=(f.trans r).trans y;refine⟨z,a,e,rfl,Ω,Ω,⟨x,gs,G,hm.ext z,m.ext y⟩,⟨?_,?_,E⟩,U,s⟩
 .have:=sJ m (by rw[s];omega);omega
 .intro H;obtain⟨Q,R⟩:=bO hm H;omega
theorem Nx {w0:x3} {y:Nat} {n:aR} {g:cK} (z:fW w0 y n) (A:Ext w0 w) (f:n.funs[j]? =σ g):am x7 GK [Γ y,Δ (j:Int)] w λv w'=>Ext w w'/\ ∃gt m sv,v=Γ gt/\w.heap.size<=gt/\w.heap.size<=m/\dd w' gt m sv (bS n.sizes g.1) n.k g.2/\ ∀r,leads sv r-> ∃c,ag w0 r ai c:=by
 have h:=z.ext A;refine az func100 ?_;have R:=(x4.1 f).1;refine aV (λv V=>v= .bool (decide (¬(0<=(j:Int)/\(j:Int)<n.funs.length)))/\Ext w V) ?_ λaA H=>CV h λw' J=>H _ _ ⟨rfl,J⟩;rintro _ V ⟨rfl,q⟩;rw[decide_eq_false Ω,a1];have e:=A.trans q;obtain⟨S,U,W,X,gr,aX,L,nm,szv,gz,fv2,h1,Y,Z,ab,ac,s,B⟩:=z;have ae:L.length=n.funs.length:=by rw[<-B,u7]
 obtain⟨a,x⟩:=aH (l:=L) (i:=j) Ω;have I:dR a=g:=by rw[<-B,x8,x] at f;exact b6 f
 obtain⟨_,m,K,C⟩:=s.2 a (x5 x);rw[aQ fw.p 3 (h1.ext e) rfl,dx rfl kL.u hh.i (s.1.ext e) Ω,aU hh.p rfl,ay Ψ ((s.1.ext e).range x 1 _ rfl)];refine (Nw (C.ext e)).mono ?_;rintro v aa _ ⟨M,gt,N,rfl,af,ah,O⟩;have aj:=q.size;refine⟨q.trans M,gt,N,K,rfl,Ω,Ω,?_,λr E=>?_⟩
 .rw[<-I];exact O
 .obtain⟨⟨_,_,_,hm,_⟩,_⟩:=C;obtain⟨P,_⟩:=bO hm E;rcases hm.2 with⟨ad,_⟩|⟨_,cs,_,Q,_⟩
  .obtain⟨_,_,_,G,ak⟩:=E;rw[ad] at G;cases G
  .exact⟨cs,P▸Q⟩
structure pc where
 aG:x1
 szv:x1
 at_:Nat
def nL (x:pc):List x1:=[x.aG,x.szv,Δ (x.at_:Int)]
structure qL where
 v:Int
 aG:x1
 bv:x1
def Ny (x:qL):List x1:=[Δ x.v,x.aG,x.bv]
def ih (s:av):Λ:=(X4 s.vars.length).map λi=>(fF s i:Int)
def iJ (R:ak) (w:x3) (v:x1) (l:Λ):Prop:=(∃g,au .i64 ai w g v l)/\ ∀r,leads v r->R r
theorem iJ.ls {R:ak} (h:iJ R w v l):aF .i64 w v l:=by
 obtain⟨⟨g,h⟩,_⟩:=h;exact h.ls
theorem iJ.ab {R S:ak} (h:iJ R w v l) (f:ah S w w') (j:∀r,r<w.heap.size->R r->¬S r):iJ R w' v l:=by
 obtain⟨⟨g,h1⟩,a⟩:=h;exact⟨⟨g,br h1 f λr e=>j r (by obtain⟨m,p⟩:=bO h1 e;omega) (a r e)⟩,a⟩
theorem iJ.mono {R R':ak} (h:iJ R w v l) (a:∀r,R r->R' r):iJ R' w v l:=⟨h.1,λr e=>a r (h.2 r e)⟩
def k4 (R:ak) (w:x3) (L:List pc) (s:av):Prop:=L.length=s.funs.length/\ ∀ (j:Nat) x f,L[j]? =σ x->s.funs[j]? =σ f->iJ R w x.aG f.sc/\iJ R w x.szv f.aj/\x.at_=eS s j
def lS (R:ak) (w:x3) (E:List qL) (s:av):Prop:=E.length=s.gW.length/\ ∀ (j:Nat) x e,E[j]? =σ x->s.gW[j]? =σ e->x.v=e.v/\iJ R w x.aG e.sc/\iJ R w x.bv e.sY
theorem k4.ab {R S:ak} {L:List pc} {s:av} (h:k4 R w L s) (a:ah S w w') (e:∀r,r<w.heap.size->R r->¬S r):k4 R w' L s:=⟨h.1,λj x f J af=>by
 obtain⟨h1,m,p⟩:=h.2 j x f J af;exact⟨h1.ab a e,m.ab a e,p⟩⟩
theorem lS.ab {R S:ak} {E:List qL} {s:av} (h:lS R w E s) (a:ah S w w') (e:∀r,r<w.heap.size->R r->¬S r):lS R w' E s:=⟨h.1,λj x f J af=>by
 obtain⟨h1,m,p⟩:=h.2 j x f J af;exact⟨h1,m.ab a e,p.ab a e⟩⟩
theorem k4.mono {R R':ak} {L:List pc} {s:av} (h:k4 R w L s) (a:∀r,R r->R' r):k4 R' w L s:=⟨h.1,λj x f J af=>by
 obtain⟨h1,e,m⟩:=h.2 j x f J af;exact⟨h1.mono a,e.mono a,m⟩⟩
theorem lS.mono {R R':ak} {E:List qL} {s:av} (h:lS R w E s) (a:∀r,R r->R' r):lS R' w E s:=⟨h.1,λj x f J af=>by
 obtain⟨h1,e,m⟩:=h.2 j x f J af;exact⟨h1,e.mono a,m.mono a⟩⟩
theorem s6 {a b c:x3} (h:Ext a b) (k:ah S b c) (f:∀r o,a.heap[r]? =σ o->fq o=true->¬S r):Ext a c:=
 ⟨Y9 h.size k.size,λr o e U=>k.aZ r o (h.aZ r o e U) U (f r o e U)⟩
theorem ds.cut {A:ak} {t:aC} (h:ds w gT A t):ds w gT (λr=>A r/\r<w.heap.size) t:=by
 obtain⟨q,s,go,de,a6,x,dH,h1,e,f,j,y⟩:=h;refine⟨⟨q,h1.lt⟩,s,go,de,a6,x,dH,h1,e,f,j,λr a=>⟨y r a,?_⟩⟩;rcases a with a|a|a
 .obtain⟨m,p⟩:=e.leads a;omega
 .obtain⟨m,p⟩:=f.leads a;omega
 .obtain⟨m,p⟩:=j.leads a;omega
def eM (w:x3) (ae gT j:Nat) (e f h:x1) (A R:ak) (n:aR) (s:av) (t:aC):Prop:=
 (A ae/\(∀r,A r->¬R r)/\(∀r,R r->r<w.heap.size)/\ ∀r,A r->r<w.heap.size)/\ ∃a7 m ge,∃ (L:List pc) (E:List qL) (a:ak) (w0:x3),
  ag w ae cI [Γ j,Γ gT,e,f,h]/\(fW w0 j n/\Ext w0 w/\ ∀r o,w0.heap[r]? =σ o->fq o=true->R r)/\
  (ds w gT a t/\(∀r,a r->A r)/\¬a ae/\ ∀r,leads e r\/leadsTo f r\/leadsTo h r->A r/\¬a r)/\au .i64 ai w a7 e (ih s)/\
  (bk nL 3 fb w m f L/\k4 R w L s)/\bk Ny 3 uM w ge h E/\lS R w E s
theorem eM.ab {S:ak} {x:Nat} {y B C:x1} {A R:ak} {n:aR} {s:av} {t:aC} (h:eM w ae gT x y B C A R n s t) (e:ah S w w') (f:∀r,r<w.heap.size->A r\/R r->¬S r):eM w' ae gT x y B C A R n s t:=by
 obtain⟨⟨h1,j,T,V⟩,a7,W,ge,L,E,X,w0,F,⟨Y,G,H⟩,⟨Z,m,aa,p⟩,I,⟨J,ac⟩,K,ad⟩:=h;have z:=e.size;refine⟨⟨h1,j,λr a=>by have:=T r a;omega,λr a=>by have:=V r a;omega⟩,a7,W,ge,L,E,X,w0,F.ab e (f _ F.lt (.inl h1)),⟨Y,s6 G e λr o a af U=>f r (by have:=G.size;have:=(n9.1 a).1;omega) (.inr (H r o a af)) U,H⟩,
  ⟨?_,m,aa,p⟩,br I e λr a U=>f r ?_ (.inl (p r (.inl a)).1) U,⟨J.ab e λr a U=>f r ?_ (.inl (p r (.inr (.inl a))).1) U,ac.ab e λr a h=>f r a (.inr h)⟩,K.ab e λr a U=>f r ?_ (.inl (p r (.inr (.inr a))).1) U,ad.ab e λr a h=>f r a (.inr h)⟩
 .obtain⟨M,ag,go,de,a6,ai,dH,N,O,P,Q,q⟩:=Z;refine⟨M,ag,go,de,a6,ai,dH,N.ab e (f _ N.lt (.inl (m _ M))),O.ab e λr a U=>?_,P.ab e λr a U=>?_,Q.ab e λr a U=>?_,q⟩
  .exact f r (by obtain⟨h1,j⟩:=O.leads a;omega) (.inl (m _ (q r (.inl a)))) U
  .exact f r (by obtain⟨h1,j⟩:=P.leads a;omega) (.inl (m _ (q r (.inr (.inl a))))) U
  .exact f r (by obtain⟨h1,j⟩:=Q.leads a;omega) (.inl (m _ (q r (.inr (.inr a))))) U
 .obtain⟨h1,j⟩:=bO I a;omega
 .obtain⟨h1,j⟩:=J.leads a;omega
 .obtain⟨h1,j⟩:=K.leads a;omega
theorem eM.ext {e f j:x1} {A R:ak} {n:aR} {s:av} {t:aC} (h:eM w ae gT a e f j A R n s t) (J:Ext w w'):eM w' ae gT a e f j A R n s t:=h.ab (J.ab λ_=>False) λ_ _ _ h=>h
theorem eM.qM {z:Nat} {C F G:x1} {A R:ak} {n:aR} {s:av} {t:aC} (h:eM w ae gT z C F G A R n s t):∃p,ds w gT p t/\ ∀m w' bu,Grow p w m w'->ds w' gT m bu-> ∃aS,Grow A w aS w'/\eM w' ae gT z C F G aS R n s bu:=by
 obtain⟨⟨h1,f,H,I⟩,a7,V,ge,L,E,p,w0,J,⟨W,X,K⟩,⟨Y,j,M,q⟩,N,⟨O,Z⟩,P,aa⟩:=h;refine⟨p,Y,λQ w' bu x ac=>?_⟩;have S:=ac.cut;have e:Grow p w (λr=>Q r/\r<w'.heap.size) w':=⟨x.1,λr a=>x.2.1 r a.1,λr a=>⟨x.2.2 r a,by have:=I r (j r a);have:=x.1.size;omega⟩⟩;obtain⟨m,T⟩:∃B:ak,B=λr=>Q r/\r<w'.heap.size:=⟨_,rfl⟩;rw[<-T] at S e;have ad:∀r,m r->r<w'.heap.size:=λr h=>by rw[T] at h;exact h.2
 refine⟨λr=>A r\/m r,⟨e.1.mono λr _ a=>j r a,λr a=>?_,λr a=>.inl a⟩,⟨.inl h1,λr a y=>?_,λr a=>?_,λr a=>?_⟩,a7,V,ge,L,E,m,w0,J.ab e.1 M,⟨W,s6 X e.1 λr o a af U=>f r (j r U) (K r o a af),K⟩,
  ⟨S,λr a=>.inr a,λa=>?_,λr a=>⟨.inl (q r a).1,λag=>?_⟩⟩,br N e.1 λr a U=>(q r (.inl a)).2 U,⟨O.ab e.1 λr a U=>(q r (.inr (.inl a))).2 U,Z.ab e.1 λr _ a U=>f r (j r U) a⟩,P.ab e.1 λr a U=>(q r (.inr (.inr a))).2 U,aa.ab e.1 λr _ a U=>f r (j r U) a⟩
 .rcases a with a|a
  .exact .inl a
  .exact (e.2.1 r a).imp (j r) id
 .have:=H r y;rcases a with a|a
  .exact f r a y
  .rcases e.2.1 r a with h|h
   .exact f r (j r h) y
   .omega
 .have:=H r a;have:=e.1.size;omega
 .rcases a with a|a
  .have:=I r a;have:=e.1.size;omega
  .exact ad r a
 .rcases e.2.1 _ a with h|h
  .exact M h
  .have:=J.lt;omega
 .rcases e.2.1 r ag with h|h
  .exact (q r a).2 h
  .rcases a with a|a|a
   .obtain⟨h1,f⟩:=bO N a;omega
   .obtain⟨h1,f⟩:=O.leads a;omega
   .obtain⟨h1,f⟩:=P.leads a;omega
def StateM (w:x3) (ae gT:Nat) (A R:ak) (n:aR) (s:av) (t:aC):Prop:=∃a e f h,eM w ae gT a e f h A R n s t
theorem StateM.ab {S:ak} {A R:ak} {n:aR} {s:av} {t:aC} (h:StateM w ae gT A R n s t) (a:ah S w w') (e:∀r,r<w.heap.size->A r\/R r->¬S r):StateM w' ae gT A R n s t:=by
 obtain⟨f,j,m,p,h⟩:=h;exact⟨f,j,m,p,h.ab a e⟩
theorem StateM.ext {A R:ak} {n:aR} {s:av} {t:aC} (h:StateM w ae gT A R n s t) (J:Ext w w'):StateM w' ae gT A R n s t:=h.ab (J.ab λ_=>False) λ_ _ _ h=>h
theorem StateM.qM {A R:ak} {n:aR} {s:av} {t:aC} (h:StateM w ae gT A R n s t):∃a,ds w gT a t/\ ∀e w' bu,Grow a w e w'->ds w' gT e bu-> ∃aS,Grow A w aS w'/\StateM w' ae gT aS R n s bu:=by
 obtain⟨f,j,m,p,h⟩:=h;obtain⟨a,h1,q⟩:=h.qM;exact⟨a,h1,λe w' bu r x=>by
  obtain⟨aS,y,z⟩:=q e w' bu r x;exact⟨aS,y,f,j,m,p,z⟩⟩
def nM (s s':av):Prop:=ih s'=ih s/\s'.funs.length=s.funs.length/\(∀ (j:Nat) a,s'.funs[j]? =σ a-> ∃f,s.funs[j]? =σ f/\a.sc=f.sc/\a.aj=f.aj/\eS s' j=eS s j)/\s'.gW=s.gW
theorem eM.same {e m p:x1} {A R:ak} {n:aR} {s s':av} {t:aC} (h:eM w ae gT a e m p A R n s t) (U:nM s s'):eM w ae gT a e m p A R n s' t:=by
 obtain⟨aJ,a7,r,ge,L,E,y,w0,z,B,C,F,⟨G,q⟩,H,I⟩:=h;obtain⟨K,M,N,O⟩:=U;refine⟨aJ,a7,r,ge,L,E,y,w0,z,B,C,by rw[K];exact F,⟨G,q.1.trans M.symm,λj x P J Q=>?_⟩,H,?_⟩
 .obtain⟨f,af,S,T,V⟩:=N j P Q;rw[S,T,V];exact q.2 j x f J af
 .unfold lS;rw[O];exact I
theorem StateM.same {A R:ak} {n:aR} {s s':av} {t:aC} (h:StateM w ae gT A R n s t) (U:nM s s'):StateM w ae gT A R n s' t:=by
 obtain⟨a,e,f,j,h⟩:=h;exact⟨a,e,f,j,h.same U⟩
theorem s7 {α β:Type} {f:α->List β}:∀ {L:List α} {i j:Nat} {a b:α},L[i]? =σ a->(f b).length=(f a).length->(((L.set i b).take j).flatMap f).length=((L.take j).flatMap f).length
 |[],_,_,_,_,h,_=>by simp at h
 |x::L,0,j,a,b,h,e=>by
  cases h;cases j with
  |zero=>rfl
  |succ j=>simp[e]
 |x::L,i+1,j,a,b,h,e=>by
  have h:L[i]? =σ a:=by simpa using h
  cases j with
  |zero=>rfl
  |succ j=>
   rw[List.set_cons_succ,List.take_succ_cons,List.take_succ_cons,X7,X7,o4,o4,s7 h e]
theorem CW (s:av) (c:Int):nM s {s with zero:=c}:=⟨rfl,rfl,λj f h=>⟨f,h,rfl,rfl,rfl⟩,rfl⟩
theorem CX {s:av} {i:Nat} {x y:bB} (J:s.vars[i]? =σ x) (a:y.un.length=x.un.length):nM s {s with vars:=s.vars.set i y}:=by
 have af:(ht y).length=(ht x).length:=by simp[ht,a]
 refine⟨?_,rfl,λj f h=>⟨f,h,rfl,rfl,?_⟩,rfl⟩
 .unfold ih;rw[show ({s with vars:=s.vars.set i y}:av).vars.length=s.vars.length from c8];apply List.map_congr_left;intro j _;unfold fF;rw[s7 J af]
 .unfold eS;have:=s7 (j:=s.vars.length) J af;rw[b8 Ξ,b8 (p8 _)] at this;show 3+(((s.vars.set i y).flatMap ht).length+_)=_;rw[this]
theorem Nz {s:av} {i:Nat} {x y:cb} (J:s.funs[i]? =σ x) (m:y.cs.length=x.cs.length) (h1:y.sc=x.sc) (p:y.aj=x.aj):nM s {s with funs:=s.funs.set i y}:=by
 have af:(fk y).length=(fk x).length:=by simp[fk,m]
 refine⟨rfl,c8,λj f h=>?_,rfl⟩;have h:(s.funs.set i y)[j]? =σ f:=h;have e:eS {s with funs:=s.funs.set i y} j=eS s j:=by
  unfold eS;show 3+(_+(((s.funs.set i y).take j).flatMap fk).length)=_;rw[s7 J af]
 by_cases a:i=j
 .subst a;rw[c7 (x4.1 J).1] at h;cases h;exact⟨x,J,h1,p,e⟩
 .rw[Y0 a] at h;exact⟨f,h,rfl,rfl,e⟩
theorem aC.wg (t:aC) (i:Nat) (x:Int):(t.set i x).marks=t.marks:=by
 unfold aC.set;cases t.cells[i]? with
 |none=>rfl
 |some c=>
  simp only;cases t.marks.getLast? with
  |none=>rfl
  |some m=>simp only;split<;>rfl
theorem aC.CY (t:aC) (i:Nat) (x:Int):(t.set i x).iz=t.iz:=by
 unfold aC.set;cases t.cells[i]? with
 |none=>rfl
 |some c=>
  simp only;cases t.marks.getLast? with
  |none=>rfl
  |some m=>simp only;split<;>rfl
theorem aC.CZ (t:aC) (i:Nat) (x:Int):(t.set i x).cells.length=t.cells.length:=by
 have h:=congrArg S6 (aC.pX (t:=t) (i:=i) (x:=x));rw[c8] at h;unfold aC.bT at h;rwa [u7,u7] at h
theorem aC.C0 (t:aC) (i:Nat) (x:Int):(t.set i x).olds.length<=t.olds.length+1:=by
 unfold aC.set;cases t.cells[i]? with
 |none=>exact Nat.le_succ _
 |some c=>
  simp only;cases t.marks.getLast? with
  |none=>exact Nat.le_succ _
  |some m=>simp only;split<;>simp
theorem aC.wh {t:aC} (h:t.marks=[]) (i:Nat) (x:Int):(t.set i x).olds=t.olds:=by
 unfold aC.set;cases t.cells[i]? with
 |none=>rfl
 |some c=>simp only[h,List.getLast?_nil]
def fG (t:aC) (l:Λ):Nat->aC
 |0=>t.grow l.length
 |i+1=>(fG t l i).set (t.cells.length+i) (l.getD i 0)
def mz (t:aC) (l:Λ):aC:=fG t l l.length
theorem qN (t:aC) (l:Λ):∀i,(fG t l i).marks=t.marks
 |0=>rfl
 |i+1=>(aC.wg _ _ _).trans (qN t l i)
theorem C1 (t:aC) (l:Λ):∀i,(fG t l i).iz=t.iz
 |0=>rfl
 |i+1=>(aC.CY _ _ _).trans (C1 t l i)
theorem wi (t:aC) (l:Λ):∀i,(fG t l i).cells.length=t.cells.length+l.length
 |0=>by simp[fG,aC.grow]
 |i+1=>(aC.CZ _ _ _).trans (wi t l i)
theorem wj (t:aC) (l:Λ):∀i,(fG t l i).olds.length<=t.olds.length+i
 |0=>p8 _
 |i+1=>by have:=aC.C0 (fG t l i) (t.cells.length+i) (l.getD i 0);have:=wj t l i;show (aC.set _ _ _).olds.length<=_;omega
theorem C2 {t:aC} (h:t.marks=[]) (l:Λ):∀i,(fG t l i).olds=t.olds
 |0=>rfl
 |i+1=>(aC.wh ((qN t l i).trans h) _ _).trans (C2 h l i)
theorem C3 (t:aC) (l:Λ):∀i,i<=l.length->(fG t l i).bT=t.bT++(l.take i++r8 (l.length-i) 0)
 |0,_=>by rw[List.take_zero,List.nil_append];exact aC.Jg
 |i+1,h=>by
  have a:=C3 t l i Ω;show (aC.set _ _ _).bT=_;have e:t.bT.length=t.cells.length:=by simp[aC.bT]
  rw[aC.pX,a,T2 _ _ Ω,e,R2,T2 _ _ (by rw[j6];omega),j6,Nat.min_eq_left Ω,V7,show l.length-i=(l.length-(i+1))+1 by omega,List.replicate_succ,List.set_cons_zero,u9,v8,x6 (show i<l.length by omega)];simp only[o9,V9,U6,List.singleton_append]
theorem C4 (t:aC) (l:Λ):(mz t l).bT=t.bT++l:=by
 unfold mz;rw[C3 t l _ (p8 _),p9,V7,List.replicate_zero,U4]
theorem eh.fG {h:List aC} {t:aC} (hk:eh t h) (l:Λ):∀i,eh (fG t l i) h
 |0=>hk.grow
 |i+1=>(eh.fG hk l i).set
theorem kW {s:Go.Sem x1} {x:x1} (h:ac x7 s w (λv=>v=x)):cD x7 s x w:=by
 obtain⟨v,h,rfl⟩:=h;exact h
theorem s8 {off:Nat} {z:Nat} {a:r9} {cs:List x1} {x:x1} (f:ag w ae e cs) (h:∀ (K:x1->Prop),ac x7 (u5 cI (Γ ae) z) w K=K (.pointer (σ ⟨ae,0+off,ν⟩))) (j:ju x7 a=true) (m:cs[0+off]? =σ x):
  cD x7 (u4 a (.pointer (σ ⟨ae,0+off,ν⟩))) x w/\cD x7 (u5 cI (Γ ae) z) (.pointer (σ ⟨ae,0+off,ν⟩)) w/\cD x7 (bM (Γ ae)) (Γ ae) w/\True:=
 ⟨r3 j (f.cell m),kW (by rw[h]),kW (by rw[bV]),trivial⟩
def C5 (w:x3) (r:Nat):Prop:=∃e c,ag w r e c/\(e=fx\/e=eH\/e=kM\/e=gb\/e=cI\/e=fb\/e=uM)
def eA (w:x3) (r:Nat):Prop:=C5 w r\/ ∀o,w.heap[r]? =σ o->fq o≠true
theorem nN {V:x3} {r:Nat} (hk:∀o,w.heap[r]? =σ o->fq o=true->¬eA w r->V.heap[r]? =σ o) (h:eA V r):eA w r:=by
 by_cases a:eA w r
 .exact a
 .refine absurd (.inr λo j U=>?_) a;have h1:=hk o j U a;rcases h with⟨e,c,f,he⟩|m
  .refine a (.inl ⟨e,c,?_,he⟩);unfold ag at f ⊢;rw[h1] at f;rw[j];exact f
  .exact m o h1 U
theorem jI {V aa:x3} (J:Ext w V) (a:ah (eA V) V aa):ah (eA w) w aa:=(J.ab _).trans (a.mono λr _ h=>nN (λo e U _=>J.aZ r o e U) h)
theorem wk {V aa:x3} (h:ah (eA w) w V) (a:ah (eA V) V aa):ah (eA w) w aa:=h.trans (a.mono λr _ e=>nN (λo f U j=>h.aZ r o f U j) e)
theorem ds.min {A:ak} {t:aC} (h:ds w gT A t):ds w gT (λr=>A r/\C5 w r) t:=by
 obtain⟨p,q,go,de,a6,s,dH,h1,f,j,m,x⟩:=h;refine⟨⟨p,_,_,h1,.inl rfl⟩,q,go,de,a6,s,dH,h1,f,j,m,λr a=>⟨x r a,?_⟩⟩;rcases a with a|a|a
 .obtain⟨rfl,c,e⟩:=eb f a;exact⟨_,c,e,.inr (.inl rfl)⟩
 .obtain⟨rfl,c,e⟩:=eb j a;exact⟨_,c,e,.inr (.inr (.inl rfl))⟩
 .obtain⟨rfl,c,e⟩:=eb m a;exact⟨_,c,e,.inr (.inr (.inr (.inl rfl)))⟩
theorem eM.wm {m p q:x1} {A R:ak} {n:aR} {s:av} {t:aC} (h:eM w ae gT j m p q A R n s t):∃a,ds w gT a t/\ ∀x w' bu,Grow a w x w'->ds w' gT x bu->ah (eA w) w w'/\ ∃aS,Grow A w aS w'/\eM w' ae gT j m p q aS R n s bu:=by
 obtain⟨a,y,z⟩:=h.qM;refine⟨_,y.min,λB V bu e C=>⟨e.1.mono λr _ h=>.inl h.2,?_⟩⟩;exact z (λr=>a r\/B r) V _ ⟨e.1.mono λr _ h=>h.1,λr f=>f.elim .inl λh=>(e.2.1 r h).imp (λh=>h.1) id,λr f=>.inl f⟩ (C.mono λr h=>.inr h)
theorem C6 {y:Nat} {B C:x1} {A R:ak} {n:aR} {s:av} {t:aC} {j:x1} (h:eM w ae gT y z B C A R n s t) (G:aF .i64 w j l) (P:∀r,leads j r->¬A r) (aE:t.cells.length+l.length<=100000000) (aG:t.olds.length+l.length<=100000000) (hm:t.marks.length<=100000000):
  am x7 za [Γ ae,j] w λv w'=>v=Δ (t.cells.length:Int)/\ah (eA w) w w'/\ ∃aS,Grow A w aS w'/\eM w' ae gT y z B C aS R n s (mz t l):=by
 refine az func96 ?_;obtain⟨_,a7,Q,ge,L,E,_,w0,H,_⟩:=id h;obtain⟨S,I,K⟩:=h.wm;rw[aQ cI.p 1 H rfl,aW ax.u G];refine (Nl (n:=l.length) I ⟨Ω,Ω,hm⟩ Ω).mono ?_;rintro _ V _ ⟨rfl,U,W,X⟩;obtain⟨Y,Z,N,ab⟩:=K U V _ W X;have O:∀ {aS:ak} {w':x3},Grow A w aS w'->aF .i64 w' j l:=λac=>hP G ac.1 λr af a ag c ad ai=>P r ⟨a,ag,c,ad,ai⟩ af;rw[aW ax.u (O N)];have aj:=G.le;refine cz.range l.length (λi aa=>ah (eA w) w aa/\ ∃f,Grow A w f aa/\eM aa ae gT y z B C f R n s (fG t l i)) aj ⟨Y,Z,N,ab⟩ ?_ ?_
 .rintro i aa k hi ⟨M,f,m,q⟩ hk;refine bH Ω ?_;obtain⟨x,J⟩:=aH (l:=l) hi;rw[bc ax.u ap.i Ψ (O m) J];obtain⟨_,a7,Q,ge,L,E,_,w0,H,_⟩:=id q;obtain⟨S,I,K⟩:=q.wm;have aI:=wi t l i;have aJ:=wj t l i;have an:=qN t l i;rw[aQ cI.p 1 H rfl,aP,wrap_i64 Ω Ω];refine (s5 (i:=t.cells.length+i) I Ω Ω ⟨Ω,Ω,by rw[an];exact hm⟩).mono ?_;rintro _ ao _ ⟨rfl,aq,au,aw⟩;obtain⟨ay,aA,aB,aD⟩:=K aq ao _ au aw;rw[aP];refine hk _ ⟨wk M ay,aA,m.trans aB,?_⟩;have e:fG t l (i+1)=(fG t l i).set (t.cells.length+i) x:=by
   show (fG t l i).set _ (l.getD i 0)=_;rw[v8,J];rfl
  rw[e];exact aD
 .rintro aa k ⟨M,f,m,q⟩;rw[aO,al];exact⟨λh=>Ω,λ_=>⟨rfl,M,f,m,q⟩⟩
def iK (s:av) (sc aj cs:Λ):av:={s with funs:=s.funs++[⟨sc,aj,1,cs⟩]}
def nO (s:av) (t:aC) (cs:Λ):aC:=(mz t (1::cs)).set 1 ((s.funs.length+1:Nat):Int)
theorem NA {s:av} {t:aC} {sc aj cs:Λ} (h:t.bT=s.cells):(nO s t cs).bT=(iK s sc aj cs).cells:=by
 unfold nO iK;rw[aC.pX,C4,h,<-Nr];rfl
theorem NB {bg:Nat} {bh aO bi:x1} {A R:ak} {n:aR} {s:av} {t:aC} {aG:x1} {sc aj cs:Λ} {g bR:Nat} {Q:x1} {k:Int}
  (h:eM w ae gT bg bh aO bi A R n s t) (ad:t.bT=s.cells) (cj:aF .i64 w aG sc) (ds:∀r,leads aG r->¬A r) (bj:dd w g bR Q aj k cs) (bS:¬A g/\¬A bR/\ ∀r,leads Q r->¬A r) (dt:sc.length<=1000)
  (aY:t.cells.length+cs.length+1<=100000000) (bk:t.olds.length+cs.length+1<=100000000) (hm:t.marks.length<=100000000) (af:s.funs.length<=1000000):
  am x7 GI [Γ ae,aG,Γ g] w λv w'=>v=Δ (s.funs.length:Int)/\ah (eA w) w w'/\ ∃aS R' bx,Grow A w aS w'/\eM w' ae gT bg bh bx bi aS R' n (iK s sc aj cs) (nO s t cs)/\(∀r,R r->R' r)/\ ∀r,R' r->R r\/leads Q r\/w.heap.size<=r:=by
 have du:t.cells.length=s.cells.length:=by rw[<-ad];simp[aC.bT]
 have dv:=qH s;have ck:eS (iK s sc aj cs) s.funs.length=t.cells.length:=by
  unfold eS iK;simp only[List.take_left];omega
 have cl:∀j,j<s.funs.length->eS (iK s sc aj cs) j=eS s j:=λj bz=>by
  unfold eS iK;simp only[List.take_append_of_le_length (show j<=s.funs.length by omega)]
 have cm:ih (iK s sc aj cs)=ih s:=rfl;refine az func98 ?_;refine dg (λV=>ah (eA w) w V/\ ∃aS R' bx,Grow A w aS V/\eM V ae gT bg bh bx bi aS R' n (iK s sc aj cs) (mz t (1::cs))/\(∀r,R r->R' r)/\ ∀r,R' r->R r\/leads Q r\/w.heap.size<=r) ?_ ?_
 .rintro V ⟨cn,dw,cp,cq,cr,ct,cu,cw⟩;intro aa bA _ _;have bU:=ct.ext bA;obtain⟨_,a7,bB,ge,L,E,_,w0,ao,_,_,_,⟨a8,bl⟩,_⟩:=id bU;have bm:L.length=s.funs.length+1:=by rw[bl.1];simp[iK]
  rw[aQ cI.p 1 ao rfl,aQ cI.p 3 ao rfl,fh fv.u a8];obtain⟨bW,cz,cA⟩:=bU.wm;have cB:=wi t (1::cs) (1::cs).length;have cC:=wj t (1::cs) (1::cs).length;have cE:=qN t (1::cs) (1::cs).length;simp only[c9] at cB cC;refine (s5 (i:=1) (y:=1) cz rfl (by show 1<(fG _ _ _).cells.length;simp only[c9];omega) ⟨by show (fG _ _ _).cells.length<=_;simp only[c9];omega,by show (fG _ _ _).olds.length<=_;simp only[c9];omega,by show (fG _ _ _).marks.length<=_;rw[cE];exact hm⟩).mono ?_;rintro _ cF _ ⟨rfl,cG,cH,cJ⟩;obtain⟨cK,cL,cM,bX⟩:=cA cG cF _ cH cJ;obtain⟨_,a7,bB,ge,cN,E,_,w0,ao,_,_,_,⟨a8,cO⟩,_⟩:=id bX;have dx:cN.length=s.funs.length+1:=by rw[cO.1];simp[iK]
  rw[aQ cI.p 3 ao rfl,fh fv.u a8,dF,wrap_i64 Ω Ω];refine⟨by congr 1;omega,wk cn (jI bA cK),cL,cp,cq,cr.trans ((Grow.ext bA).trans cM),?_,cu,cw⟩;have e:nO s t cs=(mz t (1::cs)).set 1 (L.length:Int):=by unfold nO;rw[bm]
  rw[e];exact bX
 intro aA cP;intro aK aP _ _;have bY:=h.ext aP;obtain⟨_,a7,bB,ge,L,E,_,w0,ao,_⟩:=id bY;rw[aQ cI.p 3 ao rfl];have z4:=aP.size;have bn:∀ {C:x3} {Y S:x1} {aZ Z:Nat},Ext aK C->w.heap.size<=aZ->w.heap.size<=Z->au .i64 ai C aZ Y sc->au .i64 ap C Z S (1::cs)->(∀r,leads Y r\/leads S r->¬A r)->
   am x7 za [Γ ae,S] C λcQ aq=>
    (Ext aK aq\/cD x7 (u4 fv (.pointer (σ ⟨ae,0+3,ν⟩))) aO aq/\cD x7 (u5 cI (Γ ae) 3) (.pointer (σ ⟨ae,0+3,ν⟩)) aq/\cD x7 (bM (Γ ae)) (Γ ae) aq/\True)/\
    ac x7 (Instr.build fb #[(0,Y),(1,.agg #[Q]),(2,cQ)]) aq λt22=>
    aD x7 (Y4 fv 1 #[(0,t22)]) aq λcS aw=>
     (Ext aK aw\/cD x7 (u4 fv (.pointer (σ ⟨ae,0+3,ν⟩))) aO aw/\cD x7 (u5 cI (Γ ae) 3) (.pointer (σ ⟨ae,0+3,ν⟩)) aw/\cD x7 (bM (Γ ae)) (Γ ae) aw/\True)/\
    aD x7 (b9 #[fv,fv] fv #[aO,cS]) aw λcT bo=>
     ac x7 (bM (Γ ae)) bo λt25=>
     ac x7 (u5 cI t25 3) bo λcU=>
     aD x7 (o6 fv cU cT) bo λ(_:Unit) aT=>
      aA aT:=by
  intro C Y S aZ Z G bZ W H M bC;have cV:=bY.ext G;refine (C6 cV M.ls (λr m=>bC r (.inr m)) (by simp only[c9];omega) (by simp only[c9];omega) hm).mono ?_;rintro _ aq _ ⟨rfl,cW,ba,a1,cX⟩;obtain⟨⟨b0,b1,cY,b2⟩,a7,bB,ge,L,E,bW,w0,ao,⟨cZ,c0,b3⟩,⟨c1,b4,b5,aL⟩,bD,⟨a8,bl⟩,bE,c2⟩:=id cX;have aI:au .i64 ai aq aZ Y sc:=br H a1.1 λr m=>bC r (.inl m);have bp:au .i64 ai C (Classical.choose (show ∃gs,au .i64 ai w gs Q aj from by obtain⟨⟨_,gs,_,q,_⟩,_⟩:=bj;exact⟨gs,q⟩)) Q aj:=((Classical.choose_spec (show ∃gs,au .i64 ai w gs Q aj from by obtain⟨⟨_,gs,_,q,_⟩,_⟩:=bj;exact⟨gs,q⟩)).ext aP).ext G;have c3:=br bp a1.1 bS.2.2;refine⟨.inr (s8 (off:=3) (z:=3) ao (λK=>by rw[aU cI.p rfl]) Ψ rfl),?_⟩;rw[dn (cs:=#[Y,Q,Δ (t.cells.length:Int)]) (by obtain⟨_,_,_,rfl⟩:=c4 H.ls;obtain⟨_,_,_,rfl⟩:=c4 bp.ls;kernel_rfl)];let a:pc:=⟨Y,Q,t.cells.length⟩;have c5:∀u∈nL a,u.oneCell'=true:=by
   intro u hu;simp[nL] at hu;rcases hu with rfl|rfl|rfl
   .exact H.ls.cells.2
   .exact bp.ls.cells.2
   .rfl
  refine ia (f:=nL) (a:=a) fv.u fb.i Ω rfl rfl λdy dz aw dA I c6=>?_;refine⟨.inr (s8 (off:=3) (z:=3) (ao.ext I) (λK=>by rw[aU cI.p rfl]) Ψ rfl),?_⟩;have bb:=a8.ext I;have bm:L.length=s.funs.length:=bl.1;refine iD (f:=nL) (a:=a) fv.u fb.i rfl bb (by simpa using c6.sl) c5 Ω Ω λb6 c7 bo bc c8 b8=>?_;have bd:=ao.ext I;have ca:=bd.ab b8 λhe=>cR bb bd Φ he;rw[bV,aU cI.p rfl];refine bq fv.i (eL bc.sl).1 (eL bc.sl).2 ca Ξ λaT bF dC bG=>?_;have bG:ag aT ae cI [Γ bg,Γ gT,bh,b6,bi]:=bG;have ay:ah (λr=>leadsTo aO r\/r=ae) aw aT:=(b8.mono λr _ h=>.inl h).trans (bF.mono λr _ h=>.inr h);have z9:=G.size;have dD:=a1.1.size;have dE:=I.size;have dG:=ay.size;have bH:∀r,(leadsTo aO r\/r=ae)->ba r:=λr m=>m.elim (λm=>(aL r (.inr (.inl m))).1) λm=>m▸b0;have bI:∀r,(leadsTo aO r\/r=ae)->¬R r:=λr m=>b1 r (bH r m);have da:ah (eA w) w aT:=wk (jI (aP.trans G) cW) (jI I (ay.mono λr _ m=>by
   rcases m with m|rfl
   .obtain⟨_,c,aY⟩:=eb bb m;exact .inl ⟨_,c,‹r=_› ▸aY,Φ⟩
   .exact .inl ⟨_,_,bd,Φ⟩))
  let db:ak:=λr=>ba r\/(aw.heap.size<=r/\r<aT.heap.size);let bJ:ak:=λr=>R r\/(leads Q r/\r<aq.heap.size)\/(leads Y r/\r<aq.heap.size);have dH:∀r,r<w.heap.size->ba r->A r:=λr m h=>(a1.2.1 r h).elim id λh=>Ω
  have bK:∀r,leads Y r->w.heap.size<=r/\r<C.heap.size:=λr m=>by obtain⟨h1,a2⟩:=bO H m;omega
  have cb:∀r,leads Q r->r<C.heap.size:=λr m=>by obtain⟨h1,a2⟩:=bO bp m;omega
  have bt:∀r,leads Y r\/leads Q r->¬ba r:=λr m dc=>by
   rcases a1.2.1 r dc with h|h
   .rcases m with m|m
    .exact bC r (.inl m) h
    .exact bS.2.2 r m h
   .rcases m with m|m
    .have:=bK r m;omega
    .have:=cb r m;omega
  refine cP _ ⟨da,db,bJ,b6,(Grow.ext (aP.trans G)).trans (a1.trans ((Grow.ext I).trans ⟨ay.mono λr _ m=>bH r m,λr m=>m.imp id And.left,λr m=>.inl m⟩)),?_,λr m=>.inl m,λr m=>?_⟩
  rotate_left
  .rcases m with m|m|m
   .exact .inl m
   .exact .inr (.inl m.1)
   .exact .inr (.inr (bK r m.1).1)
  have cc:∀ {v:x1} {be:Nat} {l:Λ},au .i64 ai aw be v l->(∀r,leads v r->¬ba r)->au .i64 ai aT be v l:=λhm de=>br hm ay λr m U=>de r m (bH r U);have cd:∀r,bJ r->r<aw.heap.size:=λr m=>by
   rcases m with m|m|m
   .have:=cY r m;omega
   .omega
   .omega
  refine⟨⟨.inl b0,λr m aM=>?_,λr m=>by have:=cd r m;omega,λr m=>m.elim (λm=>by have:=b2 r m;omega) And.right⟩,a7,c7,ge,L++[a],E,bW,w0,bG,⟨cZ,s6 (c0.trans I) ay λr o m bk U=>bI r U (b3 r o m bk),λr o m bk=>.inl (b3 r o m bk)⟩,⟨(c1.ext I).ab ay λr m U=>?_,λr m=>.inl (b4 r m),b5,λr m=>?_⟩,?_,⟨bc.ab bF λr m he=>?_,?_⟩,(bE.ext I).ab ay λr m U=>?_,?_⟩
  .have:=cd r aM;rcases m with m|m
   .rcases aM with aM|aM|aM
    .exact b1 r m aM
    .exact bt r (.inr aM.1) m
    .exact bt r (.inl aM.1) m
   .omega
  .rcases U with U|rfl
   .exact (aL r (.inr (.inl U))).2 m
   .exact b5 m
  .rcases m with m|m|m
   .exact⟨.inl (aL r (.inl m)).1,(aL r (.inl m)).2⟩
   .obtain⟨h1,a2⟩:=bc.leads m;rcases c8 r m with h|h
    .exact⟨.inl (aL r (.inr (.inl h))).1,(aL r (.inr (.inl h))).2⟩
    .refine⟨.inr ⟨h,by have:=bF.size;omega⟩,λdf=>?_⟩;have:=b2 r (b4 r df);omega
   .exact⟨.inl (aL r (.inr (.inr m))).1,(aL r (.inr (.inr m))).2⟩
  .rw[cm];exact br (bD.ext I) ay λr m U=>by
    rcases U with U|rfl
    .obtain⟨rfl,c,aY⟩:=eb bb U;exact b7 (bD.ext I) aY Φ m rfl
    .exact b7 (bD.ext I) bd Φ m rfl
  .have he:r=ae:=he;subst he;exact cR bc ca Φ m
  .refine⟨by rw[o4,bm];simp[iK],λj x f J aV=>?_⟩;have aV:(s.funs++[⟨sc,aj,1,cs⟩])[j]? =σ f:=aV;by_cases bz:j<s.funs.length
   .rw[Y1 Ω] at J;rw[Y1 bz] at aV;obtain⟨dh,di,dj⟩:=((((k4.ab bl (I.ab λ_=>False) λ_ _ _ h=>h).ab ay λr _ m U=>bI r U m).mono (R':=bJ) λr m=>.inl m)).2 j x f J aV;exact⟨dh,di,by rw[cl j bz];exact dj⟩
   .have bL:j=s.funs.length:=by have:=(x4.1 aV).1;simp at this;omega
    rw[Y2 Ω,bm,bL,V7] at J;rw[Y2 Ω,bL,V7] at aV;cases J;cases aV;refine⟨⟨⟨_,cc (aI.ext I) λr m=>bt r (.inl m)⟩,λr m=>.inr (.inr ⟨m,?_⟩)⟩,⟨⟨_,cc (c3.ext I) λr m=>bt r (.inr m)⟩,λr m=>.inr (.inl ⟨m,?_⟩)⟩,?_⟩
    .have:=bK r m;omega
    .have:=cb r m;omega
    .rw[bL,ck]
  .rcases U with U|rfl
   .obtain⟨rfl,c,aY⟩:=eb bb U;exact cR (bE.ext I) aY Φ m
   .exact cR (bE.ext I) bd Φ m
  .exact ((lS.ab c2 (I.ab λ_=>False) λ_ _ _ h=>h).ab ay λr _ m U=>bI r U m).mono λr m=>.inl m
 have a6:=bj.ext aP;have ce:=cj.ext aP;have dk:∀r,A r->r<w.heap.size:=h.1.2.2.2;obtain⟨_,⟨_,_,dI⟩,dJ,dK⟩:=id bj;have dL:cs.length<=4096:=Ω
 have bu:∀ {aB:x3} {aW aX:x1} {X:Nat} {K:x1->x3->Prop},Ext aK aB->aK.heap.size<=X->au .i64 ap aB X aW [1]->aF .i64 aB aX cs->
   (∀S Z C,Ext aK C->ah (λr=>r=X) aB C->w.heap.size<=Z->au .i64 ap C Z S (1::cs)->(Ext aK C->K S C))->aD x7 (b9 #[ax,ax] ax #[aW,aX]) aB K:=by
  intro aB aW aX X K B bw aE aJ dl;refine iZ ax.u ap.i rfl aE aJ Θ Θ λS Z C W M aH=>?_;have G:Ext aK C:=B.put aH Ω;have dm:=B.size;exact dl S Z C G aH Ω M G
 have aN:∀ {v:x1} {be:Nat} {dp:o5} {e:r9} {dq:x3} {l:Λ},au dp e dq be v l->w.heap.size<=be-> ∀r,leads v r->¬A r:=λhm dM r m dr=>by
  obtain⟨h1,_⟩:=bO hm m;have:=dk r dr;omega
 refine⟨?_,?_⟩
 .refine (kd ce Ω).mono ?_;rintro Y cg _ ⟨N,aZ,bZ,H⟩;have z5:=N.size;refine⟨.inl N,?_,?_⟩
  .refine (oT (a6.ext N)).mono ?_;rintro _ ch _ ⟨rfl,O⟩;have al:=N.trans O;have dN:=al.size;have dO:=O.size;have ci:=(a6.ext N).ext O;refine⟨.inl al,?_,?_⟩
   .refine ew ax.u ap.i rfl λaW X aB bw B aE=>?_;refine⟨.inl (al.trans B),?_⟩;refine (mq (ci.ext B)).mono ?_;rintro aX bN _ ⟨P,bP,bQ,aJ⟩;have an:=(al.trans B).trans P;refine⟨.inl an,?_⟩;refine bu an Ω (aE.ext P) aJ.ls λS Z C G aH W M _=>⟨.inl G,?_⟩;have aI:=br (((H.ext O).ext B).ext P) aH λr m he=>by have he:r=X:=he;obtain⟨h1,a2⟩:=bO H m;omega
    exact bn G Ω W aI M λr m=>m.elim (aN H Ω r) (aN M W r)
   .refine (mq ci).mono ?_;rintro aX aB _ ⟨B,bP,bQ,aJ⟩;refine⟨.inl (al.trans B),?_⟩;have dm:=B.size;refine ew ax.u ap.i rfl λaW X bN bw P aE=>?_;have an:=(al.trans B).trans P;refine⟨.inl an,?_⟩;refine bu an Ω aE (aJ.ls.ext P) λS Z C G aH W M _=>⟨.inl G,?_⟩;have aI:=br (((H.ext O).ext B).ext P) aH λr m he=>by have he:r=X:=he;obtain⟨h1,a2⟩:=bO H m;omega
    exact bn G Ω W aI M λr m=>m.elim (aN H Ω r) (aN M W r)
  .refine ew ax.u ap.i rfl λaW X ch bw O aE=>?_;have al:=N.trans O;refine⟨.inl al,?_⟩;refine (oT ((a6.ext N).ext O)).mono ?_;rintro _ aB _ ⟨rfl,B⟩;have bf:=al.trans B;refine⟨.inl bf,?_⟩;refine (mq (((a6.ext N).ext O).ext B)).mono ?_;rintro aX bN _ ⟨P,bP,bQ,aJ⟩;have an:=bf.trans P;refine⟨.inl an,?_⟩;refine bu an Ω ((aE.ext B).ext P) aJ.ls λS Z C G aH W M _=>⟨.inl G,?_⟩;have aI:=br (((H.ext O).ext B).ext P) aH λr m he=>by have he:r=X:=he;obtain⟨h1,a2⟩:=bO H m;omega
   exact bn G Ω W aI M λr m=>m.elim (aN H Ω r) (aN M W r)
 .refine ew ax.u ap.i rfl λaW X cg bw N aE=>?_;refine⟨.inl N,?_⟩;have z5:=N.size;have dP:X<cg.heap.size:=sJ aE Ξ;refine (kd (ce.ext N) Ω).mono ?_;rintro Y ch _ ⟨O,aZ,bZ,H⟩;have al:=N.trans O;refine⟨.inl al,?_⟩;refine (oT ((a6.ext N).ext O)).mono ?_;rintro _ aB _ ⟨rfl,B⟩;have bf:=al.trans B;refine⟨.inl bf,?_⟩;refine (mq (((a6.ext N).ext O).ext B)).mono ?_;rintro aX bN _ ⟨P,bP,bQ,aJ⟩;have an:=bf.trans P;refine⟨.inl an,?_⟩;refine bu an Ω (((aE.ext O).ext B).ext P) aJ.ls λS Z C G aH W M _=>⟨.inl G,?_⟩;have aI:=br ((H.ext B).ext P) aH λr m he=>by have he:r=X:=he;obtain⟨h1,a2⟩:=bO H m;omega
  exact bn G Ω W aI M λr m=>m.elim (aN H Ω r) (aN M W r)
theorem hx {P:W5} {E:r9} {k:o5} {b g:Nat} {x:x1} {m:Λ} {K:x1->x3->Prop} (s:P.underlying t=σ (.slice e)) (hi:aT P e 1 b z) (y:z.cells.size=1)
  (h:au k e w g v l) (J:aF k w x m) (A:(l.length+m.length)*b<=140737488355328) (B:l.length+m.length<=9223372036854775807)
  (C:∀a f w',au k e w' f a (l++m)->(∀r,leads a r->leads v r\/w.heap.size<=r)->ah (λr=>leads v r) w w'->K a w'):aD P (b9 #[t,t] E #[v,x]) w K:=by
 rcases h.2 with⟨ad,F⟩|⟨cap,cs,ad,I,L⟩
 .have G:l=[]:=j5 F;subst G;have h':au k e w w.heap.size v []:=by rw[ad];exact au.nil _ _ _ _
  refine iZ s hi y h' J A B λa f w' p hm q=>C a f w' hm (λr j=>.inr ?_) (q.mono λr j he=>by have he:r=w.heap.size:=he;omega);obtain⟨H,_⟩:=bO hm j;omega
 .refine iZ s hi y h J A B λa f w' p hm q=>C a f w' hm (λr j=>?_) (q.mono λr j he=>⟨_,_,_,ad,he.symm⟩);obtain⟨H,_⟩:=bO hm j;rcases p with p|p
  .exact .inl ⟨_,_,_,ad,by show g=r;omega⟩
  .exact .inr Ω
def addVar (s:av) (u:Λ):av:={s with vars:=s.vars++[newVar u]}
theorem NC (s:av) (u:Λ):ih (addVar s u)=ih s++[((3+(s.vars.flatMap ht).length:Nat):Int)]:=by
 unfold ih addVar;rw[o4,S9,List.range_succ,Z0];congr 1
 .apply List.map_congr_left;intro i hi;have:=List.mem_range.1 hi;unfold fF;simp only[List.take_append_of_le_length (show i<=s.vars.length by omega)]
 .simp[fF]
theorem ND {s:av} {u:Λ} (af:s.funs=[]):(addVar s u).cells=s.cells++(0::0::u):=by
 unfold av.cells addVar iI;simp only[af,List.flatMap_nil,U4,List.flatMap_append,List.flatMap_singleton,U6];rfl
def eT (n:aR) (i j:Nat):av:=⟨n.zero,(n.unary.take i).map newVar,(n.funs.take j).map (kp n.sizes),[]⟩
theorem C7 {n:aR} {i:Nat} {u:Λ} (h:n.unary[i]? =σ u):eT n (i+1) 0=addVar (eT n i 0) u:=by
 unfold eT addVar;simp only[u9,h,o9,Z0,List.map_singleton]
theorem NE {n:aR} {i:Nat} {g:cK} (h:n.funs[j]? =σ g):eT n i (j+1)=iK (eT n i j) g.1 (bS n.sizes g.1) g.2:=by
 unfold eT iK;simp only[u9,h,o9,Z0,List.map_singleton];rfl
theorem wn (n:aR):eT n n.unary.length n.funs.length=cL n:=by
 unfold eT cL;rw[p9,p9]
theorem wo {α β:Type} {f:α->List β} {b:Nat}:∀ {L:List α},(∀x∈L,(f x).length<=b)->(L.flatMap f).length<=L.length*b
 |[],_=>Ξ
 |x::L,h=>by
  rw[X7,o4,c9,U2];have:=wo (L:=L) λy a=>h y (.tail _ a);have:=h x (.head _);omega
theorem s9 {n:aR} (a:jG n) (af:n.funs.length<=256) (i j:Nat):(eT n i j).cells.length<=2000000:=by
 rw[qH];have h1:=wo (f:=ht) (b:=34) (L:=(eT n i j).vars) λx J=>by
  obtain⟨u,hu,rfl⟩:=l9.1 (show x∈(n.unary.take i).map newVar from J);obtain⟨p,h⟩:=X1.1 (T4 hu);have y:=a.ko;have A:=(x4.1 h).1;obtain⟨z,m⟩:=aH (l:=n.sizes) (i:=p) Ω;have r:=(a.unary p z u m h).1;have e:=a.sizes.2.2 z (x5 m);show u.length+2<=34;omega
 have r:=wo (f:=fk) (b:=4097) (L:=(eT n i j).funs) λx J=>by
  obtain⟨g,s,rfl⟩:=l9.1 (show x∈(n.funs.take j).map (kp n.sizes) from J);have e:=(a.funs g (T4 s)).1;have q:=e.len;have w:=e.small;show g.2.length+1<=4097;omega
 have e:(eT n i j).vars.length<=64:=by
  show ((n.unary.take i).map newVar).length<=64;rw[u7,j6];have:=a.ko;have:=a.sizes.2.1;omega
 have q:(eT n i j).funs.length<=256:=by
  show ((n.funs.take j).map (kp n.sizes)).length<=256;rw[u7,j6];omega
 have w:=X6 34 e;have B:=X6 4097 q;omega
def Plain (t:aC):Prop:=t.marks=[]/\t.olds=[]/\eh t []/\t.iz=0
theorem Plain.set {t:aC} (h:Plain t) (i:Nat) (x:Int):Plain (t.set i x):=⟨(aC.wg _ _ _).trans h.1,(aC.wh h.1 _ _).trans h.2.1,h.2.2.1.set,(aC.CY _ _ _).trans h.2.2.2⟩
theorem Plain.lay {t:aC} (h:Plain t) (l:Λ):Plain (mz t l):=⟨(qN _ _ _).trans h.1,(C2 h.1 _ _).trans h.2.1,h.2.2.1.fG l _,(C1 _ _ _).trans h.2.2.2⟩
theorem Plain.put {s:av} {t:aC} (h:Plain t) (cs:Λ):Plain (nO s t cs):=(h.lay _).set _ _
def NF (w:x3) (R0:ak) (n:aR) (v:x1) (w':x3):Prop:=Ext w w'/\ ∃ae gT A R t,v=Γ ae/\StateM w' ae gT A R n (cL n) t/\t.bT=(cL n).cells/\Plain t/\(∀r,A r->w.heap.size<=r)/\ ∀r,R r->R0 r\/w.heap.size<=r
theorem NG {w0:x3} {R0:ak} {s:Nat} {n:aR} (aL:fW w0 s n) (av:Ext w0 w) (bg:∀r o,w0.heap[r]? =σ o->fq o=true->R0 r) (aM:∀r,R0 r->r<w.heap.size) (B:jG n) (af:n.funs.length<=256):am x7 yX [Γ s] w (NF w R0 n):=by
 have h:=aL.ext av;have bU:=B.ko;have cZ:=B.sizes.2.1;refine az func29 ?_;rw[db mb.u];simp only[Z4,a1];refine (Nn (n:=3) Ω).mono ?_;rintro _ V _ ⟨aw,gT,rfl,bW⟩;rw[dn (cs:=#[Γ s,Γ gT,.slice ν 0 0,.slice ν 0 0,.slice ν 0 0]) Ψ];refine be λae aa c0 P Q=>?_;have Q:ag aa ae cI [Γ s,Γ gT,.slice ν 0 0,.slice ν 0 0,.slice ν 0 0]:=Q;have c1:=aw.size;have c2:=P.size;have c3:=Q.lt;have bX:eM aa ae gT s (.slice ν 0 0) (.slice ν 0 0) (.slice ν 0 0) (λr=>r=ae\/(w.heap.size<=r/\r<V.heap.size)) R0 n ⟨0,[],[],[]⟩ ⟨r8 3 ⟨0,0⟩,[],[],0⟩:=by
  refine⟨⟨.inl rfl,λr m M=>?_,λr m=>?_,λr m=>?_⟩,0,0,0,[],[],λr=>w.heap.size<=r/\r<V.heap.size,w0,Q,⟨aL,av.trans (aw.trans P),bg⟩,⟨(bW.cut).ext P,λr m=>.inr m,λm=>?_,λr m=>?_⟩,au.nil _ _ _ _,⟨bk.nil _ _ _ _ _,rfl,λj x f J=>by simp at J⟩,bk.nil _ _ _ _ _,rfl,λj x f J=>by simp at J⟩
  .have M:=aM r M;rcases m with m|m<;>omega
  .have m:=aM r m;omega
  .rcases m with m|m<;>omega
  .omega
  .rcases m with m|m|m
   .obtain⟨a,c4,c,aN,c5⟩:=m;cases aN
   .exact (fg m).elim
   .exact (fg m).elim
 intro c6 S _ _;have bY:=bX.ext S;rw[aQ cI.p 1 (Q.ext S) rfl];refine (Nu (h.ext ((aw.trans P).trans S))).mono ?_;rintro _ c7 _ ⟨rfl,ay⟩;refine⟨.inl ay,?_⟩;have bZ:=bY.ext ay;obtain⟨aO,b0,b1⟩:=bZ.qM;refine (s5 (i:=0) (y:=0) b0 rfl Φ ⟨Ξ,Ξ,Ξ⟩).mono ?_;rintro _ bh _ ⟨_,b2,b3,b4⟩;obtain⟨b5,bi,aT⟩:=b1 b2 bh _ b3 b4;have aT:=aT.same (CW ⟨0,[],[],[]⟩ n.zero);have z3:=S.size;have z4:=ay.size;have b6:=((aw.trans P).trans S).trans ay;have bj:Ext w bh:=b6.then bi.1 λr m he=>by rcases he with he|he<;>omega
 refine (we (h.ext bj)).mono ?_;rintro _ c8 _ ⟨rfl,bl⟩;refine cz.range n.sizes.length (λi aA=>∃A H t,Ext w aA/\eM aA ae gT s H (.slice ν 0 0) (.slice ν 0 0) A R0 n (eT n i 0) t/\t.bT=(eT n i 0).cells/\Plain t/\ ∀r,A r->w.heap.size<=r) Ω
  ⟨b5,_,_,bj.trans bl,aT.ext bl,?_,?_,λr m=>?_⟩ ?_ ?_
 .rw[aC.pX];rfl
 .exact Plain.set (t:=⟨r8 3 ⟨0,0⟩,[],[],0⟩) ⟨rfl,rfl,⟨rfl,rfl,λc C=>by rw[(List.mem_replicate.1 C).2];exact p8 _⟩,rfl⟩ _ _
 .rcases bi.2.1 r m with he|he
  .rcases he with he|he<;>omega
  .omega
 .rintro i aA b8 hi ⟨A,H,t,N,aV,W,X,aB⟩ b9;obtain⟨u,hu⟩:=aH (l:=n.unary) (i:=i) Ω;obtain⟨bm,bn⟩:=aH (l:=n.sizes) (i:=i) Ω;have c9:u.length<=32:=by
   have da:=(B.unary i bm u bn hu).1;have dc:=B.sizes.2.2 bm (x5 bn);omega
  refine bH Ω ?_;refine (CT (h.ext N) B).mono ?_;rintro dd de _ ⟨ca,_,cb⟩;obtain⟨df,dg,cc⟩:=cb u Ω (by rw[u6];exact hu);intro aW bo _ _;have aX:=ca.trans bo;have bp:=aV.ext aX;obtain⟨⟨_,_,_,Y⟩,a7,bt,ge,L,E,aO,w0,aD,_⟩:=id bp;have dh:=aX.size;have di:=N.size;rw[aQ cI.p 2 aD rfl];refine oD (l:=[0,0]) ax.u ap.i Ω rfl Ψ λcd dj dk dl aE bu=>?_;refine⟨.inl aE,?_⟩;refine hx ax.u ap.i rfl bu ((cc.ext bo).ls.ext aE) Θ Θ λce dm cg ch ci cj=>?_;have bw:∀r,leads cd r->aW.heap.size<=r:=λr m=>by obtain⟨aN,_⟩:=bO bu m;omega
  have aF:Ext aW cg:=aE.then cj λr m he=>by have:=bw r he;omega
  refine⟨.inl aF,?_⟩;have ck:=bp.ext aF;have cl:∀r,leads ce r->aW.heap.size<=r:=λr m=>by
   rcases ci r m with h|h
   .exact bw r h
   .have:=aE.size;omega
  have cm:t.cells.length<=2000000:=by
   have h1:=s9 B af i 0;rw[<-W] at h1;unfold aC.bT at h1;rwa [u7] at h1
  have cn:t.olds.length=0:=by rw[X.2.1];rfl
  have cq:t.marks.length=0:=by rw[X.1];rfl
  refine (C6 ck ch.ls (λr m q=>by have:=Y r q;have:=cl r m;omega) Θ Θ Ω).mono ?_;rintro _ dp _ ⟨rfl,_,aY,aZ,cr⟩;obtain⟨⟨bx,bz,ct,bA⟩,a7,bt,ge,L,E,aO,w0,aD,⟨cu,cw,bB⟩,⟨cA,bC,bD,aI⟩,cB,⟨cC,cD⟩,cE,cF⟩:=id cr;refine⟨.inr (s8 (off:=2) (z:=2) aD (λK=>by rw[aU cI.p rfl]) Ψ rfl),?_⟩;refine ew (k:=.i64) an.u ai.i rfl λdq dr bE ds G cG=>?_;have a2:=aD.ext G;refine⟨.inr (s8 (off:=2) (z:=2) a2 (λK=>by rw[aU cI.p rfl]) Ψ rfl),?_⟩;have bF:(ih (eT n i 0)).length=i:=by
   unfold ih eT;simp only[u7,List.length_range,j6];omega
  have bG:=cB.ext G;refine hx an.u ai.i rfl bG cG.ls (by rw[bF];simp;omega) (by rw[bF];simp;omega) λbI cH dt Z cJ bJ=>?_;have bK:=a2.ab bJ λhe=>b7 bG a2 Φ he rfl;rw[bV,aU cI.p rfl];refine bq an.i Z.ls.cells.1 Z.ls.cells.2 bK Ξ λa6 a8 du ba=>?_;have ba:ag a6 ae cI [Γ s,Γ gT,bI,.slice ν 0 0,.slice ν 0 0]:=ba;rw[aP];have C:ah (λr=>leads H r\/r=ae) bE a6:=(bJ.mono λr _ h=>.inl h).trans (a8.mono λr _ h=>.inr h);have dv:=aF.size;have z12:=aZ.1.size;have dw:=G.size;have dx:=C.size;have bL:∀r,aY r->w.heap.size<=r:=λr m=>(aZ.2.1 r m).elim (aB r) λh=>Ω
  have bM:∀r,(leads H r\/r=ae)->aY r:=λr m=>m.elim (λm=>(aI r (.inl m)).1) λm=>m▸bx;have cK:(eT n (i+1) 0).cells=(eT n i 0).cells++(0::0::u):=by rw[C7 hu];exact ND rfl
  have cM:t.cells.length=3+((eT n i 0).vars.flatMap ht).length:=by
   have h1:=congrArg S6 W;rw[qH] at h1;unfold aC.bT at h1;rw[u7] at h1;have:((eT n i 0).funs.flatMap fk).length=0:=by simp[eT]
   omega
  refine b9 _ ⟨λr=>aY r\/(bE.heap.size<=r/\r<a6.heap.size),bI,mz t ([0,0]++u),?_,⟨⟨.inl bx,λr m M=>?_,λr m=>by have:=ct r m;omega,λr m=>?_⟩,cH,bt,ge,L,E,aO,w0,ba,⟨cu,s6 (cw.trans G) C λr o m cN U=>bz r (bM r U) (bB r o m cN),bB⟩,⟨(cA.ext G).ab C λr m U=>?_,λr m=>.inl (bC r m),bD,λr m=>?_⟩,?_,⟨(cC.ext G).ab C λr m U=>?_,?_⟩,(cE.ext G).ab C λr m U=>?_,?_⟩,?_,X.lay _,λr m=>?_⟩
  .exact ((N.trans (aX.trans aF)).then aZ.1 λr m he=>by have:=aB r he;omega).trans G |>.then C λr m U=>by have:=bL r (bM r U);omega
  .rcases m with m|m
   .exact bz r m M
   .have M:=aM r M;omega
  .rcases m with m|m
   .have:=bA r m;omega
   .exact m.2
  .rcases U with U|rfl
   .exact (aI r (.inl U)).2 m
   .exact bD m
  .rcases m with m|m|m
   .have dy:=(bO Z m);rcases cJ r m with h|h
    .exact⟨.inl (aI r (.inl h)).1,(aI r (.inl h)).2⟩
    .refine⟨.inr ⟨h,by have:=a8.size;omega⟩,λcO=>by have:=bA r (bC r cO);omega⟩
   .exact (fg m).elim
   .exact (fg m).elim
  .rw[C7 hu,NC,<-cM];exact br Z a8 λr m he=>by
    have he:r=ae:=he;subst he;exact b7 Z bK Φ m rfl
  .exact (fg m).elim
  .refine⟨cD.1,λj x f J bb=>?_⟩;have bb:((n.funs.take 0).map (kp n.sizes))[j]? =σ f:=bb;simp at bb
  .exact (fg m).elim
  .refine⟨cF.1,λj x e J he=>?_⟩;have he:([]:List wb)[j]? =σ e:=he;simp at he
  .rw[C4,cK,W];rfl
  .rcases m with m|m
   .exact bL r m
   .omega
 .rintro aA b8 ⟨A,H,t,N,aV,W,X,aB⟩;refine cp Ω ?_;refine (CS (h.ext N)).mono ?_;rintro _ dz _ ⟨rfl,bN⟩;refine cz.range n.funs.length (λj ac=>∃A R aJ t,Ext w ac/\eM ac ae gT s H aJ (.slice ν 0 0) A R n (eT n n.sizes.length j) t/\t.bT=(eT n n.sizes.length j).cells/\Plain t/\(∀r,A r->w.heap.size<=r)/\ ∀r,R r->R0 r\/w.heap.size<=r) Ω
   ⟨A,_,_,t,N.trans bN,aV.ext bN,W,X,aB,λ_ h=>.inl h⟩ ?_ ?_
  .rintro j ac cP cQ ⟨A,R,aJ,t,I,ad,O,aj,al,bc⟩ cR;obtain⟨g,aK⟩:=aH (l:=n.funs) cQ;have bd:=(B.funs g (x5 aK)).1;refine bH Ω ?_;refine (Nv (h.ext I) B aK).mono ?_;rintro aG dA _ ⟨ao,gs,dC,bP⟩;refine (Nx aL (av.trans (I.trans ao)) aK).mono ?_;rintro _ dD _ ⟨aq,gt,dE,cS,rfl,dF,dG,cT,bQ⟩;have z0:=av.size;have cU:∀r,leads cS r->r<w.heap.size:=λr m=>by obtain⟨c,bf⟩:=bQ r m;have:=bf.lt;omega
   have cV:=(ad.ext ao).ext aq;have Y:∀r,A r->r<ac.heap.size:=ad.1.2.2.2;have dH:=ao.size;have cm:t.cells.length<=2000000:=by
    have h1:=s9 B af n.sizes.length j;rw[<-O] at h1;unfold aC.bT at h1;rwa [u7] at h1
   have cn:t.olds.length=0:=by rw[aj.2.1];rfl
   have cq:t.marks.length=0:=by rw[aj.1];rfl
   have dI:g.2.length<=4096:=by have:=bd.len;have:=bd.small;omega
   have dJ:g.1.length<=6:=bd.scope.2;refine (NB (sc:=g.1) cV O (bP.ls.ext aq) (λr m q=>by have:=Y r q;obtain⟨aN,_⟩:=bO bP m;omega) cT ⟨λq=>by have:=Y _ q;omega,λq=>by have:=Y _ q;omega,λr m q=>by have:=al r q;have:=cU r m;omega⟩ Ω Ω Ω Ω ?_).mono ?_
   .show ((n.funs.take j).map (kp n.sizes)).length<=_;rw[u7,j6];omega
   rintro _ dK _ ⟨rfl,_,aS,R',cW,bR,cX,dL,cY⟩;rw[aP];have bS:=NE (i:=n.sizes.length) aK;refine cR _ ⟨aS,R',cW,nO (eT n n.sizes.length j) t g.2,((I.trans ao).trans aq).then bR.1 (λr m q=>by have:=al r q;omega),?_,?_,aj.put _,λr m=>?_,λr m=>?_⟩
   .rw[bS];exact cX
   .rw[bS];exact NA O
   .rcases bR.2.1 r m with h|h
    .exact al r h
    .have:=I.size;have:=aq.size;omega
   .rcases cY r m with h|h|h
    .exact bc r h
    .exact .inl (by obtain⟨c,bf⟩:=bQ r h;exact bg r _ bf rfl)
    .exact .inr (by have:=I.size;have:=ao.size;have:=aq.size;omega)
  .rintro ac cP ⟨A,R,aJ,t,I,ad,O,aj,al,bc⟩;refine cp Ω ?_;have e:eT n n.sizes.length n.funs.length=cL n:=by rw[<-bU];exact wn n
   rw[e] at ad O;exact⟨I,ae,gT,A,R,t,rfl,⟨s,H,aJ,_,ad⟩,O,aj,al,bc⟩
theorem NH (K:Bytes l) (S:l.length<=100000):am x7 Hp [bP l] w λv w'=>v=kh l/\Ext w w':=by
 refine az func146 ?_;refine gO (λab ad V=>Ext w V/\ ∃ (m:Λ) (s:Int),ab=bP m/\ad=Δ s/\Bytes m/\m.length<=100000/\oO l m s) ?_ ?_
 .rintro _ _ V ⟨L,m,s,rfl,rfl,G,aw,H⟩;rw[ns cZ.u,bg,al];refine⟨λM=>?_,λM=>?_⟩
  .have N:m=[]:=j5 Ω;exact⟨by rw[sd H (by rw[N];rfl)],L⟩
  have N:m≠[]:=λh=>M (by rw[h];rfl);refine pz.range m.length (λi _ _ O P f=>Ext V f/\ ∃ (n:Int) (a:Bool),O= .int .u64 n/\P= .bool a/\mi n a ((m.take i).foldl eY 0)/\(m.take i).all gg=true) Ω ⟨Ext.refl _,0,false,rfl,rfl,Jd,rfl⟩ ?_ ?_
  .rintro i ae t3 _ _ f ag hi ⟨A,n,a,rfl,rfl,p,B⟩ ah;obtain⟨b,q⟩:=aH (l:=m) hi;have ax:=G b (x5 q);rw[ns cZ.u];refine bH Ω ?_;refine Ad (λ_ _ O P j=>Ext V j/\ ∃ (n:Int) (a:Bool),O= .int .u64 n/\P= .bool a/\mi n a ((m.take (i+1)).foldl eY 0)/\(m.take (i+1)).all gg=true) ?_ ?_
   .rintro ay aB a3 a4 j ai;rw[aP];exact ah _ _ _ _ _ ai
   intro aA r;refine aV (λv j=>f=j/\v= .bool (!gg b)) ?_ ?_
   rotate_left
   .intro Q e;rw[pY rfl cZ.u G q,aO,al];refine⟨λh=>e _ _ ⟨rfl,by unfold gg;rw[decide_eq_false Ω];rfl⟩,λh=>?_⟩;rw[pY rfl cZ.u G q,bU];refine e _ _ ⟨rfl,?_⟩;unfold gg;congr 1;by_cases U:57<b
    .rw[decide_eq_true U,decide_eq_false Ω];rfl
    .rw[decide_eq_false U,decide_eq_true Ω];rfl
   rintro _ _ ⟨rfl,rfl⟩;cases R:gg b with
   |false=>
    rw[X9,bQ];exact⟨by rw[sd H (A2 q R)],L.trans A⟩
   |true=>
    rw[Y6,a1];have aj:=of_decide_eq_true R;have I:=Jc p aj;rw[A0 q,AZ q,B,R] at r;have ak:=p.1;have an:=p.2.1;refine aV (λv j=>f=j/\v= .bool (a||decide (461168601842738790<n))) ?_ ?_
    rotate_left
    .intro Q e;rw[bU,al];refine⟨λh=>e _ _ ⟨rfl,by rw[decide_eq_true h,Bool.or_true]⟩,λh=>e _ _ ⟨rfl,by rw[decide_eq_false h,Bool.or_false]⟩⟩
    rintro _ _ ⟨rfl,rfl⟩;by_cases C:a=true\/461168601842738790<n
    .have af:(a||decide (461168601842738790<n))=true:=by rcases C with h|h<;>simp[h]
     rw[if_pos C,af] at I;rw[af,bG,Y6,a1];exact r _ _ _ _ _ ⟨A,n,true,rfl,rfl,I,rfl⟩
    .have af:(a||decide (461168601842738790<n))=false:=by
      cases a with
      |true=>exact absurd (.inl rfl) C
      |false=>simp;omega
     rw[if_neg C,af] at I;have aC:¬461168601842738790<n:=λh=>C (.inr h);rw[af,bG,X9,bQ,hI,pY rfl cZ.u G q,dF,wrap_u8 Ω Ω,fd cJ.u fu.u,wrap_u64 Ω Ω,wrap_u64 Ω Ω,aP,wrap_u64 Ω Ω];exact r _ _ _ _ _ ⟨A,_,false,rfl,rfl,I,rfl⟩
  .rintro ae t3 _ _ f ag ⟨A,n,a,rfl,rfl,p,B⟩;rw[p9] at B p;rw[ns cZ.u];refine cp Ω ?_;have W:=Je p;have ak:=p.1;have an:=p.2.1;have ao:∀ {x:Int},x=m.foldl eY 0->0<=x->x<=4611686018427387904->(ac x7 (convert fu ap (.int .u64 x)) f λaq=>
     ac x7 (aL .mul ap false false (Δ s) aq) f λau=>(λv w'=>v=kh l/\Ext w w') (.tuple #[au,(Δ 0)]) f):=by
    intro x J M h1;rw[fd fu.u ap.u,wrap_i64 Ω Ω,hI];have hw:X2.wrap (s*x)=s*x:=by
     rcases H.1 with rfl|rfl<;>exact wrap_i64 Ω Ω
    rw[hw];refine⟨?_,L.trans A⟩;rw[A5 H (A1 N B),J]
   refine aV (λv j=>f=j/\v= .int .u64 (m.foldl eY 0)) ?_ ?_
   .rintro _ _ ⟨rfl,rfl⟩;have X:=r0 (l:=m) (n:=0) B ⟨Int.le_refl _,Φ⟩;exact ao rfl X.1 X.2
   intro Q e;refine aV (λv j=>f=j/\v= .bool (a||decide (4611686018427387904<n))) ?_ ?_
   .rintro _ _ ⟨rfl,rfl⟩;rw[ce];refine⟨λh=>e _ _ ⟨rfl,?_⟩,λh=>e _ _ ⟨rfl,?_⟩⟩
    .have h':a=true\/4611686018427387904<n:=by simpa using h
     rw[W,if_pos h']
    .have h':¬(a=true\/4611686018427387904<n):=by
      intro E;rcases E with E|E
      .simp[E] at h
      .simp[E] at h
     rw[W,if_neg h']
   .intro aD Y;cases a with
    |true=>rw[bQ];exact Y _ _ ⟨rfl,rfl⟩
    |false=>rw[a1,bU];exact Y _ _ ⟨rfl,by rw[Bool.false_or]⟩
 .intro aA r;refine aV (λv aa=>w=aa/\ ∃c:Bool,v= .bool c/\(c=true↔l[0]? =σ 45)) ?_ ?_
  .rintro _ _ ⟨rfl,c,rfl,Z⟩;rw[ce];refine⟨λav=>?_,λaf=>?_⟩
   .obtain⟨m,rfl⟩:∃m,l=45::m:=by
     have:=Z.1 av;cases l with
     |nil=>simp at this
     |cons x m=>exact⟨m,by simp at this;rw[this]⟩
    rw[Ah (y:=1) (i:=1) rfl cZ.u Ξ];exact r _ _ _ ⟨Ext.refl _,m,-1,rfl,rfl,λb z=>K b (.tail _ z),by simp at S;omega,A3⟩
   .refine r _ _ _ ⟨Ext.refl _,l,1,rfl,rfl,K,S,A4 λb z he=>?_⟩;subst he;have:=Z.2 z;rw[af] at this;cases this
  .intro Q e;rw[ns cZ.u,bU,al];refine⟨λh=>?_,λh=>e _ _ ⟨rfl,false,rfl,?_⟩⟩
   .obtain⟨b,z⟩:=aH (l:=l) (i:=0) Ω;rw[pY (y:=0) (i:=0) rfl cZ.u K z,bg];refine e _ _ ⟨rfl,_,rfl,?_⟩;rw[decide_eq_true_eq,z];exact⟨λh=>by rw[h],λh=>b6 h⟩
   .have:l=[]:=j5 Ω;subst this;simp
theorem NI {s:Go.Sem x1} (h:ac x7 s w λu=>u=v) (hk:K v):ac x7 s w K:=by
 obtain⟨u,h1,rfl⟩:=h;exact⟨u,h1,hk⟩
abbrev gY:Type:=Λ×Int
def fH (x:gY):List x1:=[bP x.1,Δ x.2]
theorem wp (x:gY):∀u∈fH x,u.oneCell'=true:=by
 intro u hu;simp[fH] at hu;rcases hu with rfl|rfl<;>rfl
def iL (w:x3) (v:x1) (L:List gY):Prop:=cd w 2 v L.length (L.flatMap fH)
theorem wq {g:Nat} {L:List gY} (h:bk fH 2 cn w g v L):iL w v L:=h.sl
theorem C8 {L:List gY} {a:r9} (h:iL w v L):ac x7 (W8 #[fc] a #[v]) w K=K (Δ (L.length:Int)):=by
 obtain⟨_,_,_,_,_,rfl,_⟩:=h;exact hJ fc.u
theorem NJ {cs:List x1} (h:cd w k v n cs) (f:ah S w w') (m:∀r,leadsTo v r->¬S r):cd w' k v n cs:=by
 obtain⟨h1,b,o,base,cap,rfl,p,q,e,s⟩:=h;refine⟨h1,b,o,base,cap,rfl,p,q,e,?_⟩;rcases R7 n with a|a
 .have:cs=[]:=j5 (by rw[h1,a,Nat.zero_mul]);subst this;intro j v ad;simp at ad
 .have x:=e a;exact j7 f (m b ⟨⟨b,o,ν⟩,n,cap,by rw[x],rfl⟩) s
theorem iL.ab {L:List gY} (h:iL w v L) (a:ah S w w') (e:∀r,leadsTo v r->¬S r):iL w' v L:=NJ h a e
theorem C9 {x:gY} {L:List gY} (h:iL w v (x::L)) (a:∀b o,w.rangeAt b o (fH x)->K (.pointer (σ ⟨b,o,ν⟩))):ac x7 (j4 fc v (Δ 0)) w K:=by
 obtain⟨_,b,o,base,cap,rfl,_,_,e,f⟩:=h;have:=e5 (P:=x7) (w:=w) (K:=K) (k:=.i64) (c:=cap) fc.u cn.i (show 0<(x::L).length by simp) e;rw[show ((0:Nat):Int)=0 from rfl] at this;rw[this];refine a _ _ λj u hu=>?_;have m:=(x4.1 hu).1;rw[Nat.zero_mul,Nat.add_zero];exact f j u (by rw[X7,Y1 m];exact hu)
theorem NK {x:gY} {L:List gY} (h:iL w v (x::L)) (s:∀j,(∀w',iL w' v (x::L)->iL w' j L)->(∀r,leadsTo j r->leadsTo v r)->K j):ac x7 (V4 fc v (σ (Δ 1)) ν ν) w K:=by
 have B:=h;obtain⟨_,b,o,base,cap,rfl,C,_⟩:=h;rw[hK fc.u cn.i (nf 1 1 rfl) jw fz Ξ Ω (p8 _)];refine s _ (λw' y=>?_) λr z=>?_
 .have:=cd.part (l:=1) (h:=(x::L).length) (m:=cap) y Ξ (p8 _) Ω (p8 _);have e:(((x::L).flatMap fH).drop (1*2)).take (((x::L).length-1)*2)=L.flatMap fH:=by
   rw[X7];have A:(L.flatMap fH).length=L.length*2:=h9 (k:=2) λ_ _=>rfl;show (L.flatMap fH).take _=_;rw[b8 (by rw[A,c9,Nat.add_sub_cancel];exact p8 _)]
  rw[e] at this;exact this
 .obtain⟨a,n,c,f,p⟩:=z;split at f
  .cases f;exact⟨_,_,_,rfl,p⟩
  .cases base with
   |none=>cases f
   |some q=>cases f;exact⟨_,_,_,rfl,p⟩
theorem NL {g:Nat} {L:List gY} (x:y=(n:Int)) (h:bk fH 2 cn w g v L) (z:n<=L.length) (A:∀p,iL w p (L.take n)->(∀r,leadsTo p r->leadsTo v r)->K p):ac x7 (V4 fc v ν (σ (Δ y)) ν) w K:=by
 have B:=wq h;obtain⟨_,b,o,base,cap,rfl,F,_⟩:=h.sl;rw[hK fc.u cn.i jv (ng n y x) fz (X3 _) Ω (p8 _)];refine A _ ?_ λr C=>?_
 .have:=cd.part (l:=0) (h:=n) (m:=cap) B (X3 _) z Ω (p8 _);have e:((L.flatMap fH).drop (0*2)).take ((n-0)*2)=(L.take n).flatMap fH:=by
   rw[Nat.zero_mul,List.drop_zero,Nat.sub_zero,qm (f:=fH) (k:=2) n λ_ _=>rfl]
  rw[e] at this;have E:(L.take n).length=n-0:=by rw[j6];omega
  unfold iL;rw[E];exact this
 .obtain⟨a,n,c,j,s⟩:=C;split at j
  .cases j;exact⟨_,_,_,rfl,s⟩
  .cases base with
   |none=>cases j
   |some q=>cases j;exact⟨_,_,_,rfl,s⟩
def NM (w:x3) (pl:Λ) (v:x1) (w':x3):Prop:=Ext w w'/\ ∃a L,∃bad:Int,v= .tuple #[a,Δ bad]/\iL w' a L/\L.map (·.1)=(lex pl).1/\(0<=bad↔(lex pl).2=false)/\(∀r,leadsTo a r->w.heap.size<=r)/\ ∀r,leadsTo a r-> ∃c,ag w' r cn c
theorem NN {p:x1} (Q:aF .u8 w p pl) (ax:Bytes pl) (ba:pl.length<=65536):am x7 Gy [p] w (NM w pl):=by
 refine az func83 ?_;rw[aW cN.u Q];refine pz.range pl.length (λi _ _ z H V=>Ext w V/\ ∃g L,∃ (m:List (Λ)) (A:Λ) (op:Bool),H= .bool op/\bk fH 2 cn V g z L/\L.map (·.1)=(if op then m++[A] else m)/\(op=true->A.length<=i)/\L.length<=i/\h5 (pl.drop i) m A op=lex pl/\ ∀r,leadsTo z r->w.heap.size<=r) Q.le
  ⟨Ext.refl _,0,[],[],[],false,rfl,bk.nil _ _ _ _ _,rfl,(λh=>by cases h),p8 _,Ju pl,λr B=>(fg B).elim⟩ ?_ ?_
 rotate_left
 .rintro aB t3 z H V aC ⟨E,g,L,m,A,op,rfl,C,y,_,_,q,G⟩;refine cp Ω ?_;rw[List.drop_length] at q;have q:(if op then m++[A] else m,true)=lex pl:=q;exact⟨E,z,L,-1,rfl,wq C,by rw[y,<-q],by rw[<-q];simp,G,λr B=>by obtain⟨rfl,c,X⟩:=eb C B;exact⟨c,X⟩⟩
 rintro i aB t3 z H V aC hi ⟨E,g,L,m,A,op,rfl,C,y,aj,bb,q,G⟩ aD;obtain⟨b,Y⟩:=aH (l:=pl) hi;have bd:=ax b (x5 Y);have ak:pl.drop i=b::pl.drop (i+1):=by rw[X5 hi,(x4.1 Y).2]
 rw[ak] at q;unfold h5 at q;refine bH Ω ?_;refine Ad (λ_ _ z H Z=>Ext w Z/\ ∃g L,∃ (m:List (Λ)) (A:Λ) (op:Bool),H= .bool op/\bk fH 2 cn Z g z L/\L.map (·.1)=(if op then m++[A] else m)/\(op=true->A.length<=i+1)/\L.length<=i+1/\h5 (pl.drop (i+1)) m A op=lex pl/\ ∀r,leadsTo z r->w.heap.size<=r) ?_ ?_
 .rintro be bf a3 a4 Z aE;rw[aP];exact aD _ _ _ _ _ aE
 intro aA an;rw[bc cN.u cJ.i Ψ (Q.ext E) Y];refine aV (λv I=>V=I/\v= .bool (cA b)) ?_ ?_
 rotate_left
 .intro aa s;unfold cA at s;rw[bg,al];refine⟨λh=>s _ _ ⟨rfl,by rw[decide_eq_true (.inl h)]⟩,λh1=>?_⟩;rw[bg,al];refine⟨λh=>s _ _ ⟨rfl,by rw[decide_eq_true (.inr (.inl h))]⟩,λR=>?_⟩;rw[bg,al];refine⟨λh=>s _ _ ⟨rfl,by rw[decide_eq_true (.inr (.inr (.inl h)))]⟩,λaG=>?_⟩;rw[bg];refine s _ _ ⟨rfl,?_⟩;congr 1;rw[V6,decide_eq_true_eq,decide_eq_true_eq];exact⟨λh=>.inr (.inr (.inr h)),λh=>by rcases h with h|h|h|h;exact absurd h h1;exact absurd h R;exact absurd h aG;exact h⟩
 rintro _ _ ⟨rfl,rfl⟩;cases U:cA b with
 |true=>
  rw[bQ];rw[if_pos U] at q;exact an _ _ _ _ _ ⟨E,g,L,_,[],false,rfl,C,y,(λh=>by cases h),Ω,q,G⟩
 |false=>
  rw[a1];rw[if_neg (by rw[U];simp)] at q;refine aV (λv I=>V=I/\v= .bool (!bK b)) ?_ ?_
  rotate_left
  .intro aa s;unfold bK at s;rw[aO,al];refine⟨λh=>s _ _ ⟨rfl,by rw[decide_eq_false Ω];rfl⟩,λh=>?_⟩;rw[bU];refine s _ _ ⟨rfl,?_⟩;by_cases R:126<b
   .rw[decide_eq_true R,decide_eq_false Ω];rfl
   .rw[decide_eq_false R,decide_eq_true Ω];rfl
  rintro _ _ ⟨rfl,rfl⟩;cases hw:bK b with
  |false=>
   rw[X9,bQ];rw[if_neg (by rw[hw];simp)] at q;refine aV (λv I=>V=I/\ ∃S,iL V v S/\S.map (·.1)=m/\(∀r,leadsTo v r->w.heap.size<=r)/\ ∀r,leadsTo v r->leadsTo z r) ?_ ?_
   .rintro v _ ⟨rfl,S,ab,aI,W,aJ⟩;exact⟨E,v,S,(i:Int),rfl,ab,by rw[aI,<-q],by rw[<-q];simp,W,λr B=>by obtain⟨rfl,c,X⟩:=eb C (aJ r B);exact⟨c,X⟩⟩
   .intro aa s;cases op with
    |false=>
     rw[a1];rw[if_neg Ξ] at y;exact s _ _ ⟨rfl,L,wq C,y,G,λ_ h=>h⟩
    |true=>
     rw[bQ];rw[if_pos rfl] at y;have ad:L.length=m.length+1:=by have:=congrArg S6 y;simpa using this
     rw[fh fc.u C,dF,wrap_i64 Ω Ω];refine NL (n:=m.length) Ω C Ω λN ab W=>s _ _ ⟨rfl,_,ab,?_,λr B=>G r (W r B),W⟩;rw[List.map_take,y,List.take_left]
  |true=>
   rw[Y6,a1];rw[if_pos hw] at q;refine aV (λz ae=>Ext w ae/\ ∃g M,∃x:gY,bk fH 2 cn ae g z (M++[x])/\M.map (·.1)=m/\x.1=(if op then A else[])/\(M++[x]).length<=i+1/\ ∀r,leadsTo z r->w.heap.size<=r) ?_ ?_
   .rintro bh ae ⟨ao,aK,M,x,aL,aM,J,aN,ap⟩;intro af ag _ _;have O:=aL.ext ag;have aq:(M++[x])[M.length]? =σ x:=Ξ
    have bi:(M++[x]).length=M.length+1:=Ξ
    rw[fh fc.u O,dF,wrap_i64 Ω Ω,dx (i:=M.length) Ω fc.u cn.i O Ω,aU cn.p rfl,ay (o:=M.length*2+0) Ψ (O.range aq 0 _ rfl),aP,wrap_i64 Ω Ω];obtain⟨bj,au⟩:∃N,aF .u8 af N [b]/\ac x7 (V4 cN p (σ (Δ (i:Int))) (σ (Δ ((i:Int)+1))) ν) af (λv=>v=N):=by
     have aQ:=Q.ext (ao.trans ag);have:=r2 (P:=x7) (low:=σ (Δ (i:Int))) (high:=σ (Δ ((i:Int)+1))) (K:=λv=>aF .u8 af v [b]) cN.u cJ.i aQ (nf i _ rfl) (ng (i+1) ((i:Int)+1) Ω) Ω Ω λN av=>by
      have e:((ints .u8 pl).drop (i*1)).take ((i+1-i)*1)=ints .u8 [b]:=by
       simp only[U1,show i+1-i=1 by omega];rw[ints,<-List.map_drop,<-List.map_take,ak];rfl
      rw[e] at av;exact aF.of (n:=i+1-i) av
     obtain⟨v,aR,aS⟩:=this;exact⟨v,aS,v,aR,rfl⟩
    refine NI au.2 ?_;have bl:x.1.length<=65536:=by
     rw[J];cases op with
     |true=>rw[if_pos rfl];have:=aj rfl;omega
     |false=>simp
    rw[u1 cN.u cJ.u cZ.u au.1,u0 Θ,dx (i:=M.length) Ω fc.u cn.i O Ω,aU cn.p rfl];refine oW (f:=fH) (j:=0) (a:=x) (a':=(x.1++[b],x.2)) cZ.i rfl rfl O aq rfl Ω λbm aT bn aw=>?_;have e:(M++[x]).set M.length (x.1++[b],x.2)=M++[(x.1++[b],x.2)]:=by
     rw[T2 _ _ (p8 _),V7];rfl
    rw[e] at aw;refine an _ _ _ _ _ ⟨(ao.trans ag).then aT (λr B he=>by have:=ap r he;omega),aK,_,m,x.1++[b],true,rfl,aw,by rw[Z0,aM];rfl,λ_=>?_,by simp at aN ⊢;omega,?_,ap⟩
    .rw[o4,J];cases op with
     |true=>rw[if_pos rfl];have:=aj rfl;simp;omega
     |false=>simp
    .rw[<-q,J];cases op with
     |true=>rfl
     |false=>rfl
   .intro aa s;cases op with
    |true=>
     rw[bG,Y6,a1];rw[if_pos rfl] at y;have ad:L.length=m.length+1:=by have:=congrArg S6 y;simpa using this
     obtain⟨M,x,rfl⟩:∃M x,L=M++[x]:=by
      have:L≠[]:=λh=>by rw[h] at ad;simp at ad
      exact⟨L.dropLast,L.getLast this,(List.dropLast_concat_getLast this).symm⟩
     rw[Z0] at y;obtain⟨aX,ah⟩:=List.append_inj' y Ξ;refine s _ _ ⟨E,g,M,x,C,aX,?_,Ω,G⟩;rw[if_pos rfl];have ah:[x.1]=[A]:=ah;exact (List.cons.inj ah).1
    |false=>
     rw[bG,X9,bQ];rw[if_neg Ξ] at y;rw[dn (cs:=#[bP [],Δ (i:Int)]) Ψ];refine ia (f:=fH) (a:=(([],(i:Int)):gY)) fc.u cn.i Ω rfl rfl λv9 bo bp bq ai aY=>?_;have aZ:=C.ext ai;refine iD (f:=fH) (a:=(([],(i:Int)):gY)) fc.u cn.i rfl aZ (by simpa using aY.sl) (wp _) Ω Ω λN a2 br a6 a7 a8=>?_;have bt:=E.size;have z9:=ai.size;refine s _ _ ⟨(E.trans ai).then a8 (λr B he=>by have:=G r he;omega),a2,L,_,a6,y,rfl,Θ,λr B=>?_⟩;rcases a7 r B with h|h
     .exact G r h
     .omega
structure wr where
 v:x1
 t:Λ
 c:Int
def nP (y:wr):List x1:=[y.v,Δ y.c]
def kq (w:x3) (g:Nat) (v:x1) (l:List (Λ×Int)):Prop:=∃L:List wr,bk nP 2 b5 w g v L/\(∀y∈L,∃gy,au .i64 ap w gy y.v y.t)/\L.map (λy=>(y.t,y.c))=l
structure iM where
 aG:x1
 szv:x1
 o:Int
 b3:x1
def eU (h:iM):List x1:=[h.aG,h.szv,Δ h.o,h.b3]
def gJ (w:x3) (h:iM) (x:cw):Prop:=(∃g,au .i64 ap w g h.aG x.scope)/\(∃g,au .i64 ap w g h.szv x.sizes)/\h.o=x.other/\ ∃g,kq w g h.b3 x.lines
def gZ (w:x3) (r:Nat):Prop:=∃e c,ag w r e c/\e≠ap/\e≠b5
theorem eB {g:Nat} (h:au .i64 ap w g v l) (f:ah S w w') (j:∀r,S r->gZ w r\/w.heap.size<=r):au .i64 ap w' g v l:=br h f λr a U=>by
 rcases j r U with⟨e,c,m,p,_⟩|q
 .exact b7 h m (λhe=>p he.symm) a rfl
 .obtain⟨s,x⟩:=bO h a;omega
theorem ws {α:Type} {f:α->List x1} {g:Nat} {L:List α} (h:bk f k e w g v L) (m:ah S w w') (p:∀r,S r->(∃a c,ag w r a c/\a≠e)\/w.heap.size<=r):bk f k e w' g v L:=h.ab m λr j U=>by
 rcases p r U with⟨a,c,q,s⟩|x
 .exact cR h q (λhe=>s he.symm) j
 .obtain⟨y,z⟩:=h.leads j;omega
theorem kq.dI {g:Nat} {l:List (Λ×Int)} (h:kq w g v l) (a:ah S w w') (f:∀r,S r->gZ w r\/w.heap.size<=r):kq w' g v l:=by
 obtain⟨L,h1,j,m⟩:=h;refine⟨L,ws h1 a λr p=>(f r p).imp (λ⟨e,c,q,_,s⟩=>⟨e,c,q,s⟩) id,λy x=>?_,m⟩;obtain⟨gy,hm⟩:=j y x;exact⟨gy,eB hm a f⟩
theorem gJ.dI {h:iM} {x:cw} (aJ:gJ w h x) (a:ah S w w') (e:∀r,S r->gZ w r\/w.heap.size<=r):gJ w' h x:=by
 obtain⟨⟨g1,h1⟩,⟨f,j⟩,m,p,q⟩:=aJ;exact⟨⟨g1,eB h1 a e⟩,⟨f,eB j a e⟩,m,p,q.dI a e⟩
theorem gJ.ext {h:iM} {x:cw} (aJ:gJ w h x) (J:Ext w w'):gJ w' h x:=aJ.dI (J.ab λ_=>False) λ_ h=>h.elim
theorem gJ.one {h:iM} {x:cw} (aJ:gJ w h x):∀u∈eU h,u.oneCell'=true:=by
 obtain⟨⟨g1,h1⟩,⟨f,a⟩,j,m,L,e,_⟩:=aJ;intro u hu;simp[eU] at hu;rcases hu with rfl|rfl|rfl|rfl
 .exact h1.ls.cells.2
 .exact a.ls.cells.2
 .rfl
 .exact (eL e.sl).2
def lT (w:x3) (a:x1) (f:List gY) (gs:Nat) (sv:x1) (L:List iM) (e:List cw):Prop:=(iL w a f/\ ∀r,leadsTo a r-> ∃c,ag w r cn c)/\bk eU 4 ba w gs sv L/\e.length=L.length/\ ∀ (i:Nat) h x,L[i]? =σ h->e[i]? =σ x->gJ w h x
theorem lT.dI {m:x1} {s:List gY} {gs:Nat} {L:List iM} {y:List cw} (h:lT w m s gs sv L y) (j:ah S w w') (p:∀r,S r->(∃e c,ag w r e c/\e≠ap/\e≠b5/\e≠cn/\¬leadsTo sv r)\/w.heap.size<=r):lT w' m s gs sv L y:=by
 obtain⟨⟨h1,z⟩,A,C,E⟩:=h;have hw:∀r,leadsTo m r->¬S r:=λr a U=>by
  obtain⟨c,f⟩:=z r a;rcases p r U with⟨e,F,B,_,_,q,_⟩|G
  .exact q (e7 B f)
  .have:=f.lt;omega
 refine⟨⟨h1.ab j hw,λr a=>?_⟩,A.ab j λr a U=>?_,C,λi aJ x hi J=>(E i aJ x hi J).dI j λr a=>(p r a).imp (λ⟨e,c,f,H,I,_⟩=>⟨e,c,f,H,I⟩) id⟩
 .obtain⟨c,f⟩:=z r a;exact⟨c,f.ab j (hw r a)⟩
 .rcases p r U with⟨e,F,B,_,_,_,q⟩|G
  .exact q a
  .obtain⟨K,M⟩:=A.leads a;omega
def gn (a:x1) (e f bad h big j told:Int) (sv:x1):List x1:=[a,Δ e,Δ f,Δ bad,Δ h,Δ big,Δ j,Δ told,sv]
def NO (N:Nat) (so:Option aE) (a:List gY) (e bad big told:Int) (L:List iM) (f:List cw):Prop:=match so with
 |some s=>bad=0/\e≠0/\(big≠0↔s.big=true)/\(s.big=false->told=s.told)/\True/\a.map (·.1)=s.toks/\(∀t∈s.toks,Bytes t/\t.length<=65536)/\f.map (λx=>(x.sizes,x.lines))=s.shared/\L.length+a.length<=100000
 |none=>bad≠0/\L.length<=N
def bJ (w:x3) (g B:Nat) (H:ak) (N:Nat) (so:Option aE):Prop:=100000<=N/\ ∃w0 a e gs sv L f,∃ (j h bad m big p told:Int),w0.heap.size=B/\ah (λr=>r=g) w0 w/\(∃c,ag w0 g bx c)/\ag w g bx (gn a j h bad m big p told sv)/\lT w0 a e gs sv L f/\(∀r,leadsTo sv r->H r)/\NO N so e h bad big told L f
theorem lT.g {g:Nat} {e:x1} {f:List gY} {gs:Nat} {L:List iM} {j:List cw} (h:lT w e f gs sv L j) (p:ah (λr=>r=g) w w') (q:∃c,ag w g bx c):lT w' e f gs sv L j:=
 h.dI p λr a=>.inl (by
  have a:r=g:=a;subst a;obtain⟨c,m⟩:=q;exact⟨_,c,m,Φ,Φ,Φ,λs=>cR h.2.1 m Φ s⟩)
theorem bJ.new {g:Nat} {H:ak} {so:Option aE} (h:bJ w g B H N so) (a:ah S w w') (e:∀r,S r->B<=r):bJ w' g B H N so:=by
 obtain⟨q,w0,s,x,gs,sv,L,y,z,A,bad,C,big,E,told,h1,f,j,F,G,I,J⟩:=h;have m:g<w0.heap.size:=by obtain⟨c,K⟩:=j;exact K.lt
 exact⟨q,w0,s,x,gs,sv,L,y,z,A,bad,C,big,E,told,h1,⟨Y9 f.size a.size,λr o p U m=>a.aZ r o (f.aZ r o p U m) U λM=>by
  have:=e r M;have:=(n9.1 p).1;omega⟩,j,F.ab a λU=>by have:=e g U;omega,G,I,J⟩
theorem bJ.ext {g:Nat} {H:ak} {so:Option aE} (h:bJ w g B H N so) (J:Ext w w'):bJ w' g B H N so:=h.new (J.ab λ_=>False) λ_ h=>h.elim
theorem bJ.base {g:Nat} {H:ak} {so:Option aE} (h:bJ w g B H N so):bJ w g w.heap.size H N so:=by
 obtain⟨e,w0,f,j,gs,sv,L,m,p,q,bad,r,big,s,told,h1,x,y,a,z,A,C⟩:=h;exact⟨e,w,f,j,gs,sv,L,m,p,q,bad,r,big,s,told,rfl,ah.refl _ _,⟨_,a⟩,a,z.g x y,A,C⟩
theorem bJ.dI {g:Nat} {H:ak} {so:Option aE} (h:bJ w g B H N so) (j:ah S w w') (m:∀r,S r->(∃e c,ag w r e c/\e≠ap/\e≠b5/\e≠cn/\e≠bx/\¬H r)\/w.heap.size<=r):bJ w' g w'.heap.size H N so:=by
 obtain⟨y,w0,p,q,gs,sv,L,s,z,A,bad,C,big,E,told,h1,F,G,f,I,x,J⟩:=h.base;have K:lT w p q gs sv L s:=I.g F G;have a:=f.ab j λU=>by
  rcases m g U with⟨e,c,a,_,_,_,M,_⟩|X
  .exact M (e7 a f)
  .have:=f.lt;omega
 refine⟨y,w',p,q,gs,sv,L,s,z,A,bad,C,big,E,told,rfl,ah.refl _ _,⟨_,a⟩,a,K.dI j λr O=>(m r O).imp (λ⟨e,c,a,P,Q,R,_,V⟩=>⟨e,c,a,P,Q,R,λW=>V (x r W)⟩) id,x,J⟩
theorem bJ.lt {g:Nat} {H:ak} {so:Option aE} (h:bJ w g B H N so):g<B/\B<=w.heap.size:=by
 obtain⟨f,w0,j,m,gs,sv,L,p,q,r,bad,s,big,x,told,h1,a,⟨c,e⟩,_⟩:=h;have:=e.lt;have:=a.size;omega
theorem hU {g:Nat} {H:ak} {so:Option aE} (h:bJ w g B H N so):∃a,∃ (e f bad j big m told:Int),∃sv,ag w g bx (gn a e f bad j big m told sv)/\(so.isSome=true↔bad=0):=by
 obtain⟨r,w0,a,x,gs,sv,L,y,e,f,bad,j,big,m,told,h1,z,A,q,C,E,p⟩:=h;refine⟨a,e,f,bad,j,big,m,told,sv,q,?_⟩;cases so with
 |none=>exact⟨(λh=>by cases h),λh=>absurd h p.1⟩
 |some s=>exact⟨λ_=>p.1,λ_=>rfl⟩
theorem k5 {g:Nat} {H:ak} {so:Option aE} (h:bJ w g B H N so):ac x7 (bM (Γ g)) w (λa=>ac x7 (u5 bx a 3) w λt45=>ac x7 (u4 ai t45) w λt46=>ac x7 (aL .eql ai false true t46 (Δ 0)) w K)=K (.bool so.isSome):=by
 obtain⟨f,j,m,bad,q,big,r,told,sv,e,hi⟩:=hU h;rw[aQ bx.p 3 e rfl,bg];congr 2;rw[V6,decide_eq_true_eq];exact hi.symm
theorem qO {g:Nat} {H:ak} {so:Option aE} (h:bJ w g B H N so):ac x7 (bM (Γ g)) w (λf=>ac x7 (u5 bx f 3) w λt45=>ac x7 (u4 ai t45) w λt46=>ac x7 (aL .neq ai false true t46 (Δ 0)) w K)=K (.bool (!so.isSome)):=by
 obtain⟨m,q,r,bad,s,big,x,told,sv,j,hi⟩:=hU h;rw[aQ bx.p 3 j rfl,bm];congr 2;cases e:so.isSome with
 |true=>have a:=hi.1 e;simp[a]
 |false=>
  have a:bad≠0:=λa=>by rw[hi.2 a] at e;cases e
  simp[a]
def pd (w:x3) (g B:Nat) (H:ak) (N:Nat) (so:Option aE) (w':x3):Prop:=ah (λr=>r=g) w w'/\bJ w' g B H N so
theorem nQ {g:Nat} {H:ak} {so:Option aE} {e at_:Int} (h:bJ w g B H N so) (he:e≠0):am x7 m8 [Γ g,Δ e,Δ at_] w λ_ w'=>pd w g B H N ν w':=by
 refine az func88 ?_;rw[k5 h];cases so with
 |none=>rw[S5,a1];exact⟨ah.refl _ _,h⟩
 |some s=>
  rw[T1,bQ];obtain⟨x,w0,f,y,gs,sv,L,z,j,m,bad,P,big,q,told,h1,A,C,E,G,I,J⟩:=h;rw[bV,aU bx.p rfl];refine bq (g:=g) (o:=3) ai.i rfl rfl E (by simp[gn]) λV K Q M=>?_;rw[bV,aU bx.p rfl];refine bq (g:=g) (o:=4) ai.i rfl rfl M (by simp[gn]) λaa O R a=>?_;have a:ag aa g bx (gn f j m e at_ big q told sv):=a;have r:=K.trans O;obtain⟨_,_,_,_,_,_,_,_,S⟩:=J;exact⟨r,x,w0,f,y,gs,sv,L,z,j,m,e,at_,big,q,told,h1,A.trans r,C,a,G,I,he,Ω⟩
theorem mA {g:Nat} {H:ak} {so:Option aE} {b:Bool} {at_:Int} (h:bJ w g B H N so):am x7 rG [Γ g,.bool b,Δ at_] w λ_ w'=>pd w g B H N (so.map (bd b)) w':=by
 refine az func85 ?_;obtain⟨G,w0,e,I,gs,sv,L,J,f,j,bad,m,big,U,told,h1,K,M,q,O,P,r⟩:=id h;refine aV (λv V=>w=V/\v= .bool (b&&decide (big=0)&&so.isSome)) ?_ ?_
 .rintro _ _ ⟨rfl,rfl⟩;rw[ce];refine⟨λQ=>?_,λaf=>⟨ah.refl _ _,G,w0,e,I,gs,sv,L,J,f,j,bad,m,big,U,told,h1,K,M,q,O,P,?_⟩⟩
  .rw[V1,V1] at Q;obtain⟨⟨W,ac⟩,X⟩:=Q;rw[bV,aU bx.p rfl];refine bq (g:=g) (o:=5) ai.i rfl rfl q (by simp[gn]) λV Y ad Z=>?_;rw[bV,aU bx.p rfl];refine bq (g:=g) (o:=6) ai.i rfl rfl Z (by simp[gn]) λaa ab ae x=>?_;have x:ag aa g bx (gn e f j bad m 5 at_ told sv):=x;have R:=Y.trans ab;refine⟨R,G,w0,e,I,gs,sv,L,J,f,j,bad,m,5,at_,told,h1,K.trans R,M,x,O,P,?_⟩;cases so with
   |none=>cases X
   |some s=>
    obtain⟨y,z,S,A,C⟩:=r;exact⟨y,z,⟨λ_=>by show (s.big||b)=true;rw[W,Bool.or_true],λ_=>Ω⟩,λaJ=>A (S3.1 aJ).1,C⟩
  .cases so with
   |none=>exact r
   |some s=>
    obtain⟨y,z,S,A,C⟩:=r;refine⟨y,z,?_,λaJ=>A (S3.1 aJ).1,C⟩;show big≠0↔(s.big||b)=true;cases b with
    |false=>rw[Bool.or_false];exact S
    |true=>
     have a:big≠0:=by simpa using af
     simp[a]
 .intro aA E;cases b with
  |false=>rw[a1];exact E _ _ ⟨rfl,Ξ⟩
  |true=>
   rw[bQ,aQ bx.p 5 q rfl,bg,al];refine⟨λa=>?_,λa=>E _ _ ⟨rfl,by rw[decide_eq_false a];simp⟩⟩;rw[k5 h];exact E _ _ ⟨rfl,by rw[decide_eq_true a];simp⟩
def jh (so:Option aE):Option (Λ×aE):=so.bind dN
theorem Da {g:Nat} {H:ak} {so:Option aE} (h:bJ w g B H N so):am x7 Gz [Γ g] w λv w'=>pd w g B H N ((jh so).map (·.2)) w'/\ ∃ (t:Λ) (n:Int),v= .agg #[bP t,Δ n]/\Bytes t/\t.length<=65536/\ ∀q,jh so=σ q->t=q.1:=by
 have aF:=h.lt;refine az func84 ?_;refine bD cn.i λa V bk m y=>?_;have h1:=h.ext m;have zero:∀ {f:x3},pd V g B H N ν f->ag f a cn [.string ⟨#[]⟩,Δ 0]->jh so=ν->(ac x7 (Instr.build cn #[]) f λt9=>
   aD x7 (o6 cn (Γ a) t9) f λ(_:Unit) aa=>
   ac x7 (do loadVar cn (<-asAddr (Γ a))) aa λaG=>(λv w'=>pd w g B H N ((jh so).map (·.2)) w'/\ ∃ (t:Λ) (n:Int),v= .agg #[bP t,Δ n]/\Bytes t/\t.length<=65536/\ ∀q,jh so=σ q->t=q.1) aG aa):=by
  intro f j G O;rw[dn (cs:=#[.string ⟨#[]⟩,Δ 0]) Ψ];refine ch (vs:=[.string ⟨#[]⟩,Δ 0]) cn.i rfl rfl (by intro v ad;simp at ad;rcases ad with rfl|rfl<;>rfl) G λaH W bl aI=>?_;rw[fN cn.p cn.i rfl aI.range,O];have aJ:=m.size;have bm:=aF;refine⟨⟨hn ((m.ab _).trans j.1) W λr e he=>?_,j.2.new W λr e=>?_⟩,[],0,rfl,(λb aK=>by cases aK),Ξ,λq P=>by cases P⟩
  .have he:r=a:=he;omega
  .have e:r=a:=e;omega
 rw[qO h1];cases so with
 |none=>
  rw[S5,X9,bQ];exact zero ⟨ah.refl _ _,h1⟩ y rfl
 |some s=>
 rw[T1,Y6,a1];obtain⟨aL,w0,bn,Q,gs,sv,L,X,Y,Z,bad,ae,big,af,told,aM,ai,aj,z,I,aN,aO⟩:=id h1;have aP:=I.g ai aj;obtain⟨⟨J,bo⟩,_⟩:=id aP;obtain⟨aR,an,aS,aT,aV,ao,ap,aW,aX⟩:=id aO;rw[aQ bx.p 0 z rfl,C8 J,bg,al];refine⟨λaq=>?_,λaq=>?_⟩
 .have aY:Q=[]:=j5 Ω;have A:s.toks=[]:=by rw[<-ao,aY];rfl
  have O:jh (σ s)=ν:=by show dN s=ν;unfold dN;rw[A]
  intro f K _ _;have G:=z.ext K;rw[aQ bx.p 2 G rfl,aQ bx.p 1 G rfl];refine (nQ (h1.ext K) an).mono ?_;rintro _ aH _ j;have aZ:=y.lt;exact zero ⟨(K.ab _).trans j.1,j.2⟩ ((y.ext K).ab j.1 λhe=>by have he:a=g:=he;omega) O
 .obtain⟨x,C,rfl⟩:∃x l,Q=x::l:=by
   cases Q with
   |nil=>exact absurd rfl aq
   |cons x l=>exact⟨x,l,rfl⟩
  have A:s.toks=x.1::C.map (·.1):=by rw[<-ao];rfl
  have a2:jh (σ s)=σ (x.1,{s with toks:=C.map (·.1)}):=by show dN s=_;unfold dN;rw[A]
  have au:=ap x.1 (by rw[A];exact .head _);rw[aQ bx.p 0 z rfl];refine C9 J λb o a6=>?_;rw[bR cn.p cn.i rfl a6];refine bD cn.i λav bp br a7 a8=>?_;refine ch (vs:=fH x) cn.i rfl rfl (wp x) a8 λba bb bt aw=>?_;have M:Ext V ba:=a7.put bb Ω;have ax:=z.ext M;rw[aQ bx.p 0 ax rfl];refine NK (J.ab (M.ab λ_=>False) λ_ _ h=>h) λR ay bc=>?_;have aA:=ay V J;rw[bV,aU bx.p rfl];refine bq (g:=g) (o:=0) fc.i (eL aA).1 (eL aA).2 ax (by simp[gn]) λE S bu U=>?_;have U:ag E g bx (gn R Y Z bad ae big af told sv):=U;have aZ:=z.lt;have bw:=aw.lt;have bz:=y.lt;have aJ:=m.size;have bd:ag E av cn (fH x):=aw.ab S λhe=>by have he:av=g:=he;omega
  rw[bR cn.p cn.i rfl bd.range];have be:ag E a cn [.string ⟨#[]⟩,Δ 0]:=(ag.ext y M).ab S λhe=>by have he:a=g:=he;omega
  refine ch (vs:=fH x) cn.i rfl rfl (wp x) be λbA aB bB bf=>?_;rw[fN cn.p cn.i rfl bf.range];have aC:ah (λr=>r=g) V E:=(M.ab _).trans S;rw[a2];refine⟨⟨hn ((m.ab _).trans aC) aB λr e he=>?_,?_⟩,x.1,x.2,rfl,au.1,au.2,λq P=>by cases P;rfl⟩
  .have he:r=a:=he;omega
  .have bh:lT w0 R C gs sv L X:=⟨⟨ay w0 I.1.1,λr e=>I.1.2 r (bc r e)⟩,I.2⟩;have bi:bJ E g B H N (σ {s with toks:=C.map (·.1)}):=⟨aL,w0,R,C,gs,sv,L,X,Y,Z,bad,ae,big,af,told,aM,ai.trans aC,aj,U,bh,aN,aR,an,aS,aT,aV,rfl,λt bj=>ap t (by rw[A];exact .tail _ bj),aW,by simp at aX;omega⟩;refine bi.new aB λr e=>?_;have e:r=a:=e;omega
theorem NP {lo hi:Int} {so:Option aE}:bb lo hi so=match jh so with
  |none=>ν
  |some (w,s)=>match gh w with
   |none=>ν
   |some n=>if lo<=n/\n<=hi then σ (n,s) else ν:=by
 cases so with
 |none=>rfl
 |some s=>rfl
theorem kr {g:Nat} {H:ak} {so:Option aE} {lo hi:Int} (h:bJ w g B H N so):am x7 lx [Γ g,Δ lo,Δ hi] w λv w'=>pd w g B H N ((bb lo hi so).map (·.2)) w'/\ ∃n at_:Int,v= .tuple #[Δ n,Δ at_]/\(∀q,bb lo hi so=σ q->n=q.1)/\(bb lo hi so=ν->n=0):=by
 have ax:=h.lt;refine az func86 ?_;refine (Da h).mono ?_;rintro _ V _ ⟨⟨M,h1⟩,t,at_,rfl,W,ay,O⟩;have aB:=h1.lt;refine bD cn.i λX aa aC Y Z=>?_;refine ch (vs:=[bP t,Δ at_]) cn.i rfl rfl (by intro v ad;simp at ad;rcases ad with rfl|rfl<;>rfl) Z λac ae aD P=>?_;have Q:Ext V ac:=Y.put ae Ω;have af:=h1.ext Q;rw[aM cn.p 0 P rfl];refine (NH W Ω).mono ?_;rintro _ C _ ⟨rfl,E⟩;have G:=af.ext E;have R:=P.ext E;have ag:=Q.trans E;have aF:=M.size;obtain⟨n,e,ai,I,aj⟩:∃n e:Int,kh t= .tuple #[Δ n,Δ e]/\(∀m,gh t=σ m->n=m/\e=0)/\(gh t=ν->e≠0):=by
  unfold kh;cases gh t with
  |none=>exact⟨0,4,rfl,(λm hm=>by cases hm),λ_=>Ω⟩
  |some m=>exact⟨m,0,rfl,(λm hm=>by cases hm;exact⟨rfl,rfl⟩),λh=>by cases h⟩
 rw[ai,bo,bp];have a:=NP (lo:=lo) (hi:=hi) (so:=so);have S:ah (λr=>r=g) w C:=M.trans (ag.ab _);refine dg (λx=>ah (λr=>r=g) C x/\bJ x g B H N ((bb lo hi so).map (·.2))) ?_ ?_
 .rintro x ⟨y,s⟩;rw[qO s];cases z:bb lo hi so with
  |none=>
   rw[z] at s;rw[Option.map_none,S5,X9,bQ];exact⟨⟨S.trans y,s⟩,0,0,rfl,(λq z=>by cases z),λ_=>rfl⟩
  |some q=>
   rw[z] at s a;rw[Z3,T1,Y6,a1];intro aG J _ _;have an:=(R.ab y λhe=>by have he:X=g:=he;omega).ext J;rw[aM cn.p 1 an rfl];refine⟨⟨(S.trans y).trans (J.ab _),s.ext J⟩,n,at_,rfl,λaH ao=>?_,λh=>by cases h⟩;cases ao;cases j:jh so with
   |none=>rw[j] at a;cases a
   |some p=>
    obtain⟨bu,K⟩:=p;have L:=O (bu,K) j;subst L;rw[j] at a;simp only at a;cases f:gh t with
    |none=>rw[f] at a;cases a
    |some m=>
     rw[f] at a;simp only at a;split at a
     .cases a;exact (I m f).1
     .cases a
 .intro aA U;refine aV (λv x=>C=x/\ ∃c:Bool,v= .bool c/\(c=true->bb lo hi so=ν)/\(c=false->(bb lo hi so).map (·.2)=(jh so).map (·.2))) ?_ ?_
  .rintro _ _ ⟨rfl,c,rfl,ap,aq⟩;rw[ce];refine⟨λh=>?_,λh=>U _ ⟨ah.refl _ _,by rw[aq h];exact G⟩⟩;rw[aM cn.p 1 R rfl];refine (nQ G Ω).mono ?_;rintro _ x _ ⟨y,s⟩;exact U _ ⟨y,by rw[ap h];exact s⟩
  .intro aI A;rw[k5 G];cases j:jh so with
   |none=>
    rw[j] at a;simp only at a;rw[Option.map_none,S5,a1];exact A _ _ ⟨rfl,false,rfl,(λh=>by cases h),λ_=>by rw[a,j];rfl⟩
   |some p=>
    obtain⟨bu,K⟩:=p;have L:=O (bu,K) j;subst L;rw[j] at a;simp only at a;rw[Z3,T1,bQ,bm,al];refine⟨λhe=>?_,λhe=>?_⟩
    .refine A _ _ ⟨rfl,true,rfl,λ_=>?_,λh=>by cases h⟩;cases f:gh t with
     |none=>rw[a,f]
     |some m=>exact absurd (I m f).2 he
    .have au:e=0:=Z9.1 he;cases f:gh t with
     |none=>exact absurd au (aj f)
     |some m=>
      rw[f] at a;simp only at a;have av:=(I m f).1;subst av;rw[aO,al];refine⟨λaw=>A _ _ ⟨rfl,true,rfl,λ_=>by rw[a,if_neg Ω],λh=>by cases h⟩,λaw=>?_⟩;rw[bU];refine A _ _ ⟨rfl,_,rfl,λaJ=>?_,λaJ=>?_⟩
      .rw[a,if_neg (by have:=of_decide_eq_true aJ;omega)]
      .rw[a,if_pos (by have:=of_decide_eq_false aJ;omega),j];rfl
theorem wu {bf bv:x1} {a b:Λ} (e:aF .i64 w bf a) (q:aF .i64 w bv b):am x7 rI [bf,bv] w λv w'=>v= .bool (decide (a=b))/\Ext w w':=by
 refine az func147 ?_;rw[aW ax.u e,aW ax.u q,bm,al];refine⟨λh=>⟨by rw[decide_eq_false];intro he;rw[he] at h;exact h rfl,Ext.refl _⟩,λh=>?_⟩;have r:a.length=b.length:=by have:=Z9.1 h;omega
 rw[aW ax.u e];refine bZ.range a.length (λi _ V=>Ext w V/\a.take i=b.take i) e.le ⟨Ext.refl _,rfl⟩ ?_ ?_
 .rintro i _ V k hi ⟨m,f⟩ hk;obtain⟨x,J⟩:=aH (l:=a) hi;obtain⟨y,p⟩:=aH (l:=b) (i:=i) Ω;refine bH Ω ?_;intro aa s _ _;have j:=m.trans s;rw[bc ax.u ap.i Ψ (e.ext j) J,bc ax.u ap.i Ψ (q.ext j) p,bm,al];refine⟨λz=>⟨by rw[decide_eq_false];intro he;rw[he,p] at J;exact z (b6 J).symm,j⟩,λhe=>?_⟩;rw[aP];refine hk _ _ ⟨j,?_⟩;rw[u9,u9,f,J,p,Z9.1 he]
 .rintro _ V k ⟨m,f⟩;rw[aO,al];refine⟨λh=>Ω,λ_=>⟨?_,m⟩⟩;rw[p9,r,p9] at f;rw[decide_eq_true f]
def ha (w:x3) (B a:Nat) (x:cw):Prop:=∃aG szv b3 g1 e f,ag w a ba [aG,szv,Δ x.other,b3]/\au .i64 ap w g1 aG x.scope/\au .i64 ap w e szv x.sizes/\kq w f b3 x.lines/\(∀r,leads aG r\/leads szv r->B<=r)/\(∀r,leads aG r->¬leads szv r)/\B<=a
def Db (w:x3) (r:Nat):Prop:=(∃e c,ag w r e c/\e≠ap/\e≠b5/\e≠ba)\/w.heap.size<=r
theorem ha.dI {f:Nat} {x:cw} (h:ha w B f x) (a:ah S w w') (p:∀r,S r->Db w r):ha w' B f x:=by
 obtain⟨aG,szv,b3,g1,q,s,h1,y,z,A,C,E,F⟩:=h;have j:∀r,S r->gZ w r\/w.heap.size<=r:=λr G=>(p r G).imp (λ⟨e,c,m,H,I,_⟩=>⟨e,c,m,H,I⟩) id;refine⟨aG,szv,b3,g1,q,s,h1.ab a λU=>?_,eB y a j,eB z a j,A.dI a j,C,E,F⟩;rcases p f U with⟨e,c,m,_,_,J⟩|K
 .exact J (e7 m h1)
 .have:=h1.lt;omega
theorem ha.ext {x:cw} (h:ha w B a x) (J:Ext w w'):ha w' B a x:=h.dI (J.ab λ_=>False) λ_ h=>h.elim
theorem kt {g:Nat} {H:ak} {so:Option aE} (h:bJ w g B H N so):∀r,r=g->Db w r:=λr a=>by
 subst a;obtain⟨f,j,m,bad,p,big,q,told,sv,e,_⟩:=hU h;exact .inl ⟨_,_,e,Φ,Φ,Φ⟩
def gK (g B:Nat):ak:=λr=>r=g\/B<=r
theorem NQ {n:Int} {acc:Λ} {s:aE}:cO (λacc s=>match bh 0 (n-1) s with
 |none=>ν
 |some (v,s)=>if v∈acc then ν else σ (v,s)) (k+1) acc s=match bh 0 (n-1) s with
  |none=>ν
  |some (v,s')=>if v∈acc then ν else cO (λacc s=>match bh 0 (n-1) s with
 |none=>ν
 |some (v,s)=>if v∈acc then ν else σ (v,s)) k (acc++[v]) s':=by
 rw[cO];cases bh 0 (n-1) s with
 |none=>rfl
 |some q=>
  obtain⟨v,s'⟩:=q;simp only;by_cases ad:v∈acc
  .rw[if_pos ad,if_pos ad]
  .rw[if_neg ad,if_neg ad]
def Dc (n:Int) (k:Nat) (acc:Λ) (s:aE):Option (Λ×aE):=cO (λacc s=>match bh 0 (n-1) s with
 |none=>ν
 |some (v,s)=>if v∈acc then ν else σ (v,s)) k acc s
theorem Dd {g f ar:Nat} {H:ak} {s:aE} {so:Option aE} {Z:x1} {aN aQ:x3->Prop} (aJ:bJ w g B H N so) (b2:so=σ s\/(so=ν/\ar=0)) (b4:ha w B f ⟨[],[],0,[]⟩) (b5:∀c,ag w f ba c->c[3]? =σ (.slice ν 0 0)) (bE:au .i64 ap w gz Z all) (b8:∀r,leads Z r->r<B) (dk:all.length<=100001) (dl:ar<=4611686018427387904) (aR:so=σ s->s.toks.length<=100000)
  (ao:so=σ s-> ∀w' x,ah (gK g B) w w'->eZ all.length ar s=ν->bJ w' g B H N ν->ha w' B f x->aN w')
  (ca:so=ν->aQ w)
  (aS:so=σ s-> ∀w' scope s',ah (gK g B) w w'->eZ all.length ar s=σ (scope,s')->bJ w' g B H N (σ s')->ha w' B f ⟨scope,scope.map λv=>all.getD v.toNat 0,0,[]⟩->(∀c,ag w' f ba c->c[3]? =σ (.slice ν 0 0))->aQ w'):
  cz (Δ 0) w λi m k=>
   cv (α:=x1->x3->Prop) (λ(cb:x1) (J:x3)=>
    Split cb (ac x7 (W8 #[ax] ai #[Z]) J λt53=>
   ac x7 (aL .sub ap false true t53 (Δ 1)) J λcc=>
   am x7 lx [Γ g,(Δ 0),cc] J λt55 z=>
   ac x7 (Z7 t55 0) z λaT=>
   ac x7 (Z7 t55 1) z λcd=>
   ac x7 (bM (Γ g)) z λce=>
   ac x7 (u5 bx ce 3) z λcg=>
   ac x7 (u4 ai cg) z λch=>
   ac x7 (aL .neq ai false true ch (Δ 0)) z λci=>
   Split ci (aN z)
    (ac x7 (u5 ba (Γ f) 0) z λcj=>
   ac x7 (u4 ax cj) z λbF=>
   ac x7 (W8 #[ax] ai #[bF]) z λt66=>
   cz (Δ 0) z λaX C ck=>
    ac x7 (aL .lss ai false false aX t66) C λcl=>
    Split cl (ac x7 (j4 ax bF aX) C λcm=>
    ac x7 (u4 ap cm) C λt70=>
    ac x7 (aL .eql ap false false t70 aT) C λcn=>
    Split cn (am x7 m8 [Γ g,(Δ 4),cd] C λt76 aY=>aN aY)
     (ac x7 (aL .add ai false true aX (Δ 1)) C λcp=>
    ck cp C))
     (ac x7 (u5 ba (Γ f) 0) C λcq=>
   ac x7 (u4 ax cq) C λcr=>
   aD x7 (Y4 ax 1 #[(0,aT)]) C λct aa=>
   aD x7 (b9 #[ax,ax] ax #[cr,ct]) aa λcu aZ=>
   ac x7 (u5 ba (Γ f) 0) aZ λcw=>
   aD x7 (o6 ax cw cu) aZ λ(_:Unit) O=>
   er O λQ=>
   ac x7 (u5 ba (Γ f) 1) Q λa2=>
   ac x7 (u4 ax a2) Q λbG=>
   ac x7 (j4 ax Z aT) Q λcA=>
   ac x7 (u4 ap cA) Q λcB=>
   aD x7 (Y4 ax 1 #[(0,cB)]) Q λcC Y=>
    (Ext Q Y\/cD x7 (u4 ax a2) bG Y/\cD x7 (u5 ba (Γ f) 1) a2 Y/\True)/\
   aD x7 (b9 #[ax,ax] ax #[bG,cC]) Y λcE a6=>
    ac x7 (u5 ba (Γ f) 1) a6 λcF=>
    aD x7 (o6 ax cF cE) a6 λ(_:Unit) R=>
     ac x7 (aL .add ap false true i (Δ 1)) R λcG=>
   k cG R)))
     (aQ J)) λbI=>
   ac x7 (aL .lss ap false false i (Δ (ar:Int))) m λcH=>
   Split cH (ac x7 (bM (Γ g)) m λcI=>
   ac x7 (u5 bx cI 3) m λcJ=>
   ac x7 (u4 ai cJ) m λt45=>
   ac x7 (aL .eql ai false true t45 (Δ 0)) m λt46=>
   bI t46 m)
    (bI (.bool false) m):=by
 have dm:=aJ.lt;rcases b2 with rfl|⟨rfl,rfl⟩
 rotate_left
 .refine cz.range 0 (λ_ V=>w=V) Ω rfl (λi V k hi=>Ω) ?_;rintro _ k rfl;refine aV (λv J=>w=J/\v= .bool false) ?_ ?_
  .rintro _ _ ⟨rfl,rfl⟩;rw[a1];exact ca rfl
  .intro aA ae;rw[aO,al];exact⟨λh=>Ω,λ_=>ae _ _ ⟨rfl,rfl⟩⟩
 have h:=aJ;have aR:=aR rfl;have ao:=ao rfl;have aS:=aS rfl;refine cz.range ar (λi m=>∃scope K,ah (gK g B) w m/\bJ m g B H N (σ K)/\ha m B f ⟨scope,scope.map λv=>all.getD v.toNat 0,0,[]⟩/\scope.length=i/\scope.length+K.toks.length<=100000/\eZ all.length ar s=Dc all.length (ar-i) scope K/\ ∀c,ag m f ba c->c[3]? =σ (.slice ν 0 0)) Ω ⟨[],s,ah.refl _ _,h,b4,rfl,by simpa using aR,rfl,b5⟩ ?_ ?_
 rotate_left
 .rintro m k ⟨scope,K,aq,P,av,bK,cK,A,a7⟩;refine aV (λv J=>m=J/\v= .bool false) ?_ ?_
  .rintro _ _ ⟨rfl,rfl⟩;rw[a1];rw[V7] at A;exact aS m scope K aq A P av a7
  .intro aA ae;rw[aO,al];exact⟨λh=>Ω,λ_=>ae _ _ ⟨rfl,rfl⟩⟩
 rintro i m k hi ⟨scope,K,aq,P,av,bK,cK,A,a7⟩ hk;refine aV (λv J=>m=J/\v= .bool true) ?_ ?_
 rotate_left
 .intro aA ae;refine bH Ω ?_;rw[k5 P];exact ae _ _ ⟨rfl,rfl⟩
 rintro _ _ ⟨rfl,rfl⟩;rw[bQ];have bL:∀ {w':x3},ah (gK g B) w w'->au .i64 ap w' gz Z all:=λcL=>br bE cL λr e U=>by
  rcases U with rfl|U
  .obtain⟨cM,E,af,bad,cN,big,cO,told,sv,G,_⟩:=hU h;exact b7 bE G Φ e rfl
  .have:=b8 r e;omega
 rw[aW ax.u (bL aq).ls,dF,wrap_i64 Ω Ω];refine (kr P).mono ?_;rintro _ z _ ⟨⟨a8,I⟩,n,at_,rfl,bd,cP⟩;rw[bo,bp,qO I];have be:=av.dI a8 (kt P);have bf:ah (gK g B) w z:=aq.trans (a8.mono λr _ h=>.inl h);have cQ:=NQ (n:=(all.length:Int)) (k:=ar-(i+1)) (acc:=scope) (s:=K);have cS:ar-i=(ar-(i+1))+1:=Ω
 rw[cS] at A;unfold Dc at A;rw[cQ] at A;have cT:bb 0 ((all.length:Int)-1) (σ K)=bh 0 ((all.length:Int)-1) K:=rfl;rw[cT] at I bd cP ⊢;cases aw:bh 0 ((all.length:Int)-1) K with
 |none=>
  rw[aw] at I A;rw[Option.map_none,S5,X9,bQ];exact ao z _ bf A I be
 |some q=>
  obtain⟨v,bi⟩:=q;rw[aw] at I A bd;have cU:n=v:=bd _ rfl;subst cU;have dn:=(hQ aw).1;have dp:=(dC aw).1;simp only at A;rw[Z3,T1,Y6,a1];have I:bJ z g B H N (σ bi):=I;obtain⟨aG,szv,b3,g1,cV,bj,f1,f2,f3,f4,f5,f6,f7⟩:=id be;rw[aM ba.p 0 f1 rfl,aW ax.u f2.ls];have dq:scope.length<=100000:=Ω
  refine cz.range scope.length (λj C=>z=C/\n∉scope.take j) Ω ⟨rfl,Ξ⟩ ?_ ?_
  .rintro j _ cW cX ⟨rfl,ay⟩ cY;obtain⟨u,hu⟩:=aH (l:=scope) cX;rw[aO,al];refine⟨λ_=>?_,λh=>by simp only at h;omega⟩;rw[bc ax.u ap.i Ψ f2.ls hu,bg,al];refine⟨λhe=>?_,λcZ=>?_⟩
   .refine (nQ I Ω).mono ?_;rintro _ aY _ ⟨bN,c0⟩;rw[if_pos (by rw[<-he];exact x5 hu)] at A;exact ao aY _ (bf.trans (bN.mono λr _ h=>.inl h)) A c0 (be.dI bN (kt I))
   .rw[aP];refine cY _ ⟨rfl,?_⟩;rw[u9,hu];intro hm;rcases o7.1 hm with hm|hm
    .exact ay hm
    .simp at hm;exact cZ hm.symm
  .rintro _ cW ⟨rfl,ay⟩;rw[p9] at ay;rw[aO,al];refine⟨λh=>by simp only at h;omega,λ_=>?_⟩;rw[if_neg ay] at A;rw[aM ba.p 0 f1 rfl];refine ew ax.u ap.i rfl λdr ds aa dt M c1=>?_;have du:=I.lt;refine hx ax.u ap.i rfl (f2.ext M) c1.ls Θ Θ λS bk aZ az c2 bP=>?_;have aB:=f1.ext M;have f113:=aB.ab bP λhe=>b7 (f2.ext M) aB Φ he rfl;rw[aU ba.p rfl];refine bq (g:=f) (o:=0) ax.i az.ls.cells.1 az.ls.cells.2 f113 Ξ λO bR dv aC=>?_;have aC:ag O f ba [S,szv,Δ 0,b3]:=aC;intro Q bl _ _;have aj:ah (λr=>leads aG r\/r=f) aa O:=(bP.mono λr _ h=>.inl h).trans (bR.mono λr _ h=>.inr h);have bS:∀r,(leads aG r\/r=f)->gK g B r:=λr e=>.inr (e.elim (λe=>f5 r (.inl e)) λe=>e▸f7);have bT:ah (gK g B) w O:=(bf.trans (M.ab _)).trans (aj.mono λr _ e=>bS r e);have c3:ah (gK g B) w Q:=bT.trans (bl.ab _);have c4:au .i64 ap O cV szv _:=br (f3.ext M) aj λr e U=>by
    rcases U with U|rfl
    .exact f6 r U e
    .exact b7 (f3.ext M) aB Φ e rfl
   have c5:au .i64 ap O bk S (scope++[n]):=br az bR λr e he=>by
    have he:r=f:=he;subst he;exact b7 az f113 Φ e rfl
   have c6:∀r,(leads aG r\/r=f)->(∃c,ag aa r ap c)\/ ∃c,ag aa r ba c:=λr e=>by
    rcases e with e|rfl
    .obtain⟨E,_⟩:=bO f2 e;obtain⟨_,⟨ad,_⟩|⟨_,cs,ad,G,_⟩⟩:=f2.ext M
     .rw[ad] at e;obtain⟨a,c7,c,E,af⟩:=e;cases E
     .exact .inl ⟨cs,E▸G⟩
    .exact .inr ⟨_,aB⟩
   have c8:kq O bj b3 []:=by
    obtain⟨L,W,c9,bm⟩:=f4.dI (M.ab λ_=>False) λ_ h=>h.elim;have bn:L=[]:=List.map_eq_nil_iff.1 bm;subst bn;refine⟨[],W.ab aj λr e U=>?_,λy bt=>(by cases bt),rfl⟩;rcases c6 r U with⟨c,G⟩|⟨c,G⟩
    .exact cR W G Φ e
    .exact cR W G Φ e
   have da:bJ O g B H N (σ bi):=(I.ext M).new aj λr e=>by
    rcases bS r e with rfl|h
    .rcases e with e|e
     .exact f5 _ (.inl e)
     .exact e▸f7
    .exact h
   rw[aM ba.p 1 (aC.ext bl) rfl];have db:all[n.toNat]? =σ (all.getD n.toNat 0):=by rw[v8,x6 Ω];rfl
   rw[fM (y:=n) (i:=n.toNat) Ω ax.u ap.i Ψ (bL c3).ls db];refine ew ax.u ap.i rfl λdw dx Y dy bU dc=>?_;refine⟨.inl bU,?_⟩;have X:=bl.trans bU;have f316:=c4.ext X;have bV:(scope.map λv=>all.getD v.toNat 0).length=scope.length:=u7 _;refine hx ax.u ap.i rfl f316 dc.ls (by simp at bV ⊢;omega) (by simp at bV ⊢;omega) λbu dd a6 aF bW bX=>?_;have aI:=aC.ext X;have bY:=aI.ab bX λhe=>b7 f316 aI Φ he rfl;rw[aU ba.p rfl];refine bq (g:=f) (o:=1) ax.i aF.ls.cells.1 aF.ls.cells.2 bY Ξ λR bZ dz an=>?_;have an:ag R f ba [S,bu,Δ 0,b3]:=an;rw[aP];have aK:ah (λr=>leads szv r\/r=f) Y R:=(bX.mono λr _ h=>.inl h).trans (bZ.mono λr _ h=>.inr h);have b0:∀r,(leads szv r\/r=f)->B<=r:=λr e=>e.elim (λe=>f5 r (.inr e)) λe=>e▸f7;have bw:=c5.ext X;have dA:=M.size;have dD:=aj.size;have bz:∀r,leads S r->B<=r/\¬leads szv r:=λr e=>by
    rcases c2 r e with h|h
    .exact⟨f5 r (.inl h),f6 r h⟩
    .exact⟨Ω,λbA=>by obtain⟨E,af⟩:=bO f3 bA;omega⟩
   have de:au .i64 ap R bk S (scope++[n]):=br bw aK λr e U=>by
    rcases U with U|rfl
    .exact (bz r e).2 U
    .exact b7 bw aI Φ e rfl
   have df:=br aF bZ λr e he=>by
    have he:r=f:=he;subst he;exact b7 aF bY Φ e rfl
   have dg:kq R bj b3 []:=by
    obtain⟨L,W,c9,bm⟩:=c8.dI (X.ab λ_=>False) λ_ h=>h.elim;have bn:L=[]:=List.map_eq_nil_iff.1 bm;subst bn;refine⟨[],W.ab aK λr e U=>?_,λy bt=>(by cases bt),rfl⟩;rcases U with U|rfl
    .obtain⟨E,_⟩:=bO f316 U;obtain⟨_,⟨ad,_⟩|⟨_,cs,ad,G,_⟩⟩:=f316
     .rw[ad] at U;obtain⟨a,c7,c,E,af⟩:=U;cases E
     .exact cR W (E▸G) Φ e
    .exact cR W aI Φ e
   refine hk _ ⟨scope++[n],bi,((bT.trans (X.ab _)).trans (aK.mono λr _ e=>.inr (b0 r e))),(da.ext X).new aK b0,⟨S,bu,b3,bk,dd,bj,an,de,by rw[Z0];exact df,dg,λr e=>?_,λr e bA=>?_,f7⟩,by rw[o4,bK];rfl,by rw[o4];simp;omega,A,λc bB=>?_⟩
   .rcases e with e|e
    .exact (bz r e).1
    .rcases bW r e with h|h
     .exact f5 r (.inr h)
     .have:=X.size;omega
   .rcases bW r bA with h|h
    .exact (bz r e).2 h
    .obtain⟨E,af⟩:=bO bw e;omega
   .have dh:c=[S,bu,Δ 0,b3]:=by
     unfold ag at bB an;rw[an] at bB;have:=(Obj.cells.inj (b6 bB)).1;exact (Array.toList_inj.2 this).symm
    have di:b3= .slice ν 0 0:=by
     obtain⟨dE,dG,dH,_,_,_,bC,_⟩:=av;have b1:=a7 _ bC;have bD:=bC.ab a8 λhe=>by
      have he:f=g:=he;obtain⟨cM,E,af,bad,cN,big,cO,told,sv,G,_⟩:=hU P;subst he;exact absurd (e7 G bC) Φ
     unfold ag at bD f1;rw[f1] at bD;have dj:=Array.toList_inj.2 (Obj.cells.inj (b6 bD)).1;have P:=congrArg (λl=>l[3]?) dj;simp at P;simp at b1;rw[P,b1]
    rw[dh,di];rfl
theorem NR {s:x1->x3->Prop} (h:aF .i64 w sv l) (h1:∀z∈l,1<=z) (H:∀c:Int,(4096<c↔dq l=true)->s (Δ c) w):
  bZ (Δ 1) (Δ 0) w λx m a I=>
   ac x7 (aL .lss ai false false m (Δ (l.length:Int))) a λJ=>
   Split J (cv (α:=x1->x3->Prop) (λ(K:x1) (y:x3)=>
    ac x7 (aL .add ai false true m (Δ 1)) y λL=>
    I K L y) λA=>
   ac x7 (j4 ax sv m) a λM=>
   ac x7 (u4 ap M) a λB=>
   cv (α:=x1->x3->Prop) (λ(N:x1) (f:x3)=>
    ac x7 (aL .mul ap false false x N) f λC=>
    ac x7 (aL .gtr ap false true C (Δ 4096)) f λO=>
    Split O (A (Δ 4097) f)
     (A C f)) λE=>
   ac x7 (aL .gtr ap false true B (Δ 4096)) a λP=>
   Split P (E (Δ 4097) a)
    (E B a))
    (s x a):=by
 refine bZ.range l.length (λi c V=>w=V/\ ∃p:Int,p=aN ((l.take i).map λk=>min k 4097)/\1<=p/\c=Δ (if 4096<p then 4097 else p)) h.le ⟨rfl,1,by simp[aN],Ω,by rw[if_neg Ω]⟩ ?_ ?_
 .rintro i _ _ Q hi ⟨rfl,p,j,R,rfl⟩ S;obtain⟨z,q⟩:=aH (l:=l) hi;have W:=h1 z (x5 q);have e:aN ((l.take (i+1)).map λk=>min k 4097)=p*min z 4097:=by
   rw[j,u9,q,o9,Z0,U7,List.map_nil,Bc]
  have X:p*1<=p*min z 4097:=Int.mul_le_mul_of_nonneg_left Ω Ω;refine bH Ω ?_;refine aV (λv aa=>w=aa/\v=Δ (if 4096<p*min z 4097 then 4097 else p*min z 4097)) ?_ ?_
  .rintro _ _ ⟨rfl,rfl⟩;rw[aP];exact S _ _ ⟨rfl,_,e.symm,Ω,rfl⟩
  intro aA r;rw[bc ax.u ap.i Ψ h q];refine aV (λv aa=>w=aa/\v=Δ (min z 4097)) ?_ ?_
  .rintro _ _ ⟨rfl,rfl⟩;rw[hI];by_cases F:4096<p
   .rw[if_pos F];have U:(4097:Int)*1<=4097*min z 4097:=Int.mul_le_mul_of_nonneg_left Ω Ω;rw[wrap_i64 Ω Ω,bU,al];refine⟨λ_=>r _ _ ⟨rfl,by rw[if_pos Ω]⟩,λY=>Ω⟩
   .rw[if_neg F];have U:p*min z 4097<=4096*4097:=by
     have Z:=Int.mul_le_mul_of_nonneg_right (show p<=4096 by omega) (show 0<=min z 4097 by omega);have ab:=Int.mul_le_mul_of_nonneg_left (show min z 4097<=4097 by omega) (show (0:Int)<=4096 by omega);omega
    rw[wrap_i64 Ω Ω,bU,al];exact⟨λaJ=>r _ _ ⟨rfl,by rw[if_pos aJ]⟩,λaJ=>r _ _ ⟨rfl,by rw[if_neg aJ]⟩⟩
  .intro ad G;rw[bU,al];exact⟨λaJ=>G _ _ ⟨rfl,by congr 1;omega⟩,λaJ=>G _ _ ⟨rfl,by congr 1;omega⟩⟩
 .rintro _ _ Q ⟨rfl,p,j,R,rfl⟩;rw[p9] at j;rw[aO,al];refine⟨λh=>Ω,λ_=>H _ ?_⟩;unfold dq;rw[<-j,decide_eq_true_eq];split
  .exact⟨λ_=>Ω,λ_=>Ω⟩
  .exact Iff.rfl
theorem NS {g aq:Nat} {H:ak} {so:Option aE} {szv:x1} {Y:x3->Prop} (h:bJ w g B H N so) (C:au .i64 ap w gz szv sizes) (aF:∀z∈sizes,1<=z/\z<=aw) (bn:sizes.length<=100001)
  (Q:ag w aq b5 [.slice ν 0 0,Δ 0]) (aG:B<=aq)
  (Z:∀t w' aI gt,t.length=sizes.length->ah (λr=>r=g\/r=aq\/w.heap.size<=r) w w'->ag w' aq b5 [aI,Δ 0]->au .i64 ap w' gt aI t->(∀r,leads aI r->w.heap.size<=r)->bJ w' g B H N ((e0 sizes [] so).map (·.2))->(∀q,e0 sizes [] so=σ q->t=q.1)->Y w'):
  cz (Δ 0) w λR s aJ=>
      ac x7 (aL .lss ai false false R (Δ (sizes.length:Int))) s λaK=>
      Split aK (ac x7 (j4 ax szv R) s λaN=>
      ac x7 (u4 ap aN) s λaO=>
      ac x7 (aL .sub ap false true aO (Δ 1)) s λaQ=>
      am x7 lx [Γ g,(Δ 0),aQ] s λad E=>
      ac x7 (Z7 ad 0) E λaR=>
      ac x7 (Z7 ad 1) E λbt=>
      ac x7 (u5 b5 (Γ aq) 0) E λaS=>
      ac x7 (u4 ax aS) E λaT=>
      aD x7 (Y4 ax 1 #[(0,aR)]) E λaV aW=>
      aD x7 (b9 #[ax,ax] ax #[aT,aV]) aW λaX ae=>
      ac x7 (u5 b5 (Γ aq) 0) ae λaY=>
      aD x7 (o6 ax aY aX) ae λ(_:Unit) af=>
      ac x7 (aL .add ai false true R (Δ 1)) af λaZ=>
      aJ aZ af)
       (Y s):=by
 have bu:=Q.lt;have bw:=h.lt;refine cz.range sizes.length (λj V=>∃t aI gt f,t.length=j/\ah (λr=>r=g\/r=aq\/w.heap.size<=r) w V/\ag V aq b5 [aI,Δ 0]/\au .i64 ap V gt aI t/\(∀r,leads aI r->w.heap.size<=r)/\bJ V g B H N f/\e0 sizes [] so=e0 (sizes.drop j) t f) C.ls.le
  ⟨[],_,0,so,rfl,ah.refl _ _,Q,au.nil _ _ _ _,(λr e=>by obtain⟨a,n,c,K,S⟩:=e;cases K),h,rfl⟩ ?_ ?_
 rotate_left
 .rintro V a1 ⟨t,aI,gt,f,L,x,M,G,y,I,he⟩;refine cp Ω ?_;rw[List.drop_length] at he;cases f with
  |none=>
   have he:e0 sizes [] so=ν:=he;exact Z t V aI gt L x M G y (by rw[he];exact I) (λq m=>by rw[he] at m;cases m)
  |some f=>
   have he:e0 sizes [] so=σ (t,f):=he;exact Z t V aI gt L x M G y (by rw[he];exact I) (λq m=>by rw[he] at m;cases m;rfl)
 rintro j V a1 aj ⟨t,aI,gt,f,L,x,M,G,y,I,he⟩ a2;obtain⟨z,W⟩:=aH (l:=sizes) aj;have a6:=aF z (x5 W);have bz:z<=4611686018427387904:=a6.2;have a7:au .i64 ap V gz szv sizes:=br C x λr e U=>by
  rcases U with rfl|rfl|U
  .obtain⟨a8,K,S,bad,ba,big,bd,told,sv,J,_⟩:=hU h;exact b7 C J Φ e rfl
  .exact b7 C Q Φ e rfl
  .obtain⟨K,S⟩:=bO C e;omega
 refine bH Ω ?_;rw[bc ax.u ap.i Ψ a7.ls W,dF,wrap_i64 Ω Ω];refine (kr I).mono ?_;rintro _ aa _ ⟨⟨O,be⟩,n,at_,rfl,bf,bA⟩;rw[bo,bp];have bg:aq≠g:=Ω
 have al:=M.ab O λhe=>bg he;have bh:∃c,ag V g bx c:=by obtain⟨a8,K,S,bad,ba,big,bd,told,sv,J,_⟩:=hU I;exact⟨_,J⟩
 have an:au .i64 ap aa gt aI t:=br G O λr e he=>by
  have he:r=g:=he;obtain⟨c,J⟩:=bh;exact b7 G J Φ e he
 rw[aM b5.p 0 al rfl];refine ew ax.u ap.i rfl λa3 bB bi bC A bj=>?_;refine hx ax.u ap.i rfl (an.ext A) bj.ls Θ Θ λao bk bD P bl av=>?_;have ay:=al.ext A;have az:=ay.ab av λhe=>b7 (an.ext A) ay Φ he rfl;rw[aU b5.p rfl];refine bq (g:=aq) (o:=0) ax.i P.ls.cells.1 P.ls.cells.2 az Ξ λaA aB bE X=>?_;have X:ag aA aq b5 [ao,Δ 0]:=X;rw[aP];have aC:ah (λr=>leads aI r\/r=aq) bi aA:=(av.mono λr _ h=>.inl h).trans (aB.mono λr _ h=>.inr h);have bF:=x.size;have bG:=O.size;have z3:=A.size;refine a2 _ ⟨t++[n],ao,bk,(bb 0 (z-1) f).map (·.2),by simp[L],?_,X,br P aB λr e he=>?_,λr e=>?_,?_,?_⟩
 .refine (x.trans (O.mono λr _ h=>.inl h)).trans ((A.ab _).trans (aC.mono λr _ h=>?_));exact h.elim (λh=>.inr (.inr (y r h))) λh=>.inr (.inl h)
 .have he:r=aq:=he;subst he;exact b7 P az Φ e rfl
 .rcases bl r e with h|h
  .exact y r h
  .omega
 .refine (be.ext A).new aC λr e=>?_;rcases e with e|rfl
  .have:=y r e;omega
  .exact aG
 .rw[he];have bm:sizes.drop j=z::sizes.drop (j+1):=by rw[X5 aj,(x4.1 W).2]
  rw[bm,BN];cases m:bb 0 (z-1) f with
  |none=>rfl
  |some q=>
   obtain⟨v,bI⟩:=q;have:=bf _ m;subst this;rfl
theorem wv {g:Nat} {t:Λ} {c:Int} (h:au .i64 ap w g v t):∀u∈nP ⟨v,t,c⟩,u.oneCell'=true:=by
 intro u hu;simp[nP] at hu;rcases hu with rfl|rfl
 .exact h.ls.cells.2
 .rfl
def NT (sizes:Λ) (cnt i:Nat) (s0:aE) (A:List (Λ×Int)) (so:Option aE):Prop:=(∃s,so=σ s/\cO (dO sizes) cnt [] s0=cO (dO sizes) (cnt-i) A s/\A.length+s.toks.length<=100000)\/(so=ν/\cO (dO sizes) cnt [] s0=ν)
theorem NU {g G g1 a6 R:Nat} {H:ak} {s0:aE} {aG szv b3:x1} {scope:Λ} {o n:Int} {aB:List (Λ×Int)} {bY:x3->Prop} (h:bJ w g B H N (σ s0)) (f1:ag w G ba [aG,szv,Δ o,b3]) (f2:au .i64 ap w g1 aG scope) (f3:au .i64 ap w a6 szv sizes) (f4:kq w R b3 aB)
  (f5:∀r,leads aG r\/leads szv r->B<=r) (f6:∀r,leads aG r->¬leads szv r) (f7:B<=G) (cV:∀z∈sizes,1<=z/\z<=aw) (cW:sizes.length<=100001) (eS:n<=4611686018427387904) (bn:0<n->aB=[]/\ ∀r,¬leadsTo b3 r) (cX:s0.toks.length<=100000)
  (bZ:∀w' A bt,ah (gK g B) w w'->ha w' B G ⟨scope,sizes,o,A⟩->bJ w' g B H N bt->(n<=0->A=aB/\bt=σ s0)->(0<n->bt=(cO (dO sizes) n.toNat [] s0).map (·.2)/\ ∀q,cO (dO sizes) n.toNat [] s0=σ q->A=q.1)->bY w'):
  cz (Δ 0) w λb0 Z cY=>
     cv (α:=x1->x3->Prop) (λ(cZ:x1) (b1:x3)=>
      Split cZ (aD x7 (S7 b5 true (.tuple #[])) b1 λx W=>
     ac x7 (u5 ba (Γ G) 1) W λc0=>
     ac x7 (u4 ax c0) W λb2=>
     ac x7 (W8 #[ax] ai #[b2]) W λc1=>
     cz (Δ 0) W λbw ad c2=>
      ac x7 (aL .lss ai false false bw c1) ad λc3=>
      Split c3 (ac x7 (j4 ax b2 bw) ad λc4=>
      ac x7 (u4 ap c4) ad λc5=>
      ac x7 (aL .sub ap false true c5 (Δ 1)) ad λc6=>
      am x7 lx [Γ g,(Δ 0),c6] ad λb4 aC=>
      ac x7 (Z7 b4 0) aC λc7=>
      ac x7 (Z7 b4 1) aC λeU=>
      ac x7 (u5 b5 x 0) aC λc8=>
      ac x7 (u4 ax c8) aC λc9=>
      aD x7 (Y4 ax 1 #[(0,c7)]) aC λda db=>
      aD x7 (b9 #[ax,ax] ax #[c9,da]) db λdc b6=>
      ac x7 (u5 b5 x 0) b6 λdd=>
      aD x7 (o6 ax dd dc) b6 λ(_:Unit) b8=>
      ac x7 (aL .add ai false true bw (Δ 1)) b8 λde=>
      c2 de b8)
       (am x7 lx [Γ g,(Δ 0),(Δ 4611686018427387904)] ad λca C=>
     ac x7 (Z7 ca 0) C λdf=>
     ac x7 (Z7 ca 1) C λdh=>
     ac x7 (u5 ba (Γ G) 3) C λdi=>
     ac x7 (u4 dW di) C λcb=>
     ac x7 (W8 #[dW] ai #[cb]) C λdj=>
     cz (Δ 0) C λbz I dk=>
      ac x7 (aL .lss ai false false bz dj) I λdl=>
      Split dl (cv (α:=x3->Prop) (λ(ao:x3)=>
       ac x7 (aL .add ai false true bz (Δ 1)) ao λdm=>
       dk dm ao) λcc=>
      ac x7 (j4 dW cb bz) I λdn=>
      ac x7 (u4 b5 dn) I λdp=>
      aD x7 (S7 b5 true (.tuple #[])) I λy cd=>
      aD x7 (o6 b5 y dp) cd λ(_:Unit) J=>
      cv (α:=x1->x3->Prop) (λ(dq:x1) (aF:x3)=>
       Split dq (am x7 m8 [Γ g,(Δ 4),dh] aF λeV ce=>
        cc ce)
        (cc aF)) λcg=>
      ac x7 (bM (Γ g)) J λdr=>
      ac x7 (u5 bx dr 3) J λds=>
      ac x7 (u4 ai ds) J λdt=>
      ac x7 (aL .eql ai false true dt (Δ 0)) J λdu=>
      Split du (ac x7 (u5 b5 x 0) J λdv=>
       ac x7 (u4 ax dv) J λdw=>
      ac x7 (u5 b5 y 0) J λdy=>
      ac x7 (u4 ax dy) J λdz=>
      am x7 rI [dw,dz] J λdA ci=>
      cg dA ci)
       (cg (.bool false) J))
       (ac x7 (u5 b5 x 1) I λdD=>
     aD x7 (o6 ap dD df) I λ(_:Unit) X=>
     ac x7 (u5 ba (Γ G) 3) X λdE=>
     ac x7 (u4 dW dE) X λdF=>
     ac x7 (u4 b5 x) X λdG=>
     aD x7 (Y4 dW 1 #[(0,dG)]) X λdH a7=>
     aD x7 (b9 #[dW,dW] dW #[dF,dH]) a7 λdJ bA=>
     ac x7 (u5 ba (Γ G) 3) bA λdK=>
     aD x7 (o6 dW dK dJ) bA λ(_:Unit) Y=>
     ac x7 (aL .add ap false true b0 (Δ 1)) Y λdL=>
     cY dL Y)))
       (bY b1)) λcj=>
     ac x7 (aL .lss ap false false b0 (Δ n)) Z λdM=>
     Split dM (ac x7 (bM (Γ g)) Z λdN=>
     ac x7 (u5 bx dN 3) Z λdP=>
     ac x7 (u4 ai dP) Z λdQ=>
     ac x7 (aL .eql ai false true dQ (Δ 0)) Z λdR=>
     cj dR Z)
      (cj (.bool false) Z):=by
 have dS:=h.lt;refine cz.range n.toNat (λi V=>∃A so b3 R,ah (gK g B) w V/\ag V G ba [aG,szv,Δ o,b3]/\au .i64 ap V g1 aG scope/\au .i64 ap V a6 szv sizes/\kq V R b3 A/\(0<n-> ∀r,leadsTo b3 r->B<=r)/\bJ V g B H N so/\(n<=0->A=aB/\so=σ s0)/\(0<n->NT sizes n.toNat i s0 A so)) Ω
  ⟨aB,σ s0,b3,R,ah.refl _ _,f1,f2,f3,f4,λP r m=>absurd m ((bn P).2 r),h,λ_=>⟨rfl,rfl⟩,λP=>.inl ⟨s0,rfl,by rw[(bn P).1];rfl,by rw[(bn P).1];simpa using cX⟩⟩ ?_ ?_
 rotate_left
 .rintro V k ⟨A,so,b3,R,aJ,av,a8,aK,aN,bB,ae,ck,E⟩;refine aV (λv aa=>V=aa/\v= .bool false) ?_ ?_
  .rintro _ _ ⟨rfl,rfl⟩;rw[a1];refine bZ V A so aJ ⟨aG,szv,b3,g1,a6,R,av,a8,aK,aN,f5,f6,f7⟩ ae ck λP=>?_;rcases E P with⟨s,rfl,he,_⟩|⟨rfl,he⟩
   .rw[V7] at he;rw[he];exact⟨rfl,λq K=>by cases K;rfl⟩
   .rw[he];exact⟨rfl,λq K=>by cases K⟩
  .intro aA bC;rw[aO,al];exact⟨λh=>Ω,λ_=>bC _ _ ⟨rfl,rfl⟩⟩
 rintro i V k hi ⟨A,so,b3,R,aJ,av,a8,aK,aN,bB,ae,ck,E⟩ hk;have P:0<n:=Ω
 refine aV (λv aa=>V=aa/\v= .bool so.isSome) ?_ ?_
 rotate_left
 .intro aA bC;refine bH Ω ?_;rw[k5 ae];exact bC _ _ ⟨rfl,rfl⟩
 rintro _ _ ⟨rfl,rfl⟩;rcases E P with⟨e3,rfl,he,eW⟩|⟨rfl,he⟩
 rotate_left
 .rw[S5,a1];refine bZ V A ν aJ ⟨aG,szv,b3,g1,a6,R,av,a8,aK,aN,f5,f6,f7⟩ ae (λh=>Ω) λ_=>?_;rw[he];exact⟨rfl,λq K=>by cases K⟩
 rw[T1,bQ];have eX:=ae.lt;refine bD b5.i λaq W eY aQ bE=>?_;have bE:ag W aq b5 [.slice ν 0 0,Δ 0]:=bE;have dT:=av.ext aQ;have cl:=aK.ext aQ;have eZ:=aQ.size;have e1:=av.lt;rw[aU ba.p rfl,ay Ψ (dT.cell (o:=0+1) rfl),aW ax.u cl.ls];refine NS (ae.ext aQ) cl cV cW bE Ω λt ad aI gt e2 dU dV dX dY dZ ea=>?_;refine (kr dZ).mono ?_;rintro _ C _ ⟨⟨bF,bc⟩,c,at_,rfl,ec,e4⟩;rw[bo,bp];have bG:aq≠g:=Ω
 have cm:G≠g:=by have:=h.lt;omega
 have ed:ah (λr=>r=g\/r=aq\/W.heap.size<=r) W C:=dU.trans (bF.mono λr _ h=>.inl h);have cn:∀ {S:Nat->Prop},(∀r,S r->r=g\/V.heap.size<=r)-> ∀r,S r->gZ V r\/V.heap.size<=r:=λee r m=>(ee r m).imp (λhe=>by
  subst he;obtain⟨cq,aR,aS,bad,cr,big,ct,told,sv,E,_⟩:=hU ae;exact⟨_,_,E,Φ,Φ⟩) id
 have bd:ah (λr=>r=g\/V.heap.size<=r) V C:=(aQ.ab _).trans (ed.mono λr _ h=>h.elim .inl λh=>h.elim (λh=>.inr Ω) λh=>.inr Ω);have cu:ag C G ba [aG,szv,Δ o,b3]:=av.ab bd λh=>h.elim cm λh=>Ω
 obtain⟨L,be,cw,bI⟩:=aN.dI bd (cn λr m=>m);have cA:ag C aq b5 [aI,Δ 0]:=dV.ab bF λhe=>bG he;have cB:au .i64 ap C gt aI t:=br dX bF λr m he=>by
  have he:r=g:=he;have:=dY r m;omega
 have e5:L.length=A.length:=by rw[<-bI,u7]
 rw[aM ba.p 3 cu rfl,fh dW.u be];generalize cC:(bb 0 4611686018427387904 (V5 (λx=>x.snd) (e0 sizes [] (σ e3)))).map (·.2)=af at bc;have e6:=bd.size;refine cz.range L.length (λj I=>ah (λr=>r=g) C I/\bJ I g B H N (if t∈(L.take j).map (·.t) then ν else af)) be.le ⟨ah.refl _ _,by simpa using bc⟩ ?_ ?_
 .rintro j I ef cD ⟨M,aT⟩ eg;obtain⟨y,O⟩:=aH (l:=L) cD;have bK:∃c,ag C g bx c:=by obtain⟨cq,aR,aS,bad,cr,big,ct,told,sv,E,_⟩:=hU bc;exact⟨_,E⟩
  have aj:∀r,r=g->gZ C r\/C.heap.size<=r:=λr m=>by
   subst m;obtain⟨c,E⟩:=bK;exact .inl ⟨_,c,E,Φ,Φ⟩
  have bf:=ws be M λr m=>(aj r m).imp (λ⟨e,c,E,_,aX⟩=>⟨e,c,E,aX⟩) id;obtain⟨e7,eh⟩:=cw y (x5 O);have cE:=eB eh M aj;have bL:=eB cB M aj;have bg:=cA.ab M λhe=>bG he;refine bH Ω ?_;have bN:t∈(L.take (j+1)).map (·.t)↔t∈(L.take j).map (·.t)\/t=y.t:=by
   rw[u9,O,o9,Z0,o7];simp
  refine dg (λao=>ah (λr=>r=g) C ao/\bJ ao g B H N (if t∈(L.take (j+1)).map (·.t) then ν else af)) ?_ ?_
  .rintro ao ei;rw[aP];exact eg _ ei
  intro e8 cF;rw[dx rfl dW.u b5.i bf cD,bR b5.p b5.i rfl (bf.range O)];refine bD b5.i λgy cd e9 ej ek=>?_;refine ch (vs:=nP y) b5.i rfl rfl (wv cE) ek λJ em fa en=>?_;have aY:Ext I J:=ej.put em Ω;have cG:=aT.ext aY;have cH:ah (λr=>r=g) C J:=M.trans (aY.ab _);refine aV (λv aF=>∃b:Bool,v= .bool b/\Ext J aF/\(b=true->t=y.t)/\(b=false->t≠y.t\/(if t∈(L.take j).map (·.t) then ν else af)=ν)) ?_ ?_
  .rintro _ aF ⟨b,rfl,bO,eo,ep⟩;have an:=cG.ext bO;cases b with
   |true=>
    rw[bQ];refine (nQ an Ω).mono ?_;rintro _ ce _ ⟨er,es⟩;refine cF _ ⟨(cH.trans (bO.ab _)).trans er,?_⟩;rw[if_pos (bN.2 (.inr (eo rfl)))];exact es
   |false=>
    rw[a1];refine cF _ ⟨cH.trans (bO.ab _),?_⟩;by_cases hm:t∈(L.take j).map (·.t)
    .rw[if_pos (bN.2 (.inl hm))];rw[if_pos hm] at an;exact an
    .rw[if_neg hm] at an;rcases ep rfl with aX|cI
     .rw[if_neg (λh=>(bN.1 h).elim hm aX)];exact an
     .rw[if_neg hm] at cI;rw[cI] at an ⊢;split<;>exact an
  .intro fb cJ;rw[k5 cG];cases aZ:(if t∈(L.take j).map (·.t) then ν else af) with
   |none=>
    rw[S5,a1];exact cJ _ _ ⟨false,rfl,Ext.refl _,(λh=>by cases h),λ_=>.inr aZ⟩
   |some fc=>
    rw[T1,bQ];have et:=bg.ext aY;rw[aM b5.p 0 et rfl,aM b5.p 0 en rfl];refine (wu (bL.ls.ext aY) (cE.ls.ext aY)).mono ?_;rintro _ ci _ ⟨rfl,eu⟩;exact cJ _ _ ⟨_,rfl,eu,λh=>of_decide_eq_true h,λh=>.inl (of_decide_eq_false h)⟩
 .rintro I ef ⟨M,aT⟩;rw[p9] at aT;have ev:L.map (·.t)=A.map (·.1):=by rw[<-bI,T7];rfl
  rw[ev] at aT;have bK:∃c,ag C g bx c:=by obtain⟨cq,aR,aS,bad,cr,big,ct,told,sv,E,_⟩:=hU bc;exact⟨_,E⟩
  have aj:∀r,r=g->gZ C r\/C.heap.size<=r:=λr m=>by
   subst m;obtain⟨c,E⟩:=bK;exact .inl ⟨_,c,E,Φ,Φ⟩
  have cK:∀r,(r=g\/V.heap.size<=r)->gZ V r\/V.heap.size<=r:=cn λr m=>m;have bi:ah (λr=>r=g\/V.heap.size<=r) V I:=bd.trans (M.mono λr _ h=>.inl h);have ew:=cu.ab M λhe=>cm he;have ey:=eB a8 bi cK;have ez:=eB aK bi cK;have bf:=ws be M λr m=>(aj r m).imp (λ⟨e,c,E,_,aX⟩=>⟨e,c,E,aX⟩) id;have eA:∀y∈L,∃gy,au .i64 ap I gy y.v y.t:=λy O=>by
   obtain⟨gy,hm⟩:=cw y O;exact⟨gy,eB hm M aj⟩
  have bL:=eB cB M aj;have bg:=cA.ab M λhe=>bG he;refine cp Ω ?_;rw[aU b5.p rfl];refine bq (g:=aq) (o:=1) ap.i rfl rfl bg Ξ λX az fd bP=>?_;have bP:ag X aq b5 [aI,Δ c]:=bP;have eC:G≠aq:=Ω
  have cL:=ew.ab az λhe=>eC he;have fe:V.heap.size<=aq:=Ω
  have eD:∀r,leadsTo b3 r->r≠aq:=λr m=>by obtain⟨aR,aS⟩:=aN.choose_spec.1.leads m;omega
  have eE:=bf.ab az λr m he=>eD r m he;rw[aM ba.p 3 cL rfl,bR b5.p b5.i rfl bP.range];let a:wr:=⟨aI,t,c⟩;have bj:∀ {v:x1} {a2:Nat} {l:Λ},au .i64 ap I a2 v l->au .i64 ap X a2 v l:=λhm=>br hm az λr m he=>by
   have he:r=aq:=he;exact b7 hm bg Φ m he
  have cM:=bj bL;refine ia (f:=nP) (a:=a) dW.u b5.i Ω rfl rfl λv45 ff a7 fg Q eF=>?_;have bS:=eE.ext Q;refine iD (f:=nP) (a:=a) dW.u b5.i rfl bS (by simpa using eF.sl) (wv (cM.ext Q)) Ω Ω λbT cN bA bk eH cP=>?_;have bU:=cL.ext Q;have cQ:=bU.ab cP λhe=>cR bS bU Φ he;rw[aU ba.p rfl];refine bq (g:=G) (o:=3) dW.i (eL bk.sl).1 (eL bk.sl).2 cQ Ξ λY cS fi bV=>?_;have bV:ag Y G ba [aG,szv,Δ o,bT]:=bV;rw[aP];have bW:ah (λr=>leadsTo b3 r\/r=G) a7 Y:=(cP.mono λr _ h=>.inl h).trans (cS.mono λr _ h=>.inr h);have bl:∀ {v:x1} {a2:Nat} {l:Λ},au .i64 ap a7 a2 v l->au .i64 ap Y a2 v l:=λhm=>br hm bW λr m U=>by
   rcases U with U|rfl
   .obtain⟨rfl,fj,E⟩:=eb bS U;exact b7 hm E Φ m rfl
   .exact b7 hm bU Φ m rfl
  have cT:∀r,(leadsTo b3 r\/r=G)->B<=r:=λr m=>m.elim (λm=>bB P r m) λm=>m▸f7;have eI:bJ X g B H N (if t∈A.map (·.1) then ν else af):=aT.new az λr m=>by
   have m:r=aq:=m;omega
  have eJ:=(eI.ext Q).new bW cT;have eK:ah (gK g B) V Y:=((bi.mono λr _ h=>h.elim .inl λh=>.inr Ω).trans (az.mono λr _ h=>.inr (by have h:r=aq:=h;omega))).trans ((Q.ab _).trans (bW.mono λr _ h=>.inr (cT r h)));have eM:kq Y cN bT (A++[(t,c)]):=⟨L++[a],bk.ab cS λr m he=>by
   have he:r=G:=he;subst he;exact cR bk cQ Φ m,λy O=>by
   rcases o7.1 O with O|O
   .obtain⟨gy,hm⟩:=eA y O;exact⟨gy,bl ((bj hm).ext Q)⟩
   .rw[o8.1 O];exact⟨gt,bl (cM.ext Q)⟩,by rw[Z0,bI];rfl⟩
  refine hk _ ⟨A++[(t,c)],_,bT,cN,aJ.trans eK,bV,bl ((bj ey).ext Q),bl ((bj ez).ext Q),eM,λ_ r m=>?_,eJ,λh=>Ω,λ_=>?_⟩
  .rcases eH r m with h|h
   .exact bB P r h
   .have:=aJ.size;have:=bi.size;have:=az.size;have:=Q.size;have:=dS.2;omega
  .have eN:n.toNat-i=(n.toNat-(i+1))+1:=Ω
   rw[eN] at he;obtain⟨eO,eP⟩:=BR (sizes:=sizes) (acc:=A) (st:=e3) (t:=t) (c:=c) ea ec;cases K:bb 0 aw ((e0 sizes [] (σ e3)).map (·.2)) with
   |none=>
    have aZ:af=ν:=by rw[<-cC];show (bb 0 aw _).map _=ν;rw[K];rfl
    rw[oS (eO K)] at he;refine .inr ⟨?_,he⟩;rw[aZ];split<;>rfl
   |some q=>
    have aZ:af=σ q.2:=by rw[<-cC];show (bb 0 aw _).map _=_;rw[K];rfl
    have bm:=eP q K;by_cases hm:t∈A.map (·.1)
    .rw[if_pos hm] at bm;rw[oS bm] at he;exact .inr ⟨by rw[if_pos hm],he⟩
    .rw[if_neg hm] at bm;rw[sm bm] at he;refine .inl ⟨q.2,by rw[if_neg hm,aZ],he,?_⟩;cases bX:e0 sizes [] (σ e3) with
     |none=>rw[bX] at K;cases K
     |some p=>
      rw[bX] at K;obtain⟨bu,cU⟩:=p;have aR:iy sizes [] e3=σ (bu,cU):=bX;obtain⟨u,_,_,eQ⟩:=vn aR;have aS:bh 0 aw cU=σ q:=K;obtain⟨fk,fm⟩:=q;have eR:=dC aS;have:=eQ.1;have:=eR.1;rw[o4];simp only[S9];omega
def jJ (s:aE):Prop:=s.big=false->0<=s.told/\s.told<=16384
def jK (neg:Bool) (ar:Nat) (scope sizes:Λ) (e:Option aE):Option (cw×aE):=match bb 0 aw (e.map (bd (decide (6<ar)||dq sizes))) with
 |none=>ν
 |some (other,f)=>match dP sizes f with
  |none=>ν
  |some (lines,a)=>σ (⟨scope,sizes,other,lines⟩,if neg=true then {a with shared:=a.shared++[(sizes,lines)]} else a)
theorem De {s s':aE} {l:List (Λ×Int)} (h:dP sizes s=σ (l,s')):s'.toks.length+1<=s.toks.length/\s'.shared=s.shared:=by
 unfold dP at h;cases j:bh (-aw) aw s with
 |none=>rw[j] at h;cases h
 |some q=>
  obtain⟨n,e⟩:=q;have p:=dC j;have z:=p.1;have r:=p.eqs.2.2;rw[j] at h;simp only at h;split at h
  .split at h
   .cases h
   .split at h
    .cases h;exact⟨Ω,r⟩
    .cases h
  .have h':cO (dO sizes) n.toNat [] (bd (decide (16384<min (e.told+n) aw)) {e with told:=min (e.told+n) aw})=σ (l,s'):=h;have:=ki (f:=dO sizes) (λ_ t=>t.toks.length<=e.toks.length/\t.shared=e.shared) (λacc t a bu w y=>by
    obtain⟨_,_,_,x⟩:=oP y;have h1:=x.1;have m:=x.eqs.2.2;exact⟨by have:=w.1;omega,m.trans w.2⟩) n.toNat [] (bd (decide (16384<min (e.told+n) aw)) {e with told:=min (e.told+n) aw}) l s' ⟨p8 _,rfl⟩ h'
   obtain⟨⟨h1,m⟩,_⟩:=this;exact⟨Ω,m.trans r⟩
theorem ta {g:Nat} {H:ak} {s:aE} (h:bJ w g B H N (σ s)):s.toks.length<=100000/\s.shared.length+s.toks.length<=100000:=by
 obtain⟨j,w0,m,p,gs,sv,L,q,r,x,bad,y,big,z,told,h1,A,C,E,e,F,G,I,J,K,M,a,O,f,P⟩:=h;have Q:=e.2.2.1;refine⟨by rw[<-a,u7];omega,by rw[<-a,<-f,u7,u7];omega⟩
def Df (w:x3) (g h B:Nat) (H:ak) (e:Option (cw×aE)) (v:x1) (w':x3):Prop:=∃f x a,ah (λr=>r=g\/H r\/r=h\/B<=r) w w'/\v= .agg (eU f).toArray/\gJ w' f x/\bJ w' g w'.heap.size a 100001 (e.map (·.2))/\(∀q,e=σ q->x=q.1)/\(∀r,H r->a r)/\(∀r,a r->H r\/B<=r)/\ ∀r,a r->r<w'.heap.size
theorem Dg {g C K ar:Nat} {H:ak} {O:Option aE} {neg:Bool} {dy:Int} {scope:Λ} {Q:x1->x3->Prop}
  (h:bJ w g B H 100000 O) (dz:ha w B C ⟨scope,sizes,0,[]⟩) (fm:∀c,ag w C ba c->c[3]? =σ (.slice ν 0 0)) (dA:∀z∈sizes,1<=z/\z<=aw) (fo:sizes.length<=100001) (dD:ag w K ba [.slice ν 0 0,.slice ν 0 0,Δ 0,.slice ν 0 0]) (jz:K<B) (cG:¬H K) (cH:∀r,H r->r<B) (fp:∀an,O=σ an->jJ an)
  (fq:∀v w',Df w g K B H (jK neg ar scope sizes O) v w'->Q v w'):
  ac x7 (u5 ba (Γ C) 1) w λfs=>
  ac x7 (u4 ax fs) w λdE=>
  ac x7 (W8 #[ax] ai #[dE]) w λft=>
  bZ (Δ 1) (Δ 0) w λdG cY aC fu=>
   ac x7 (aL .lss ai false false cY ft) aC λfv=>
   Split fv (cv (α:=x1->x3->Prop) (λ(fw:x1) (dH:x3)=>
    ac x7 (aL .add ai false true cY (Δ 1)) dH λfx=>
    fu fw fx dH) λdJ=>
   ac x7 (j4 ax dE cY) aC λfy=>
   ac x7 (u4 ap fy) aC λdK=>
   cv (α:=x1->x3->Prop) (λ(fz:x1) (cI:x3)=>
    ac x7 (aL .mul ap false false dG fz) cI λdL=>
    ac x7 (aL .gtr ap false true dL (Δ 4096)) cI λfA=>
    Split fA (dJ (Δ 4097) cI)
     (dJ dL cI)) λdM=>
   ac x7 (aL .gtr ap false true dK (Δ 4096)) aC λfB=>
   Split fB (dM (Δ 4097) aC)
    (dM dK aC))
    (cv (α:=x3->Prop) (λ(bW:x3)=>
   am x7 lx [(Γ g),(Δ 0),(Δ 4611686018427387904)] bW λdN bB=>
   ac x7 (Z7 dN 0) bB λfD=>
   ac x7 (Z7 dN 1) bB λjA=>
   ac x7 (u5 ba (Γ C) 2) bB λfE=>
   aD x7 (o6 ap fE fD) bB λ(_:Unit) be=>
   am x7 lx [(Γ g),(Δ (-4611686018427387904)),(Δ 4611686018427387904)] be λdQ M=>
   ac x7 (Z7 dQ 0) M λbC=>
   ac x7 (Z7 dQ 1) M λdR=>
   ac x7 (bM (Γ g)) M λfF=>
   ac x7 (u5 bx fF 3) M λfG=>
   ac x7 (u4 ai fG) M λfH=>
   ac x7 (aL .neq ai false true fH (Δ 0)) M λfI=>
   Split fI (ac x7 (u4 ba (Γ C)) M λbX=>
    aD x7 (o6 ba (Γ K) bX) M λ(_:Unit) bf=>
    ac x7 (do loadVar ba (<-asAddr (Γ K))) bf λbY=>
 Q bY bf)
    (cv (α:=x3->Prop) (λ(aS:x3)=>
    cz (Δ 0) aS λdS bm fJ=>
     cv (α:=x1->x3->Prop) (λ(fK:x1) (b0:x3)=>
      Split fK (aD x7 (S7 b5 true (.tuple #[])) b0 λx cJ=>
     ac x7 (u5 ba (Γ C) 1) cJ λfL=>
     ac x7 (u4 ax fL) cJ λdT=>
     ac x7 (W8 #[ax] ai #[dT]) cJ λfM=>
     cz (Δ 0) cJ λcZ bD fO=>
      ac x7 (aL .lss ai false false cZ fM) bD λfP=>
      Split fP (ac x7 (j4 ax dT cZ) bD λfQ=>
      ac x7 (u4 ap fQ) bD λfR=>
      ac x7 (aL .sub ap false true fR (Δ 1)) bD λfS=>
      am x7 lx [(Γ g),(Δ 0),fS] bD λdU b1=>
      ac x7 (Z7 dU 0) b1 λfU=>
      ac x7 (Z7 dU 1) b1 λjB=>
      ac x7 (u5 b5 x 0) b1 λfV=>
      ac x7 (u4 ax fV) b1 λfW=>
      aD x7 (Y4 ax 1 #[(0,fU)]) b1 λfX fY=>
      aD x7 (b9 #[ax,ax] ax #[fW,fX]) fY λfZ dV=>
      ac x7 (u5 b5 x 0) dV λgb=>
      aD x7 (o6 ax gb fZ) dV λ(_:Unit) dX=>
      ac x7 (aL .add ai false true cZ (Δ 1)) dX λgc=>
      fO gc dX)
       (am x7 lx [(Γ g),(Δ 0),(Δ 4611686018427387904)] bD λdY bE=>
     ac x7 (Z7 dY 0) bE λgd=>
     ac x7 (Z7 dY 1) bE λgf=>
     ac x7 (u5 ba (Γ C) 3) bE λgg=>
     ac x7 (u4 dW gg) bE λdZ=>
     ac x7 (W8 #[dW] ai #[dZ]) bE λgh=>
     cz (Δ 0) bE λc0 bF gi=>
      ac x7 (aL .lss ai false false c0 gh) bF λgj=>
      Split gj (cv (α:=x3->Prop) (λ(ea:x3)=>
       ac x7 (aL .add ai false true c0 (Δ 1)) ea λgk=>
       gi gk ea) λec=>
      ac x7 (j4 dW dZ c0) bF λgl=>
      ac x7 (u4 b5 gl) bF λgm=>
      aD x7 (S7 b5 true (.tuple #[])) bF λy gp=>
      aD x7 (o6 b5 y gm) gp λ(_:Unit) aF=>
      cv (α:=x1->x3->Prop) (λ(gq:x1) (ed:x3)=>
       Split gq (am x7 m8 [(Γ g),(Δ 4),gf] ed λjC gu=>
        ec gu)
        (ec ed)) λee=>
      ac x7 (bM (Γ g)) aF λgv=>
      ac x7 (u5 bx gv 3) aF λgw=>
      ac x7 (u4 ai gw) aF λgx=>
      ac x7 (aL .eql ai false true gx (Δ 0)) aF λgA=>
      Split gA (ac x7 (u5 b5 x 0) aF λgB=>
       ac x7 (u4 ax gB) aF λgC=>
      ac x7 (u5 b5 y 0) aF λgD=>
      ac x7 (u4 ax gD) aF λgE=>
      am x7 rI [gC,gE] aF λgF gH=>
      ee gF gH)
       (ee (.bool false) aF))
       (ac x7 (u5 b5 x 1) bF λgI=>
     aD x7 (o6 ap gI gd) bF λ(_:Unit) cK=>
     ac x7 (u5 ba (Γ C) 3) cK λgL=>
     ac x7 (u4 dW gL) cK λgM=>
     ac x7 (u4 b5 x) cK λgN=>
     aD x7 (Y4 dW 1 #[(0,gN)]) cK λgO gP=>
     aD x7 (b9 #[dW,dW] dW #[gM,gO]) gP λgQ ef=>
     ac x7 (u5 ba (Γ C) 3) ef λgR=>
     aD x7 (o6 dW gR gQ) ef λ(_:Unit) eg=>
     ac x7 (aL .add ap false true dS (Δ 1)) eg λgS=>
     fJ gS eg)))
       (cv (α:=x3->Prop) (λ(ad:x3)=>
     ac x7 (u4 ba (Γ C)) ad λgU=>
     aD x7 (o6 ba (Γ K) gU) ad λ(_:Unit) eh=>
     ac x7 (do loadVar ba (<-asAddr (Γ K))) eh λgV=>
 Q gV eh) λei=>
    Split (.bool neg) (er b0 λao=>
     ac x7 (bM (Γ g)) ao λc1=>
     ac x7 (u5 bx c1 8) ao λc2=>
     ac x7 (u4 dw c2) ao λej=>
     ac x7 (u4 ba (Γ C)) ao λgW=>
     aD x7 (Y4 dw 1 #[(0,gW)]) ao λgX aT=>
     (Ext ao aT\/cD x7 (u4 dw c2) ej aT/\cD x7 (u5 bx c1 8) c2 aT/\cD x7 (bM (Γ g)) c1 aT/\True)/\
     aD x7 (b9 #[dw,dw] dw #[ej,gX]) aT λgY cL=>
      ac x7 (bM (Γ g)) cL λg0=>
      ac x7 (u5 bx g0 8) cL λg2=>
      aD x7 (o6 dw g2 gY) cL λ(_:Unit) bn=>
      ei bn)
     (ei b0))) λek=>
     ac x7 (aL .lss ap false false dS bC) bm λg3=>
     Split g3 (ac x7 (bM (Γ g)) bm λg4=>
     ac x7 (u5 bx g4 3) bm λg5=>
     ac x7 (u4 ai g5) bm λg6=>
     ac x7 (aL .eql ai false true g6 (Δ 0)) bm λg7=>
     ek g7 bm)
      (ek (.bool false) bm)) λem=>
   ac x7 (aL .lss ap false true bC (Δ 0)) M λg8=>
   Split g8 (cv (α:=x1->x3->Prop) (λ(g9:x1) (W:x3)=>
     Split g9 (am x7 m8 [(Γ g),(Δ 4),dR] W λjD c3=>
     ac x7 (u4 ba (Γ C)) c3 λhb=>
     aD x7 (o6 ba (Γ K) hb) c3 λ(_:Unit) en=>
     ac x7 (do loadVar ba (<-asAddr (Γ K))) en λhc=>
 Q hc en)
     (ac x7 (bM (Γ g)) W λhd=>
    ac x7 (u5 bx hd 8) W λhg=>
    ac x7 (u4 dw hg) W λhh=>
    ac x7 (Op.unary .neg bC) W λhj=>
    ac x7 (aL .sub ap false true hj (Δ 1)) W λhl=>
    ac x7 (j4 dw hh hl) W λhn=>
    ac x7 (u5 ba hn 3) W λho=>
    ac x7 (u4 dW ho) W λhp=>
    ac x7 (u5 ba (Γ C) 3) W λhq=>
    aD x7 (o6 dW hq hp) W λ(_:Unit) eo=>
    em eo)) λep=>
    er M λN=>
    ac x7 (Op.unary .neg bC) N λhr=>
    ac x7 (bM (Γ g)) N λhs=>
    ac x7 (u5 bx hs 8) N λht=>
    ac x7 (u4 dw ht) N λhy=>
    ac x7 (W8 #[dw] ai #[hy]) N λhz=>
    ac x7 (aL .gtr ap false false hr hz) N λhA=>
    Split hA (ep (.bool true) N)
    (ac x7 (bM (Γ g)) N λhB=>
    ac x7 (u5 bx hB 8) N λhC=>
    ac x7 (u4 dw hC) N λhD=>
    ac x7 (Op.unary .neg bC) N λhE=>
    ac x7 (aL .sub ap false true hE (Δ 1)) N λhF=>
    ac x7 (j4 dw hD hF) N λhG=>
    ac x7 (u5 ba hG 1) N λhH=>
    ac x7 (u4 ax hH) N λhI=>
    ac x7 (u5 ba (Γ C) 1) N λhJ=>
    ac x7 (u4 ax hJ) N λhK=>
    am x7 rI [hI,hK] N λhL c4=>
    ac x7 (Op.unary .not hL) c4 λhM=>
    ep hM c4))
    (ac x7 (bM (Γ g)) M λhN=>
    ac x7 (u5 bx hN 7) M λhO=>
    ac x7 (u4 ap hO) M λhP=>
    ac x7 (aL .add ap false false hP bC) M λhR=>
    ac x7 (bM (Γ g)) M λhS=>
    ac x7 (u5 bx hS 7) M λhT=>
    aD x7 (o6 ap hT hR) M λ(_:Unit) aI=>
    cv (α:=x3->Prop) (λ(aJ:x3)=>
     ac x7 (bM (Γ g)) aJ λhV=>
     ac x7 (u5 bx hV 7) aJ λhW=>
     ac x7 (u4 ap hW) aJ λhX=>
     ac x7 (aL .gtr ap false true hX (Δ 16384)) aJ λhY=>
     am x7 rG [(Γ g),hY,dR] aJ λjE c5=>
     em c5) λes=>
    ac x7 (bM (Γ g)) aI λhZ=>
    ac x7 (u5 bx hZ 7) aI λh0=>
    ac x7 (u4 ap h0) aI λh2=>
    ac x7 (aL .gtr ap false true h2 (Δ 4611686018427387904)) aI λh3=>
    Split h3 (ac x7 (bM (Γ g)) aI λh4=>
    ac x7 (u5 bx h4 7) aI λh5=>
    aD x7 (o6 ap h5 (Δ 4611686018427387904)) aI λ(_:Unit) et=>
    es et)
    (es aI)))) λeu=>
  ac x7 (aL .gtr ap false true (Δ (ar:Int)) (Δ 6)) aC λh6=>
  Split h6 (am x7 rG [(Γ g),(.bool true),(Δ dy)] aC λjF h7=>
  eu h7)
   (ac x7 (aL .gtr ap false true dG (Δ 4096)) aC λh8=>
  am x7 rG [(Γ g),h8,(Δ dy)] aC λjG h9=>
  eu h9)):=by
 have ib:=h.lt;have ev:K≠g:=λhe=>by
  obtain⟨aq,Y,Z,bad,av,big,az,told,sv,m,_⟩:=hU h;subst he;exact absurd (e7 m dD) Φ
 obtain⟨aG,szv,b3,g1,cM,cN,f1,f2,f3,f4,f5,f6,f7⟩:=id dz;have b2:C≠g:=Ω
 have ret:∀ {E:x3} {x:cw} {P:ak},ha E B C x->ag E K ba [.slice ν 0 0,.slice ν 0 0,Δ 0,.slice ν 0 0]->ah (λr=>r=g\/H r\/B<=r) w E->bJ E g E.heap.size P 100001 ((jK neg ar scope sizes O).map (·.2))->(∀q,jK neg ar scope sizes O=σ q->x=q.1)->¬P K->(∀r,H r->P r)->(∀r,P r->H r\/B<=r)->(∀r,P r->r<E.heap.size)->
   (ac x7 (u4 ba (Γ C)) E λbX=>
    aD x7 (o6 ba (Γ K) bX) E λ(_:Unit) bf=>
    ac x7 (do loadVar ba (<-asAddr (Γ K))) bf λbY=>Q bY bf):=by
  intro E x P c6 c7 ic ie J ig c8 ih ii;obtain⟨aG,szv,b3,g1,cM,cN,c9,da,db,dc,dd,ew,ey⟩:=c6;let aa:iM:=⟨aG,szv,x.other,b3⟩;have b4:gJ E aa x:=⟨⟨g1,da⟩,⟨cM,db⟩,rfl,cN,dc⟩;rw[bR ba.p ba.i rfl (show E.rangeAt C 0 (eU aa) from c9.range)];refine ch (vs:=eU aa) ba.i rfl rfl b4.one c7 λjH de ij ik=>?_;rw[fN ba.p ba.i rfl ik.range];have il:∀r,r=K->gZ E r\/E.heap.size<=r:=λr j=>by subst j;exact .inl ⟨_,_,c7,Φ,Φ⟩
  refine fq _ _ ⟨aa,x,P,(ic.mono λr _ h=>?_).trans (de.mono λr _ h=>.inr (.inr (.inl h))),rfl,b4.dI de il,ie.dI de λr j=>.inl ?_,J,c8,ih,λr j=>by rw[ij];exact ii r j⟩
  .exact h.elim .inl λh=>h.elim (λh=>.inr (.inl h)) λh=>.inr (.inr (.inr h))
  .have j:r=K:=j;subst j;exact⟨_,_,c7,Φ,Φ,Φ,Φ,ig⟩
 have df:∀ {E:x3},ah (gK g B) w E->ag E K ba [.slice ν 0 0,.slice ν 0 0,Δ 0,.slice ν 0 0]:=λaX=>dD.ab aX λU=>U.elim ev λh=>Ω
 have dh:∀ {E:x3},ah (gK g B) w E->ah (λr=>r=g\/H r\/B<=r) w E:=λaX=>aX.mono λr _ h=>h.elim .inl λh=>.inr (.inr h);have ez:∀ {E:x3} {eA:Nat} {P:ak} {so:Option aE},bJ E g eA P 100000 so->bJ E g eA P 100001 so:=λj=>by
  obtain⟨b7,w0,aq,bg,gs,sv,L,aB,Y,Z,bad,av,big,az,told,h1,im,io,ip,iq,di,dj⟩:=j;refine⟨Ω,w0,aq,bg,gs,sv,L,aB,Y,Z,bad,av,big,az,told,h1,im,io,ip,iq,di,?_⟩;rename_i so;cases so with
  |none=>exact⟨dj.1,by have:=dj.2;omega⟩
  |some s=>exact dj
 have eC:∀ {E:x3} {x:cw},ha E B C x->ah (gK g B) w E->bJ E g B H 100000 ν->jK neg ar scope sizes O=ν->(ac x7 (u4 ba (Γ C)) E λbX=>
    aD x7 (o6 ba (Γ K) bX) E λ(_:Unit) bf=>
    ac x7 (do loadVar ba (<-asAddr (Γ K))) bf λbY=>Q bY bf):=λc6 aX j eD=>
  ret c6 (df aX) (dh aX) (by rw[eD];exact ez j.base) (λq R=>by rw[eD] at R;cases R) cG (λ_ h=>h) (λ_ h=>.inl h) λr j=>by have:=cH r j;have:=aX.size;omega
 rw[aM ba.p 1 f1 rfl,aW ax.u f3.ls];refine NR f3.ls (λz ir=>(dA z ir).1) λc aX=>?_;refine dg (λbW=>ah (λr=>r=g) w bW/\bJ bW g B H 100000 (O.map (bd (decide (6<ar)||dq sizes)))) ?_ ?_
 rotate_left
 .intro aA aY;rw[bU,al];refine⟨λdi=>?_,λdi=>?_⟩
  .refine (mA h).mono ?_;rintro _ V _ aZ;refine aY _ ⟨aZ.1,?_⟩;rw[decide_eq_true (show 6<ar by omega),Bool.true_or];exact aZ.2
  .rw[bU];refine (mA h).mono ?_;rintro _ V _ aZ;refine aY _ ⟨aZ.1,?_⟩;have e:dq sizes=decide (4096<c):=by rw[V6,decide_eq_true_eq];exact aX.symm
   rw[decide_eq_false (show ¬6<ar by omega),Bool.false_or,e];exact aZ.2
 rintro bW ⟨it,iu⟩;refine (kr iu).mono ?_;rintro _ bB _ ⟨⟨iv,iw⟩,o,jI,rfl,ix,jL⟩;rw[bo,bp];have bH:ah (λr=>r=g) w bB:=it.trans iv;have jM:=dz.dI bH (kt h);have f123:=f1.ab bH λhe=>b2 he;rw[aU ba.p rfl];refine bq (g:=C) (o:=2) ap.i rfl rfl f123 Ξ λbe b8 jN bI=>?_;have bI:ag be C ba [aG,szv,Δ o,b3]:=bI;have dk:∀r,r=g->gZ w r\/w.heap.size<=r:=λr j=>(kt h r j).imp (λ⟨e,c,m,a2,a6,_⟩=>⟨e,c,m,a2,a6⟩) id;have bK:∀ {E:x3} {c:List x1},ag E C ba c-> ∀r,r=C->gZ E r\/E.heap.size<=r:=λm r j=>by subst j;exact .inl ⟨_,_,m,Φ,Φ⟩
 have f224:=eB (eB f2 bH dk) b8 (bK f123);have f324:=eB (eB f3 bH dk) b8 (bK f123);have eE:=(f4.dI bH dk).dI b8 (bK f123);have bL:=iw.new b8 λr j=>by have j:r=C:=j;omega
 have eF:ah (gK g B) w be:=(bH.mono λr _ h=>.inl h).trans (b8.mono λr _ h=>.inr (by have h:r=C:=h;omega));refine (kr bL).mono ?_;rintro _ M _ ⟨⟨bi,a7⟩,n,jO,rfl,iy,eH⟩;rw[bo,bp,qO a7];have eI:ah (gK g B) w M:=eF.trans (bi.mono λr _ h=>.inl h);have iz:ha be B C ⟨scope,sizes,o,[]⟩:=⟨aG,szv,b3,g1,cM,cN,bI,f224,f324,eE,f5,f6,f7⟩;have eJ:=iz.dI bi (kt bL);cases a8:bb (-4611686018427387904) 4611686018427387904 (V5 (λx=>x.snd) (bb 0 4611686018427387904 (O.map (bd (decide (6<ar)||dq sizes))))) with
 |none=>
  rw[a8] at a7;rw[Option.map_none,S5,X9,bQ];refine eC eJ eI a7 ?_;unfold jK;cases S:bb 0 aw (O.map (bd (decide (6<ar)||dq sizes))) with
  |none=>rfl
  |some p=>
   obtain⟨o',I⟩:=p;have iA:bb 0 4611686018427387904 (O.map (bd (decide (6<ar)||dq sizes)))=σ (o',I):=S;rw[iA] at a8;have e:bh (-aw) aw I=ν:=a8;simp only;unfold dP;rw[e]
 |some q=>
 obtain⟨jP,G⟩:=q;have iB:=iy _ a8;subst iB;rw[a8] at a7;have a7:bJ M g B H 100000 (σ G):=a7;rw[Z3,T1,Y6,a1];obtain⟨I,S,dl⟩:∃I,bb 0 aw (O.map (bd (decide (6<ar)||dq sizes)))=σ (o,I)/\bh (-aw) aw I=σ (n,G):=by
  cases S:bb 0 4611686018427387904 (O.map (bd (decide (6<ar)||dq sizes))) with
  |none=>rw[S] at a8;cases a8
  |some p=>
   obtain⟨o',I⟩:=p;have:=ix _ S;subst this;rw[S] at a8;exact⟨I,S,a8⟩
 have ca:jK neg ar scope sizes O=match dP sizes I with
   |none=>ν
   |some (lines,G)=>σ (⟨scope,sizes,o,lines⟩,if neg=true then {G with shared:=G.shared++[(sizes,lines)]} else G):=by
  unfold jK;rw[S]
 have iC:=(hQ dl).1;have iE: -4611686018427387904<=n/\n<=4611686018427387904:=iC;have eK:dP sizes I=(if n<0 then match G.shared[(-n-1).toNat]? with
   |none=>ν
   |some (z,l)=>if z=sizes then σ (l,G) else ν
  else cO (dO sizes) n.toNat [] (bd (decide (16384<min (G.told+n) aw)) {G with told:=min (G.told+n) aw})):=by
  unfold dP;rw[dl];rfl
 have iF:jJ G:=by
  cases bN:O with
  |none=>rw[bN] at S;cases S
  |some an=>
   rw[bN] at S;have dm:bh 0 aw (bd (decide (6<ar)||dq sizes) an)=σ (o,I):=S;have cP:=(dC dm).eqs;have cb:=(dC dl).eqs;intro m;rw[cb.2.1,cP.2.1] at m;rw[cb.1,cP.1];exact fp an bN (S3.1 m).1
 refine dg (λaS=>ah (gK g B) w aS/\ ∃br cc cQ bj,ag aS C ba [aG,szv,Δ o,br]/\au .i64 ap aS g1 aG scope/\au .i64 ap aS cM szv sizes/\kq aS cc br cQ/\bJ aS g B H 100000 (σ bj)/\(0<n->cQ=[]/\ ∀r,¬leadsTo br r)/\dP sizes I=(if n<=0 then σ (cQ,bj) else cO (dO sizes) n.toNat [] bj)) ?_ ?_
 .rintro aS ⟨iG,br,cc,cQ,bj,c9,da,db,dc,dd,ew,ey⟩;refine NU dd c9 da db dc f5 f6 f7 dA fo iE.2 ew (ta dd).1 λb0 A dn iH eM eN iI cd=>?_;have bO:=iG.trans iH;have bt:dn=(dP sizes I).map (·.2)/\ ∀q,dP sizes I=σ q->A=q.1:=by
   rw[ey];by_cases dp:n<=0
   .obtain⟨Y,Z⟩:=iI dp;rw[if_pos dp];exact⟨Z,λq R=>by cases R;exact Y⟩
   .rw[if_neg dp];exact cd Ω
  obtain⟨bt,aZ⟩:=bt;cases neg with
  |false=>
   refine dg (λad=>b0=ad) ?_ ?_
   .rintro _ rfl;refine ret eM (df bO) (dh bO) ?_ ?_ cG (λ_ h=>h) (λ_ h=>.inl h) λr j=>by have:=cH r j;have:=bO.size;omega
    .have:(jK false ar scope sizes O).map (·.2)=dn:=by
      rw[ca,bt];cases dP sizes I with
      |none=>rfl
      |some p=>rfl
     rw[this];exact ez eN.base
    .intro q R;rw[ca] at R;cases ae:dP sizes I with
     |none=>rw[ae] at R;cases R
     |some p=>
      rw[ae] at R;have:=aZ p ae;cases R;rw[this]
   .intro aA aY;rw[a1];exact aY _ rfl
  |true=>
   refine dg (λad=>∃P,ah (λr=>r=g\/H r\/B<=r) w ad/\ha ad B C ⟨scope,sizes,o,A⟩/\ag ad K ba [.slice ν 0 0,.slice ν 0 0,Δ 0,.slice ν 0 0]/\bJ ad g ad.heap.size P 100001 ((jK true ar scope sizes O).map (·.2))/\¬P K/\(∀r,H r->P r)/\(∀r,P r->H r\/B<=r)/\ ∀r,P r->r<ad.heap.size) ?_ ?_
   .rintro ad ⟨P,iJ,iK,a3,a4,a5,iL,iN,iO⟩;refine ret iK a3 iJ a4 ?_ a5 iL iN iO;intro q R;rw[ca] at R;cases ae:dP sizes I with
    |none=>rw[ae] at R;cases R
    |some p=>
     rw[ae] at R;have:=aZ p ae;cases R;rw[this]
   .intro aA aY;rw[bQ];intro ao ce _ _;have iP:=eN.ext ce;have iQ:=eM.ext ce;have iR:=(df bO).ext ce;obtain⟨b7,w0,aq,bg,gs,sv,L,aB,Y,Z,bad,av,big,az,told,cS,bu,bw,af,bz,bk,bA⟩:=id iP;have iS:=bz.g bu bw;obtain⟨⟨iT,eO⟩,aK,cg,ci⟩:=id iS;have iU:∀r,leadsTo sv r->r<B:=λr j=>cH r (bk r j);rw[aQ bx.p 8 af rfl];obtain⟨eP,eQ,br,eR,eS,cc,eV,eW,eX,eY,iV,iW,iX⟩:=id iQ;let aa:iM:=⟨eP,eQ,o,br⟩;let x:cw:=⟨scope,sizes,o,A⟩;have b4:gJ ao aa x:=⟨⟨eR,eW⟩,⟨eS,eX⟩,rfl,cc,eY⟩;rw[bR ba.p ba.i rfl (show ao.rangeAt C 0 (eU aa) from eV.range)];refine ia (f:=eU) (a:=aa) dw.u ba.i Ω rfl rfl λjQ jR aT jS X iY=>?_;refine⟨.inl X,?_⟩;have jT:L.length<=100000:=by
     cases dn with
     |none=>exact bA.2
     |some s=>have:=bA.2.2.2.2.2.2.2.2;omega
    have dr:=aK.ext X;refine iD (f:=eU) (a:=aa) dw.u ba.i rfl dr (by simpa using iY.sl) (b4.ext X).one Ω Ω λeZ iZ cL cj i0 e0=>?_;have ds:=af.ext X;have e1:=ds.ab e0 λhe=>cR dr ds Φ he;rw[bV,aU bx.p rfl];refine bq (g:=g) (o:=8) dw.i (eL cj.sl).1 (eL cj.sl).2 e1 (by simp[gn]) λbn dt jU cT=>?_;have cT:ag bn g bx (gn aq Y Z bad av big az told eZ):=cT;have aN:ah (λr=>leadsTo sv r\/r=g) aT bn:=(e0.mono λr _ h=>.inl h).trans (dt.mono λr _ h=>.inr h);have cU:∀r,(leadsTo sv r\/r=g)->gZ aT r\/aT.heap.size<=r:=λr j=>by
     rcases j with j|rfl
     .obtain⟨rfl,c,m⟩:=eb dr j;exact .inl ⟨_,c,m,Φ,Φ⟩
     .exact .inl ⟨_,_,ds,Φ,Φ⟩
    have e2:∀ {aa x},gJ ao aa x->gJ bn aa x:=λhe=>(he.ext X).dI aN cU;have z50:=ce.size;have jV:=X.size;have z53:=aN.size;have jW:=bO.size;have jX:=ib.2;refine aY _ ⟨λr=>H r\/(ao.heap.size<=r/\r<bn.heap.size),?_,?_,?_,?_,?_,λr j=>.inl j,λr j=>j.imp id λj=>Ω,λr j=>?_⟩
    .refine (((dh bO).trans (ce.ab _)).trans (X.ab _)).trans (aN.mono λr _ j=>?_);exact j.elim (λj=>.inr (.inl (bk r j))) .inl
    .have i1:=eV.ext X;refine⟨eP,eQ,br,eR,eS,cc,i1.ab aN λj=>?_,eB (eW.ext X) aN cU,eB (eX.ext X) aN cU,(eY.dI (X.ab λ_=>False) λ_ h=>h.elim).dI aN cU,iV,iW,iX⟩;rcases j with j|j
     .have:=iU _ j;omega
     .exact b2 j
    .exact (iR.ext X).ab aN λj=>j.elim (λj=>cG (bk _ j)) ev
    .refine⟨Ω,bn,aq,bg,iZ,eZ,L++[aa],aB++[x],Y,Z,bad,av,big,az,told,rfl,ah.refl _ _,⟨_,cT⟩,cT,⟨⟨?_,λr j=>?_⟩,cj.ab dt λr j he=>?_,by rw[o4,o4,cg];rfl,λi i2 i3 hi ck=>?_⟩,λr j=>?_,?_⟩
     .refine (iT.ab (X.ab λ_=>False) λ_ _ h=>h).ab aN λr j U=>?_;obtain⟨c,m⟩:=eO r j;rcases U with U|rfl
      .obtain⟨rfl,i4,du⟩:=eb aK U;exact absurd (e7 m du) Φ
      .exact absurd (e7 m af) Φ
     .obtain⟨c,m⟩:=eO r j;refine⟨c,(m.ext X).ab aN λU=>?_⟩;rcases U with U|rfl
      .obtain⟨rfl,i4,du⟩:=eb aK U;exact absurd (e7 m du) Φ
      .exact absurd (e7 m af) Φ
     .have he:r=g:=he;subst he;exact cR cj e1 Φ j
     .by_cases i5:i<L.length
      .rw[Y1 i5] at hi;rw[Y1 Ω] at ck;exact e2 (ci i i2 i3 hi ck)
      .rw[Y2 Ω] at hi;rw[Y2 Ω] at ck;have i6:i-L.length=0:=by have:=(x4.1 hi).1;simp at this;omega
       have c8:i-aB.length=0:=Ω
       rw[i6] at hi;rw[c8] at ck;cases hi;cases ck;exact e2 b4
     .rcases i0 r j with h|h
      .exact .inl (bk r h)
      .have:=(cj.leads j);have:=dt.size;exact .inr ⟨Ω,Ω⟩
     .rw[ca];cases ae:dP sizes I with
      |none=>
       rw[ae] at bt;rw[bt] at bA;exact⟨bA.1,by rw[o4];simp;have:=bA.2;omega⟩
      |some p=>
       obtain⟨lines,bj⟩:=p;rw[ae] at bt;rw[bt] at bA;have i7:=aZ _ ae;obtain⟨cl,cm,cn,cp,cq,bP,cr,aR,cV⟩:=id bA;have e3:=De ae;refine⟨cl,cm,cn,cp,cq,bP,cr,?_,?_⟩
       .show (aB++[x]).map _=bj.shared++[(sizes,lines)];rw[Z0,aR];simp only[x,U7,List.map_nil];rw[i7]
       .have jY:I.shared.length+I.toks.length<=100000:=by
         cases bN:O with
         |none=>rw[bN] at S;cases S
         |some an=>
          rw[bN] at S h;have dm:bh 0 aw (bd (decide (6<ar)||dq sizes) an)=σ (o,I):=S;have t9:=dC dm;have cP:=t9.1;have cb:=t9.eqs.2.2;have t3:=(ta h).2;have e4:(bd (decide (6<ar)||dq sizes) an).toks=an.toks:=rfl;have e5:(bd (decide (6<ar)||dq sizes) an).shared=an.shared:=rfl;rw[e4] at cP;rw[e5] at cb;rw[cb];omega
        have e6:L.length=bj.shared.length:=by rw[<-aR,u7,cg]
        have i8:bg.length=bj.toks.length:=by rw[<-bP,u7]
        rw[e3.2] at e6;rw[o4,e6,i8];simp only[S9];have:=e3.1;omega
    .rintro (j|j)
     .exact cG j
     .omega
    .rcases j with j|j
     .have:=cH r j;omega
     .exact j.2
 .intro aA aY;rw[aO,al];refine⟨λi9=>?_,λja=>?_⟩
  .
   refine aV (λv W=>Ext M W/\ ∃b:Bool,v= .bool b/\(b=true->dP sizes I=ν)/\(b=false-> ∃lines,dP sizes I=σ (lines,G)/\G.shared[(-n-1).toNat]? =σ (sizes,lines))) ?_ ?_
   .rintro _ W ⟨bS,b,rfl,jb,jc⟩;have cW:=a7.ext bS;have jd:=eJ.ext bS;have e8:=eI.trans (bS.ab _);cases b with
    |true=>
     rw[bQ];refine (nQ cW Ω).mono ?_;rintro _ c3 _ ⟨e9,je⟩;exact eC (jd.dI e9 (kt cW)) (e8.trans (e9.mono λr _ h=>.inl h)) je (by rw[ca,jb rfl])
    |false=>
     rw[a1];obtain⟨lines,jf,bT⟩:=jc rfl;obtain⟨b7,w0,aq,bg,gs,sv,L,aB,Y,Z,bad,av,big,az,told,cS,bu,bw,af,bz,bk,cl,cm,cn,cp,cq,bP,cr,aR,cV⟩:=id cW;obtain⟨_,aK,cg,ci⟩:=bz.g bu bw;have ct:(-n-1).toNat<L.length:=by
      have h1:=(x4.1 bT).1;rw[<-aR,u7] at h1;omega
     obtain⟨hk,cu⟩:∃h,L[(-n-1).toNat]? =σ h:=⟨_,x6 ct⟩;obtain⟨bc,cA⟩:=aH (l:=aB) (i:=(-n-1).toNat) Ω;obtain⟨_,_,_,jg,aj⟩:=ci _ hk bc cu cA;have jh:bc.lines=lines:=by
      rw[<-aR,x8,cA] at bT;have:=b6 bT;exact (Prod.mk.inj this).2
     rw[aQ bx.p 8 af rfl,lD,wrap_i64 Ω Ω,dF,wrap_i64 Ω Ω,dx (i:=(-n-1).toNat) Ω dw.u ba.i aK ct,aU ba.p rfl,ay Ψ (aK.range cu 3 _ rfl)];obtain⟨jZ,fa,j1,j2⟩:=id aj;have cX:ag W C ba [aG,szv,Δ o,b3]:=(bI.ab bi λhe=>b2 he).ext bS;have ji:=(eB f224 bi λr j=>(kt bL r j).imp (λ⟨e,c,m,a2,a6,_⟩=>⟨e,c,m,a2,a6⟩) id).ext bS;have jj:=(eB f324 bi λr j=>(kt bL r j).imp (λ⟨e,c,m,a2,a6,_⟩=>⟨e,c,m,a2,a6⟩) id).ext bS;rw[aU ba.p rfl];refine bq (g:=C) (o:=3) dW.i (eL fa.sl).1 (eL fa.sl).2 cX Ξ λeo cB j3 jk=>?_;refine aY _ ⟨e8.trans (cB.mono λr _ h=>.inr (by have h:r=C:=h;omega)),hk.b3,jg,lines,G,jk,eB ji cB (bK cX),eB jj cB (bK cX),?_,cW.new cB λr j=>by have j:r=C:=j;omega,λh=>Ω,by rw[jf,if_pos Ω]⟩;rw[<-jh];exact aj.dI cB (bK cX)
   .intro j5 fb;intro N cC _ _;have jl:=a7.ext cC;obtain⟨b7,w0,aq,bg,gs,sv,L,aB,Y,Z,bad,av,big,az,told,cS,bu,bw,af,bz,bk,cl,cm,cn,cp,cq,bP,cr,aR,cV⟩:=id jl;obtain⟨_,aK,cg,ci⟩:=bz.g bu bw;have j6:G.shared.length=L.length:=by rw[<-aR,u7,cg]
    have aj:=eK;rw[if_pos i9] at aj;rw[lD,wrap_i64 Ω Ω,aQ bx.p 8 af rfl,fh dw.u aK,bU,al];refine⟨λcd=>fb _ _ ⟨cC,true,rfl,λ_=>?_,λh=>by cases h⟩,λcd=>?_⟩
    .rw[aj,Z6 Ω]
    have ct:(-n-1).toNat<L.length:=Ω
    obtain⟨hk,cu⟩:∃h,L[(-n-1).toNat]? =σ h:=⟨_,x6 ct⟩;obtain⟨bc,cA⟩:=aH (l:=aB) (i:=(-n-1).toNat) Ω;obtain⟨_,⟨gz,jm⟩,_,_⟩:=ci _ hk bc cu cA;have bT:G.shared[(-n-1).toNat]? =σ (bc.sizes,bc.lines):=by rw[<-aR,x8,cA];rfl
    rw[bT] at aj;simp only at aj;rw[aQ bx.p 8 af rfl,lD,wrap_i64 Ω Ω,dF,wrap_i64 Ω Ω,dx (i:=(-n-1).toNat) Ω dw.u ba.i aK ct,aU ba.p rfl,ay Ψ (aK.range cu 1 _ rfl)];have jn:ag N C ba [aG,szv,Δ o,b3]:=(bI.ab bi λhe=>b2 he).ext cC;have jo:=(eB f324 bi λr j=>(kt bL r j).imp (λ⟨e,c,m,a2,a6,_⟩=>⟨e,c,m,a2,a6⟩) id).ext cC;rw[aM ba.p 1 jn rfl];refine (wu jm.ls jo.ls).mono ?_;rintro _ c4 _ ⟨rfl,jp⟩;rw[bG];refine fb _ _ ⟨cC.trans jp,_,rfl,λm=>?_,λm=>?_⟩
    .have jq:bc.sizes≠sizes:=by simpa using m
     rw[aj,if_neg jq]
    .have fc:bc.sizes=sizes:=by simpa using m
     exact⟨bc.lines,by rw[aj,if_pos fc],by rw[bT,fc]⟩
  .
   have aj:=eK;rw[if_neg ja] at aj;obtain⟨b7,w0,aq,bg,gs,sv,L,aB,Y,Z,bad,av,big,az,told,cS,bu,bw,af,bz,bk,cl,cm,cn,cp,cq,bP,cr,aR,cV⟩:=id a7;rw[aQ bx.p 7 af rfl,aP];generalize jr:X2.wrap (told+n)=bl;have fd:G.big=false->bl=G.told+n/\0<=bl:=λm=>by
    obtain⟨e4,e5⟩:=iF m;have js:=cp m;rw[<-jr,js,wrap_i64 Ω Ω];exact⟨rfl,Ω⟩
   rw[bV,aU bx.p rfl];refine bq (g:=g) (o:=7) ap.i rfl rfl af (by simp[gn]) λaI fe j7 cE=>?_;have cE:ag aI g bx (gn aq Y Z bad av big az bl sv):=cE;refine dg (λaJ=>ah (λr=>r=g) M aJ/\ag aJ g bx (gn aq Y Z bad av big az (min bl aw) sv)) ?_ ?_
   rotate_left
   .intro j8 ff;rw[aQ bx.p 7 cE rfl,bU,al];refine⟨λcd=>?_,λcd=>ff _ ⟨fe,?_⟩⟩
    .rw[bV,aU bx.p rfl];refine bq (g:=g) (o:=7) ap.i rfl rfl cE (by simp[gn]) λet jt ka ju=>?_;refine ff _ ⟨fe.trans jt,?_⟩;have e:min bl aw=4611686018427387904:=by unfold aw;omega
     rw[e];exact ju
    .have e:min bl aw=bl:=by unfold aw;omega
     rw[e];exact cE
   rintro aJ ⟨fi,fj⟩;have jv:bJ aJ g B H 100000 (σ {G with told:=min (G.told+n) aw}):=⟨b7,w0,aq,bg,gs,sv,L,aB,Y,Z,bad,av,big,az,_,cS,bu.trans fi,bw,fj,bz,bk,cl,cm,cn,λm=>by
    have m:G.big=false:=m;rw[(fd m).1],cq,bP,cr,aR,cV⟩
   rw[aQ bx.p 7 fj rfl,bU];refine (mA jv).mono ?_;rintro _ c5 _ ⟨jw,fk⟩;have jx:(σ {G with told:=min (G.told+n) aw}).map (bd (decide (16384<min bl aw)))=σ (bd (decide (16384<min (G.told+n) aw)) {G with told:=min (G.told+n) aw}):=by
    show σ (bd _ _)=_;congr 1;unfold bd;cases m:G.big with
    |true=>simp
    |false=>rw[(fd m).1]
   rw[jx] at fk;have cF:ah (λr=>r=g) be c5:=(bi.trans fi).trans jw;have dv:∀r,r=g->gZ be r\/be.heap.size<=r:=λr j=>(kt bL r j).imp (λ⟨e,c,m,a2,a6,_⟩=>⟨e,c,m,a2,a6⟩) id;have jy:b3= .slice ν 0 0:=by
    have:=fm _ f1;simpa using this
   refine aY _ ⟨eF.trans (cF.mono λr _ h=>.inl h),b3,cN,[],_,bI.ab cF λhe=>b2 he,eB f224 cF dv,eB f324 cF dv,eE.dI cF dv,fk,λ_=>⟨rfl,λr j=>by rw[jy] at j;exact fg j⟩,?_⟩;rw[aj];by_cases eH:n<=0
   .have:n=0:=Ω
    subst this;rw[if_pos (Int.le_refl _)];rfl
   .rw[if_neg eH]
theorem Dh {s:aE}:c6 all s=match bh (-aw) aw s with
  |none=>ν
  |some (a,f)=>match eZ all.length a.natAbs f with
   |none=>ν
   |some (scope,e)=>jK (decide (a<0)) a.natAbs scope (scope.map λv=>all.getD v.toNat 0) (σ e):=by
 unfold c6;cases bh (-aw) aw s with
 |none=>rfl
 |some q=>
  obtain⟨a,f⟩:=q;simp only;cases eZ all.length a.natAbs f with
  |none=>rfl
  |some p=>
   obtain⟨scope,e⟩:=p;simp only;unfold jK;show _=match bh 0 aw (bd (decide (6<a.natAbs)||dq (scope.map λv=>all.getD v.toNat 0)) e) with
    |none=>ν
    |some (other,h)=>_
   cases bh 0 aw (bd (decide (6<a.natAbs)||dq (scope.map λv=>all.getD v.toNat 0)) e) with
   |none=>rfl
   |some m=>
    obtain⟨o,h⟩:=m;simp only;cases dP (scope.map λv=>all.getD v.toNat 0) h with
    |none=>rfl
    |some r=>
     obtain⟨ls,w⟩:=r;by_cases j:a<0
     .simp[j]
     .simp[j]
def wx (w:x3) (g:Nat) (H:ak) (e:Option (cw×aE)) (v:x1) (w':x3):Prop:=∃f x a,ah (λr=>r=g\/H r) w w'/\v= .agg (eU f).toArray/\gJ w' f x/\bJ w' g w'.heap.size a 100001 (e.map (·.2))/\(∀q,e=σ q->x=q.1)/\(∀r,H r->a r)/\(∀r,a r->H r\/w.heap.size<=r)/\ ∀r,a r->r<w'.heap.size
theorem Di {n:Int} {s s':aE} (h:eZ n k s=σ (l,s')):s'.toks.length+l.length<=s.toks.length/\s'.told=s.told/\s'.big=s.big/\s'.shared=s.shared/\ ∀v∈l,0<=v/\v<n:=by
 have:=ki (f:=kj n) (λ(acc:Λ) t=>t.toks.length+acc.length<=s.toks.length/\t.told=s.told/\t.big=s.big/\t.shared=s.shared/\ ∀v∈acc,0<=v/\v<n) (λacc t a bu j e=>by
  unfold kj at e;cases p:bh 0 (n-1) t with
  |none=>rw[p] at e;cases e
  |some q=>
   obtain⟨v,A⟩:=q;rw[p] at e;simp only at e;split at e
   .cases e
   .cases e;have r:=dC p;have B:=(hQ p).1;obtain⟨w,x,z⟩:=r.eqs;have t0:=r.1;refine⟨by have:=j.1;rw[o4];simp only[S9];omega,w.trans j.2.1,x.trans j.2.2.1,z.trans j.2.2.2.1,λy m=>?_⟩;rcases o7.1 m with m|m
    .exact j.2.2.2.2 y m
    .rw[o8.1 m];omega) k [] s l s' ⟨Ξ,rfl,rfl,rfl,λv ad=>by cases ad⟩ h
 exact this.1
theorem NV {g B0:Nat} {H:ak} {s:aE} {M:x1} (h:bJ w g B0 H 100000 (σ s)) (Y:au .i64 ap w gz M all) (Z:∀z∈all,1<=z/\z<=aw) (aR:all.length<=100001) (N:∀r,H r->r<w.heap.size) (bj:jJ s):
  am x7 y9 [Γ g,M] w (wx w g H (c6 all s)):=by
 have bW:=h.lt;refine az func87 ?_;refine bD ba.i λE V bX O P=>?_;have P:ag V E ba [.slice ν 0 0,.slice ν 0 0,Δ 0,.slice ν 0 0]:=P;refine bD ba.i λI aa bY Q R=>?_;have R:ag aa I ba [.slice ν 0 0,.slice ν 0 0,Δ 0,.slice ν 0 0]:=R;have h1:=(h.ext O).base;have ae:=h1.ext Q;have bZ:=O.size;have aS:=P.lt;have b0:=R.lt;refine (kr ae).mono ?_;rintro _ C _ ⟨⟨S,j⟩,a,b1,rfl,af,ai⟩;rw[bo,bp,aO];have bl:I≠g:=Ω
 have aj:E≠g:=Ω
 have an:=R.ab S λhe=>bl he;have ao:=(P.ext Q).ab S λhe=>aj he;have aT:au .i64 ap C gz M all:=br ((Y.ext O).ext Q) S λr e he=>by
  have he:r=g:=he;obtain⟨aU,A,G,bad,aW,big,aX,told,sv,W,_⟩:=hU h;subst he;exact b7 Y W Φ e rfl
 have aY:∀r,leads M r->r<V.heap.size:=λr e=>by obtain⟨A,G⟩:=bO Y e;omega
 have aq:ha C V.heap.size I ⟨[],[],0,[]⟩:=⟨_,_,_,0,0,0,an,au.nil _ _ _ _,au.nil _ _ _ _,⟨[],bk.nil _ _ _ _ _,λy bm=>(by cases bm),rfl⟩,(λr e=>by rcases e with⟨a,n,c,A,G⟩|⟨a,n,c,A,G⟩<;>cases A),(λr e=>by obtain⟨a,n,c,A,G⟩:=e;cases A),Ω⟩;have av:∀c,ag C I ba c->c[3]? =σ (.slice ν 0 0):=λc ax=>by
  unfold ag at ax an;rw[an] at ax;have:=Array.toList_inj.2 (Obj.cells.inj (b6 ax)).1;simp at this;rw[<-this];rfl
 have aZ:ah (λr=>r=g) V C:=(Q.ab _).trans S;have b2:V.heap.size<=C.heap.size:=aZ.size;have ay:∀ {f:x3} {aB:Option (cw×aE)} {v:x1} {w':x3},ah (gK g V.heap.size) C f->aB=c6 all s->Df f g E V.heap.size H aB v w'->wx w g H (c6 all s) v w':=by
  rintro f aB v w' B rfl ⟨K,x,bn,aC,aF,aH,aI,a1,a2,a6,bq⟩;refine⟨K,x,bn,?_,aF,aH,aI,a1,a2,λr e=>(a6 r e).imp id λh=>Ω,bq⟩;refine hn (hn ((O.ab _).trans (aZ.mono λr _ h=>.inl h)) B λr e he=>?_) aC λr e he=>?_
  .exact he.elim .inl λhe=>Ω
  .rcases he with he|he|he|he
   .exact .inl he
   .exact .inr he
   .omega
   .omega
 have bt:∀ {f:x3} {x:cw},ah (gK g V.heap.size) C f->c6 all s=ν->bJ f g V.heap.size H 100000 ν->ha f V.heap.size I x->
   (ac x7 (u4 ba (Γ I)) f λbu=>
    aD x7 (o6 ba (Γ E) bu) f λ(_:Unit) a7=>
    ac x7 (do loadVar ba (<-asAddr (Γ E))) a7 λbw=>wx w g H (c6 all s) bw a7):=by
  intro f x B a8 aK bx;obtain⟨aG,szv,b3,g1,bz,bA,aC,aF,aH,aI,a1,a2,a6⟩:=bx;let K:iM:=⟨aG,szv,x.other,b3⟩;have bc:gJ f K x:=⟨⟨g1,aF⟩,⟨bz,aH⟩,rfl,bA,aI⟩;have aL:=ao.ab B λU=>U.elim aj λh=>Ω
  rw[bR ba.p ba.i rfl (show f.rangeAt I 0 (eU K) from aC.range)];refine ch (vs:=eU K) ba.i rfl rfl bc.one aL λb4 aM b5 bB=>?_;rw[fN ba.p ba.i rfl bB.range];have bC:∀r,r=E->gZ f r\/f.heap.size<=r:=λr e=>by subst e;exact .inl ⟨_,_,aL,Φ,Φ⟩
  have b8:=B.size;refine ay B rfl ⟨K,x,H,aM.mono λr _ h=>.inr (.inr (.inl h)),rfl,bc.dI aM bC,?_,(λq m=>by rw[a8] at m;cases m),λ_ h=>h,λ_ h=>.inl h,λr e=>by have:=N r e;omega⟩;rw[a8];have bE:bJ f g V.heap.size H 100001 ν:=by
   obtain⟨b9,w0,aU,bF,gs,sv,L,bG,A,G,bad,aW,big,aX,told,h1,ae,j,bH,bI,aN,bd⟩:=aK;exact⟨Ω,w0,aU,bF,gs,sv,L,bG,A,G,bad,aW,big,aX,told,h1,ae,j,bH,bI,aN,bd.1,by have:=bd.2;omega⟩
  refine bE.dI aM λr e=>.inl ?_;have e:r=E:=e;subst e;exact⟨_,_,aL,Φ,Φ,Φ,Φ,λaJ=>by have:=N _ aJ;omega⟩
 have J:=Dh (all:=all) (s:=s);have bK:bb (-4611686018427387904) 4611686018427387904 (σ s)=bh (-aw) aw s:=rfl;rw[bK] at j af ai;have ca: -4611686018427387904<=a/\a<=4611686018427387904:=by
  cases m:bh (-aw) aw s with
  |none=>have:=ai m;omega
  |some q=>have:=af q m;rw[this];exact (hQ (n:=q.1) (s':=q.2) m).1
 refine aV (λv bL=>C=bL/\v=Δ (a.natAbs:Int)) ?_ ?_
 rotate_left
 .intro aA be;rw[al];refine⟨λcb=>?_,λcc=>be _ _ ⟨rfl,by congr 1;omega⟩⟩;rw[lD,wrap_i64 Ω Ω];exact be _ _ ⟨rfl,by congr 1;omega⟩
 rintro _ _ ⟨rfl,rfl⟩;have bf:∀r,H r->r<V.heap.size:=λr e=>by have:=N r e;omega
 have bg:¬H E:=λaJ=>by have:=N _ aJ;omega
 have bM:∀ {scope:Λ},(∀v∈scope,0<=v/\v<(all.length:Int))-> ∀z∈scope.map (λv=>all.getD v.toNat 0),1<=z/\z<=aw:=λad z bN=>by
  obtain⟨v,bP,rfl⟩:=l9.1 bN;have:=ad v bP;refine Z _ ?_;rw[v8,x6 Ω];exact R8 _
 cases m:bh (-aw) aw s with
 |none=>
  rw[m] at j J;have bQ:=ai m;subst bQ;refine Dd (s:=s) (ar:=(0:Int).natAbs) j (.inr ⟨rfl,rfl⟩) aq av aT aY aR Φ (λh=>by cases h) ?_ ?_ ?_
  .intro h;cases h
  .intro _;exact Dg (neg:=decide ((0:Int)<0)) j aq av (λz Z=>by cases Z) Ξ ao aS bg bf (λbS U=>by cases U) λv w' aP=>ay (ah.refl _ _) (by rw[J];rfl) aP
  .intro h;cases h
 |some q=>
  obtain⟨a',bi⟩:=q;rw[m] at j J;have:=af _ m;subst this;simp only at J;have j:bJ C g V.heap.size H 100000 (σ bi):=j;have bT:=dC m;refine Dd (s:=bi) (ar:=a.natAbs) j (.inl rfl) aq av aT aY aR Ω (λ_=>(ta j).1) ?_ ?_ ?_
  .intro _ f x B X aK aQ;exact bt B (by rw[J,X]) aK aQ
  .intro h;cases h
  .intro _ f scope s' B X aN aQ bU;obtain⟨cd,bV,t3,t4,t5⟩:=Di X;rw[X] at J;obtain⟨A,G,ce⟩:=bT.eqs;refine Dg (neg:=decide (a<0)) aN aQ bU (bM t5) ?_ (ao.ab B λU=>U.elim aj λh=>Ω) aS bg bf (λbS U=>?_) λv w' aP=>ay B J.symm aP
   .rw[u7];have:=(ta j).1;omega
   .cases U;intro W;rw[t3,G] at W;rw[bV,A];exact bj W
theorem NW {s s':aE} {l:List (Λ×Int)} (h:dP sizes s=σ (l,s')) (r:jJ s):jJ s':=by
 unfold dP at h;cases m:bh (-aw) aw s with
 |none=>rw[m] at h;cases h
 |some q=>
  obtain⟨n,e⟩:=q;obtain⟨w,x,t3⟩:=(dC m).eqs;have p:jJ e:=λj=>by rw[w];exact r (by rw[<-x];exact j)
  rw[m] at h;simp only at h;split at h
  .split at h
   .cases h
   .split at h
    .cases h;exact p
    .cases h
  .rename_i G;have h':cO (dO sizes) n.toNat [] (bd (decide (16384<min (e.told+n) aw)) {e with told:=min (e.told+n) aw})=σ (l,s'):=h;have:=ki (f:=dO sizes) (λ_ t=>jJ t) (λacc t a bu y z=>by
    obtain⟨_,_,_,A⟩:=oP z;obtain⟨B,C,H⟩:=A.eqs;intro j;rw[B];exact y (by rw[<-C];exact j)) n.toNat [] (bd (decide (16384<min (e.told+n) aw)) {e with told:=min (e.told+n) aw}) l s' (λj=>by
     obtain⟨E,F⟩:=S3.1 j;have I:=p E;have J:=of_decide_eq_false F;show 0<=min (e.told+n) aw/\min (e.told+n) aw<=16384;unfold aw at*;omega) h'
   exact this.1
theorem NX {s s':aE} {x:cw} (h:c6 all s=σ (x,s')):s'.toks.length+1<=s.toks.length/\(jJ s->jJ s'):=by
 rw[Dh] at h;cases m:bh (-aw) aw s with
 |none=>rw[m] at h;cases h
 |some q=>
  obtain⟨a,E⟩:=q;rw[m] at h;simp only at h;have z:=dC m;cases U:eZ all.length a.natAbs E with
  |none=>rw[U] at h;cases h
  |some p=>
   obtain⟨scope,f⟩:=p;rw[U] at h;simp only at h;obtain⟨S,F,t3,_⟩:=Di U;unfold jK at h;have e:bb 0 aw ((σ f).map (bd (decide (6<a.natAbs)||dq (scope.map λv=>all.getD v.toNat 0))))=bh 0 aw (bd (decide (6<a.natAbs)||dq (scope.map λv=>all.getD v.toNat 0)) f):=rfl;rw[e] at h;cases r:bh 0 aw (bd (decide (6<a.natAbs)||dq (scope.map λv=>all.getD v.toNat 0)) f) with
   |none=>rw[r] at h;cases h
   |some G=>
    obtain⟨o,A⟩:=G;rw[r] at h;simp only at h;have B:=dC r;cases j:dP (scope.map λv=>all.getD v.toNat 0) A with
    |none=>rw[j] at h;cases h
    |some H=>
     obtain⟨ls,w⟩:=H;rw[j] at h;simp only[Y8,T9] at h;obtain⟨_,I⟩:=h;have T:=De j;have J:(bd (decide (6<a.natAbs)||dq (scope.map λv=>all.getD v.toNat 0)) f).toks=f.toks:=rfl;have K:=B.1;rw[J] at K;have V:=z.1;obtain⟨L,M,_⟩:=z.eqs;obtain⟨f1,f2,_⟩:=B.eqs;have y:s'.toks=w.toks/\s'.told=w.told/\s'.big=w.big:=by
      rw[<-I];split<;>exact⟨rfl,rfl,rfl⟩
     refine⟨by rw[y.1];omega,λN=>?_⟩;have O:jJ A:=λC=>by
      rw[f2] at C;rw[f1];have P:f.big=false:=(S3.1 C).1;show 0<=f.told/\f.told<=16384;rw[F,L];exact N (by rw[<-M,<-t3];exact P)
     have Q:=NW j O;intro R;rw[y.2.1];exact Q (by rw[<-y.2.2];exact R)
theorem bJ.shrink {g:Nat} {H:ak} {so:Option aE} (h:bJ w g B H N so):∃a,bJ w g B a N so/\(∀r,a r->H r)/\ ∀r,a r-> ∃c,ag w r ba c:=by
 obtain⟨q,w0,s,x,gs,sv,L,y,z,A,bad,C,big,E,told,h1,f,j,F,m,G,I⟩:=h;refine⟨λr=>leadsTo sv r,⟨q,w0,s,x,gs,sv,L,y,z,A,bad,C,big,E,told,h1,f,j,F,m,λr e=>e,I⟩,G,λr e=>?_⟩;obtain⟨rfl,c,p⟩:=eb m.2.1 e;refine⟨c,p.ab f λhe=>?_⟩;obtain⟨K,J⟩:=j;subst he;exact absurd (e7 p J) Φ
theorem bJ.low {g:Nat} {H:ak} {s:aE} (h:bJ w g B H N (σ s)):bJ w g B H 100000 (σ s):=by
 obtain⟨E,w0,a,e,gs,sv,L,f,j,m,bad,p,big,q,told,h1,r,x,y,z,A,C⟩:=h;exact⟨p8 _,w0,a,e,gs,sv,L,f,j,m,bad,p,big,q,told,h1,r,x,y,z,A,C⟩
theorem bJ.up {g M:Nat} {H:ak} {so:Option aE} (h:bJ w g B H N so) (E:N<=M):bJ w g B H M so:=by
 obtain⟨F,w0,e,f,gs,sv,L,j,m,p,bad,q,big,r,told,h1,x,y,z,A,C,a⟩:=h;refine⟨Ω,w0,e,f,gs,sv,L,j,m,p,bad,q,big,r,told,h1,x,y,z,A,C,?_⟩;cases so with
 |none=>exact⟨a.1,by have:=a.2;omega⟩
 |some s=>exact a
def k6 {α:Type} (f:List α->aE->Option (α×aE)) (cnt i:Nat) (a:Option aE) (A:List α) (so:Option aE):Prop:=a.bind (cO f cnt [])=(match so with
 |none=>ν
 |some s=>cO f (cnt-i) A s)
theorem k6.step {α:Type} {f:List α->aE->Option (α×aE)} {cnt i:Nat} {j:Option aE} {A:List α} {s:aE} {a:α} {m:Option aE} (h:k6 f cnt i j A (σ s)) (hi:i<cnt) (h1:m=(f A s).map (·.2)) (p:∀q,f A s=σ q->a=q.1):k6 f cnt (i+1) j (A++[a]) m:=by
 unfold k6 at*;rw[h,show cnt-i=(cnt-(i+1))+1 by omega];simp only;cases e:f A s with
 |none=>rw[oS e,h1,e];rfl
 |some q=>
  obtain⟨a',s'⟩:=q;have:=p _ e;subst this;rw[sm e,h1,e];rfl
theorem NY {s0:aE} {t acc:Λ} {n most m k:Int} {F:List cw} {w x y z G so6 e:Option aE} (h1:w=((dN s0).map (·.2)).map (bd (decide (64<t.length)))) (P:∀q,dN s0=σ q->t=q.1)
  (p:x=((bb 1 aw w).map (·.2)).map (bd (decide (64<n)))) (M:∀q,bb 1 aw w=σ q->n=q.1) (h:y=(bb 1 aw x).map (·.2)) (hm:∀q,bb 1 aw x=σ q->most=q.1)
  (f:z=((bb 0 aw y).map (·.2)).map (bd (decide (256<m)))) (N:∀q,bb 0 aw y=σ q->m=q.1) (a:G=((bb 1 aw z).map (·.2)).map (bd (decide (2147483648<k)))) (hk:∀q,bb 1 aw z=σ q->k=q.1)
  (r:G.bind (cO (fR most) n.toNat [])=so6.map λs=>(acc,s)) (j:so6.bind (cO (λ_ s=>c6 acc s) m.toNat [])=e.map λs=>(F,s)):hN s0=e.map λs=>(⟨t,k,acc,F⟩,s):=by
 unfold hN;cases H:dN s0 with
 |none=>
  rw[H] at h1;subst h1;subst p;subst h;subst f;subst a;have:so6=ν:=by cases so6 with|none=>rfl|some s=>cases r
  subst this;cases e with|none=>rfl|some s=>cases j
 |some Q=>
 obtain⟨bu,A⟩:=Q;have:=P _ H;subst this;rw[H] at h1;have h1:w=σ (bd (decide (64<t.length)) A):=h1;subst h1;simp only;have R:bb 1 aw (σ (bd (decide (64<t.length)) A))=bh 1 aw (bd (decide (64<t.length)) A):=rfl;rw[R] at p M;cases I:bh 1 aw (bd (decide (64<t.length)) A) with
 |none=>
  rw[I] at p;subst p;subst h;subst f;subst a;have:so6=ν:=by cases so6 with|none=>rfl|some s=>cases r
  subst this;cases e with|none=>rfl|some s=>cases j
 |some S=>
 obtain⟨aa,B⟩:=S;have:=M _ I;subst this;rw[I] at p;have p:x=σ (bd (decide (64<n)) B):=p;subst p;simp only;have T:bb 1 aw (σ (bd (decide (64<n)) B))=bh 1 aw (bd (decide (64<n)) B):=rfl;rw[T] at h hm;cases J:bh 1 aw (bd (decide (64<n)) B) with
 |none=>
  rw[J] at h;subst h;subst f;subst a;have:so6=ν:=by cases so6 with|none=>rfl|some s=>cases r
  subst this;cases e with|none=>rfl|some s=>cases j
 |some U=>
 obtain⟨cm,C⟩:=U;have:=hm _ J;subst this;rw[J] at h;have h:y=σ C:=h;subst h;simp only;have V:bb 0 aw (σ C)=bh 0 aw C:=rfl;rw[V] at f N;cases K:bh 0 aw C with
 |none=>
  rw[K] at f;subst f;subst a;have:so6=ν:=by cases so6 with|none=>rfl|some s=>cases r
  subst this;cases e with|none=>rfl|some s=>cases j
 |some W=>
 obtain⟨ab,E⟩:=W;have:=N _ K;subst this;rw[K] at f;have f:z=σ (bd (decide (256<m)) E):=f;subst f;simp only;have X:bb 1 aw (σ (bd (decide (256<m)) E))=bh 1 aw (bd (decide (256<m)) E):=rfl;rw[X] at a hk;cases L:bh 1 aw (bd (decide (256<m)) E) with
 |none=>
  rw[L] at a;subst a;have:so6=ν:=by cases so6 with|none=>rfl|some s=>cases r
  subst this;cases e with|none=>rfl|some s=>cases j
 |some Y=>
 obtain⟨ac,O⟩:=Y;have:=hk _ L;subst this;rw[L] at a;have a:G=σ (bd (decide (2147483648<k)) O):=a;subst a;simp only;have r:cO (fR most) n.toNat [] (bd (decide (2147483648<k)) O)=so6.map λs=>(acc,s):=r;rw[r];cases so6 with
 |none=>cases e with|none=>rfl|some s=>cases j
 |some Z=>
  simp only[Z3];have j:cO (λ_ s=>c6 acc s) m.toNat [] Z=e.map λs=>(F,s):=j;rw[j];cases e<;>rfl
def pe (w:x3) (gr:Nat) (e:x1) (a:List cw):Prop:=∃L,bk eU 4 ba w gr e L/\a.length=L.length/\ ∀ (i:Nat) h x,L[i]? =σ h->a[i]? =σ x->gJ w h x
def nR (w:x3) (e:Nat) (f:b2):Prop:=∃szv gz a gr,ag w e dB [bP f.name,Δ f.k,szv,a]/\au .i64 ap w gz szv f.sizes/\pe w gr a f.funs
theorem pe.ext {gr:Nat} {a:x1} {e:List cw} (h:pe w gr a e) (J:Ext w w'):pe w' gr a e:=by
 obtain⟨L,h1,f,j⟩:=h;exact⟨L,h1.ext J,f,λi aJ x hi m=>(j i aJ x hi m).ext J⟩
theorem nR.ext {f:b2} (h:nR w a f) (J:Ext w w'):nR w' a f:=by
 obtain⟨szv,gz,e,gr,h1,j,m⟩:=h;exact⟨szv,gz,e,gr,h1.ext J,j.ext J,m.ext J⟩
def NZ (w:x3) (pl:Λ) (v:x1) (w':x3):Prop:=Ext w w'/\ ∃n e:Int,(gi pl=ν->v= .tuple #[.pointer ν,Δ n,Δ e])/\ ∀f,gi pl=σ f-> ∃a,v= .tuple #[Γ a,Δ n,Δ e]/\nR w' a f
theorem N0 {w0:x3} {g y:Nat} {so6:Option aE} {t acc:Λ} {k P bad:Int} {szv p:x1} {Q:x1->x3->Prop} (da:ah (λr=>w0.heap.size<=r) w0 w) (b0:ag w y dB [bP t,Δ k,szv,.slice ν 0 0]) (db:au .i64 ap w gz szv acc)
  (h:bJ w g B bz 100000 so6) (dc:∀s,so6=σ s->jJ s/\s.toks.length<=100000/\(∀z∈acc,1<=z/\z<=aw)/\acc.length<=100001) (e9:w0.heap.size<=g) (fa:w0.heap.size<=y) (dd:aF .u8 w0 p pl) (fb:0<=P/\P<=4611686018427387904)
  (bi:∀v w' K bj,Ext w0 w'->so6.bind (cO (λ_ s=>c6 acc s) P.toNat [])=bj.map (λs=>(K,s))->
   (∀s,bj=σ s->s.toks=[]/\¬0<=bad/\s.big=false->v= .tuple #[Γ y,Δ (pl.length:Int),Δ 0]/\nR w' y ⟨t,k,acc,K⟩)->
   ((∀s,bj=σ s->¬(s.toks=[]/\¬0<=bad/\s.big=false))-> ∃n e:Int,v= .tuple #[.pointer ν,Δ n,Δ e])->Q v w'):
  cz (Δ 0) w λb1 C de=>
   cv (α:=x1->x3->Prop) (λ(df:x1) (M:x3)=>
    Split df (er M λG=>
   ac x7 (bM (Γ y)) G λaG=>
   ac x7 (u5 dB aG 3) G λaH=>
   ac x7 (u4 dw aH) G λbl=>
   ac x7 (bM (Γ y)) G λdh=>
   ac x7 (u5 dB dh 2) G λdi=>
   ac x7 (u4 ax di) G λdj=>
   am x7 y9 [(Γ g),dj] G λdk ae=>
    (Ext G ae\/cD x7 (u4 dw aH) bl ae/\cD x7 (u5 dB aG 3) aH ae/\cD x7 (bM (Γ y)) aG ae/\True)/\
   aD x7 (Y4 dw 1 #[(0,dk)]) ae λdl R=>
    (Ext G R\/cD x7 (u4 dw aH) bl R/\cD x7 (u5 dB aG 3) aH R/\cD x7 (bM (Γ y)) aG R/\True)/\
    aD x7 (b9 #[dw,dw] dw #[bl,dl]) R λdm aY=>
     ac x7 (bM (Γ y)) aY λdn=>
     ac x7 (u5 dB dn 3) aY λdp=>
     aD x7 (o6 dw dp dm) aY λ(_:Unit) aI=>
     ac x7 (aL .add ap false true b1 (Δ 1)) aI λdq=>
   de dq aI)
     (cv (α:=x3->Prop) (λ(O:x3)=>
   cv (α:=x3->Prop) (λ(E:x3)=>
    ac x7 (bM (Γ g)) E λdr=>
    ac x7 (u5 bx dr 3) E λds=>
    ac x7 (u4 ai ds) E λdt=>
    ac x7 (aL .neq ai false true dt (Δ 0)) E λdu=>
    Split du (er E λY=>
     ac x7 (bM (Γ g)) Y λdv=>
     ac x7 (u5 bx dv 4) Y λdx=>
     ac x7 (u4 ai dx) Y λdy=>
     ac x7 (bM (Γ g)) Y λdz=>
     ac x7 (u5 bx dz 3) Y λdA=>
     ac x7 (u4 ai dA) Y λdC=>
     Q (.tuple #[(.pointer ν),dy,dC]) Y)
     (ac x7 (bM (Γ g)) E λdD=>
    ac x7 (u5 bx dD 5) E λdE=>
    ac x7 (u4 ai dE) E λdF=>
    ac x7 (aL .neq ai false true dF (Δ 0)) E λdG=>
    Split dG (er E λZ=>
     ac x7 (bM (Γ g)) Z λdH=>
     ac x7 (u5 bx dH 6) Z λdJ=>
     ac x7 (u4 ai dJ) Z λdK=>
     ac x7 (bM (Γ g)) Z λdL=>
     ac x7 (u5 bx dL 5) Z λdM=>
     ac x7 (u4 ai dM) Z λdN=>
     Q (.tuple #[(.pointer ν),dK,dN]) Z)
     (ac x7 (W8 #[cN] ai #[p]) E λdO=>
    Q (.tuple #[(Γ y),dO,(Δ 0)]) E))) λb2=>
   cv (α:=x1->x3->Prop) (λ(dP:x1) (aZ:x3)=>
    Split dP (am x7 m8 [(Γ g),(Δ 11),(Δ bad)] aZ λfd b3=>
     b2 b3)
     (b2 aZ)) λb4=>
   ac x7 (bM (Γ g)) O λdQ=>
   ac x7 (u5 bx dQ 3) O λdR=>
   ac x7 (u4 ai dR) O λdS=>
   ac x7 (aL .eql ai false true dS (Δ 0)) O λdT=>
   Split dT (ac x7 (aL .geq ai false true (Δ bad) (Δ 0)) O λdU=>
   b4 dU O)
    (b4 (.bool false) O)) λb6=>
  cv (α:=x1->x3->Prop) (λ(dV:x1) (S:x3)=>
   Split dV (ac x7 (bM (Γ g)) S λdW=>
    ac x7 (u5 bx dW 0) S λdX=>
    ac x7 (u4 fc dX) S λdY=>
    ac x7 (j4 fc dY (Δ 0)) S λdZ=>
    ac x7 (u5 cn dZ 1) S λea=>
    ac x7 (u4 ai ea) S λec=>
    am x7 m8 [(Γ g),(Δ 4),ec] S λfe bn=>
    b6 bn)
    (b6 S)) λb7=>
  ac x7 (bM (Γ g)) M λed=>
  ac x7 (u5 bx ed 3) M λee=>
  ac x7 (u4 ai ee) M λef=>
  ac x7 (aL .eql ai false true ef (Δ 0)) M λeg=>
  Split eg (ac x7 (bM (Γ g)) M λeh=>
  ac x7 (u5 bx eh 0) M λei=>
  ac x7 (u4 fc ei) M λej=>
  ac x7 (W8 #[fc] ai #[ej]) M λek=>
  ac x7 (aL .gtr ai false true ek (Δ 0)) M λem=>
  b7 em M)
   (b7 (.bool false) M))) λb8=>
   ac x7 (aL .lss ap false false b1 (Δ P)) C λen=>
   Split en (ac x7 (bM (Γ g)) C λeo=>
   ac x7 (u5 bx eo 3) C λep=>
   ac x7 (u4 ai ep) C λes=>
   ac x7 (aL .eql ai false true es (Δ 0)) C λet=>
   b8 et C)
    (b8 (.bool false) C):=by
 have ca:y≠g:=λhe=>by
  obtain⟨af,aa,ad,bad,aj,big,an,told,sv,A,_⟩:=hU h;subst he;exact absurd (e7 A b0) Φ
 refine⟨λbo C=>∃i:Nat,bo=Δ (i:Int)/\i<=P.toNat/\ah (λr=>w0.heap.size<=r) w0 C/\ ∃N gr K so,∃H:ak,ag C y dB [bP t,Δ k,szv,N]/\au .i64 ap C gz szv acc/\pe C gr N K/\(∀r,leadsTo N r->w0.heap.size<=r/\¬H r)/\¬H y/\(∀r,leads szv r->¬H r)/\(∀r,H r->w0.heap.size<=r)/\bJ C g C.heap.size H 100001 so/\k6 (λ_ s=>c6 acc s) P.toNat i so6 K so/\
   ∀s,so=σ s->jJ s/\K.length+s.toks.length<=100000/\(∀z∈acc,1<=z/\z<=aw)/\acc.length<=100001,λbo _=>P.toNat-(bX bo).toNat,
  ⟨0,rfl,X3 _,da,_,0,[],so6,bz,b0,db,⟨[],bk.nil _ _ _ _ _,rfl,λi h x hi=>by simp at hi⟩,λr m=>(fg m).elim,id,λr _ h=>h,λr h=>h.elim,h.base.up Ω,?_,λs U=>?_⟩,?_⟩
 .unfold k6;cases so6<;>rfl
 .obtain⟨eu,ev,a3,a4⟩:=dc s U;exact⟨eu,by simpa using ev,a3,a4⟩
 rintro _ C ⟨i,rfl,hi,a2,N,gr,K,so,H,cb,cc,cd,aK,bp,ew,ce,X,br,ey⟩;refine aV (λv M=>C=M/\((v= .bool true/\i<P.toNat/\ ∃s,so=σ s)\/(v= .bool false/\(so=ν\/i=P.toNat)))) ?_ ?_
 rotate_left
 .intro aA bt;rw[aO,al];refine⟨λcg=>?_,λff=>bt _ _ ⟨rfl,.inr ⟨rfl,.inr Ω⟩⟩⟩;rw[k5 X];cases so with
  |none=>exact bt _ _ ⟨rfl,.inr ⟨rfl,.inl rfl⟩⟩
  |some s=>exact bt _ _ ⟨rfl,.inl ⟨rfl,Ω,s,rfl⟩⟩
 rintro _ _ ⟨rfl,⟨rfl,cg,s,rfl⟩|⟨rfl,ez⟩⟩
 .
  rw[bQ];intro G ao _ _;obtain⟨ch,fh,ci,cj⟩:=ey s rfl;have aM:=cb.ext ao;obtain⟨eA,ck,aN,cl⟩:=(X.ext ao).low.shrink;have bu:=cc.ext ao;have eC:=cd.ext ao;rw[aQ dB.p 3 aM rfl,aQ dB.p 2 aM rfl];refine (NV ck bu ci cj (λr m=>by obtain⟨c,A⟩:=cl r m;exact A.lt) ch).mono ?_;rintro _ ae _ ⟨bw,x,cm,aq,rfl,cp,eD,eE,fi,cq,eF⟩;have cr:∃c,ag G g bx c:=by obtain⟨af,aa,ad,bad,aj,big,an,told,sv,A,_⟩:=hU ck;exact⟨_,A⟩
  have ct:∀r,(r=g\/eA r)->gZ G r\/G.heap.size<=r:=λr m=>by
   rcases m with rfl|m
   .obtain⟨c,A⟩:=cr;exact .inl ⟨_,c,A,Φ,Φ⟩
   .obtain⟨c,A⟩:=cl r m;exact .inl ⟨_,c,A,Φ,Φ⟩
  have bA:=aM.ab aq λm=>m.elim (λhe=>ca he) λm=>bp (aN _ m);have st:∀ {w':x3},ag w' y dB [bP t,Δ k,szv,N]->cD x7 (u4 dw (.pointer (σ ⟨y,0+3,ν⟩))) N w'/\cD x7 (u5 dB (Γ y) 3) (.pointer (σ ⟨y,0+3,ν⟩)) w'/\cD x7 (bM (Γ y)) (Γ y) w'/\True:=λA=>
   ⟨r3 Ψ (A.cell (o:=0+3) rfl),kW (by rw[aU dB.p rfl]),kW (by rw[bV]),trivial⟩
  refine⟨.inr (st bA),?_⟩;refine ia (f:=eU) (a:=bw) dw.u ba.i Ω rfl rfl λfj fk R fm V eH=>?_;refine⟨.inr (st (bA.ext V)),?_⟩;obtain⟨L,av,bB,bC⟩:=id eC;have eI:bk eU 4 ba ae gr N L:=av.ab aq λr m U=>U.elim (λhe=>by
   obtain⟨c,A⟩:=cr;subst he;exact cR av A Φ m) λU=>(aK r m).2 (aN r U)
  have bD:=eI.ext V;refine iD (f:=eU) (a:=bw) dw.u ba.i rfl bD (by simpa using eH.sl) (cp.ext V).one Ω Ω λcu eJ aY a6 eK cw=>?_;have bE:=bA.ext V;have cA:=bE.ab cw λhe=>cR bD bE Φ he;rw[bV,aU dB.p rfl];refine bq (g:=y) (o:=3) dw.i (eL a6.sl).1 (eL a6.sl).2 cA Ξ λaI cB fo bF=>?_;have bF:ag aI y dB [bP t,Δ k,szv,cu]:=bF;have fp:i<=4611686018427387904:=Ω
  rw[aP,wrap_i64 Ω Ω];have az:ah (λr=>leadsTo N r\/r=y) R aI:=(cw.mono λr _ h=>.inl h).trans (cB.mono λr _ h=>.inr h);have cC:∀r,(leadsTo N r\/r=y)-> ∃e c,ag R r e c/\e≠ap/\e≠b5/\e≠cn/\e≠bx:=λr m=>by
   rcases m with m|rfl
   .obtain⟨rfl,c,A⟩:=eb bD m;exact⟨_,c,A,Φ,Φ,Φ,Φ⟩
   .exact⟨_,_,bE,Φ,Φ,Φ,Φ⟩
  have bG:∀r,(leadsTo N r\/r=y)->gZ R r\/R.heap.size<=r:=λr m=>by
   obtain⟨e,c,A,bH,bI,_⟩:=cC r m;exact .inl ⟨e,c,A,bH,bI⟩
  have fq:=ao.size;have fs:=aq.size;have ft:=V.size;have fu:=az.size;have cE:∀r,leadsTo N r->r<G.heap.size:=λr m=>by obtain⟨aa,ad⟩:=av.leads m;omega
  have aR:∀r,r<G.heap.size->¬H r->¬cm r:=λr m eM bK=>(cq r bK).elim (λh=>eM (aN r h)) λh=>Ω
  have eN:∀r,leads szv r->r<G.heap.size:=λr m=>by obtain⟨aa,ad⟩:=bO bu m;omega
  refine⟨⟨i+1,rfl,Ω,?_,cu,eJ,K++[x],_,cm,bF,eB ((eB bu aq ct).ext V) az bG,⟨L++[bw],a6.ab cB λr m he=>?_,by rw[o4,o4,bB];rfl,λj cF eO aB aS=>?_⟩,λr m=>?_,aR y aM.lt bp,λr m=>aR r (eN r m) (ew r m),λr m=>?_,?_,br.step cg rfl λq I=>eE q I,λs' W=>?_⟩,by simp only[bX];omega⟩
  .refine (((a2.trans (ao.ab _)).trans (aq.mono λr _ h=>?_)).trans (V.ab _)).trans (az.mono λr _ h=>?_)
   .exact h.elim (λh=>Ω) λh=>ce r (aN r h)
   .exact h.elim (λh=>(aK r h).1) λh=>Ω
  .have he:r=y:=he;subst he;exact cR a6 cA Φ m
  .by_cases eP:j<L.length
   .rw[Y1 eP] at aB;rw[Y1 Ω] at aS;exact (((bC j cF eO aB aS).dI aq ct).ext V).dI az bG
   .rw[Y2 Ω] at aB;rw[Y2 Ω] at aS;have eQ:j-L.length=0:=by have:=(x4.1 aB).1;simp at this;omega
    have eR:j-K.length=0:=Ω
    rw[eQ] at aB;rw[eR] at aS;cases aB;cases aS;exact (cp.ext V).dI az bG
  .rcases eK r m with h|h
   .exact⟨(aK r h).1,aR r (cE r h) (aK r h).2⟩
   .exact⟨by have:=a2.size;omega,λbK=>by have:=eF r bK;omega⟩
  .rcases cq r m with h|h
   .exact ce r (aN r h)
   .have:=a2.size;omega
  .refine (eD.ext V).dI az λr m=>.inl ?_;obtain⟨e,c,A,bH,bI,eS,eV⟩:=cC r m;refine⟨e,c,A,bH,bI,eS,eV,?_⟩;rcases m with m|rfl
   .exact aR r (cE r m) (aK r m).2
   .exact aR _ aM.lt bp
  .cases bL:c6 acc s with
   |none=>rw[bL] at W;cases W
   |some q=>
    obtain⟨fv,cG⟩:=q;rw[bL] at W;cases W;obtain⟨fw,eW⟩:=NX bL;refine⟨eW ch,?_,ci,cj⟩;rw[o4];simp only[S9];omega
 .
  rw[a1];have bN:so6.bind (cO (λ_ s=>c6 acc s) P.toNat [])=so.map λs=>(K,s):=by
   unfold k6 at br;rw[br];cases so with
   |none=>rfl
   |some s=>
    rcases ez with h|rfl
    .cases h
    .simp only[V7];rfl
  have row:∀ {w':x3},ah (λr=>r=g) C w'->pe w' gr N K/\ag w' y dB [bP t,Δ k,szv,N]/\au .i64 ap w' gz szv acc:=λa7=>by
   obtain⟨af,aa,ad,bad,aj,big,an,told,sv,A,_⟩:=hU X;have cH:∀r,r=g->gZ C r\/C.heap.size<=r:=λr m=>by subst m;exact .inl ⟨_,_,A,Φ,Φ⟩
   obtain⟨L,av,bB,bC⟩:=id cd;refine⟨⟨L,av.ab a7 λr m he=>?_,bB,λi h x hi J=>(bC i h x hi J).dI a7 cH⟩,cb.ab a7 λhe=>ca he,eB cc a7 cH⟩;have he:r=g:=he;subst he;exact cR av A Φ m
  refine dg (λO=>ah (λr=>r=g) C O/\bJ O g C.heap.size H 100001 (so.bind λs=>if s.toks=[] then σ s else ν)) ?_ ?_
  rotate_left
  .intro fx cI;refine aV (λv S=>C=S/\ ∃b:Bool,v= .bool b/\(b=true-> ∃s,so=σ s/\s.toks≠[])/\(b=false-> ∀s,so=σ s->s.toks=[])) ?_ ?_
   .rintro _ _ ⟨rfl,b,rfl,bR,bS⟩;cases b with
    |true=>
     obtain⟨s,rfl,a8⟩:=bR rfl;rw[bQ];obtain⟨cJ,cK,af,aT,gs,sv,L,cL,aa,ad,bT,aj,big,an,told,cM,bb,bc,aC,bd,cQ,cS,cT,be,cU,cV,bf,cW,cX,cY⟩:=id X;obtain⟨⟨bW,eX⟩,_⟩:=bd.g bb bc;obtain⟨x,fy,rfl⟩:∃x l,aT=x::l:=by
      cases aT with
      |nil=>exact absurd bf.symm (by simpa using a8)
      |cons x l=>exact⟨x,l,rfl⟩
     rw[aQ bx.p 0 aC rfl];refine C9 bW λb o eY=>?_;rw[aU cn.p rfl,ay Ψ (eY 1 _ rfl)];refine (nQ X Ω).mono ?_;rintro _ bn _ ⟨eZ,e0⟩;refine cI _ ⟨eZ,?_⟩;show bJ bn g _ H 100001 (if s.toks=[] then σ s else ν);rw[if_neg a8];exact e0
    |false=>
     rw[a1];refine cI _ ⟨ah.refl _ _,?_⟩;cases so with
     |none=>exact X
     |some s=>
      show bJ _ g _ H 100001 (if s.toks=[] then σ s else ν);rw[if_pos (bS rfl s rfl)];exact X
   .intro fz cZ;rw[k5 X];cases so with
    |none=>
     rw[S5,a1];exact cZ _ _ ⟨rfl,false,rfl,(λh=>by cases h),λ_ s U=>by cases U⟩
    |some s=>
     rw[T1,bQ];obtain⟨cJ,cK,af,aT,gs,sv,L,cL,aa,ad,bT,aj,big,an,told,cM,bb,bc,aC,bd,cQ,cS,cT,be,cU,cV,bf,cW,cX,cY⟩:=id X;obtain⟨⟨bW,eX⟩,_⟩:=bd.g bb bc;rw[aQ bx.p 0 aC rfl,C8 bW,bU];have fA:aT.length=s.toks.length:=by rw[<-bf,u7]
     refine cZ _ _ ⟨rfl,_,rfl,λh=>⟨s,rfl,λaX=>?_⟩,λh s' W=>?_⟩
     .have:=of_decide_eq_true h;have cF:s.toks.length=0:=by rw[aX];rfl
      omega
     .cases W;have:=of_decide_eq_false h;exact j5 Ω
  rintro O ⟨c0,bY⟩;refine dg (λE=>ah (λr=>r=g) C E/\bJ E g C.heap.size H 100001 (so.bind λs=>if s.toks=[]/\¬0<=bad then σ s else ν)) ?_ ?_
  rotate_left
  .intro fB c1;refine aV (λv aZ=>O=aZ/\ ∃b:Bool,v= .bool b/\(b=true->(so.bind λs=>if s.toks=[]/\¬0<=bad then σ s else ν)=ν)/\(b=false->(so.bind λs=>if s.toks=[]/\¬0<=bad then σ s else ν)=so.bind λs=>if s.toks=[] then σ s else ν)) ?_ ?_
   .rintro _ _ ⟨rfl,b,rfl,bR,bS⟩;cases b with
    |true=>
     rw[bQ];refine (nQ bY Ω).mono ?_;rintro _ b3 _ ⟨e1,e2⟩;exact c1 _ ⟨c0.trans e1,by rw[bR rfl];exact e2⟩
    |false=>
     rw[a1];exact c1 _ ⟨c0,by rw[bS rfl];exact bY⟩
   .intro fD c2;rw[k5 bY];cases I:(so.bind λs=>if s.toks=[] then σ s else ν) with
    |none=>
     rw[S5,a1];refine c2 _ _ ⟨rfl,false,rfl,(λh=>by cases h),λ_=>?_⟩;cases so with
     |none=>rfl
     |some s=>
      have I:(if s.toks=[] then σ s else ν)=ν:=I;show (if s.toks=[]/\¬0<=bad then σ s else ν)=(if s.toks=[] then σ s else ν);rw[I];split at I
      .cases I
      .rename_i a8;rw[if_neg (λh=>a8 h.1)]
    |some s=>
     rw[T1,bQ,cP];refine c2 _ _ ⟨rfl,_,rfl,λh=>?_,λh=>?_⟩
     .have aX:=of_decide_eq_true h;cases so with
      |none=>rfl
      |some s=>exact if_neg λh=>h.2 aX
     .have aX:=of_decide_eq_false h;cases so with
      |none=>rfl
      |some s=>
       show (if s.toks=[]/\¬0<=bad then σ s else ν)=(if s.toks=[] then σ s else ν);by_cases U:s.toks=[]
       .rw[if_pos U,if_pos ⟨U,aX⟩]
       .rw[if_neg U,if_neg λh=>U h.1]
  rintro E ⟨c3,bg⟩;obtain⟨e3,e4,e5⟩:=row c3;have e6:ah (λr=>w0.heap.size<=r) w0 E:=a2.trans (c3.mono λr _ h=>by have h:r=g:=h;omega);have bh:Ext w0 E:=e6.ext λr m he=>Ω
  rw[qO bg];cases I:(so.bind λs=>if s.toks=[]/\¬0<=bad then σ s else ν) with
  |none=>
   rw[S5,X9,bQ];intro Y c4 _ _;obtain⟨af,aa,ad,bT,aj,big,an,told,sv,A,_⟩:=hU (bg.ext c4);rw[aQ bx.p 4 A rfl,aQ bx.p 3 A rfl];refine bi _ _ K so (bh.trans c4) bN (λs U aJ=>?_) λ_=>⟨_,_,rfl⟩;subst U;have I:(if s.toks=[]/\¬0<=bad then σ s else ν)=ν:=I;rw[if_pos ⟨aJ.1,aJ.2.1⟩] at I;cases I
  |some s=>
   rw[I] at bg;rw[T1,Y6,a1];obtain⟨s',rfl,W⟩:∃s',so=σ s'/\(if s'.toks=[]/\¬0<=bad then σ s' else ν)=σ s:=by
    cases so with
    |none=>cases I
    |some s'=>exact⟨s',rfl,I⟩
   split at W
   .rename_i c5;cases W;obtain⟨cJ,cK,af,aT,gs,sv,L,cL,aa,ad,bT,aj,big,an,told,cM,bb,bc,aC,bd,cQ,cS,cT,be,cU,cV,bf,cW,cX,cY⟩:=id bg;rw[aQ bx.p 5 aC rfl,bm,al];refine⟨λbZ=>?_,λbZ=>?_⟩
    .intro Z c7 _ _;have c8:=aC.ext c7;rw[aQ bx.p 6 c8 rfl,aQ bx.p 5 c8 rfl];refine bi _ _ K _ (bh.trans c7) bN (λcG c9 aJ=>?_) λ_=>⟨_,_,rfl⟩;cases c9;rw[be.1 bZ] at aJ;cases aJ.2.2
    .rw[aW cN.u (dd.ext bh)];refine bi _ _ K _ bh bN (λcG c9 aJ=>⟨rfl,szv,gz,N,gr,e4,e5,e3⟩) λe8=>?_;refine absurd ⟨c5.1,c5.2,?_⟩ (e8 s rfl);cases A:s.big with
     |false=>rfl
     |true=>exact absurd (be.2 A) bZ
   .cases W
def Zero (so:Option aE):Prop:=∀s,so=σ s->s.told=0/\s.toks.length<=100000
theorem Zero.big {so:Option aE} (h:Zero so) (b:Bool):Zero (so.map (bd b)):=λs U=>by
 cases so with
 |none=>cases U
 |some s0=>cases U;exact h s0 rfl
theorem zero_num {lo hi:Int} {so:Option aE} (h:Zero so):Zero ((bb lo hi so).map (·.2)):=λs U=>by
 cases so with
 |none=>cases U
 |some s0=>
  have U:V5 (λx=>x.2) (bh lo hi s0)=σ s:=U;cases a:bh lo hi s0 with
  |none=>rw[a] at U;cases U
  |some q=>
   obtain⟨n,f⟩:=q;rw[a] at U;cases U;have e:=dC a;have:=e.1;obtain⟨h1,j⟩:=h s0 rfl;exact⟨e.eqs.1.trans h1,by show f.toks.length<=100000;omega⟩
theorem N1 {so:Option aE} (h:Zero so):Zero ((jh so).map (·.2)):=λs U=>by
 cases so with
 |none=>cases U
 |some s0=>
  have U:V5 (λx=>x.2) (dN s0)=σ s:=U;cases a:dN s0 with
  |none=>rw[a] at U;cases U
  |some q=>
   obtain⟨n,e⟩:=q;rw[a] at U;cases U;obtain⟨V,aa⟩:=se a;obtain⟨h1,f⟩:=h s0 rfl;have:s0.toks.length=e.toks.length+1:=by rw[V];rfl
   exact⟨by show e.told=0;rw[aa];exact h1,by show e.toks.length<=100000;omega⟩
theorem N2 {so:Option aE} {f:b2} (h:hN ⟨(lex pl).1,0,false,[]⟩=so.map λs=>(f,s)) (a:¬65536<pl.length):gi pl=so.bind λs=>if s.toks=[]/\(lex pl).2=true/\s.big=false then σ f else ν:=by
 unfold gi;rw[if_neg a,h];cases so<;>rfl
theorem N3 (a:pl.length<=60000):(∀t∈(lex pl).1,Bytes t/\t.length<=65536)/\(lex pl).1.length<=60000:=by
 refine⟨λt e=>?_,Y9 (pV pl.length pl (p8 _)) a⟩;obtain⟨_,f,j⟩:=rZ pl.length pl (p8 _) t e;refine⟨λb h=>?_,Ω⟩;have:=of_decide_eq_true (f b h);omega
theorem Dj {p:x1} (an:aF .u8 w p pl) (cw:Bytes pl) (cz:pl.length<=60000):am x7 F0 [p] w (NZ w pl):=by
 obtain⟨cA,dN⟩:=N3 cz;refine az func27 ?_;rw[aW cN.u an,bU,al];refine⟨λh=>Ω,λ_=>?_⟩;refine (NN an cw Ω).mono ?_;rintro _ V _ ⟨aH,ao,bg,bad,rfl,bi,bj,cB,dO,bl⟩;rw[bo,bp,aW cN.u (an.ext aH),dn (cs:=#[ao,Δ (pl.length:Int),Δ 4,Δ 0,Δ 0,Δ 0,Δ 0,Δ 0,.slice ν 0 0]) (by obtain⟨_,_,_,_,_,rfl,_⟩:=bi;kernel_rfl)];refine be λg aa dP aq R=>?_;have R:ag aa g bx (gn ao (pl.length:Int) 4 0 0 0 0 0 (.slice ν 0 0)):=R;have dQ:=aH.size;have dR:=aq.size;have dS:=R.lt;refine dg (λB=>Ext w B/\ah (λr=>r=g) aa B/\ ∃S W:Int,W≠0/\ag B g bx (gn ao S W 0 0 0 0 0 (.slice ν 0 0))) ?_ ?_
 rotate_left
 .intro aA P;have bm:=aH.trans aq;rw[cP,al];refine⟨λ_=>?_,λ_=>P _ ⟨bm,ah.refl _ _,_,_,Ω,R⟩⟩;rw[bV,aU bx.p rfl];refine bq (g:=g) (o:=1) ai.i rfl rfl R (by simp[gn]) λdT cC dU cD=>?_;rw[bV,aU bx.p rfl];refine bq (g:=g) (o:=2) ai.i rfl rfl cD (by simp[gn]) λdV cE dW cF=>?_;have C:=cC.trans cE;exact P _ ⟨bm.then C λr j he=>by have he:r=g:=he;omega,C,bad,11,Ω,cF⟩
 rintro B ⟨bn,aI,S,W,cG,bt⟩;have z3:=aI.size;have cH:bJ B g B.heap.size bz 100000 (σ ⟨(lex pl).1,0,false,[]⟩):=by
  refine⟨p8 _,B,ao,bg,0,_,[],[],S,W,0,0,0,0,0,rfl,ah.refl _ _,⟨_,bt⟩,bt,⟨⟨?_,λr j=>?_⟩,bk.nil _ _ _ _ _,rfl,λi h x hi=>by simp at hi⟩,λr j=>fg j,rfl,cG,Ξ,λ_=>rfl,trivial,bj,cA,rfl,?_⟩
  .refine (bi.ab (aq.ab λ_=>False) λ_ _ h=>h).ab aI λr j he=>?_;have he:r=g:=he;obtain⟨c,K⟩:=bl r j;have:=K.lt;omega
  .obtain⟨c,K⟩:=bl r j;exact⟨c,(K.ext aq).ab aI λhe=>by have he:r=g:=he;have:=K.lt;omega⟩
  .have:bg.length=(lex pl).1.length:=by rw[<-bj,u7]
   simp only[List.length_nil];omega
 have dX:∀ {O:x3} {cI N:Nat} {H:ak} {so:Option aE},bJ O g cI H N so->True:=λ_=>trivial;rw[dn (cs:=#[bP [],Δ 0,.slice ν 0 0,.slice ν 0 0]) Ψ];refine be λm cJ dY aK av=>?_;have av:ag cJ m dB [bP [],Δ 0,.slice ν 0 0,.slice ν 0 0]:=av;have dZ:B.heap.size<=m:=Ω
 have ea:=av.lt;have cK:m≠g:=Ω
 have E:∀ {O X:x3} {c:List x1},ag O m dB c->ah (λr=>r=g) O X->ag X m dB c:=λK C=>K.ab C λhe=>cK he;refine (Da (cH.ext aK)).mono ?_;rintro _ cL _ ⟨⟨aL,cM⟩,t,bu,rfl,eb,ec,cQ⟩;refine bD cn.i λbw ed ee cR cS=>?_;refine ch (vs:=[bP t,Δ bu]) cn.i rfl rfl (by intro v ad;simp at ad;rcases ad with rfl|rfl<;>rfl) cS λcT cU ef bA=>?_;have ay:Ext cL cT:=cR.put cU Ω;have cV:=(E av aL).ext ay;rw[aM cn.p 0 bA rfl,bV,aU dB.p rfl];refine bq (g:=m) (o:=0) cZ.i rfl rfl cV Ξ λaN aR eg aS=>?_;have aS:ag aN m dB [bP t,Δ 0,.slice ν 0 0,.slice ν 0 0]:=aS;have cW:=(cM.ext ay).new aR λr j=>by have j:r=m:=j;omega
 have z4:=aK.size;have z5:=aL.size;have eh:=ay.size;have bB:ag aN bw cn [bP t,Δ bu]:=bA.ab aR λhe=>by have he:bw=m:=he;omega
 rw[aM cn.p 0 bB rfl,ns cZ.u,bU,aM cn.p 1 bB rfl];have cX:ah (λr=>w.heap.size<=r) w aN:=((((bn.ab _).trans (aK.ab _)).trans (aL.mono λr _ h=>by have h:r=g:=h;omega)).trans (ay.ab _)).trans (aR.mono λr _ h=>by have h:r=m:=h;omega);have up:∀ {O X:x3},ah (λr=>w.heap.size<=r) w O->ah (λr=>r=g) O X->ah (λr=>w.heap.size<=r) w X:=λh k=>h.trans (k.mono λr _ h=>by have h:r=g:=h;omega);refine (mA cW).mono ?_;rintro _ ei _ ⟨bC,Y⟩;have cY:=up cX bC;have c0:=E aS bC;generalize aT:(((jh (σ ⟨(lex pl).1,0,false,[]⟩)).map (·.2)).map (bd (decide ((64:Int)<(t.length:Int)))))=aX at Y;refine (kr Y).mono ?_;rintro _ ej _ ⟨⟨bE,c1⟩,n,ek,rfl,bF,c2⟩;rw[bo,bp,bU];refine (mA c1).mono ?_;rintro _ em _ ⟨bG,bH⟩;have c3:=up (up cY bE) bG;have c4:=E (E c0 bE) bG;generalize bI:((bb 1 4611686018427387904 aX).map (·.2)).map (bd (decide (64<n)))=aY at bH;refine (kr bH).mono ?_;rintro _ en _ ⟨⟨bK,bL⟩,most,eo,rfl,hm,c5⟩;rw[bo,bp];generalize bM:(bb 1 4611686018427387904 aY).map (·.2)=aZ at bL;refine (kr bL).mono ?_;rintro _ ep _ ⟨⟨bN,c6⟩,a2,er,rfl,bO,c7⟩;rw[bo,bp,bU];refine (mA c6).mono ?_;rintro _ es _ ⟨bR,bS⟩;generalize bT:((bb 0 4611686018427387904 aZ).map (·.2)).map (bd (decide (256<a2)))=bW at bS;refine (kr bS).mono ?_;rintro _ et _ ⟨⟨bY,c8⟩,k,eu,rfl,hk,ev⟩;rw[bo,bp,bU];refine (mA c8).mono ?_;rintro _ ey _ ⟨bZ,b0⟩;generalize b1:((bb 1 4611686018427387904 bW).map (·.2)).map (bd (decide (2147483648<k)))=Z at b0;have c9:=up (up (up (up (up c3 bK) bN) bR) bY) bZ;have da:=E (E (E (E (E c4 bK) bN) bR) bY) bZ;rw[bV,aU dB.p rfl];refine bq (g:=m) (o:=1) ap.i rfl rfl da Ξ λb2 b3 ez a6=>?_;have a6:ag b2 m dB [bP t,Δ k,.slice ν 0 0,.slice ν 0 0]:=a6;have db:=b0.new b3 λr j=>by have j:r=m:=j;omega
 have b4:ah (λr=>w.heap.size<=r) w b2:=c9.trans (b3.mono λr _ h=>by have h:r=m:=h;omega);have eA:0<=n/\n<=4611686018427387904:=by
  cases A:bb 1 4611686018427387904 aX with
  |none=>have:=c2 A;omega
  |some q=>have Y:=bF q A;have:=mv (n:=q.1) (s':=q.2) A;omega
 have eC:0<=most/\most<=4611686018427387904:=by
  cases A:bb 1 4611686018427387904 aY with
  |none=>have:=c5 A;omega
  |some q=>have Y:=hm q A;have:=mv (n:=q.1) (s':=q.2) A;omega
 have dc:0<=a2/\a2<=4611686018427387904:=by
  cases A:bb 0 4611686018427387904 aZ with
  |none=>have:=c7 A;omega
  |some q=>have Y:=bO q A;have:=mv (n:=q.1) (s':=q.2) A;omega
 have dd:Zero (σ (⟨(lex pl).1,0,false,[]⟩:aE)):=λs U=>by cases U;exact⟨rfl,by simp only;omega⟩
 have de:Zero aX:=by rw[<-aT];exact (N1 dd).big _
 have df:Zero aY:=by rw[<-bI];exact (zero_num de).big _
 have dh:Zero aZ:=by rw[<-bM];exact zero_num df
 have di:Zero bW:=by rw[<-bT];exact (zero_num dh).big _
 have b5:Zero Z:=by rw[<-b1];exact (zero_num di).big _
 have eD:=b4.size;refine⟨λa7 L=>∃i:Nat,a7=Δ (i:Int)/\i<=n.toNat/\ah (λr=>w.heap.size<=r) w L/\ ∃szv gz acc so,ag L m dB [bP t,Δ k,szv,.slice ν 0 0]/\au .i64 ap L gz szv acc/\(∀r,leads szv r->B.heap.size<=r)/\bJ L g B.heap.size bz 100000 so/\k6 (fR most) n.toNat i Z acc so/\ ∀s,so=σ s->s.told=0/\acc.length+s.toks.length<=100000/\ ∀z∈acc,1<=z/\z<=aw,λa7 _=>n.toNat-(bX a7).toNat,
  ⟨0,rfl,X3 _,b4,_,0,[],Z,a6,au.nil _ _ _ _,(λr j=>by obtain⟨a,aB,c,S,W⟩:=j;cases S),db,?_,λs U=>⟨(b5 s U).1,by simpa using (b5 s U).2,λz dj=>by cases dj⟩⟩,?_⟩
 .unfold k6;cases Z<;>rfl
 rintro _ L ⟨i,rfl,hi,a8,szv,gz,acc,so,b6,b8,b9,ac,ba,ca⟩;refine aV (λv dk=>L=dk/\((v= .bool true/\i<n.toNat/\ ∃s,so=σ s)\/(v= .bool false/\(so=ν\/i=n.toNat)))) ?_ ?_
 rotate_left
 .intro aA P;rw[aO,al];refine⟨λcb=>?_,λeE=>P _ _ ⟨rfl,.inr ⟨rfl,.inr Ω⟩⟩⟩;rw[k5 ac];cases so with
  |none=>exact P _ _ ⟨rfl,.inr ⟨rfl,.inl rfl⟩⟩
  |some s=>exact P _ _ ⟨rfl,.inl ⟨rfl,Ω,s,rfl⟩⟩
 rintro _ _ ⟨rfl,⟨rfl,cb,s,rfl⟩|⟨rfl,dl⟩⟩
 .rw[bQ];obtain⟨dm,eF,dp⟩:=ca s rfl;refine (kr ac).mono ?_;rintro _ eH _ ⟨⟨dq,dr⟩,z,eI,rfl,bc,eJ⟩;rw[bo,bp,bU];refine (mA dr).mono ?_;rintro _ eK _ ⟨ds,dt⟩;have aC:=dq.trans ds;have cc:=E b6 aC;have du:∀r,r=g->gZ L r\/L.heap.size<=r:=λr j=>(kt ac r j).imp (λ⟨e,c,K,dv,dw,_⟩=>⟨e,c,K,dv,dw⟩) id;have cd:=eB b8 aC du;rw[aQ dB.p 2 cc rfl];refine ew ax.u ap.i rfl λa22 eL dx eM Q dy=>?_;refine hx ax.u ap.i rfl (cd.ext Q) dy.ls Θ Θ λce dz eN aD dA cg=>?_;have ci:=cc.ext Q;have cj:=ci.ab cg λhe=>b7 (cd.ext Q) ci Φ he rfl;rw[bV,aU dB.p rfl];refine bq (g:=m) (o:=2) ax.i aD.ls.cells.1 aD.ls.cells.2 cj Ξ λck cl eO bf=>?_;have bf:ag ck m dB [bP t,Δ k,ce,.slice ν 0 0]:=bf;rw[aP,wrap_i64 Ω Ω];have cm:ah (λr=>leads szv r\/r=m) dx ck:=(cg.mono λr _ h=>.inl h).trans (cl.mono λr _ h=>.inr h);have cp:∀r,(leads szv r\/r=m)->B.heap.size<=r:=λr j=>j.elim (b9 r) λj=>Ω
  have eP:w.heap.size<=B.heap.size:=bn.size;have eQ:=aC.size;have z22:=Q.size;have eR:=a8.size;have eS:=ac.lt;refine⟨⟨i+1,rfl,Ω,((up a8 aC).trans (Q.ab _)).trans (cm.mono λr _ h=>by have:=cp r h;omega),ce,dz,acc++[z],((bb 1 most (σ s)).map (·.2)).map (bd (decide (32<z))),bf,br aD cl λr j he=>?_,λr j=>?_,(dt.ext Q).new cm cp,?_,λs' G=>?_⟩,by simp only[bX];omega⟩
  .have he:r=m:=he;subst he;exact b7 aD cj Φ j rfl
  .rcases dA r j with h|h
   .exact b9 r h
   .omega
  .refine ba.step cb ?_ λq A=>?_
   .show (V5 _ (bh 1 most s)).map _=_;unfold fR;cases A:bh 1 most s with
    |none=>rfl
    |some q=>
     have:=bc q A;obtain⟨cq,aG⟩:=q;subst this;rfl
   .unfold fR at A;cases I:bh 1 most s with
    |none=>rw[I] at A;cases A
    |some ae=>
     rw[I] at A;have:=bc ae I;obtain⟨cq,aG⟩:=ae;cases A;exact this
  .cases I:bh 1 most s with
   |none=>
    have G:(V5 (λx=>x.2) (bh 1 most s)).map (bd (decide (32<z)))=σ s':=G;rw[I] at G;cases G
   |some ae=>
    have G:(V5 (λx=>x.2) (bh 1 most s)).map (bd (decide (32<z)))=σ s':=G;rw[I] at G;have dD:=bc ae I;obtain⟨cq,aG⟩:=ae;cases G;have cr:=dC I;have ii:=(hQ I).1;have eU:=cr.1;refine⟨by show aG.told=0;rw[cr.eqs.1];exact dm,?_,λy aj=>?_⟩
    .rw[o4];show acc.length+1+aG.toks.length<=100000;omega
    .rcases o7.1 aj with aj|aj
     .exact dp y aj
     .rw[o8.1 aj,dD];exact⟨ii.1,by unfold aw;have:=ii.2;simp only at*;omega⟩
 .rw[a1];have dE:Z.bind (cO (fR most) n.toNat [])=so.map λs=>(acc,s):=by
   unfold k6 at ba;rw[ba];cases so with
   |none=>rfl
   |some s=>
    rcases dl with h|rfl
    .cases h
    .simp only[V7];rfl
  refine N0 a8 b6 b8 ac (λs U=>?_) Ω Ω an dc λv w' dF dG J dH dI ct=>?_
  .obtain⟨dJ,eV,a3⟩:=ca s U;exact⟨λ_=>by rw[dJ];omega,Ω,a3,Ω⟩
  .have dK:(decide ((64:Int)<(t.length:Int)))=decide (64<t.length):=by rw[V6,decide_eq_true_eq,decide_eq_true_eq];omega
   rw[dK] at aT;have dL:=NY (s0:=⟨(lex pl).1,0,false,[]⟩) aT.symm (λq A=>cQ q A) bI.symm bF bM.symm hm bT.symm bO b1.symm hk dE dH;have M:=N2 dL Ω;have cu:¬0<=bad↔(lex pl).2=true:=by
    rw[cB];cases (lex pl).2<;>simp
   cases dG with
   |none=>
    obtain⟨aB,e,rfl⟩:=ct λs U=>by cases U
    exact⟨J,aB,e,λ_=>rfl,λf af=>by rw[M] at af;cases af⟩
   |some s=>
    have M:gi pl=if s.toks=[]/\(lex pl).2=true/\s.big=false then σ ⟨t,k,acc,dF⟩ else ν:=M;by_cases C:s.toks=[]/\(lex pl).2=true/\s.big=false
    .rw[if_pos C] at M;obtain⟨rfl,dM⟩:=dI s rfl ⟨C.1,cu.2 C.2.1,C.2.2⟩;exact⟨J,_,_,(λaf=>by rw[M] at af;cases af),λf af=>⟨m,rfl,by rw[M] at af;cases af;exact dM⟩⟩
    .rw[if_neg C] at M;obtain⟨aB,e,rfl⟩:=ct λs' G aJ=>by
      cases G;exact C ⟨aJ.1,cu.1 aJ.2.1,aJ.2.2⟩
     exact⟨J,aB,e,λ_=>rfl,λf af=>by rw[M] at af;cases af⟩
theorem Dk {a b:Int}:am x7 HI [Δ a,Δ b] w λv w'=>v=Δ (min a b)/\Ext w w':=by
 refine az func173 ?_;rw[aO,al];exact⟨λh=>⟨by congr 1;omega,Ext.refl _⟩,λh=>⟨by congr 1;omega,Ext.refl _⟩⟩
theorem N4 {r:iM} {x:cw} {aI:x1} {t:Λ} {k:Int} (h:gJ w r x) (M:(x.lines.map (·.1)).Nodup) (N:aF .i64 w aI t):am x7 Ii [.agg (eU r).toArray,aI,Δ k] w λv w'=>v=Δ (jB x k t)/\Ext w w':=by
 obtain⟨⟨g1,O⟩,⟨ao,P⟩,Q,ap,L,f,R,C⟩:=id h;refine az func225 ?_;refine be λS V au s a=>?_;have a:ag V S ba (eU r):=by
  obtain⟨_,_,_,U⟩:=c4 O.ls;obtain⟨_,_,_,W⟩:=c4 P.ls;obtain⟨_,_,_,_,_,X,_⟩:=f.sl;simp only[eU,U,W,X] at a ⊢;exact a
 have Y:=f.ext s;have Z:L.length=x.lines.length:=by rw[<-C,u7]
 rw[aM ba.p 2 a rfl,aM ba.p 3 a rfl,fh dW.u Y,Q];refine bZ.range L.length (λi j aa=>Ext V aa/\ ∃c:Int,j=Δ c/\min c k=k0 x k i t) f.le ⟨Ext.refl _,x.other,rfl,(Ca x k t).symm⟩ ?_ ?_
 .rintro i _ aa ab hi ⟨e,c,rfl,m⟩ ac;obtain⟨y,z⟩:=aH (l:=L) hi;obtain⟨gy,E⟩:=R y (x5 z);have A:=s.trans e;have ad:x.lines[i]? =σ (y.t,y.c):=by rw[<-C,x8,z];rfl
  have G:=Cc (k:=k) M ad t;refine bH Ω ?_;refine aV (λj H=>Ext V H/\ ∃c:Int,j=Δ c/\min c k=k0 x k (i+1) t) ?_ ?_
  .rintro j H ae;rw[aP];exact ac _ _ ae
  intro aA I;have J:=f.ext A;rw[dx rfl dW.u b5.i J hi,bR b5.p b5.i rfl (J.range z)];refine bD b5.i λaq av aw af ah=>?_;refine ch (vs:=nP y) b5.i rfl rfl (wv E) ah λai aj ax K=>?_;have q:Ext aa ai:=af.put aj Ω;rw[aM b5.p 0 K rfl];refine (wu ((E.ls.ext A).ext q) ((N.ext A).ext q)).mono ?_;rintro _ ay _ ⟨rfl,B⟩;rw[al];refine⟨λhe=>?_,λak=>?_⟩
  .rw[aM b5.p 1 (K.ext B) rfl];refine I _ _ ⟨(e.trans q).trans B,y.c,rfl,?_⟩;rw[G,if_pos he.symm]
  .refine I _ _ ⟨(e.trans q).trans B,c,rfl,?_⟩;rw[G,if_neg λhe=>ak he.symm,m]
 .rintro _ aa ab ⟨e,c,rfl,m⟩;rw[Z,Cb] at m;refine cp Ω ?_;refine Dk.mono ?_;rintro _ aB _ ⟨rfl,an⟩;exact⟨by rw[m],(s.trans e).trans an⟩
theorem N5 {I:x1} (h:aF .i64 w I l) (L:l.Nodup) (ag:l.length<=64):am x7 Ih [I] w λv w'=>Ext w w'/\ ∃g,au .i64 ai w' g v (bl l)/\ ∀r,leads v r->w.heap.size<=r:=by
 refine az func224 ?_;have M:∀i,i<=64->(((X4 i).map λ(v:Nat)=>(v:Int)).filter λv=>decide (v∈l)).length<=i:=λi _=>by
  have:=List.length_filter_le (λv=>decide (v∈l)) ((X4 i).map λ(v:Nat)=>(v:Int));simp at this;omega
 refine bZ.range 64 (λi e V=>Ext w V/\ ∃g,au .i64 ai V g e (((X4 i).map λ(v:Nat)=>(v:Int)).filter λv=>decide (v∈l))/\ ∀r,leads e r->w.heap.size<=r) Ω ⟨Ext.refl _,0,au.nil _ _ _ _,λr s=>by obtain⟨a,n,c,N,ah⟩:=s;cases N⟩ ?_ ?_
 .rintro i e V k hi ⟨y,g,hm,B⟩ hk;refine bH Ω ?_;rw[aW ax.u (h.ext y)];have O:=M i Ω;generalize P:(((X4 i).map λ(v:Nat)=>(v:Int)).filter λv=>decide (v∈l))=A at hm O;refine bZ.range l.length (λj e aa=>Ext w aa/\ ∃g,au .i64 ai aa g e (A++(if (i:Int)∈l.take j then[(i:Int)] else[]))/\ ∀r,leads e r->w.heap.size<=r) h.le ⟨y,g,by simpa using hm,B⟩ ?_ ?_
  .rintro j Q aa R S ⟨m,C,f,q⟩ U;obtain⟨x,J⟩:=aH (l:=l) S;refine bH Ω ?_;refine aV (λe z=>Ext w z/\ ∃g,au .i64 ai z g e (A++(if (i:Int)∈l.take (j+1) then[(i:Int)] else[]))/\ ∀r,leads e r->w.heap.size<=r) ?_ ?_
   .rintro aj z W;rw[aP];exact U _ _ W
   intro aA K;have E:(i:Int)∈l.take (j+1)↔(i:Int)∈l.take j\/(i:Int)=x:=by
    rw[u9,J,o9,o7,o8]
   rw[bc ax.u ap.i Ψ (h.ext m) J,bg,al];refine⟨λhe=>?_,λX=>?_⟩
   .have Y:(i:Int)∉l.take j:=λhm=>by
     obtain⟨p,G⟩:=X1.1 hm;have Z:p<j:=by have:=(x4.1 G).1;rw[j6] at this;omega
     rw[Z8 Z,<-he] at G;have:=kk L G J;omega
    rw[if_neg Y,U4] at f;refine ew (k:=.i64) an.u ai.i rfl λa3 ak z ao H ab=>?_;refine hx an.u ai.i rfl (f.ext H) ab.ls Θ Θ λaq ac av ad ae af=>?_;have aw:=m.size;have z3:=H.size;refine K _ _ ⟨(m.trans H).then af λr s he=>by have:=q r he;omega,ac,?_,λr s=>(ae r s).elim (q r) λh=>Ω⟩;rw[if_pos (E.2 (.inr he.symm))];exact ad
   .refine K _ _ ⟨m,C,?_,q⟩;have:((i:Int)∈l.take (j+1))=((i:Int)∈l.take j):=propext ⟨λaJ=>(E.1 aJ).resolve_right λhe=>X he.symm,λaJ=>E.2 (.inl aJ)⟩;simp only[this];exact f
  .rintro Q aa R ⟨m,C,f,q⟩;rw[p9] at f;refine cp Ω ?_;rw[aP];refine hk _ _ ⟨m,C,?_,q⟩;rw[List.range_succ,Z0,List.filter_append,P];by_cases hm:(i:Int)∈l
   .rw[if_pos hm] at f;simpa[hm] using f
   .rw[if_neg hm] at f;simpa[hm] using f
 .rintro e V k ⟨y,g,hm,B⟩;rw[aO,al];exact⟨λh=>Ω,λ_=>⟨y,g,hm,B⟩⟩
structure fl where
 aG:x1
 szv:x1
 a6:x1
 sc:Λ
 cs:Λ
def dj (h:fl):List x1:=[h.aG,h.szv,h.a6]
def pf (h:fl) (r:Nat):Prop:=leads h.a6 r\/leads h.aG r\/leads h.szv r
def fI (w:x3) (sizes:Λ) (h:fl):Prop:=(∃g,au .i64 ai w g h.aG h.sc)/\(∃g,au .i64 ai w g h.szv (bS sizes h.sc))/\ ∃g,au .i64 ap w g h.a6 h.cs
theorem fI.ext {h:fl} (aJ:fI w sizes h) (J:Ext w w'):fI w' sizes h:=by
 obtain⟨⟨g1,h1⟩,⟨a,e⟩,f,j⟩:=aJ;exact⟨⟨g1,h1.ext J⟩,⟨a,e.ext J⟩,f,j.ext J⟩
theorem fI.one {h:fl} (aJ:fI w sizes h):∀u∈dj h,u.oneCell'=true:=by
 obtain⟨⟨g1,h1⟩,⟨f,a⟩,j,e⟩:=aJ;intro u hu;simp[dj] at hu;rcases hu with rfl|rfl|rfl
 .exact h1.ls.cells.2
 .exact a.ls.cells.2
 .exact e.ls.cells.2
theorem Dl {f:b2} {x:cw} {Z:iM} (h:gJ w Z x) (aD:e6 N f) (bL:x∈f.funs) (cu:au .i64 ap w gz sv f.sizes):
  am x7 HG [.agg (eU Z).toArray,sv,Δ f.k] w λv w'=>Ext w w'/\ ∃c:fl,v= .agg (dj c).toArray/\c.sc=bl x.scope/\c.cs=(hR f.sizes f.k x).2/\fI w' f.sizes c/\ ∀r,pf c r->w.heap.size<=r:=by
 obtain⟨ac,cA,dP⟩:=aD.funs x bL;have ad:=sF ac aD.sizes.2.1;have bM:=sE ad ac.scope.1;have cB:(bl x.scope).length<=6:=by rw[bM.length_eq];exact cA
 have cC:=o2 aD bL;have bN:=B1 x.scope;obtain⟨⟨g1,aE⟩,⟨dQ,cD⟩,dR,dS,cE⟩:=id h;refine az func170 ?_;refine be λbd V dT bP ae=>?_;have ae:ag V bd ba (eU Z):=by
  obtain⟨L,cF,_⟩:=cE;obtain⟨_,_,_,C⟩:=c4 aE.ls;obtain⟨_,_,_,H⟩:=c4 cD.ls;obtain⟨_,_,_,_,_,cG,_⟩:=cF.sl;simp only[eU,C,H,cG] at ae ⊢;exact ae
 refine bD aY.i λbQ aa dU bf bh=>?_;have bj:=bP.trans bf;rw[aM ba.p 0 (ae.ext bf) rfl];refine (N5 (aE.ls.ext bj) ac.scope.1 Ω).mono ?_;rintro aG bT _ ⟨aF,gr,bk,cH⟩;rw[dn (cs:=#[aG,.slice ν 0 0,.slice ν 0 0]) (by obtain⟨_,_,_,rfl⟩:=c4 bk.ls;kernel_rfl)];refine bD aY.i λz dV cI cJ cK=>?_;refine ch (vs:=[aG,.slice ν 0 0,.slice ν 0 0]) aY.i rfl rfl (by intro u hu;simp at hu;rcases hu with rfl|rfl;exact bk.ls.cells.2;rfl) cK λI cL dW S=>?_;have aK:Ext bT I:=cJ.put cL Ω;have bU:=(bj.trans aF).trans aK;have Q:=bk.ext aK;have bm:=((ae.ext bf).ext aF).ext aK;have bV:=(bh.ext aF).ext aK;have dX:=bj.size;have z3:=aF.size;have dY:=bU.size;have dZ:=S.lt;have ea:z=bT.heap.size:=cI;rw[aM aY.p 0 S rfl,aW an.u Q.ls];have bW:∀v∈bl x.scope,0<=v/\v<f.sizes.length:=λv hm=>ac.scope.2 v ((qt ad).1 hm);have bn:∀ {w':x3},ah (λr=>r=z\/I.heap.size<=r) I w'->Ext w w':=λbo=>bU.then bo λr m he=>Ω
 have bp:(bS f.sizes (bl x.scope)).length=(bl x.scope).length:=by simp[bS]
 refine cz.range (bl x.scope).length (λi J=>ah (λr=>r=z\/I.heap.size<=r) I J/\ ∃szv gs,ag J z aY [aG,szv,.slice ν 0 0]/\au .i64 ai J gs szv ((bS f.sizes (bl x.scope)).take i)/\ ∀r,leads szv r->I.heap.size<=r) Ω
  ⟨ah.refl _ _,_,0,S,au.nil _ _ _ _,λr m=>by obtain⟨a,n,c,C,H⟩:=m;cases C⟩ ?_ ?_
 .rintro i J cM hi ⟨K,szv,gs,cN,af,aL⟩ cO;obtain⟨v,bt⟩:=aH (l:=(bl x.scope)) hi;have eb:=bW v (x5 bt);have cP:au .i64 ai J gr aG (bl x.scope):=br Q K λr m U=>by
   rcases U with rfl|U
   .exact b7 Q S Φ m rfl
   .obtain⟨C,H⟩:=bO Q m;omega
  refine bH Ω ?_;rw[bc an.u ai.i Ψ cP.ls bt];intro ec aj _ _;have bX:=cN.ext aj;have cQ:f.sizes[v.toNat]? =σ (f.sizes.getD v.toNat 0):=by rw[v8,x6 Ω];rfl
  rw[aM aY.p 1 bX rfl,fM (y:=v) (i:=v.toNat) Ω ax.u ap.i Ψ (cu.ext ((bn K).trans aj)).ls cQ];refine ew (k:=.i64) an.u ai.i rfl λed ee cR ef ak cS=>?_;refine⟨.inl ak,?_⟩;have bY:=(af.ext aj).ext ak;refine hx an.u ai.i rfl bY cS.ls Θ Θ λcT cU eg aO cV b0=>?_;have b3:=bX.ext ak;have b4:=b3.ab b0 λhe=>b7 bY b3 Φ he rfl;rw[aU aY.p rfl];refine bq (g:=z) (o:=1) an.i aO.ls.cells.1 aO.ls.cells.2 b4 Ξ λcW b5 eh cX=>?_;rw[aP];have cY:ah (λr=>leads szv r\/r=z) cR cW:=(b0.mono λr _ h=>.inl h).trans (b5.mono λr _ h=>.inr h);have cZ:=K.size;have ei:=(aj.trans ak).size;refine cO _ ⟨((K.trans (aj.ab _)).trans (ak.ab _)).trans (cY.mono λr _ h=>h.elim (λh=>.inr (aL r h)) .inl),cT,cU,cX,?_,λr m=>(cV r m).elim (aL r) λh=>Ω⟩;have e:(bS f.sizes (bl x.scope)).take (i+1)=(bS f.sizes (bl x.scope)).take i++[f.sizes.getD v.toNat 0]:=by
   unfold bS;rw[<-List.map_take,<-List.map_take,u9,bt,o9,Z0];rfl
  rw[e];exact br aO b5 λr m he=>by
   have he:r=z:=he;subst he;exact b7 aO b4 Φ m rfl
 rintro J cM ⟨K,szv,gs,bu,af,aL⟩;rw[<-bp,p9] at af;refine cp Ω ?_;have ej:=bn K;have aQ:b1 (bS f.sizes (bl x.scope)):=⟨by rw[bp];exact cB,o1 aD.sizes.2.2 bW⟩;have c0:=cC.small;rw[aM aY.p 1 bu rfl];refine (r5 _ af.ls aQ).mono ?_;rintro c1 B _ ⟨aR,b6⟩;have ek:=h3 aQ.2;have em:=lM aQ.2;have en:aN (bS f.sizes (bl x.scope))<=4096:=c0;rw[hL c5.u b6];have aS:ah (λr=>r=z\/I.heap.size<=r) I B:=K.trans (aR.ab _);have aq:=bu.ext aR;have b8:=af.ext aR;have cZ:=K.size;have eo:=aR.size;have bw:au .i64 ai B gr aG (bl x.scope):=br Q aS λr m U=>by
  rcases U with rfl|U
  .exact b7 Q S Φ m rfl
  .obtain⟨C,H⟩:=bO Q m;omega
 have bx:ag B bd ba (eU Z):=bm.ab aS λU=>U.elim (λhe=>by subst he;exact absurd (e7 bm S) Φ) λh=>by have:=bm.lt;omega
 have b9:=bV.ab aS λU=>U.elim (λhe=>by have:=bh.lt;omega) λh=>by have:=bV.lt;omega
 have ca:∀ {w':x3},ah (λr=>r=z\/B.heap.size<=r) B w'->Ext w w':=λbo=>(bn aS).then bo λr m he=>by
  have he:r=z\/B.heap.size<=r:=he;omega
 have ep:z<B.heap.size:=aq.lt;refine cz.range (bi (bS f.sizes (bl x.scope))).length (λq s=>ah (λr=>r=z\/B.heap.size<=r) B s/\ ∃a6 av,ag s z aY [aG,szv,a6]/\au .i64 ap s av a6 (((bi (bS f.sizes (bl x.scope))).take q).map λt=>jB x f.k (oQ x.scope (bl x.scope) t))/\ ∀r,leads a6 r->B.heap.size<=r) Ω
  ⟨ah.refl _ _,_,0,aq,au.nil _ _ _ _,λr m=>by obtain⟨a,n,c,C,H⟩:=m;cases C⟩ ?_ ?_
 .rintro q s c2 c3 ⟨E,a6,av,aw,ay,aT⟩ c6;obtain⟨t,aX⟩:∃t,(bi (bS f.sizes (bl x.scope)))[q]? =σ t:=⟨_,x6 c3⟩;have er:t.length=(bl x.scope).length:=by
   have c7:=p3 aQ.2 (i:=q) Ω;rw[c7] at aX;cases aX;rw[jb,bp]
  have bA:=ca E;have c8:ao.rep (α:=List (Λ)) true (eI J.heap.size) bz s [c1] (bi (bS f.sizes (bl x.scope))):=ao.ab b6 E λr m h U=>by
   rcases h with h|h
   .have h:J.heap.size<=r:=h;have:=bu.lt;rcases U with U|U<;>omega
   .exact h
  have W:∀ {M:Nat} {O:x1} {P:Λ},au .i64 ai B M O P->au .i64 ai s M O P:=λhm=>br hm E λr m U=>by
   rcases U with rfl|U
   .exact b7 hm aq Φ m rfl
   .obtain⟨C,H⟩:=bO hm m;omega
  have cb:=W bw;have cc:ag s bd ba (eU Z):=bx.ab E λU=>U.elim (λhe=>by subst he;exact absurd (e7 bx aq) Φ) λh=>by have:=bx.lt;omega
  refine bH Ω ?_;refine hM (α:=Λ) rfl rfl c5.u an.i Ψ c8 aX λaI c9=>?_;have da:=dc c9;rw[aM ba.p 0 cc rfl,aW ax.u (aE.ls.ext bA)];have z12:=E.size;refine bZ.range x.scope.length (λp G a1=>Ext s a1/\ ∃go,au .i64 ap a1 go G ((x.scope.take p).map λv=>t.getD ((bl x.scope).idxOf v) 0)/\ ∀r,leads G r->s.heap.size<=r) Ω ⟨Ext.refl _,0,au.nil _ _ _ _,λr m=>by obtain⟨a,n,c,C,H⟩:=m;cases C⟩ ?_ ?_
  .rintro p G a1 db dd ⟨X,go,aB,cd⟩ de;obtain⟨v,bB⟩:=aH (l:=x.scope) dd;have df:v∈bl x.scope:=bM.mem_iff.2 (x5 bB);refine bH Ω ?_;have dg:=bA.trans X;have dh:=aw.ext X;have di:=cb.ext X;rw[bc ax.u ap.i Ψ (aE.ls.ext dg) bB,aM aY.p 0 dh rfl,aW an.u di.ls];generalize ce:((x.scope.take p).map λv=>t.getD ((bl x.scope).idxOf v) 0)=A at aB;have es:A.length=p:=by rw[<-ce,u7,j6];omega
   refine bZ.range (bl x.scope).length (λj G a2=>Ext s a2/\ ∃go,au .i64 ap a2 go G (A++if v∈(bl x.scope).take j then[t.getD ((bl x.scope).idxOf v) 0] else[])/\ ∀r,leads G r->s.heap.size<=r) Ω ⟨X,go,by simpa using aB,cd⟩ ?_ ?_
   .rintro j dk a2 dl dm ⟨R,bC,Y,aC⟩ dp;obtain⟨u,hu⟩:=aH (l:=(bl x.scope)) dm;have dq:=cb.ext R;refine bH Ω ?_;refine aV (λG bE=>Ext s bE/\ ∃go,au .i64 ap bE go G (A++if v∈(bl x.scope).take (j+1) then[t.getD ((bl x.scope).idxOf v) 0] else[])/\ ∀r,leads G r->s.heap.size<=r) ?_ ?_
    .rintro et bE dr;rw[aP];exact dp _ _ dr
    intro aA cg;have bF:v∈(bl x.scope).take (j+1)↔v∈(bl x.scope).take j\/v=u:=by
     rw[u9,hu,o9,o7,o8]
    rw[bc an.u ai.i Ψ dq.ls hu,bg,al];refine⟨λhe=>?_,λbG=>?_⟩
    .have ds:v∉(bl x.scope).take j:=λhm=>by
      obtain⟨dt,bI⟩:=X1.1 hm;have du:dt<j:=by have:=(x4.1 bI).1;rw[j6] at this;omega
      rw[Z8 du,<-he] at bI;have:=kk bN bI hu;omega
     rw[if_neg ds,U4] at Y;have dv:t[j]? =σ (t.getD ((bl x.scope).idxOf v) 0):=by
      have:(bl x.scope).idxOf v=j:=qv bN (by rw[hu,he]);rw[this,v8,x6 (show j<t.length by omega)];rfl
     rw[bc an.u ai.i Ψ (da.ext R) dv];refine ew ax.u ap.i rfl λeu ev ey ez bJ dw=>?_;refine hx ax.u ap.i rfl (Y.ext bJ) dw.ls Θ Θ λeA dx eB dy dz dA=>?_;have eC:=R.size;have eD:=bJ.size;refine cg _ _ ⟨(R.trans bJ).then dA λr m he=>by have:=aC r he;omega,dx,?_,λr m=>(dz r m).elim (aC r) λh=>Ω⟩;rw[if_pos (bF.2 (.inr he.symm))];exact dy
    .refine cg _ _ ⟨R,bC,?_,aC⟩;have:(v∈(bl x.scope).take (j+1))=(v∈(bl x.scope).take j):=propext ⟨λaJ=>(bF.1 aJ).resolve_right λhe=>bG he.symm,λaJ=>bF.2 (.inl aJ)⟩;simp only[this];exact Y
   .rintro dk a2 dl ⟨R,bC,Y,aC⟩;rw[p9,if_pos df] at Y;refine cp Ω ?_;rw[aP];refine de _ _ ⟨R,bC,?_,aC⟩;rw[u9,bB,o9,Z0,ce];exact Y
  .rintro G a1 db ⟨X,go,aB,cd⟩;rw[p9] at aB;refine cp Ω ?_;intro eE ci _ _;have a7:=X.trans ci;have dC:=aw.ext a7;have dD:=cc.ext a7;rw[aM aY.p 2 dC rfl,bR ba.p ba.i rfl dD.range];refine (N4 (h.ext (bA.trans a7)) ac.lines.1 (aB.ls.ext ci)).mono ?_;rintro _ eF _ ⟨rfl,bK⟩;refine⟨.inl bK,?_⟩;refine ew ax.u ap.i rfl λeH eJ dE eK cj dF=>?_;refine⟨.inl (bK.trans cj),?_⟩;have a8:=(a7.trans bK).trans cj;have ck:=ay.ext a8;refine hx ax.u ap.i rfl ck dF.ls Θ Θ λdG dH eL bb dI cl=>?_;have cm:=aw.ext a8;have cn:=cm.ab cl λhe=>b7 ck cm Φ he rfl;rw[aU aY.p rfl];refine bq (g:=z) (o:=2) ax.i bb.ls.cells.1 bb.ls.cells.2 cn Ξ λdJ cq eM dK=>?_;rw[aP];have dL:ah (λr=>leads a6 r\/r=z) dE dJ:=(cl.mono λr _ h=>.inl h).trans (cq.mono λr _ h=>.inr h);have eN:=a8.size;refine c6 _ ⟨(E.trans (a8.ab _)).trans (dL.mono λr _ h=>h.elim (λh=>.inr (aT r h)) .inl),dG,dH,dK,?_,λr m=>(dI r m).elim (aT r) λh=>Ω⟩;rw[u9,aX,o9,Z0];exact br bb cq λr m he=>by
    have he:r=z:=he;subst he;exact b7 bb cn Φ m rfl
 .rintro s c2 ⟨E,a6,av,aw,ay,aT⟩;rw[p9] at ay;refine cp Ω ?_;have W:∀ {M:Nat} {O:x1} {P:Λ},au .i64 ai B M O P->au .i64 ai s M O P:=λhm=>br hm E λr m U=>by
   rcases U with rfl|U
   .exact b7 hm aq Φ m rfl
   .obtain⟨C,H⟩:=bO hm m;omega
  let c:fl:=⟨aG,szv,a6,bl x.scope,(hR f.sizes f.k x).2⟩;have dM:fI s f.sizes c:=⟨⟨gr,W bw⟩,⟨gs,W b8⟩,av,ay⟩;rw[bR aY.p aY.i rfl (show s.rangeAt z 0 (dj c) from aw.range)];have cr:=b9.ab E λU=>U.elim (λhe=>by have:=bh.lt;omega) λh=>by have:=b9.lt;omega
  refine ch (vs:=dj c) aY.i rfl rfl dM.one cr λdN ct eO dO=>?_;rw[fN aY.p aY.i rfl dO.range];have aZ:∀ {M:Nat} {O:x1} {P:Λ} {e:r9},e≠aY->au .i64 e s M O P->au .i64 e dN M O P:=λbG hm=>br hm ct λr m he=>by
   have he:r=bQ:=he;exact b7 hm cr bG m he
  refine⟨(ca E).then ct λr m he=>by have he:r=bQ:=he;have:=bP.size;omega,c,rfl,rfl,rfl,⟨⟨gr,aZ Φ (W bw)⟩,⟨gs,aZ Φ (W b8)⟩,av,aZ Φ ay⟩,λr m=>?_⟩;rcases m with m|m|m
  .have:=aT r m;omega
  .have:=cH r m;omega
  .have:=aL r m;omega
theorem Dm {h:fl} {g:Nat} (e:fI w sizes h) (a:ag w' g aY (x1.agg (dj h).toArray).cells.toList):ag w' g aY (dj h):=by
 obtain⟨⟨g1,h1⟩,⟨r,f⟩,s,j⟩:=e;obtain⟨_,_,_,m⟩:=c4 h1.ls;obtain⟨_,_,_,p⟩:=c4 f.ls;obtain⟨_,_,_,q⟩:=c4 j.ls;simp only[dj,m,p,q] at a ⊢;exact a
theorem N6 {a b:fl} (P:fI w sizes a) (Q:fI w sizes b) (U:jg a.sc) (W:jg b.sc):am x7 zh [.agg (dj a).toArray,.agg (dj b).toArray] w λv w'=>v= .bool (decide (da a.sc<da b.sc))/\Ext w w':=by
 obtain⟨⟨ga,R⟩,_⟩:=id P;obtain⟨⟨au,X⟩,_⟩:=id Q;have G:=(vI U W).1;refine az func171 ?_;refine be λg1 V av Y H=>?_;refine be λZ aa aw S I=>?_;have H:=(Dm P H).ext S;have I:=Dm Q I;have m:=Y.trans S;have q:=R.ls.ext m;have z:=X.ls.ext m;have r:∀ {w':x3},Ext aa w'-> ∀ {K:x1->Prop},ac x7 (u5 aY (Γ g1) 0) w' (λt=>ac x7 (u4 an t) w' K)=K a.aG:=λJ K=>by
  rw[aM aY.p 0 (H.ext J) rfl]
 have A:∀ {w':x3},Ext aa w'-> ∀ {K:x1->Prop},ac x7 (u5 aY (Γ Z) 0) w' (λt=>ac x7 (u4 an t) w' K)=K b.aG:=λJ K=>by
  rw[aM aY.p 0 (I.ext J) rfl]
 rw[r (Ext.refl _),aW an.u q,A (Ext.refl _),aW an.u z,bm,al];refine⟨λab=>?_,λad=>?_⟩
 .rw[r (Ext.refl _),aW an.u q,A (Ext.refl _),aW an.u z,aO];refine⟨?_,m⟩;congr 1;rw[V6,decide_eq_true_eq,decide_eq_true_eq,G];exact⟨λh=>.inl Ω,λh=>by rcases h with h|h<;>omega⟩
 have ae:a.sc.length=b.sc.length:=by have:=Z9.1 ad;omega
 rw[r (Ext.refl _),aW an.u q];refine bZ.range a.sc.length (λi _ L=>Ext aa L/\ ∀ (j:Nat) (x y:Int),j<i->a.sc[j]? =σ x->b.sc[j]? =σ y->x=y) R.ls.le ⟨Ext.refl _,λj x y af=>Ω⟩ ?_ ?_
 .rintro i _ L k hi ⟨M,B⟩ hk;obtain⟨x,J⟩:=aH (l:=a.sc) hi;obtain⟨y,C⟩:=aH (l:=b.sc) (i:=i) Ω;have e:fT a.sc b.sc=fT (a.sc.drop i) (b.sc.drop i):=sR B Ω Ω;have ag:a.sc.drop i=x::a.sc.drop (i+1):=by rw[X5 hi,(x4.1 J).2]
  have ah:b.sc.drop i=y::b.sc.drop (i+1):=by rw[X5 (show i<b.sc.length by omega),(x4.1 C).2]
  rw[ag,ah] at e;simp only[fT] at e;refine bH Ω ?_;intro ax aj _ _;have f:=M.trans aj;rw[r f,bc an.u ai.i Ψ (q.ext f) J,A f,bc an.u ai.i Ψ (z.ext f) C,bm,al];refine⟨λab=>?_,λhe=>?_⟩
  .intro ay ak _ _;have s:=f.trans ak;rw[r s,bc an.u ai.i Ψ (q.ext s) J,A s,bc an.u ai.i Ψ (z.ext s) C,aO];refine⟨?_,m.trans s⟩;congr 1;rw[V6,decide_eq_true_eq,decide_eq_true_eq,G,e];by_cases E:x<y
   .rw[if_pos E];exact⟨λ_=>.inr ⟨ae,Ω⟩,λ_=>E⟩
   .rw[if_neg E,if_pos (show y<x by omega)];exact⟨λh=>absurd h E,λh=>by rcases h with h|h<;>omega⟩
  .rw[aP];refine hk _ _ ⟨f,λj ao ap af N O=>?_⟩;by_cases aq:j=i
   .subst aq;rw[J] at N;rw[C] at O;cases N;cases O;exact Z9.1 he
   .exact B j ao ap Ω N O
 .rintro _ L k ⟨M,B⟩;rw[aO,al];refine⟨λh=>Ω,λ_=>⟨?_,m.trans M⟩⟩;congr 1;symm;rw[decide_eq_false_iff_not,G];have e:fT a.sc b.sc=fT (a.sc.drop a.sc.length) (b.sc.drop a.sc.length):=sR B (p8 _) Ω;rw[List.drop_length,show b.sc.drop a.sc.length=[] from List.drop_eq_nil_of_le Ω] at e;rw[e];simp only[fT];omega
def dt (h:fl):cK:=(h.sc,h.cs)
def ku (w:x3) (B g:Nat) (v:x1) (sizes:Λ) (L:List fl):Prop:=bk dj 3 aY w g v L/\(∀h∈L,fI w sizes h/\ ∀r,pf h r->B<=r)/\(∀ (i j:Nat) x y,L[i]? =σ x->L[j]? =σ y->i≠j-> ∀r,leads x.a6 r->¬leads y.a6 r)/\ ∀r,leadsTo v r->B<=r
theorem mB {h:fl} (x:fI w sizes h) (p:ah S w w') (q:∀r,S r->(∃e c,ag w r e c/\e≠ai/\e≠ap)\/w.heap.size<=r\/((∃c,ag w r ap c)/\¬leads h.a6 r)):fI w' sizes h:=by
 obtain⟨⟨g1,h1⟩,⟨y,z⟩,A,j⟩:=x;have s:∀ {g:Nat} {v:x1} {l:Λ},au .i64 ai w g v l->au .i64 ai w' g v l:=λhm=>br hm p λr a U=>by
  rcases q r U with⟨e,c,f,m,_⟩|B|⟨⟨c,f⟩,_⟩
  .exact b7 hm f (λhe=>m he.symm) a rfl
  .obtain⟨C,E⟩:=bO hm a;omega
  .exact b7 hm f Φ a rfl
 refine⟨⟨g1,s h1⟩,⟨y,s z⟩,A,br j p λr a U=>?_⟩;rcases q r U with⟨e,c,f,_,m⟩|B|⟨_,F⟩
 .exact b7 j f (λhe=>m he.symm) a rfl
 .obtain⟨C,E⟩:=bO j a;omega
 .exact F a
theorem ku.ext {g:Nat} {L:List fl} (h:ku w B g v sizes L) (J:Ext w w'):ku w' B g v sizes L:=⟨h.1.ext J,λx a=>⟨(h.2.1 x a).1.ext J,(h.2.1 x a).2⟩,h.2.2⟩
section
variable {α:Type} {f:α->List x1} {k:Nat} {P:W5} {w:x3} {e:r9} {g:Nat} {v:x1} {L:List α}
theorem N7 {M:List α} (h:bk f k e w g v L) (af:L.map f=M.map f):bk f k e w g v M:=by
 have j:L.length=M.length:=by have:=congrArg S6 af;simpa using this
 have hm:L.flatMap f=M.flatMap f:=by rw[List.flatMap_def,List.flatMap_def,af]
 refine⟨by rw[<-j,<-hm];exact h.1,λa m=>?_⟩;obtain⟨b,p,he⟩:=l9.1 (show f a∈L.map f by rw[af];exact l9.2 ⟨a,m,rfl⟩);rw[<-he];exact h.2 b p
theorem Dn {b l h':Nat} {low high:Option x1} (r:P.underlying t=σ (.slice e)) (hi:aT P e k b z) (h:bk f k e w g v L) (h1:lF low l) (s:lG high L.length h') (p:l<=h') (aJ:h'<=L.length)
  (x:∀q,(∀w',bk f k e w' g v L->cd w' k q ((L.drop l).take (h'-l)).length (((L.drop l).take (h'-l)).flatMap f))->K q):ac P (V4 t v low high ν) w K:=by
 have y:=h.sl;obtain⟨_,B,o,base,cap,rfl,C,_⟩:=y;rw[hK r hi h1 s fz p Ω (p8 _)];refine x _ λw' j=>?_;have:=cd.part (l:=l) (h:=h') (m:=cap) j.sl p aJ Ω (p8 _);rw[su l j.2,qm (h'-l) (λa A=>j.2 a (List.mem_of_mem_drop A))] at this;have el:((L.drop l).take (h'-l)).length=h'-l:=by rw[j6,List.length_drop];omega
 rw[el];exact this
theorem wy {I:r9} {b:Nat} {x:x1} {M:List α} {K:x1->x3->Prop} (s:P.underlying t=σ (.slice e)) (hi:aT P e k b z) (E:z.cells.size=k) (h:bk f k e w g v L) (J:cd w k x M.length (M.flatMap f)) (N:∀a∈M,(f a).length=k) (h1:∀a∈M,∀u∈f a,u.oneCell'=true)
  (y:(L.length+M.length)*b<=140737488355328) (F:L.length+M.length<=9223372036854775807)
  (G:∀j m w',bk f k e w' m j (L++M)->(∀r,leadsTo j r->leadsTo v r\/w.heap.size<=r)->ah (λr=>leadsTo v r) w w'->K j w'):aD P (b9 #[t,t] I #[v,x]) w K:=by
 have H:∀u∈M.flatMap f,u.oneCell'=true:=λu hu=>by
  obtain⟨a,O,hu⟩:=List.mem_flatMap.1 hu;exact h1 a O u hu
 have A:∀j m w',bW w' m e k j (L.length+M.length) (L.flatMap f++M.flatMap f)->bk f k e w' m j (L++M):=λj m w' hm=>⟨by simpa using hm,λb y=>by
  rcases o7.1 y with h'|h'
  .exact h.2 b h'
  .exact N b h'⟩
 rcases h.1.2 with⟨ad,Q⟩|⟨cap,cs,ad,R,_⟩
 .have hm:bW w w.heap.size e k v L.length (L.flatMap f):=⟨h.1.1,.inl ⟨ad,Q⟩⟩;subst ad;refine nj s s hi E hm J H (by simpa using y) (by simpa[maxLen] using F) λj m w' B p C=>G j m w' (A _ _ _ p) (λr q=>.inr ?_) (C.mono λr q h=>Ω);have:=((A _ _ _ p).leads q).1;omega
 .refine nj s s hi E h.1 J H (by simpa using y) (by simpa[maxLen] using F) λj m w' B p C=>G j m w' (A _ _ _ p) (λr q=>?_) (C.mono λr q h=>⟨_,_,_,ad,h.symm⟩);have:=((A _ _ _ p).leads q).1;rcases B with B|B
  .exact .inl ⟨_,_,_,ad,by show g=r;omega⟩
  .exact .inr Ω
theorem N8 {b:Nat} {K:x1->x3->Prop} (a:P.underlying t=σ (.slice e)) (hi:aT P e k b z)
  (h:∀v g w',g=w.heap.size->Ext w w'->bk f k e w' g v []->K v w'):aD P (Y4 t 0 #[]) w K:=
 j8 a hi Ω (cs:=#[]) (by simp[Instr.fill]) λg w' j m p=>by
  exact h _ g w' j m ⟨by simpa using bW.full (k:=k) (n:=0) p Ξ (by simp[maxLen]),λc q=>by cases q⟩
end
theorem wz {α:Type} {A B:List α} {s:Nat} {a:α} (U:s<B.length) (e:A[s]? =σ a):(A.take s++B.drop s).set s a=A.take (s+1)++B.drop (s+1):=by
 have f:=(x4.1 e).1;have h1:(A.take s).length=s:=by rw[j6];omega
 rw[T2 _ _ Ω,h1,V7,X5 U,List.set_cons_zero,u9,e,o9,U6];rfl
theorem Do {α:Type} {A B:List α} {s:Nat} (U:s<=A.length):(A.take s++B.drop s)[s]? =B[s]?:=by
 have h1:(A.take s).length=s:=by rw[j6];omega
 rw[Y2 Ω,h1,V7,List.getElem?_drop,Nat.add_zero]
theorem Dp {g:cK}:∀ {l:List cK} {i:Nat},(∀p<i,∀x,l[p]? =σ x->da x.1<da g.1)->i<=l.length->(∀x,l[i]? =σ x->¬da x.1<da g.1)->hp g l=l.take i++g::l.drop i
 |[],i,_,a,_=>by
  have:i=0:=by simpa using a
  subst this;rfl
 |x::l,0,_,_,e=>by
  unfold hp;rw[if_neg (e x rfl)];rfl
 |x::l,i+1,h1,a,e=>by
  unfold hp;rw[if_pos (h1 0 Ω x rfl),Dp (i:=i) (λp h y f=>h1 (p+1) Ω y f) (by simpa using a) (λy f=>e y f)];rfl
theorem N9 {g:Nat} {L:List fl} {h:fl} {s:Nat} {n:Int} {K:Unit->x3->Prop} (f:ku w B g v sizes L) (E:L[j]? =σ h) (U:s<h.cs.length)
  (W:∀w',ah (λr=>leads h.a6 r) w w'->(∀r,leads h.a6 r-> ∃c,ag w r ap c)->ku w' B g v sizes (L.set j {h with cs:=h.cs.set s n})->K () w'):
  ac x7 (j4 ax h.a6 (Δ (s:Int))) w λt=>aD x7 (o6 ap t (Δ n)) w K:=by
 obtain⟨h1,N,O,X⟩:=f;have I:=(x4.1 E).1;obtain⟨P,Y⟩:=N h (x5 E);obtain⟨_,_,Q,F⟩:=id P;have G:∀r,leads h.a6 r-> ∃c,ag w r ap c:=λr f=>by
  obtain⟨rfl,_⟩:=bO F f;obtain⟨_,⟨ad,_⟩|⟨cap,full,_,z,_⟩⟩:=F
  .obtain⟨a,n,c,e,_⟩:=f;rw[ad] at e;cases e
  .exact⟨_,z⟩
 have Z:∀r,r=Q->leads h.a6 r:=λr he=>by
  subst he;obtain⟨_,⟨_,aw⟩|⟨cap,full,e,z,_⟩⟩:=F
  .omega
  .exact⟨_,_,_,e,rfl⟩
 rw[hj rfl ax.u ap.i F U];refine hl ap.i F U λw' A ay aa=>?_;have A:=A.mono (T:=λr=>leads h.a6 r) λr _ he=>Z r he;refine W w' A G ⟨?_,λx J=>?_,λp q x y J ae af r ai aj=>?_,X⟩
 .refine N7 (h1.ab A λr f U=>?_) ?_
  .obtain⟨c,z⟩:=G r U;exact cR h1 z Φ f
  .rw[V8];symm;refine Y3 λp=>?_;rw[Y7,x8];by_cases m:j=p
   .subst m;rw[if_pos rfl,if_pos (by simpa using I),E];rfl
   .rw[if_neg m]
 .have ak:x={h with cs:=h.cs.set s n}\/ ∃p,p≠j/\L[p]? =σ x:=by
   obtain⟨p,m⟩:=X1.1 J;rw[Y7] at m;by_cases C:j=p
   .subst C;rw[if_pos rfl,if_pos I] at m;exact .inl (b6 m).symm
   .rw[if_neg C] at m;exact .inr ⟨p,λh=>C h.symm,m⟩
  rcases ak with rfl|⟨p,al,m⟩
  .obtain⟨⟨g1,R⟩,⟨am,S⟩,_⟩:=P;refine⟨⟨⟨g1,br R A λr f U=>?_⟩,⟨am,br S A λr f U=>?_⟩,Q,aa⟩,Y⟩
   .obtain⟨c,z⟩:=G r U;exact b7 R z Φ f rfl
   .obtain⟨c,z⟩:=G r U;exact b7 S z Φ f rfl
  .obtain⟨an,ao⟩:=N x (x5 m);refine⟨mB an A λr f=>.inr (.inr ⟨G r f,λM=>O p j x h m E al r M f⟩),ao⟩
 .have V:∀ {p:Nat} {x:fl},(L.set j {h with cs:=h.cs.set s n})[p]? =σ x-> ∃H,L[p]? =σ H/\H.a6=x.a6:=λ{p x} J=>by
   rw[Y7] at J;by_cases C:j=p
   .subst C;rw[if_pos rfl,if_pos I] at J;cases J;exact⟨h,E,rfl⟩
   .rw[if_neg C] at J;exact⟨x,J,rfl⟩
  obtain⟨H,M,ex⟩:=V J;obtain⟨aq,au,av⟩:=V ae;exact O p q H aq M au af r (by rw[ex];exact ai) (by rw[av];exact aj)
def k7 (f:b2) (j:Nat):List cK:=(((ff f).take j).filter fA).foldl (λl g=>hp g l) []
theorem Dq {f:b2} {x:cK} (h:(ff f)[j]? =σ x):k7 f (j+1)=if fA x then hp x (k7 f j) else k7 f j:=by
 unfold k7;rw[u9,h,o9,List.filter_append,S1];cases U:fA x with
 |true=>rw[List.filter_cons_of_pos U];rfl
 |false=>rw[List.filter_cons_of_neg (by simp[U])];rfl
theorem Oa (f:b2):k7 f (ff f).length=fB f:=by unfold k7 fB;rw[p9]
theorem Dr (g:cK):∀l,(hp g l).length=l.length+1
 |[]=>rfl
 |h::l=>by
  unfold hp;split
  .rw[c9,Dr g l,c9]
  .rfl
theorem Ob {f:b2} (e:j<=(ff f).length):(k7 f j).length<=j:=by
 induction j with
 |zero=>simp[k7]
 |succ j a=>
  have:=a Ω;rw[Dq (x:=(ff f)[j]) (x6 Ω)];split
  .rw[Dr];omega
  .omega
theorem Oc {g:Nat} {l:x1} {f:b2} {L:List fl} {Q:x1->x3->Prop} (ay:e6 N f) (s:ku w B g l f.sizes L) (az:L.map dt=ff f)
  (bM:∀out w' go m,Ext w w'->bk dj 3 aY w' go out m->(∀h∈m,h∈L)->(∀h∈m,fI w' f.sizes h)->m.map dt=fB f->(∀r,leadsTo out r->w.heap.size<=r)->Q out w'):
  ac x7 (W8 #[cU] ai #[l]) w λbN=>
 bZ (.slice ν 0 0) (Δ 0) w λout aB O bO=>
  ac x7 (aL .lss ai false false aB bN) O λbP=>
  Split bP (cv (α:=x1->x3->Prop) (λ(bS:x1) (P:x3)=>
   ac x7 (aL .add ai false true aB (Δ 1)) P λbT=>
   bO bS bT P) λbe=>
  ac x7 (j4 cU l aB) O λbV=>
  ac x7 (u4 aY bV) O λbW=>
  aD x7 (S7 aY true (.tuple #[])) O λaj bf=>
  aD x7 (o6 aY aj bW) bf λ(_:Unit) H=>
  ac x7 (u5 aY aj 2) H λbY=>
  ac x7 (u4 ax bY) H λbg=>
  ac x7 (W8 #[ax] ai #[bg]) H λb0=>
  bZ (.bool false) (Δ 0) H λbh aC z b1=>
   ac x7 (aL .lss ai false false aC b0) z λb3=>
   Split b3 (cv (α:=x1->x3->Prop) (λ(b4:x1) (X:x3)=>
    ac x7 (aL .add ai false true aC (Δ 1)) X λb5=>
    b1 b4 b5 X) λbi=>
   ac x7 (j4 ax bg aC) z λb6=>
   ac x7 (u4 ap b6) z λb7=>
   Split bh (bi (.bool true) z)
    (ac x7 (aL .gtr ap false true b7 (Δ 0)) z λca=>
   bi ca z))
    (ac x7 (Op.unary .not bh) z λcb=>
  Split cb (be out z)
   (cz (Δ 0) z λi ak cc=>
   cv (α:=x1->x3->Prop) (λ(cd:x1) (R:x3)=>
    Split cd (ac x7 (aL .add ai false true i (Δ 1)) R λcg=>
   cc cg R)
     (er R λC=>
  ac x7 (u4 aY aj) C λci=>
  ac x7 (V4 cU out (σ i) ν ν) C λbj=>
  aD x7 (Y4 cU 1 #[(0,ci)]) C λcj Y=>
   (Ext C Y\/cD x7 (V4 cU out (σ i) ν ν) bj Y/\True)/\
  aD x7 (b9 #[cU,cU] cU #[cj,bj]) Y λck aE=>
   aD x7 (Y4 cU 0 #[]) aE λcl an=>
  ac x7 (V4 cU out ν (σ i) ν) an λcm=>
  aD x7 (b9 #[cU,cU] cU #[cl,cm]) an λcn aF=>
  aD x7 (b9 #[cU,cU] cU #[cn,ck]) aF λcq aG=>
  be cq aG)) λbl=>
   er ak λE=>
   ac x7 (W8 #[cU] ai #[out]) E λcr=>
   ac x7 (aL .lss ai false false i cr) E λct=>
   Split ct (ac x7 (j4 cU out i) E λcu=>
   ac x7 (u4 aY cu) E λcw=>
   ac x7 (u4 aY aj) E λcA=>
   am x7 zh [cw,cA] E λcB bm=>
    bl cB bm)
    (bl (.bool false) E))))
   (Q out O):=by
 have cC:L.length=(ff f).length:=by rw[<-az,u7]
 have dh:L.length<=256:=by have:=(kZ ay).2.2;have:=ay.kS;omega
 have bn:=(kZ ay).1;rw[fh cU.u s.1];refine bZ.range L.length (λj out V=>∃go m,Ext w V/\bk dj 3 aY V go out m/\(∀h∈m,h∈L)/\m.map dt=k7 f j/\ ∀r,leadsTo out r->w.heap.size<=r) s.1.le
  ⟨0,[],Ext.refl _,bk.nil _ _ _ _ _,λh aJ=>(by cases aJ),rfl,λr s=>(fg s).elim⟩ ?_ ?_
 rotate_left
 .rintro out V cE ⟨go,m,bo,Z,I,aa,aK⟩;rw[aO,al];refine⟨λh=>Ω,λ_=>bM _ _ go m bo Z I (λh aJ=>((s.ext bo).2.1 h (I h aJ)).1) ?_ aK⟩;rw[aa,cC,Oa]
 rintro j out O cE bp ⟨go,m,ao,Z,I,aa,aK⟩ cF;obtain⟨h,aJ⟩:=aH (l:=L) bp;have hm:(ff f)[j]? =σ (dt h):=by rw[<-az,x8,aJ];rfl
 have cG:=bn _ (x5 hm);have di:m.length<=256:=by
  have:=Ob (f:=f) (j:=j) Ω;rw[<-aa,u7] at this;omega
 have ad:=s.ext ao;obtain⟨aN,_⟩:=ad.2.1 h (x5 aJ);obtain⟨_,_,dk,cH⟩:=id aN;refine bH Ω ?_;refine aV (λaQ P=>∃aR ae,Ext w P/\bk dj 3 aY P aR aQ ae/\(∀h∈ae,h∈L)/\ae.map dt=k7 f (j+1)/\ ∀r,leadsTo aQ r->w.heap.size<=r) ?_ ?_
 .rintro aQ P ⟨aR,ae,h1,cI,cJ,cK,cL⟩;rw[aP];exact cF _ _ ⟨aR,ae,h1,cI,cJ,cK,cL⟩
 intro aA ag;rw[dx rfl cU.u aY.i ad.1 bp,bR aY.p aY.i rfl (ad.1.range aJ)];refine bD aY.i λbq bf dl cM cN=>?_;refine ch (vs:=dj h) aY.i rfl rfl aN.one cN λH cO dm br=>?_;have bt:Ext O H:=cM.put cO Ω;have aS:=cH.ext bt;rw[aM aY.p 2 br rfl,aW ax.u aS.ls];refine bZ.range h.cs.length (λq sv z=>Ext H z/\sv= .bool ((h.cs.take q).any λc=>decide (0<c))) aS.ls.le ⟨Ext.refl _,rfl⟩ ?_ ?_
 .rintro q _ z cP cQ ⟨S,rfl⟩ cR;obtain⟨c,bu⟩:=aH (l:=h.cs) cQ;have e:(h.cs.take (q+1)).any (λc=>decide (0<c))=((h.cs.take q).any (λc=>decide (0<c))||decide (0<c)):=by
   rw[u9,bu,o9,List.any_append];simp
  refine bH Ω ?_;refine aV (λsv X=>Ext H X/\sv= .bool ((h.cs.take (q+1)).any λc=>decide (0<c))) ?_ ?_
  .rintro _ X ⟨cS,rfl⟩;rw[aP];exact cR _ _ ⟨cS,rfl⟩
  intro aA ag;rw[bc ax.u ap.i Ψ (aS.ext S).ls bu,ce];refine⟨λcT=>ag _ _ ⟨S,by rw[e,cT];rfl⟩,λaf=>?_⟩;rw[bU];exact ag _ _ ⟨S,by rw[e,af];rfl⟩
 rintro _ z cP ⟨S,rfl⟩;have bw:=br.ext S;have K:=bt.trans S;rw[p9];refine cp Ω ?_;rw[bG,ce];have aq:=Dq hm;have cV:(h.cs.any λc=>decide (0<c))=fA (dt h):=rfl;rw[cV];refine⟨λaT=>?_,λU=>?_⟩
 .have aT:fA (dt h)=false:=by simpa using aT
  rw[aT] at aq;exact ag _ _ ⟨go,m,ao.trans K,Z.ext K,I,by rw[aa,aq];rfl,aK⟩
 have U:fA (dt h)=true:=by simpa using U
 rw[U,if_pos rfl] at aq;refine⟨λaU ak=>∃i:Nat,aU=Δ (i:Int)/\i<=m.length/\Ext z ak/\ ∀p<i,∀x,m[p]? =σ x->da x.sc<da h.sc,λaU _=>m.length-(bX aU).toNat,⟨0,rfl,X3 _,Ext.refl _,λp aX=>Ω⟩,?_⟩;rintro _ ak ⟨i,rfl,hi,cW,aZ⟩;refine aV (λaI R=>Ext z R/\((aI= .bool true/\i<m.length/\ ∀x,m[i]? =σ x->da x.sc<da h.sc)\/(aI= .bool false/\ ∀x,m[i]? =σ x->¬da x.sc<da h.sc))) ?_ ?_
 rotate_left
 .intro dn a2;intro E cX _ _;have W:=cW.trans cX;have a6:=Z.ext (K.trans W);rw[fh cU.u a6,aO,al];refine⟨λaZ=>?_,λdp=>a2 _ _ ⟨W,.inr ⟨rfl,λx J=>absurd (x4.1 J).1 Ω⟩⟩⟩;obtain⟨x,J⟩:=aH (l:=m) (i:=i) Ω;have bx:=I x (x5 J);have cY:jg x.sc:=(bn (dt x) (by rw[<-az];exact l9.2 ⟨x,bx,rfl⟩)).scope;have bz:=ad.ext (K.trans W);rw[dx rfl cU.u aY.i a6 Ω,bR aY.p aY.i rfl (a6.range J),bR aY.p aY.i rfl (show E.rangeAt bq 0 (dj h) from (bw.ext W).range)];refine (N6 (bz.2.1 x bx).1 (bz.2.1 h (x5 aJ)).1 cY cG.scope).mono ?_;rintro _ bm _ ⟨rfl,bA⟩;by_cases au:da x.sc<da h.sc
  .rw[decide_eq_true au];exact a2 _ _ ⟨W.trans bA,.inl ⟨rfl,Ω,λy A=>by rw[J] at A;cases A;exact au⟩⟩
  .rw[decide_eq_false au];exact a2 _ _ ⟨W.trans bA,.inr ⟨rfl,λy A=>by rw[J] at A;cases A;exact au⟩⟩
 rintro _ R ⟨bB,⟨rfl,dq,cZ⟩|⟨rfl,c0⟩⟩
 .rw[bQ,aP,wrap_i64 Ω Ω];refine⟨⟨i+1,rfl,Ω,bB,λp aX x J=>?_⟩,by simp only[bX];omega⟩;by_cases c1:p=i
  .subst c1;exact cZ x J
  .exact aZ p Ω x J
 .rw[a1];intro C c2 _ _;have ah:=bB.trans c2;have av:=Z.ext (K.trans ah);have c3:=ad.ext (K.trans ah);have a7:∀x∈m,∀u∈dj x,u.oneCell'=true:=λx J=>(c3.2.1 x (I x J)).1.one;have c4:∀u∈dj h,u.oneCell'=true:=aN.one;rw[bR aY.p aY.i rfl (show C.rangeAt bq 0 (dj h) from (bw.ext ah).range)];refine Dn (h':=m.length) cU.u aY.i av (nf i _ rfl) jw hi (p8 _) λdr bC=>?_;refine ia (f:=dj) (k:=3) (a:=h) cU.u aY.i Ω rfl rfl λds du Y dv a8 bE=>?_;refine⟨.inl a8,?_⟩;have c5:(m.drop i).take (m.length-i)=m.drop i:=b8 (by rw[List.length_drop];omega);rw[c5] at bC;refine wy (M:=m.drop i) cU.u aY.i rfl bE (bC Y (av.ext a8)) (λ_ _=>rfl) (λa G=>a7 a (List.mem_of_mem_drop G)) Θ Θ λdw dy aE ba dz c6=>?_;have bF:Ext C aE:=a8.then c6 λr s he=>by have:=(bE.leads he).1;omega
  refine N8 (f:=dj) (k:=3) cU.u aY.i λdA dC an dD bb aw=>?_;have bd:=bF.trans bb;refine Dn (h':=i) cU.u aY.i (av.ext bd) jv (ng i _ rfl) (X3 _) hi λdE bI=>?_;rw[List.drop_zero,Nat.sub_zero] at bI;refine wy (M:=m.take i) cU.u aY.i rfl aw (bI an (av.ext bd)) (λ_ _=>rfl) (λa G=>a7 a (T4 G)) Θ Θ λc7 dF aF c8 c9 bJ=>?_;have dG:=bF.size;have dH:=bb.size;have db:=(ba.ext bb).ab bJ λr s U=>by have:=(ba.leads s).1;have:=(ba.leads s).2;have:=(aw.leads U).1;omega
  refine wy (M:=[h]++m.drop i) cU.u aY.i rfl c8 db.sl (λ_ _=>rfl) (λa G=>?_) Θ Θ λdI dc aG dd de df=>?_
  .rcases o7.1 G with G|G
   .rw[o8.1 G];exact c4
   .exact a7 a (List.mem_of_mem_drop G)
  have bK:Ext C aF:=bd.then bJ λr s he=>by have:=(aw.leads he).1;omega
  have bL:∀r,leadsTo c7 r->C.heap.size<=r:=λr s=>(c9 r s).elim (λh=>by have:=(aw.leads h).1;omega) λh=>Ω
  have dg:Ext C aG:=bK.then df λr s he=>by have:=bL r he;omega
  have dJ:=(ao.trans (K.trans ah)).size;have dK:=bK.size;refine ag _ _ ⟨dc,_,(ao.trans (K.trans ah)).trans dg,dd,λx J=>?_,?_,λr s=>(de r s).elim (λh=>by have:=bL r h;omega) λh=>Ω⟩
  .rcases o7.1 J with J|J
   .exact I x (T4 (by simpa using J))
   .rcases o7.1 J with J|J
    .rw[o8.1 J];exact x5 aJ
    .exact I x (List.mem_of_mem_drop J)
  .rw[aq,<-aa,Dp (i:=i) (λp aX x J=>?_) (by simpa using hi) (λx J=>?_)]
   .simp
   .rw[x8] at J;cases A:m[p]? with
    |none=>rw[A] at J;cases J
    |some y=>rw[A] at J;cases J;exact aZ p aX y A
   .rw[x8] at J;cases A:m[i]? with
    |none=>rw[A] at J;cases J
    |some y=>rw[A] at J;cases J;exact c0 y A
end Go.Proofs.YtmgflbkdggdhoaaGreatDoor
