/- own texts, made small by a tool (wip/ holds them as they were written): no statement of the seat. -/
import Derived.Test.YtikkpokkcdocoaaGreatDoorYc
set_option linter.unusedVariables false
set_option linter.unusedSimpArgs false
set_option linter.unnecessarySimpa false
open Array renaming getElem?_eq_some_iff→j6,getElem?_toList→S7
open Bool renaming not_true→Y9,not_false→X9,eq_iff_iff→V7,and_eq_true→U1,or_eq_false_iff→U3
open Decidable renaming not_not→X2
open Go renaming Value→x3,World→x4,TypeId→r9,IntKind→o9,Builtin→Z4,Program→W9
open Go.Addr renaming add_mid→T4
open Go.Builtin renaming append_→Z3,len_→W7
open Go.Instr renaming loadAt→u5,fieldAt→u6,storeAt→o8,indexAt→j5,extract→Y2,buildSlice→Y8,sliceAt→V8
open Go.IntKind renaming i64→X7
open Go.Proofs.Tryz renaming prog→x8
open Int renaming toNat_natCast→u9,le_refl→Q1
open List renaming getElem?_eq_some_iff→x5,mem_of_getElem?→x6,getElem?_eq_getElem→x7,getElem?_map→v8,getD_eq_getElem?_getD→u4,length_map→u7,take_add_one→r8,replicate→o4,take_length→o6,length_append→o7,length_take→n9,mem_append→l9,mem_map→j0,mem_singleton→j4,take_of_length_le→j9,getElem?_set_self→c9,eq_nil_of_length_eq_zero→b9,map_append→Z2,length_cons→Z5,length_set→Z9,getElem?_take_of_lt→Y0,getElem?_append_left→Y1,getElem?_append_right→Y3,getElem?_eq_none→Y4,getElem?_set_ne→Y5,ext_getElem?→Y7,getElem?_set→X1,mem_iff_getElem?→X6,drop_eq_getElem_cons→X8,range→W3,mem_or_eq_of_mem_set→W5,length_eq_one_iff→V0,flatMap_cons→V4,map_set→U5,append_nil→U9,map_cons→T1,append_assoc→T3,set_append_right→T8,mem_of_mem_take→T9,getElem?_drop→S2,length_singleton→S3,map_map→R2,foldl_append→R5,length→Q0,getElem_mem→Q3
open Nat renaming le_refl→o5,le_trans→X0,zero_add→X3,zero_le→X5,mul_le_mul_right→W0,mul_one→U2,sub_self→U4,add_mul→U7,add_assoc→R3,add_sub_cancel_left→R4,eq_zero_or_pos→Q2
open Option renaming toList_some→l7,some→b8,isNone_some→Z6,map_some→Z7,map_eq_some_iff→Y6,getD_some→V2,map→V9,isSome_some→S8,isSome_none→S9
open Option.some renaming inj→Z0,injEq→X4
open Prod.mk renaming injEq→S1
set_option maxHeartbeats 16000000
open Option renaming some→σ,none→ν
variable{B N a ab ac gz j k n:Nat}{w w':x4}{sv v z:x3}{e t:r9}{y:Int}{K:x3->Prop}{all l pl sizes:Λ}{S:Nat->Prop}
namespace Go.Proofs.YtikkpokkcdocoaaGreatDoor
open Go Go.Vc Go.RowKit Go.Proofs Go.Proofs.Tryz
set_option maxRecDepth 100000
def Nw(w:x4)(f:ca)(v:x3)(w':x4):Prop:=Ext w w'/\((¬l5 f.funs<=16384/\∃e:Int,e≠0/\v= .tuple #[.pointer ν,Δ e])\/∃a,v= .tuple #[Γ a,Δ 0]/\CU w.heap.size w' a (cg f))
theorem eS{cs:List x3}(h:cc w k v n cs):v.cells= #[v]/\v.oneCell'=true:=by
 obtain⟨_,_,_,_,_,rfl,_⟩:=h;exact⟨rfl,rfl⟩
theorem Nx{b2:Nat}{f:ca}(cw:lf w b2 f)(S:ff N f)(cz:N<=60000)(cA:f.name≠[]/\∀b∈f.name,bO b=true):
  ai x8 GG [Γ b2] w (Nw w f):=by
 have hk:=S.k;refine ay func61 ?_;refine(Ns cw S cz cA).mono ?_;rintro _ J _ ⟨aA,⟨cB,e,he,rfl⟩|⟨aB,rfl,cE⟩⟩
 .rw[bz,bA,bK,aj];exact⟨λ_=>⟨aA,.inl ⟨cB,e,he,rfl⟩⟩,λh=>absurd he h⟩
 rw[bz,bA,bK,aj];refine⟨λh=>absurd rfl h,λ_=>?_⟩;obtain⟨szv,cF,gz,dz,M,bg,bh,b3,aU,cG,cH,cI⟩:=id cE;have dA:M.length<=256:=by
  have h1:=(qC S).2.length_eq;have av:=(lb S).2.2;have ax:=List.length_filter_le fH (fq f);have aW:=S.k4;have dC:M.length=(fI f).length:=by rw[<-aU,u7]
  omega
 have dD:=S.sizes.2.1;rw[dn (cs:=#[Γ aB,Δ 0,.slice ν 0 0,.slice ν 0 0]) Ψ];refine bk λG U dF bi bj=>?_;have bj:ad U G fC [Γ aB,Δ 0,.slice ν 0 0,.slice ν 0 0]:=bj;rw[aQ cC.p 2 (bg.ext bi) rfl,aV an.u (bh.ls.ext bi)];refine b1.range f.sizes.length (λi aC=>∃s H aT,Ext J aC/\ad aC G fC [Γ aB,Δ 0,s,.slice ν 0 0]/\hD aC H s aT/\aT.map (·.l)=(f.sizes.take i).map (λz=>o4 z.toNat 0)/\(∀r,leadsTo s r->J.heap.size<=r)/\∀h∈aT,∀r,leads h.v r->J.heap.size<=r) Ω
  ⟨_,0,[],bi,bj,⟨be.nil _ _ _ _ _,λx aE=>(by cases aE)⟩,rfl,λr q=>(fg q).elim,λx aE=>(by cases aE)⟩ ?_ ?_
 .rintro i aC cJ hi ⟨s,H,aT,ab,aX,bl,aH,aY,O⟩ cK;obtain⟨z,B⟩:=aD (l:=f.sizes) hi;have dG:=S.sizes.2.2 z (x6 B);have dH:aT.length=i:=by have:=congrArg Q0 aH;simp only[u7,n9]at this;omega
  refine bD Ω ?_;rw[bc an.u ag.i Ψ (bh.ls.ext ab) B];intro dI bm _ _;have cL:=aX.ext bm;rw[aQ fC.p 2 cL rfl];obtain⟨ac,rfl⟩:∃n:Nat,z=n:=⟨z.toNat,Ω⟩;refine jG (k:=.i64) au.u ao.i Ω Ω λaZ cM dJ bn cN=>?_;refine⟨.inl bn,?_⟩;have b4:aq .i64 ao cM aZ (.slice (σ ⟨aZ,0,ν⟩) ac ac) (o4 ac 0):=aq.of (bW.full (k:=1) (n:=ac) cN Ξ (by simp[maxLen];omega));let a:lh:=⟨.slice (σ ⟨aZ,0,ν⟩) ac ac,o4 ac 0⟩;refine h2 (f:=nV) (a:=a) cP.u au.i Ω rfl rfl λdK dM bo dO bp cQ=>?_;refine⟨.inl (bn.trans bp),?_⟩;have a1:=(bm.trans bn).trans bp;have a2:=bl.ext a1;refine ip (f:=nV) (a:=a) cP.u au.i rfl a2.1 (by simpa using cQ.sl) (λu hu=>by rw[j4.1 (show u∈[a.v]from hu)];rfl) Ω Ω λbt bu dQ P bx b5=>?_;have aI:∀{r:Nat},leadsTo s r->∃c,ad bo r au c:=λq=>by
   obtain⟨rfl,c,A⟩:=ee a2.1 q;exact⟨c,A⟩
  have bB:=aX.ext a1;have b6:=bB.aa b5 λhe=>cO a2.1 bB Φ he;rw[bX,aS fC.p rfl];refine bq cP.i (eS P.sl).1 (eS P.sl).2 b6 Ξ λcR b8 dR cS=>?_;rw[aM];have bC:ae (λr=>leadsTo s r\/r=G) bo cR:=(b5.mono λr _ h=>.inl h).trans (b8.mono λr _ h=>.inr h);have V:∀r,(leadsTo s r\/r=G)->∃e c,ad bo r e c/\e≠ao:=λr q=>by
   rcases q with q|rfl
   .obtain⟨c,A⟩:=aI q;exact⟨_,c,A,Φ⟩
   .exact⟨_,_,bB,Φ⟩
  have cb:=aA.size;have z3:=ab.size;have dS:=a1.size;refine cK _ ⟨bt,bu,aT++[a],(ab.trans a1).then bC (λr q he=>?_),cS,⟨P.aa b8 λr q he=>?_,λy C=>?_⟩,?_,λr q=>?_,λy C r q=>?_⟩
  .rcases he with he|rfl
   .have:=aY r he;omega
   .omega
  .have he:r=G:=he;subst he;exact cO P b6 Φ q
  .rcases l9.1 C with C|C
   .exact a2.qM bC V y C
   .rw[j4.1 C];have cc:=b4.ext bp;exact⟨aZ,br cc bC λr q I=>by
     obtain⟨e,c,A,cT⟩:=V r I;exact ce cc A (λhe=>cT he.symm) q rfl⟩
  .rw[Z2,aH,r8,B,l7,Z2];rfl
  .rcases bx r q with h|h
   .exact aY r h
   .omega
  .rcases l9.1 C with C|C
   .exact O y C r q
   .rw[j4.1 C]at q;have cU:=(bR b4 q).1;have:=bm.size;omega
 .rintro aC cJ ⟨s,H,aT,ab,aX,bl,aH,aY,O⟩;refine b7 Ω ?_;rw[o6]at aH;have cV:=bg.ext ab;have cW:=b3.ext ab;rw[aQ cC.p 3 cV rfl,e9 dN.u cW.1];refine b1.range M.length (λi af=>∃s E H gr aT L,Ext J af/\ad af G fC [Γ aB,Δ (dL f i).zero,s,E]/\hD af H s aT/\aT.map (·.l)=(dL f i).unary/\l6 af w.heap.size gr E f.k f.sizes L/\L.map dY=(dL f i).funs/\(∀r,leadsTo s r\/leadsTo E r->J.heap.size<=r)/\∀h∈aT,∀r,leads h.v r->J.heap.size<=r) Ω
   ⟨s,_,H,0,aT,[],ab,aX,bl,aH,⟨be.nil _ _ _ _ _,λx aE=>(by cases aE)⟩,rfl,λr q=>q.elim (aY r) λh=>(fg h).elim,O⟩ ?_ ?_
  rotate_left
  .rintro af cZ ⟨s,E,H,gr,aT,L,Q,a6,bE,ah,bG,ak,W,O⟩;refine b7 Ω ?_;have c0:M.length=(fI f).length:=by rw[<-aU,u7]
   have aJ:=pq f M.length;rw[c0,ta]at a6 ah ak aJ;have cb:=aA.size;refine⟨aA.trans Q,.inr ⟨G,rfl,Nt (gr:=gr) (nm:=bU f.name) (szv:=szv) (gz:=gz) (fv2:=cF) a6 ?_ ?_ bE ah ?_ ak Ω cG cH (λr q=>by have:=W r q;omega) λh ap r q=>by have:=O h ap r q;omega⟩⟩
   .rw[aJ.1];exact bg.ext Q
   .rw[aJ.2.1];exact bh.ext Q
   .rw[aJ.1,aJ.2.1];exact bG
  rintro i af cZ hi ⟨s,E,H,gr,aT,L,Q,a6,bE,ah,bG,ak,W,O⟩ c1;obtain⟨y,C⟩:=aD (l:=M) hi;have c2:(fI f)[i]?=σ (dY y):=by rw[<-aU,v8,C];rfl
  have a7:ft f.sizes f.k (dY y):=sP S _ (wh aU C);have bH:=b3.ext Q;obtain⟨dT,dU,dV,dW⟩:=pq f i;refine bD Ω ?_;refine dl (λaK=>∃s E H gr aT L,Ext J aK/\ad aK G fC [Γ aB,Δ (dL f (i+1)).zero,s,E]/\hD aK H s aT/\aT.map (·.l)=(dL f (i+1)).unary/\l6 aK w.heap.size gr E f.k f.sizes L/\L.map dY=(dL f (i+1)).funs/\(∀r,leadsTo s r\/leadsTo E r->J.heap.size<=r)/\∀h∈aT,∀r,leads h.v r->J.heap.size<=r) ?_ ?_
  .rintro aK h;rw[aM];exact c1 _ h
  intro aw bJ;have c3:=bH.2 y (x6 C);obtain⟨⟨c4,bL⟩,m,o,D,c5,dX,c6⟩:=c3;rw[dE rfl dN.u cD.i bH.1 hi,bF cD.p cD.i rfl (bH.1.range C)];refine bw cD.i λal dZ ea c7 c8=>?_;refine bT (vs:=eG y) cD.i rfl rfl (s9 bL) c8 λc9 da eb cd=>?_;have bM:Ext af c9:=c7.put da Ω;rw[aG cD.p 1 cd rfl];refine(Cp (c5.ext bM) Ω).mono ?_;rintro _ ec _ ⟨cg,_,az⟩;obtain⟨g,db,dc,dd,rfl,ed,de,az,df⟩:=az a7.small;have dg:dP (bI f.sizes y.sc):=az.2.2.1.2;have dh:dd=y.cs:=ir.eq dg df c6;subst dh;have X:=bM.trans cg;have bN:=cd.ext cg;have bP:=bL.ext X;rw[bz,bA,aG cD.p 0 bN rfl,aV an.u bP.ls];have cb:=aA.size;have z9:=Q.size;have ef:=X.size;have bQ:=a6.ext X;have bS:=bE.ext X;have bV:=bG.ext X;have bY:=wi c2;rw[bb,aj];refine⟨λeg=>?_,λeh=>?_⟩
  .
   have am:y.sc=[]:=b9 Ω;have K:dL f (i+1)={dL f i with zero:=y.cs.getD 0 0}:=by rw[bY];unfold iQ;simp only[dY,am]
   refine(mG az).mono ?_;rintro ch di _ ⟨a8,ei,ej,dj⟩;have ek:y.cs.length=1:=by have:=a7.len;simpa[dY,am,bI,aN]using this
   have dk:y.cs[0]?=σ (y.cs.getD 0 0):=by rw[u4,x7 Ω];rfl
   rw[fF (y:=0) (i:=0) rfl au.u ao.i Ψ dj.ls dk,bX,aS fC.p rfl];have ci:=bQ.ext a8;refine bq ao.i rfl rfl ci Ξ λem bZ en dm=>?_;have V:∀r,r=G->∃e c,ad di r e c/\e≠hs/\e≠cX/\e≠ag/\e≠ao/\e≠au:=λr q=>by
    subst q;exact⟨_,_,ci,Φ,Φ,Φ,Φ,Φ⟩
   refine bJ _ ⟨s,E,H,gr,aT,L,((Q.trans X).trans a8).put bZ Ω,?_,(bS.ext a8).aa bZ (λr q=>?_),by rw[K];exact ah,(bV.ext a8).aa bZ (λr q=>?_),by rw[K];exact ak,W,O⟩
   .rw[K];exact dm
   .obtain⟨e,c,A,_,_,_,h1,av⟩:=V r q;exact⟨e,c,A,h1,av⟩
   .obtain⟨e,c,A,h1,av,ax,aW,_⟩:=V r q;exact⟨e,c,A,h1,av,ax,aW⟩
  rw[bb,aj];refine⟨λh1=>?_,λeo=>?_⟩
  .
   obtain⟨v,am⟩:∃v,y.sc=[v]:=V0.1 Ω;have ep:=a7.scope.1 v (by show v∈y.sc;rw[am];exact .head _);have er:=a7.vars v (by show v∈y.sc;rw[am];exact .head _);have K:dL f (i+1)={dL f i with unary:=(dL f i).unary.set v.toNat y.cs}:=by rw[bY];unfold iQ;simp only[dY,am]
   intro es Y _ _;have cj:=bQ.ext Y;have dp:=bN.ext Y;rw[aQ fC.p 2 cj rfl,aG cD.p 0 dp rfl];refine sf (y:=0) (i:=0) rfl an.u ag.i (bP.ls.ext Y) (show y.sc[0]?=σ v by rw[am];rfl) λb o dq=>?_;rw[aF Ψ dq];refine(mG (az.ext Y)).mono ?_;rintro ch dr _ ⟨aL,ds,et,aO⟩;refine⟨.inl aL,?_⟩;have aP:=(bS.ext Y).ext aL;have eu:aT.length=f.sizes.length:=by have:=congrArg Q0 ah;rw[u7]at this;omega
   obtain⟨u,hu⟩:=aD (l:=aT) (i:=v.toNat) Ω;rw[dE (i:=v.toNat) Ω cP.u au.i aP.1 Ω];let a:lh:=⟨ch,y.cs⟩;refine ph (f:=nV) (j:=0) (a:=u) (a':=a) au.i aO.ls.cells.1 aO.ls.cells.2 aP.1 hu rfl Ω λev aR ew dt=>?_;have ck:=cj.ext aL;have aI:∀{r:Nat},leadsTo s r->∃c,ad dr r au c:=λq=>by
    obtain⟨rfl,c,A⟩:=ee aP.1 q;exact⟨c,A⟩
   refine bJ _ ⟨s,E,H,gr,aT.set v.toNat a,L,(((Q.trans X).trans Y).trans aL).then aR (λr q he=>by have:=W r (.inl he);omega),?_,⟨dt,λz B=>?_⟩,?_,((bV.ext Y).ext aL).aa aR (λr q=>?_),by rw[K];exact ak,W,λz B r q=>?_⟩
   .rw[K];exact ck.aa aR λhe=>cO aP.1 ck Φ he
   .rcases W5 B with B|rfl
    .exact aP.qM aR (λr q=>by obtain⟨c,A⟩:=aI q;exact⟨_,c,A,Φ⟩) z B
    .exact⟨ds,br aO aR λr q I=>by
      obtain⟨c,A⟩:=aI I;exact ce aO A Φ q rfl⟩
   .rw[K,U5,ah]
   .obtain⟨c,A⟩:=aI q;exact⟨_,c,A,Φ,Φ,Φ,Φ⟩
   .rcases W5 B with B|rfl
    .exact O z B r q
    .have cU:=(bR aO q).1;have:=Y.size;omega
  .
   have K:dL f (i+1)={dL f i with funs:=(dL f i).funs++[dY y]}:=by
    rw[bY];unfold iQ;have cl:2<=(dY y).1.length:=by show 2<=y.sc.length;omega
    generalize dY y=g at cl ⊢;obtain⟨sc,cs⟩:=g
    match sc,cl with
    |_::_::_,_=>rfl
   intro ey Z _ _;have cm:=bQ.ext Z;have du:=bN.ext Z;have cn:=bP.ext Z;rw[aQ fC.p 3 cm rfl,aG cD.p 0 du rfl,dn (cs:=#[y.sv,Γ g]) (by obtain⟨_,_,_,e⟩:=cY bL.ls;rw[e];kernel_rfl)];let a:ct:=⟨y.sv,g,y.sc,y.cs⟩;refine h2 (f:=eG) (a:=a) kR.u hs.i Ω rfl rfl λez eA ba eB R dv=>?_;refine⟨.inl R,?_⟩;have bd:=(bV.ext Z).ext R;have dw:=(bS.ext Z).ext R;have b0:=cm.ext R;have eC:L.length<=256:=by have:=congrArg Q0 ak;rw[u7]at this;omega
   refine ip (f:=eG) (a:=a) kR.u hs.i rfl bd.1 (by simpa using dv.sl) (s9 (cn.ext R)) Ω Ω λbt bu eD P bx cp=>?_;have cq:=b0.aa cp λhe=>cO bd.1 b0 Φ he;rw[bX,aS fC.p rfl];refine bq kR.i (eS P.sl).1 (eS P.sl).2 cq Ξ λdx cr eE dy=>?_;have bf:ae (λr=>leadsTo E r\/r=G) ba dx:=(cp.mono λr _ h=>.inl h).trans (cr.mono λr _ h=>.inr h);have V:∀r,(leadsTo E r\/r=G)->∃e c,ad ba r e c/\e≠cX/\e≠ag/\e≠ao/\e≠au:=λr q=>by
    rcases q with q|rfl
    .obtain⟨rfl,c,A⟩:=ee bd.1 q;exact⟨_,c,A,Φ,Φ,Φ,Φ⟩
    .exact⟨_,_,b0,Φ,Φ,Φ,Φ⟩
   have eF:=(Z.trans R).size;refine bJ _ ⟨s,bt,H,bu,aT,L++[a],(((Q.trans X).trans Z).trans R).then bf (λr q he=>?_),?_,dw.aa bf (λr q=>?_),by rw[K];exact ah,⟨P.aa cr λr q he=>?_,λz B=>?_⟩,?_,λr q=>?_,O⟩
   .rcases he with he|rfl
    .have:=W r (.inr he);omega
    .omega
   .rw[K];exact dy
   .obtain⟨e,c,A,_,_,ax,aW⟩:=V r q;exact⟨e,c,A,ax,aW⟩
   .have he:r=G:=he;subst he;exact cO P cq Φ q
   .have cu:∀r,(leadsTo E r\/r=G)->∃e c,ad ba r e c/\e≠cX/\e≠ag/\e≠ao:=λr q=>by
     obtain⟨e,c,A,h1,av,ax,_⟩:=V r q;exact⟨e,c,A,h1,av,ax⟩
    rcases l9.1 B with B|B
    .exact (bd.2 z B).aa bf cu
    .rw[j4.1 B];have eH:=bM.size;refine qN.aa (w:=ba) ⟨⟨c4,cn.ext R⟩,⟨db,dc,?_,Ω,λr q=>by have:=de.2 r q;omega⟩,by show w.heap.size<=g;omega,cI y (x6 C)⟩ bf cu;exact(az.ext Z).ext R
   .rw[K,Z2,ak];rfl
   .rcases q with q|q
    .exact W r (.inl q)
    .rcases bx r q with h|h
     .exact W r (.inr h)
     .omega
theorem wj{z:Array x3}(a:z.size=k):(Z4.zeroCells z n).toList=dT z (n*k):=by
 unfold Z4.zeroCells dT;rw[a]
theorem Ny{P:W9}{p A:r9}{B kn:o9}{b g m:Nat}{xs:List x3}{K:x3->x4->Prop}(X:y=(m:Int))(M:P.underlying t=σ (.slice e))(N:P.underlying p=σ (.int kn))(hi:aP P e k b z)(C:z.cells.size=k)(av:0<k)(h1:∀u∈dT z.cells (m*k),u.oneCell'=true)(h:bW w g e k v n xs)(Y:0<m)(Z:(n+m)*b<=140737488355328)(ab:n+m<=9223372036854775807)(O:∀E ac w',bW w' ac e k E (n+m) (xs++dT z.cells (m*k))->(∀r,leadsTo E r->leadsTo v r\/w.heap.size<=r)->ae (λr=>leadsTo v r) w w'->K E w'):aC P (Z3 #[t,p] A #[v,.int B y]) w K:=by
 subst X;obtain⟨i,hi,F,rfl,Q⟩:=hi;obtain⟨R,hm⟩:=h;have af:=oO z.cells (m*k);have ag:m*i.bytes<=281474976710656:=by
  have:m*i.bytes<=(n+m)*i.bytes:=W0 _ Ω;omega
 have grow:∀(base:Option Addr)(cap:Nat),v= .slice base n cap->(Z4.firstCells i.size n (.slice base n cap)).run P w.drew= .ok xs.toArray w.drew->cap<n+m->aC P (Z3 #[t,p] A #[v,.int B (m:Int)]) w K:=λbase cap ah ai f=>by
  subst ah;have G:=Lib.run_append_grow_zeros (P:=P) w t p A e i z B kn M N hi Q base n cap xs ai m Y Ω f Ω ag (growslice_fits f Z);have S:n+m<=grownCap w (n+m) cap e:=grownCap_ge w _ _ _;have aj:grownCap w (n+m) cap e<=maxLen:=grownCap_le_maxLen w (n+m) cap e (by simpa[maxLen]using ab);have aw:=oO z.cells ((grownCap w (n+m) cap e-(n+m))*k);have ax:(n+m)*k<=grownCap w (n+m) cap e*k:=W0 _ S;have ak:(n+m)*k=n*k+m*k:=U7 _ _ _;have ay:(grownCap w (n+m) cap e-(n+m))*k=grownCap w (n+m) cap e*k-(n+m)*k:=Nat.sub_mul _ _ _;refine .of G ((pG w _ (Nat.le_succ _)).trans (pI _ _)) (O _ w.heap.size _ ⟨by rw[o7];omega,.inr ⟨_,xs++dT z.cells (m*k)++dT z.cells ((grownCap w (n+m) cap e-(n+m))*k),rfl,?_,S,aj,?_,?_⟩⟩ (λr H=>?_) (((rm w _).trans (pH _ _)).aa _))
  .have:=heap_alloc_new w.drew (.cells (xs.toArray++Z4.zeroCells z.cells m++Z4.zeroCells z.cells (grownCap w (n+m) cap e-(n+m))) e);unfold ad;rw[show w.drew.heap.size=w.heap.size from rfl]at this;rw[this];congr 2;apply Array.toList_inj.1;rw[Array.toList_append,Array.toList_append,wj C,wj C]
  .rw[o7,o7];omega
  .rw[List.take_append_of_le_length (by rw[o7];omega),j9 (by rw[o7];omega)]
  .obtain⟨a,al,c,q,s⟩:=H;cases q;exact .inr (by simp at s;omega)
 rcases hm with⟨rfl,am⟩|⟨cap,cs,rfl,x,q,s,I,T⟩
 .subst am;have:xs=[]:=b9 (by simpa using R);subst this;exact grow ν 0 rfl (run_firstCells_none w.drew i.size 0 0 0) Ω
 .by_cases f:n+m<=cap
  .have U:(n+m)*k<=cs.length:=by rw[I];exact W0 _ f
   have ak:(n+m)*k=n*k+m*k:=U7 _ _ _;have J:=run_storeCells_cells (P:=P) g (0+n*k) (dT z.cells (m*k)) 0 w (λj V=>by
    rw[af]at V;rw[Nat.add_zero,X3,x.cell (x7 (show n*k+j<cs.length by omega))];rfl) (λj _=>x.frozen _ _) h1
   simp only[Nat.add_zero]at J;have hw:X7.wrap (m:Int)=m:=by rw[o9.wrap_i64];omega
   have an:¬((m:Int)<0):=Ω
   have ao:¬(281474976710656<(m:Int)*(i.bytes:Int)):=by rw[<-Int.natCast_mul];omega
   have L:¬(m*i.size=0):=Nat.mul_ne_zero Ω Ω;have ap:(Z4.zeroCells z.cells m).toList=dT z.cells (m*k):=wj C;have G:(Z3 #[t,p] A #[.slice (σ ⟨g,0,ν⟩) n cap,.int B (m:Int)]).run P w= .ok (.slice (σ ⟨g,0,ν⟩) (n+m) cap) (w.setCells g (0+n*k) (dT z.cells (m*k))):=by
    simp[Z3,run_underlying M,run_underlying N,sizeOf,typeInfo,zeroValue,hi,Q,asInt,asIntOf,hw,f,an,L,ao,ap,Addr.add_lit,F];simp only[X3]at J;rw[J];simp;intro aq;exact absurd aq (by rw[F]at L;exact L)
   obtain⟨au,W⟩:=ny (dT z.cells (m*k)) cs (0+n*k) w x;refine .of G (W.cu x) (O _ g _ ⟨by rw[o7];omega,.inr ⟨cap,_,rfl,au,f,s,by rw[lU,I],?_⟩⟩ (λr H=>.inl ?_) (W.aa.mono λr _ he=>⟨_,_,_,rfl,he.symm⟩))
   .rw[sF Ω U,mv (by rw[n9];omega),X3,List.take_take,List.drop_eq_nil_of_le (by rw[n9];omega),U9,Nat.min_eq_left Ω,T]
   .obtain⟨a,al,c,q,s⟩:=H;cases q;exact⟨_,_,_,rfl,s⟩
  .refine grow _ cap rfl ?_ Ω;have U:n*k<=cs.length:=by rw[I];exact W0 _ q
   refine run_firstCells_some w.drew i.size n _ n cap xs (by rw[F];exact R) λj u hu=>?_;rw[T4,X3];have V:=(x5.1 hu).1;rw[<-T,Y0 Ω]at hu;exact x.cell hu
def iu(c:Cell):List x3:=[Δ c.v,.int .u64 (c.st:Int)]
def nY(o:k1):List x3:=[Δ (o.i:Int),Δ o.c.v,.int .u64 (o.c.st:Int)]
def nZ(m:sd):List x3:=[Δ (m.olds:Int),Δ (m.cells:Int),.int .u64 (m.st:Int)]
def dv(w:x4)(ac:Nat)(A:af)(t:az):Prop:=A ac/\∃e go dg aZ a dQ,ad w ac fB [aZ,a,dQ,.int .u64 (t.ii:Int)]/\be iu 2 eK w e aZ t.cells/\be nY 3 kQ w go a t.olds/\be nZ 3 gl w dg dQ t.marks/\
 ∀r,leadsTo aZ r\/leadsTo a r\/leadsTo dQ r->A r
theorem dv.aa{S A:af}{t:az}(h:dv w ac A t)(e:ae S w w')(f:∀r,A r->¬S r):dv w' ac A t:=by
 obtain⟨p,q,go,dg,aZ,s,dQ,h1,x,y,z,j⟩:=h;exact⟨p,q,go,dg,aZ,s,dQ,h1.aa e (f _ p),x.aa e λr a=>f r (j r (.inl a)),y.aa e λr a=>f r (j r (.inr (.inl a))),z.aa e λr a=>f r (j r (.inr (.inr a))),j⟩
theorem dv.ext{A:af}{t:az}(h:dv w ac A t)(a:Ext w w'):dv w' ac A t:=h.aa (a.aa λ_=>False) λ_ _ h=>h
theorem dv.mono{A B:af}{t:az}(h:dv w ac A t)(a:∀r,A r->B r):dv w ac B t:=by
 obtain⟨e,f,go,dg,aZ,j,dQ,h1,p,q,s,x⟩:=h;exact⟨a _ e,f,go,dg,aZ,j,dQ,h1,p,q,s,λr y=>a r (x r y)⟩
def Grow(A:af)(w:x4)(aI:af)(w':x4):Prop:=ae A w w'/\(∀r,aI r->A r\/w.heap.size<=r)/\∀r,A r->aI r
theorem Grow.refl(A:af)(w:x4):Grow A w A w:=⟨ae.refl _ _,λ_ h=>.inl h,λ_ h=>h⟩
theorem Grow.ext{A:af}(h:Ext w w'):Grow A w A w':=⟨h.aa _,λ_ h=>.inl h,λ_ h=>h⟩
theorem Grow.trans{A aI e:af}{f:x4}(h:Grow A w aI w')(k:Grow aI w' e f):Grow A w e f:=
 ⟨⟨X0 h.1.size k.1.size,λr o a I j=>k.1.aU r o (h.1.aU r o a I j) I λp=>(h.2.1 r p).elim j λq=>by
  have:=(j6.1 a).1;omega⟩,λr a=>by
  rcases k.2.1 r a with h1|h1
  .exact h.2.1 r h1
  .have:=h.1.size;exact .inr Ω,λr a=>k.2.2 r (h.2.2 r a)⟩
theorem CW{A:af}{t:az}(h:dv w ac A t):ai x8 HE [Γ ac] w λv w'=>v=Δ (t.cells.length:Int)/\Ext w w':=by
 obtain⟨e,f,go,dg,aZ,j,dQ,h1,a,q,r,s⟩:=h;refine ay func152 ?_;rw[da pY.u];simp only[Z6,aY];rw[aQ fB.p 0 h1 rfl,e9 ic.u a];exact⟨rfl,Ext.refl _⟩
theorem CX{A:af}{t:az}{i:Int}(h:dv w ac A t):ai x8 G2 [Γ ac,Δ i] w λv w'=>v= .bool (decide (0<=i/\i<t.cells.length))/\Ext w w':=by
 refine ay func86 ?_;refine aW (λv J=>v= .bool (decide (0<=i/\i<t.cells.length))/\Ext w J) (λ_ _ h=>h) ?_;intro aw a;rw[cQ,aj];refine⟨λe=>?_,λe=>a _ _ ⟨by rw[decide_eq_false];omega,Ext.refl _⟩⟩;refine(CW h).mono ?_;rintro _ J _ ⟨rfl,f⟩;rw[aR];refine a _ _ ⟨?_,f⟩;congr 1;rw[V7,decide_eq_true_eq,decide_eq_true_eq];exact⟨λh=>⟨Ω,h⟩,λh=>h.2⟩
theorem Nz{A:af}{t:az}{i:Nat}{c:Cell}(h:dv w ac A t)(j:y=(i:Int))(a:t.cells[i]?=σ c):ai x8 y0 [Γ ac,Δ y] w λv w'=>v=Δ c.v/\Ext w w':=by
 have q:=(x5.1 a).1;refine ay func39 ?_;refine(CX h).mono ?_;rintro _ J _ ⟨rfl,e⟩;rw[decide_eq_true Ω,bJ,Y9,aY];obtain⟨r,s,go,dg,aZ,x,dQ,h1,f,z,B,C⟩:=h.ext e;rw[aQ fB.p 0 h1 rfl,dE j ic.u eK.i f q,aS eK.p rfl,aF Ψ (f.range a 0 _ rfl)];exact⟨rfl,e⟩
theorem n0{A:af}{t:az}{i:Nat}{x:Int}(h:dv w ac A t)(e:y=(i:Int))(a:t.bY[i]?=σ x):ai x8 y0 [Γ ac,Δ y] w λv w'=>v=Δ x/\Ext w w':=by
 unfold az.bY at a;rw[v8]at a;obtain⟨c,f,rfl⟩:=Y6.1 a;exact Nz h e f
def mL(t:az):Prop:=t.cells.length<=100000000/\t.olds.length<=100000000/\t.marks.length<=100000000
theorem tb{q go dg:Nat}{aZ a dQ:x3}{t:az}{x:x3}(h1:ad w ac fB [aZ,a,dQ,x])(f:be iu 2 eK w q aZ t.cells)(h:be nY 3 kQ w go a t.olds)(j:be nZ 3 gl w dg dQ t.marks):
  (¬leadsTo aZ ac/\¬leadsTo a ac/\¬leadsTo dQ ac)/\(∀r,leadsTo aZ r->¬leadsTo a r/\¬leadsTo dQ r)/\∀r,leadsTo a r->¬leadsTo aZ r/\¬leadsTo dQ r:=by
 refine⟨⟨cO f h1 Φ,cO h h1 Φ,cO j h1 Φ⟩,λr p=>?_,λr p=>?_⟩
 .obtain⟨rfl,c,e⟩:=ee f p;exact⟨cO h e Φ,cO j e Φ⟩
 .obtain⟨rfl,c,e⟩:=ee h p;exact⟨cO f e Φ,cO j e Φ⟩
theorem tc{A:af}{t:az}{i:Nat}{x:Int}(h:dv w ac A t)(bm:y=(i:Int))(P:i<t.cells.length)(au:mL t):ai x8 za [Γ ac,Δ y,Δ x] w λv w'=>v=Δ 0/\∃aI,Grow A w aI w'/\dv w' ac aI (t.set i x):=by
 subst bm;obtain⟨c,E⟩:=aD (l:=t.cells) P;refine ay func128 ?_;rw[da pY.u];simp only[Z6,aY];refine(CX h).mono ?_;rintro _ J _ ⟨rfl,L⟩;rw[decide_eq_true Ω,bJ,Y9,aY];obtain⟨aV,M,go,dg,aZ,Q,dQ,h1,aX,av,ab,ag⟩:=id (h.ext L);have bo:∀{U:x4}{aI:af}{bn:az}{st:Nat}{K:x4->Prop},dv U ac aI bn->bn.cells[i]?=σ ⟨c.v,st⟩->
   (∀q,ae aI U q->dv q ac aI {bn with cells:=bn.cells.set i ⟨x,st⟩}->K q)->
   (V x8 (bP (Γ ac)) U λt77=>
   V x8 (u6 fB t77 0) U λbp=>
   V x8 (u5 ic bp) U λbr=>
   V x8 (j5 ic br (Δ (i:Int))) U λbt=>
   V x8 (u6 eK bt 0) U λbu=>
   aC x8 (o8 ao bu (Δ x)) U λ(_:Unit)q=>
   K q):=by
  intro U aI bn st K ax ah bx;obtain⟨aA,M,go,dg,aZ,Q,dQ,G,H,R,S,W⟩:=ax;have bz:=(x5.1 ah).1;rw[aQ fB.p 0 G rfl,dE rfl ic.u eK.i H bz,aS eK.p rfl];obtain⟨⟨X,aB,aE⟩,I,_⟩:=tb G H R S;refine ph (f:=iu) (j:=0) (a:=⟨c.v,st⟩) (a':=⟨x,st⟩) ao.i rfl rfl H ah rfl Ω λq B bA bB=>?_;exact bx q (B.mono λr _ e=>W r (.inl e)) ⟨aA,M,go,dg,aZ,Q,dQ,G.aa B X,bB,R.aa B λr e he=>(I r he).1 e,S.aa B λr e he=>(I r he).2 e,W⟩
 refine dl (λU=>∃aI bn st,Grow A J aI U/\dv U ac aI bn/\bn.cells[i]?=σ ⟨c.v,st⟩/\t.set i x={bn with cells:=bn.cells.set i ⟨x,st⟩}) ?_ ?_
 .rintro U ⟨aI,bn,st,bC,ax,ah,aH⟩;refine bo ax ah λq B av=>⟨by trivial,aI,?_,by rw[aH];exact av⟩;exact(Grow.ext L).trans (bC.trans ⟨B,λ_ h=>.inl h,λ_ h=>h⟩)
 intro aw aJ;rw[aQ fB.p 2 h1 rfl,e9 rX.u ab,bS,aj];have a1:∀(hm:t.marks.getLast? =ν\/∃m,t.marks.getLast? =σ m/\¬(c.st<m.st/\i<m.cells)),t.set i x={t with cells:=t.cells.set i ⟨x,c.st⟩}:=λhm=>by
  unfold az.set;rw[E];rcases hm with hm|⟨m,hm,bD⟩
  .simp only[hm]
  .simp only[hm];rw[if_neg bD]
 refine⟨λb1=>?_,λb2=>aJ _ ⟨A,t,c.st,Grow.refl _ _,h.ext L,E,a1 (.inl ?_)⟩⟩
 rotate_left
 .rw[List.getLast?_eq_none_iff];exact b9 Ω
 obtain⟨m,hm⟩:=aD (l:=t.marks) (i:=t.marks.length-1) Ω;have a2:t.marks.getLast? =σ m:=by rw[List.getLast?_eq_getElem?];exact hm
 have b3:=au.2.2;rw[aQ fB.p 2 h1 rfl,ec,wrap_i64 Ω Ω,dE (i:=t.marks.length-1) Ω rX.u gl.i ab Ω,bF gl.p gl.i rfl (ab.range hm)];refine bw gl.i λal U b4 a6 bE=>?_;refine bT (vs:=nZ m) gl.i rfl rfl (by intro v Y;simp[nZ]at Y;rcases Y with rfl|rfl|rfl<;>rfl) bE λq B bA bG=>?_;have a7:Ext J q:=a6.put B Ω;have ak:∀{w':x4},Ext q w'->ad w' al gl (nZ m):=λL=>bG.ext L;refine aW (λv aK=>v= .bool (decide (c.st<m.st/\i<m.cells))/\Ext q aK) ?_ ?_
 rotate_left
 .intro b5 a8;intro aK s _ _;have N:=a7.trans s;have ba:=ak s;have O:=aX.ext N;rw[aQ fB.p 0 (h1.ext N) rfl,dE rfl ic.u eK.i O P,aS eK.p rfl,aF Ψ (O.range E 1 _ rfl),aG gl.p 2 ba rfl,aR,aj];refine⟨λbb=>?_,λbc=>a8 _ _ ⟨by rw[decide_eq_false];omega,s⟩⟩;rw[aG gl.p 1 ba rfl,aR];refine a8 _ _ ⟨?_,s⟩;congr 1;rw[V7,decide_eq_true_eq,decide_eq_true_eq];exact⟨λh=>⟨Ω,Ω⟩,λh=>Ω⟩
 rintro _ aK ⟨rfl,s⟩;have N:=a7.trans s;rw[aj];refine⟨λbb=>?_,λbc=>aJ _ ⟨A,t,c.st,Grow.ext N,(h.ext L).ext N,E,a1 (.inr ⟨m,a2,bc⟩)⟩⟩;intro b6 am _ _;have Z:=N.trans am;have aL:=h1.ext Z;have O:=aX.ext Z;have bH:=av.ext Z;have bI:=ab.ext Z;rw[bX,aS fB.p rfl,aF Ψ (aL.cell (o:=0+1) rfl),bX,aS fB.p rfl,aF Ψ (aL.cell (o:=0+0) rfl),dE rfl ic.u eK.i O P,bF eK.p eK.i rfl (O.range E)];rw[dn (cs:=#[Δ (i:Int),Δ c.v,.int .u64 (c.st:Int)]) Ψ];let a:k1:=⟨i,c⟩;have bK:∀u∈nY a,u.oneCell'=true:=by intro v Y;simp[nY]at Y;rcases Y with rfl|rfl|rfl<;>rfl
 refine h2 (f:=nY) (a:=a) nt.u kQ.i Ω rfl rfl λb7 b8 bd ca z bL=>?_;refine⟨.inl z,?_⟩;have bf:=Z.trans z;have aM:=aL.ext z;have bg:=O.ext z;have aN:=bH.ext z;have bh:=bI.ext z;obtain⟨⟨X,aB,aE⟩,I,bM⟩:=tb aM bg aN bh;refine ip (f:=nY) (a:=a) nt.u kQ.i rfl aN (by simpa using bL.sl) bK (by have:=au.2.1;omega) (by have:=au.2.1;omega) λaO bi cb an bN bj=>?_;rw[bX,aS fB.p rfl];have bk:=aM.aa bj aB;refine bq nt.i (eS an.sl).1 (eS an.sl).2 bk Ξ λC bl cc aP=>?_;have aP:ad C ac fB [aZ,aO,dQ,.int .u64 (t.ii:Int)]:=aP;have ap:ae (λr=>leadsTo Q r\/r=ac) bd C:=(bj.mono λr _ h=>.inl h).trans (bl.mono λr _ h=>.inr h);have bO:be iu 2 eK C M aZ t.cells:=bg.aa ap λr e he=>he.elim (λhe=>(I r e).1 he) λhe=>X (he▸e);have bQ:be nZ 3 gl C dg dQ t.marks:=bh.aa ap λr e he=>he.elim (λhe=>(bM r he).2 e) λhe=>aE (he▸e);have bR:be nY 3 kQ C bi aO (t.olds++[a]):=an.aa bl λr e he=>by
  have he:r=ac:=he;subst he;exact cO an bk Φ e
 have cd:=bf.size;have ce:=a6.size;let aT:af:=λr=>A r\/bd.heap.size<=r;have bU:Grow A J aT C:=⟨(bf.aa A).trans (ap.mono λr _ he=>he.elim (λhe=>ag r (.inr (.inl he))) λhe=>he▸aV),λr e=>e.imp id λe=>Ω,λr e=>.inl e⟩;have bV:dv C ac aT {t with olds:=t.olds++[a]}:=⟨.inl aV,M,bi,dg,aZ,aO,dQ,aP,bO,bR,bQ,λr e=>by
  rcases e with e|e|e
  .exact .inl (ag r (.inl e))
  .rcases bN r e with h|h
   .exact .inl (ag r (.inr (.inl h)))
   .exact .inr h
  .exact .inl (ag r (.inr (.inr e)))⟩
 have bW:ad C al gl (nZ m):=(ak ((s.trans am).trans z)).aa ap λhe=>by
  rcases he with he|he
  .obtain⟨rfl,cg,bY⟩:=ee aN he;exact absurd (fh bY (ak ((s.trans am).trans z))) Φ
  .subst he;exact absurd (fh aM (ak ((s.trans am).trans z))) Φ
 intro ch aU _ _;have bZ:=bV.ext aU;obtain⟨aA,M,go,dg,aZ,Q,dQ,G,H,R,S,W⟩:=bZ;rw[aQ fB.p 0 G rfl,aG gl.p 2 (bW.ext aU) rfl,dE rfl ic.u eK.i H P,aS eK.p rfl];obtain⟨⟨X,aB,aE⟩,I,_⟩:=tb G H R S;refine ph (f:=iu) (j:=1) (a:=c) (a':=⟨c.v,m.st⟩) fA.i rfl rfl H E rfl Ω λci aq cj b0=>?_;have aH:t.set i x={t with olds:=t.olds++[a],cells:=t.cells.set i ⟨x,m.st⟩}:=by
  unfold az.set;rw[E];simp only[a2];rw[if_pos bb]
 refine aJ _ ⟨aT,{t with olds:=t.olds++[a],cells:=t.cells.set i ⟨c.v,m.st⟩},m.st,bU.trans ((Grow.ext aU).trans ⟨aq.mono λr _ e=>W r (.inl e),λ_ h=>.inl h,λ_ h=>h⟩),⟨aA,M,go,dg,aZ,Q,dQ,G.aa aq X,b0,R.aa aq λr e he=>(I r he).1 e,S.aa aq λr e he=>(I r he).2 e,W⟩,?_,?_⟩
 .show (t.cells.set i _)[i]?=_;rw[c9 P]
 .rw[aH];simp only[List.set_set]
theorem CY(n:Nat):dT (#[Δ 0,.int .u64 0]:Array x3) (n*2)=(o4 n (⟨0,0⟩:Cell)).flatMap iu:=by
 have:∀n,dT (#[Δ 0,.int .u64 0]:Array x3) (n*2)=(o4 n (⟨0,0⟩:Cell)).flatMap iu:=by
  intro n;apply Y7;intro j;have r:((o4 n (⟨0,0⟩:Cell)).flatMap iu).length=n*2:=by simp[iu]
  by_cases p:j<n*2
  .have q:(dT (#[Δ 0,.int .u64 0]:Array x3) (n*2))[j]?=σ (if j % 2=0 then Δ 0 else .int .u64 0):=by
    unfold dT;rw[S7,Array.getElem?_map,Array.getElem?_range,if_pos p];rcases Nat.mod_two_eq_zero_or_one j with h|h<;>simp[h]
   have e:=pg (f:=iu) (k:=2) (L:=o4 n (⟨0,0⟩:Cell)) (i:=j / 2) (j:=j % 2) (a:=⟨0,0⟩) (v:=if j % 2=0 then Δ 0 else .int .u64 0) (λa _=>rfl) (by rw[List.getElem?_replicate,if_pos Ω]) (by rcases Nat.mod_two_eq_zero_or_one j with h|h<;>simp[h,iu]);rw[show j / 2*2+j % 2=j by omega]at e;rw[q,e]
  .rw[Y4 (by rw[oO];omega),Y4 Ω]
 exact this n
theorem NA{A:af}{t:az}(h:dv w ac A t)(S:mL t)(ab:n<=100000000):ai x8 H6 [Γ ac,Δ (n:Int)] w λv w'=>v=Δ (t.cells.length:Int)/\∃aI,Grow A w aI w'/\dv w' ac aI (t.grow n):=by
 refine ay func195 ?_;refine(CW h).mono ?_;rintro _ J _ ⟨rfl,f⟩;refine dl (λU=>∃aI,Grow A w aI U/\dv U ac aI (t.grow n)) (λU h=>⟨rfl,h⟩) ?_;intro aw B;refine aW (λv U=>v= .bool (decide (0<n))/\J=U) ?_ ?_
 rotate_left
 .intro ah V;rw[zz pY.u];simp only[Z6,X9,bQ];rw[bS];refine V _ _ ⟨?_,rfl⟩;congr 1;rw[V7,decide_eq_true_eq,decide_eq_true_eq];omega
 rintro _ _ ⟨rfl,rfl⟩;rw[aj];refine⟨λC=>?_,λC=>B _ ⟨A,Grow.ext f,?_⟩⟩
 rotate_left
 .have:n=0:=Ω
  subst this;have e:t.grow 0=t:=by unfold az.grow;simp
  rw[e];exact h.ext f
 obtain⟨E,ak,go,dg,aZ,G,dQ,h1,H,I,K,j⟩:=id (h.ext f);rw[aQ fB.p 0 h1 rfl];obtain⟨⟨W,X,Y⟩,L,al⟩:=tb h1 H I K;have am:=S.1;refine Ny (k:=2) (m:=n) rfl ic.u ag.u eK.i rfl Ω (λu hu=>?_) H.1 C Ω Ω λs M U N Z O=>?_
 .exact CG Φ Φ u hu
 rw[bX,aS fB.p rfl];have q:be iu 2 eK U M s (t.cells++o4 n ⟨0,0⟩):=by
  refine⟨?_,λ_ _=>rfl⟩;have e:(x3.agg #[Δ 0,.int .u64 0]).cells= #[Δ 0,.int .u64 0]:=rfl;rw[e,CY]at N;rw[o7,List.length_replicate,List.flatMap_append];exact N
 have P:=h1.aa O W;refine bq ic.i (eS q.sl).1 (eS q.sl).2 P Ξ λQ R an x=>?_;have x:ad Q ac fB [s,G,dQ,.int .u64 (t.ii:Int)]:=x;have y:ae (λr=>leadsTo aZ r\/r=ac) J Q:=(O.mono λr _ h=>.inl h).trans (R.mono λr _ h=>.inr h);have z:=f.size;refine B _ ⟨λr=>A r\/J.heap.size<=r,(Grow.ext f).trans ⟨y.mono λr _ he=>he.elim (λhe=>j r (.inl he)) λhe=>he▸E,λr a=>a,λr a=>.inl a⟩,.inl E,M,go,dg,s,G,dQ,x,q.aa R λr a he=>?_,I.aa y λr a he=>he.elim (λhe=>(L r he).1 a) λhe=>X (he▸a),K.aa y λr a he=>he.elim (λhe=>(L r he).2 a) λhe=>Y (he▸a),λr a=>?_⟩
 .have he:r=ac:=he;subst he;exact cO q P Φ a
 .rcases a with a|a|a
  .exact (Z r a).imp (λh=>j r (.inl h)) id
  .exact .inl (j r (.inr (.inl a)))
  .exact .inl (j r (.inr (.inr a)))
theorem NB(s:n<=1000):ai x8 Hj [Δ (n:Int)] w λv w'=>Ext w w'/\∃ac,v=Γ ac/\dv w' ac (eo w.heap.size) ⟨o4 n ⟨0,0⟩,[],[],0⟩:=by
 refine ay func127 ?_;rw[uY,Int.max_eq_left Ω];refine zI (k:=2) ic.u eK.i Ω Ω λg J x h f=>?_;rw[dn (cs:=#[.slice (σ ⟨g,0,ν⟩) n n,.slice ν 0 0,.slice ν 0 0,.int .u64 0]) Ψ];refine bk λac U y j q=>?_;have z:=h.size;have e:(x3.agg #[Δ 0,.int .u64 0]).cells= #[Δ 0,.int .u64 0]:=rfl;have f:ad J g eK ((o4 n (⟨0,0⟩:Cell)).flatMap iu):=by rw[<-CY,<-e];exact f
 have p:be iu 2 eK J g (.slice (σ ⟨g,0,ν⟩) n n) (o4 n ⟨0,0⟩):=by
  refine⟨?_,λ_ _=>rfl⟩;rw[List.length_replicate];exact bW.full f (by simp[iu]) (by simp[maxLen];omega)
 refine⟨h.trans j,ac,rfl,by show w.heap.size<=ac;omega,g,0,0,_,_,_,q,p.ext j,be.nil _ _ _ _ _,be.nil _ _ _ _ _,λr a=>?_⟩;rcases a with a|a|a
 .have:=(p.leads a).1;show w.heap.size<=r;omega
 .exact (fg a).elim
 .exact (fg a).elim
theorem nB{α β:Type}{f:α->List β}:∀{L:List α}{i j:Nat}{a:α},L[i]?=σ a->j<(f a).length->(L.flatMap f)[((L.take i).flatMap f).length+j]?=(f a)[j]?
 |x::L,0,j,a,h,e=>by
  cases h;rw[List.take_zero,List.flatMap_nil,List.length_nil,X3,V4,Y1 e]
 |x::L,i+1,j,a,h,e=>by
  have h:L[i]?=σ a:=by simpa using h
  rw[List.take_succ_cons,V4,V4,o7,R3,Y3 Ω,R4,nB h e]
theorem wk{α β:Type}{f:α->List β}:∀{L:List α}{i j:Nat}{a b:α}{x:β},L[i]?=σ a->j<(f a).length->f b=(f a).set j x->(L.flatMap f).set (((L.take i).flatMap f).length+j) x=(L.set i b).flatMap f
 |y::L,0,j,a,b,x,h,e,p=>by
  cases h;rw[List.take_zero,List.flatMap_nil,List.length_nil,X3,V4,List.set_cons_zero,V4,p,List.set_append_left _ _ e]
 |y::L,i+1,j,a,b,x,h,e,p=>by
  have h:L[i]?=σ a:=by simpa using h
  rw[List.take_succ_cons,V4,V4,o7,R3,T8 _ _ Ω,R4,wk h e p,List.set_cons_succ,V4]
theorem CZ{α β:Type}{f:α->List β}{L:List α}{i:Nat}{a:α}(h:L[i]?=σ a)(e:j<(f a).length):((L.take i).flatMap f).length+j<(L.flatMap f).length:=by
 have h1:=nB (f:=f) h e;rw[x7 e]at h1;exact(x5.1 h1).1
structure bh where
 gone:Int
 mask:Int
 un:Λ
structure cK where
 sc:Λ
 ah:Λ
 live:Int
 cs:Λ
structure td where
 v:Int
 sc:Λ
 lg:Λ
structure am where
 zero:Int
 vars:List bh
 funs:List cK
 dd:List td
def hE(x:bh):Λ:=x.gone::x.mask::x.un
def h4(x:cK):Λ:=x.live::x.cs
def iR(s:am):Λ:=[s.zero,(s.funs.length:Int),(s.dd.length:Int)]
def am.cells(s:am):Λ:=iR s++(s.vars.flatMap hE++s.funs.flatMap h4)
def fL(s:am)(i:Nat):Nat:=3+((s.vars.take i).flatMap hE).length
def fi(s:am)(j:Nat):Nat:=3+((s.vars.flatMap hE).length+((s.funs.take j).flatMap h4).length)
theorem NC(s:am):s.cells[0]?=σ s.zero:=rfl
theorem qO{s:am}{i:Nat}{x:bh}(h:s.vars[i]?=σ x)(e:j<x.un.length+2):s.cells[fL s i+j]?=(hE x)[j]?:=by
 have a:j<(hE x).length:=e;unfold am.cells fL;rw[R3,Y3 (by simp[iR]),show(iR s).length=3 from rfl,R4,Y1 (CZ h a),nB h a]
theorem wm{s:am}{i:Nat}{x:cK}(h:s.funs[i]?=σ x)(a:j<x.cs.length+1):s.cells[fi s i+j]?=(h4 x)[j]?:=by
 have e:j<(h4 x).length:=a;unfold am.cells fi;rw[R3,R3,Y3 (by simp[iR]),show(iR s).length=3 from rfl,R4,Y3 Ω,R4,nB h e]
theorem ND(s:am)(c:Int):s.cells.set 0 c=({s with zero:=c}:am).cells:=rfl
theorem C0{s:am}{i:Nat}{x y:bh}{c:Int}(h:s.vars[i]?=σ x)(e:j<x.un.length+2)(f:hE y=(hE x).set j c):s.cells.set (fL s i+j) c=({s with vars:=s.vars.set i y}:am).cells:=by
 have a:j<(hE x).length:=e;unfold am.cells fL;rw[R3,T8 _ _ (by simp[iR]),show(iR s).length=3 from rfl,R4,List.set_append_left _ _ (CZ h a),wk h a f];rfl
theorem NE{s:am}{i:Nat}{x y:cK}{c:Int}(h:s.funs[i]?=σ x)(a:j<x.cs.length+1)(e:h4 y=(h4 x).set j c):s.cells.set (fi s i+j) c=({s with funs:=s.funs.set i y}:am).cells:=by
 have f:j<(h4 x).length:=a;unfold am.cells fi;rw[R3,R3,T8 _ _ (by simp[iR]),show(iR s).length=3 from rfl,R4,T8 _ _ Ω,R4,wk h f e];show _=iR {s with funs:=s.funs.set i y}++_;unfold iR;rw[Z9]
theorem NF{s:am}(x:cK):(s.cells++h4 x).set 1 ((s.funs.length+1:Nat):Int)=({s with funs:=s.funs++[x]}:am).cells:=by
 unfold am.cells;simp only[List.flatMap_append,List.flatMap_singleton,iR,o7,S3,T3];rfl
theorem wn(s:am):s.cells.length=3+((s.vars.flatMap hE).length+(s.funs.flatMap h4).length):=by
 unfold am.cells;rw[o7,o7];rfl
def iS(a sc:Λ):Λ:=sc.map λv=>a.getD v.toNat 0
def kv(k:Int)(a:Int)(p:bh×Int):Int:=if p.1.gone≠0 then a else min (a+p.1.un.getD p.2.toNat 0) k
def jT(k:Int)(a:Λ)(e:Int)(f:cK):Int:=if f.live≠0 then min (e+bm f.ah f.cs (iS a f.sc)) k else e
def dropped(mask:Int)(v:Int):Bool:=mask.toNat.testBit v.toNat
def fM(p:bh×Int):Bool:=decide (p.1.gone≠0)|| !dropped p.1.mask p.2
def er(k:Int)(s:am)(a:Λ):Int:=if(s.vars.zip a).all fM then s.funs.foldl (jT k a) ((s.vars.zip a).foldl (kv k) s.zero)else k
def gP(s:am)(a:Λ):Prop:=a.length=s.vars.length/\∀(i:Nat)x v,s.vars[i]?=σ x->a[i]?=σ v->x.gone≠0\/(0<=v/\v<x.un.length)
structure bg(k:Int)(sizes:Λ)(s:am):Prop where
 fu:1<=k/\k<=2147483648
 ef:1<=sizes.length/\sizes.length<=64/\∀z∈sizes,1<=z/\z<=32
 zero:0<=s.zero/\s.zero<=k
 vars:s.vars.length=sizes.length
 var:∀(i:Nat)x z,s.vars[i]?=σ x->sizes[i]?=σ z->x.un.length=z.toNat/\(∀c∈x.un,0<=c/\c<=k)/\0<=x.mask/\x.mask<4294967296
 funs:∀f∈s.funs,ft sizes k (f.sc,f.cs)/\f.ah=bI sizes f.sc/\2<=f.sc.length
def newVar(u:Λ):bh:=⟨0,0,u⟩
def kw(sizes:Λ)(g:cI):cK:=⟨g.1,bI sizes g.1,1,g.2⟩
def cZ(n:aK):am:=⟨n.zero,n.unary.map newVar,n.funs.map (kw n.sizes),[]⟩
theorem NG{n:aK}(h:jR n):bg n.k n.sizes (cZ n):=by
 refine⟨h.k,h.sizes,h.zero,by simp[cZ,h.ku],λi x z a j=>?_,λf p=>?_⟩
 .have a:(n.unary.map newVar)[i]?=σ x:=a;rw[v8]at a;obtain⟨u,hu,rfl⟩:=Y6.1 a;obtain⟨h1,e⟩:=h.unary i z u j hu;exact⟨h1,e,Q1 _,by show(0:Int)<_;omega⟩
 .obtain⟨g,q,rfl⟩:=j0.1 p;obtain⟨h1,e⟩:=h.funs g q;exact⟨h1,rfl,e⟩
theorem wo{n:aK}(h:gd w a n):ai x8 G4 [Γ a] w λv w'=>v=Δ (n.sizes.length:Int)/\Ext w w':=by
 obtain⟨j,q,r,s,gr,aT,L,nm,szv,gz,fv2,h1,e,f,x,y,z,A⟩:=h;refine ay func93 ?_;rw[da mr.u];simp only[Z6,aY];rw[aQ fC.p 0 h1 rfl,aQ cC.p 2 e rfl,aV an.u f.ls];exact⟨rfl,Ext.refl _⟩
theorem NH{n:aK}(h:gd w a n):ai x8 Ih [Γ a] w λv w'=>v=Δ n.k/\Ext w w':=by
 obtain⟨f,j,q,r,gr,aT,L,nm,szv,gz,fv2,h1,e,s,x,y,z,A⟩:=h;refine ay func208 ?_;rw[da mr.u];simp only[Z6,aY];rw[aQ fC.p 0 h1 rfl,aQ cC.p 1 e rfl];exact⟨rfl,Ext.refl _⟩
theorem NI{n:aK}(h:gd w a n):ai x8 Hk [Γ a] w λv w'=>v=Δ n.zero/\Ext w w':=by
 obtain⟨e,f,j,q,gr,aT,L,nm,szv,gz,fv2,h1,r,s,x,y,z,A⟩:=h;refine ay func129 ?_;rw[da mr.u];simp only[Z6,aY];rw[aQ fC.p 1 h1 rfl];exact⟨rfl,Ext.refl _⟩
theorem C1{n:aK}(h:gd w a n):ai x8 zc [Γ a] w λv w'=>v=Δ (n.funs.length:Int)/\Ext w w':=by
 obtain⟨j,q,r,s,gr,aT,L,nm,szv,gz,fv2,h1,x,y,z,A,e,f⟩:=h;refine ay func132 ?_;rw[da mr.u];simp only[Z6,aY];rw[aQ fC.p 3 h1 rfl,e9 kR.u e.1];exact⟨by rw[<-f,u7],Ext.refl _⟩
theorem C2{s:Nat}{n:aK}{i:Int}(h:gd w s n)(f:jR n):ai x8 Hl [Γ s,Δ i] w λv w'=>Ext w w'/\(¬(0<=i/\i<n.sizes.length)->v= .slice ν 0 0)/\
  ∀u,0<=i->n.unary[i.toNat]?=σ u->∃g,w.heap.size<=g/\aq .i64 ao w' g v u:=by
 refine ay func130 ?_;have K:=f.ku;refine aW (λv J=>v= .bool (decide (¬(0<=i/\i<n.sizes.length)))/\Ext w J) ?_ ?_
 .rintro _ J ⟨rfl,e⟩;rw[aj];refine⟨λC=>⟨e,λ_=>rfl,λu E hu=>?_⟩,λj=>?_⟩
  .have:=(x5.1 hu).1;exact absurd ⟨E,Ω⟩ C
  have j:0<=i/\i<n.sizes.length:=X2.1 j;obtain⟨M,N,O,P,gr,aT,L,nm,szv,gz,fv2,h1,Q,R,q,x,S,V⟩:=h.ext e;have W:aT.length=n.unary.length:=by rw[<-x,u7]
  obtain⟨a,r⟩:=aD (l:=aT) (i:=i.toNat) Ω;obtain⟨X,hm⟩:=q.2 a (x6 r);rw[aQ fC.p 2 h1 rfl,dE (i:=i.toNat) Ω cP.u au.i q.1 Ω,aF (o:=i.toNat*1) Ψ (q.1.range r 0 _ rfl)];have y:n.unary[i.toNat]?=σ a.l:=by rw[<-x,v8,r];rfl
  have Y:a.l.length<=32:=by
   obtain⟨z,A⟩:=aD (l:=n.sizes) (i:=i.toNat) Ω;have Z:=(f.unary i.toNat z a.l A y).1;have aa:=f.sizes.2.2 z (x6 A);omega
  refine(u3 hm.ls Ω).mono ?_;rintro v U _ ⟨G,g,ab,H⟩;refine⟨e.trans G,λI=>absurd j I,λu _ hu=>⟨g,by have:=e.size;omega,?_⟩⟩;rw[y]at hu;cases hu;exact H
 .intro aw B;rw[aR,aj];refine⟨λac=>B _ _ ⟨by rw[decide_eq_true];omega,Ext.refl _⟩,λad=>?_⟩;refine(wo h).mono ?_;rintro _ J _ ⟨rfl,e⟩;rw[cQ];refine B _ _ ⟨?_,e⟩;congr 1;rw[V7,decide_eq_true_eq,decide_eq_true_eq];omega
theorem C3{n:aK}{i:Int}(h:gd w j n)(a:jR n):ai x8 GL [Γ j,Δ i] w λv w'=>Ext w w'/\v=Δ (if 0<=i then n.sizes.getD i.toNat 0 else 0):=by
 refine ay func67 ?_;refine(C2 h a).mono ?_;rintro v J _ ⟨p,r,s⟩;by_cases e:0<=i/\i<n.sizes.length
 .have x:=a.ku;obtain⟨u,hu⟩:=aD (l:=n.unary) (i:=i.toNat) Ω;obtain⟨z,f⟩:=aD (l:=n.sizes) (i:=i.toNat) Ω;obtain⟨g,_,hm⟩:=s u e.1 hu;rw[aV au.u hm.ls];refine⟨p,?_⟩;have y:=(a.unary i.toNat z u f hu).1;have A:=a.sizes.2.2 z (x6 f);rw[if_pos e.1,u4,f];congr 1;simp only[V2];omega
 .rw[r e,hQ au.u];refine⟨p,?_⟩;by_cases q:0<=i
  .rw[if_pos q,u4,Y4 Ω];rfl
  .rw[if_neg q];rfl
theorem C4{n:aK}{j:Int}(h:gd w a n){K:x3->x4->Prop}(f:∀w',Ext w w'->K (.bool (decide (¬(0<=j/\j<n.funs.length)))) w'):
  V x8 (aJ .lss ag false true (Δ j) (Δ 0)) w λq=>Split q (K (.bool true) w) (ai x8 zc [Γ a] w λr p=>V x8 (aJ .geq ag false false (Δ j) r) p λs=>K s p):=by
 rw[aR,aj];refine⟨λy=>?_,λz=>?_⟩
 .have:=f w (Ext.refl _);rw[decide_eq_true (show¬(0<=j/\j<n.funs.length) by omega)]at this;exact this
 .refine (C1 h).mono ?_;rintro _ J _ ⟨rfl,x⟩;rw[cQ];have:=f J x;have e:decide ((n.funs.length:Int)<=j)=decide (¬(0<=j/\j<n.funs.length)):=by
   rw[V7,decide_eq_true_eq,decide_eq_true_eq];omega
  rw[<-e]at this;exact this
theorem NJ{s:Nat}{n:aK}{g:cI}(h:gd w s n)(z:jR n)(e:n.funs[j]?=σ g):ai x8 Hn [Γ s,Δ (j:Int)] w λv w'=>Ext w w'/\∃gs,w.heap.size<=gs/\aq .i64 ag w' gs v g.1:=by
 refine ay func134 ?_;have G:=(x5.1 e).1;refine aW (λv J=>v= .bool (decide (¬(0<=(j:Int)/\(j:Int)<n.funs.length)))/\Ext w J) ?_ λaw A=>C4 h λw' B=>A _ _ ⟨rfl,B⟩;rintro _ J ⟨rfl,f⟩;rw[decide_eq_false Ω,aY];obtain⟨H,I,K,M,gr,aT,L,nm,szv,gz,fv2,h1,N,O,P,Q,q,x⟩:=h.ext f;have R:L.length=n.funs.length:=by rw[<-x,u7]
 obtain⟨a,r⟩:=aD (l:=L) (i:=j) Ω;have y:dY a=g:=by rw[<-x,v8,r]at e;exact Z0 e
 obtain⟨⟨S,hm⟩,_⟩:=q.2 a (x6 r);rw[aQ fC.p 3 h1 rfl,dE rfl kR.u hs.i q.1 Ω,aS hs.p rfl,aF Ψ (q.1.range r 0 _ rfl)];have V:a.sc.length<=6:=by
  have:=(z.funs g (x6 e)).1.scope.2;rw[<-y]at this;exact this
 refine(jJ hm.ls Ω).mono ?_;rintro v U _ ⟨C,gs,W,E⟩;refine⟨f.trans C,gs,by have:=f.size;omega,?_⟩;rw[<-y];exact E
theorem NK{g C:Nat}{ah:Λ}{k:Int}{cs:Λ}(h:df w g C sv ah k cs):ai x8 H8 [Γ g] w λv w'=>Ext w w'/\∃a e,v=Γ a/\w.heap.size<=a/\w.heap.size<=e/\df w' a e sv ah k cs:=by
 obtain⟨⟨aZ,gs,E,hm,G⟩,⟨h1,M,H⟩,I,y⟩:=h;refine ay func197 ?_;rw[da e0.u];simp only[Z6,aY];intro J f _ _;have r:=E.ext f;have N:=prod_bound I;rw[bX,aS cX.p rfl,bF (cs:=[sv]) bE.p bE.i rfl (nD r (by
  intro j v s
  match j,s with
  |0,s=>exact s)),aQ cX.p 1 r rfl,aQ cX.p 2 r rfl]
 refine(u3 (G.ls.ext f) Ω).mono ?_;rintro z U _ ⟨x,e,O,q⟩;refine⟨.inl x,?_⟩;rw[dn (cs:=#[sv,Δ k,z]) (by obtain⟨_,_,_,rfl⟩:=cY hm.ls;obtain⟨_,_,_,rfl⟩:=cY q.ls;kernel_rfl)];refine bk λa P Q A K=>?_;have R:=f.size;have S:=x.size;have V:=q;have B:=(f.trans x).trans A;refine⟨B,a,e,rfl,Ω,Ω,⟨z,gs,K,hm.ext B,q.ext A⟩,⟨?_,?_,H⟩,I,y⟩
 .have:=sS q (by rw[y];omega);omega
 .intro L;obtain⟨W,X⟩:=bR hm L;omega
theorem NL{w0:x4}{z:Nat}{n:aK}{g:cI}(A:gd w0 z n)(B:Ext w0 w)(f:n.funs[j]?=σ g):ai x8 Ho [Γ z,Δ (j:Int)] w λv w'=>Ext w w'/\∃gt q sv,v=Γ gt/\w.heap.size<=gt/\w.heap.size<=q/\df w' gt q sv (bI n.sizes g.1) n.k g.2/\∀r,leads sv r->∃c,ad w0 r ag c:=by
 have h:=A.ext B;refine ay func135 ?_;have W:=(x5.1 f).1;refine aW (λv J=>v= .bool (decide (¬(0<=(j:Int)/\(j:Int)<n.funs.length)))/\Ext w J) ?_ λaw I=>C4 h λw' K=>I _ _ ⟨rfl,K⟩;rintro _ J ⟨rfl,s⟩;rw[decide_eq_false Ω,aY];have e:=B.trans s;obtain⟨X,Y,Z,aa,gr,aT,L,nm,szv,gz,fv2,h1,ab,ac,ae,af,x,C⟩:=A;have ah:L.length=n.funs.length:=by rw[<-C,u7]
 obtain⟨a,y⟩:=aD (l:=L) (i:=j) Ω;have M:dY a=g:=by rw[<-C,v8,y]at f;exact Z0 f
 obtain⟨_,q,N,E⟩:=x.2 a (x6 y);rw[aQ fC.p 3 (h1.ext e) rfl,dE rfl kR.u hs.i (x.1.ext e) Ω,aS hs.p rfl,aF Ψ ((x.1.ext e).range y 1 _ rfl)];refine(NK (E.ext e)).mono ?_;rintro v U _ ⟨O,gt,P,rfl,aj,ak,Q⟩;have al:=s.size;refine⟨s.trans O,gt,P,N,rfl,Ω,Ω,?_,λr G=>?_⟩
 .rw[<-M];exact Q
 .obtain⟨⟨_,_,_,hm,_⟩,_⟩:=E;obtain⟨R,_⟩:=bR hm G;rcases hm.2 with⟨S,_⟩|⟨_,cs,_,V,_⟩
  .obtain⟨_,_,_,H,am⟩:=G;rw[S]at H;cases H
  .exact⟨cs,R▸V⟩
structure pr where
 aL:x3
 szv:x3
 at_:Nat
def n1(x:pr):List x3:=[x.aL,x.szv,Δ (x.at_:Int)]
structure ps where
 v:Int
 aL:x3
 bv:x3
def n2(x:ps):List x3:=[Δ x.v,x.aL,x.bv]
def iv(s:am):Λ:=(W3 s.vars.length).map λi=>(fL s i:Int)
def iT(R:af)(w:x4)(v:x3)(l:Λ):Prop:=(∃g,aq .i64 ag w g v l)/\∀r,leads v r->R r
theorem iT.ls{R:af}(h:iT R w v l):aH .i64 w v l:=by
 obtain⟨⟨g,h⟩,_⟩:=h;exact h.ls
theorem iT.aa{R S:af}(h:iT R w v l)(f:ae S w w')(j:∀r,r<w.heap.size->R r->¬S r):iT R w' v l:=by
 obtain⟨⟨g,h1⟩,a⟩:=h;exact⟨⟨g,br h1 f λr e=>j r (by obtain⟨p,q⟩:=bR h1 e;omega) (a r e)⟩,a⟩
theorem iT.mono{R R':af}(h:iT R w v l)(a:∀r,R r->R' r):iT R' w v l:=⟨h.1,λr e=>a r (h.2 r e)⟩
def li(R:af)(w:x4)(L:List pr)(s:am):Prop:=L.length=s.funs.length/\∀(j:Nat)x f,L[j]?=σ x->s.funs[j]?=σ f->iT R w x.aL f.sc/\iT R w x.szv f.ah/\x.at_=fi s j
def l8(R:af)(w:x4)(E:List ps)(s:am):Prop:=E.length=s.dd.length/\∀(j:Nat)x e,E[j]?=σ x->s.dd[j]?=σ e->x.v=e.v/\iT R w x.aL e.sc/\iT R w x.bv e.lg
theorem li.aa{R S:af}{L:List pr}{s:am}(h:li R w L s)(a:ae S w w')(e:∀r,r<w.heap.size->R r->¬S r):li R w' L s:=⟨h.1,λj x f p q=>by
 obtain⟨h1,y,z⟩:=h.2 j x f p q;exact⟨h1.aa a e,y.aa a e,z⟩⟩
theorem l8.aa{R S:af}{E:List ps}{s:am}(h:l8 R w E s)(a:ae S w w')(e:∀r,r<w.heap.size->R r->¬S r):l8 R w' E s:=⟨h.1,λj x f p q=>by
 obtain⟨h1,y,z⟩:=h.2 j x f p q;exact⟨h1,y.aa a e,z.aa a e⟩⟩
theorem li.mono{R R':af}{L:List pr}{s:am}(h:li R w L s)(a:∀r,R r->R' r):li R' w L s:=⟨h.1,λj x f e p=>by
 obtain⟨h1,q,y⟩:=h.2 j x f e p;exact⟨h1.mono a,q.mono a,y⟩⟩
theorem l8.mono{R R':af}{E:List ps}{s:am}(h:l8 R w E s)(a:∀r,R r->R' r):l8 R' w E s:=⟨h.1,λj x f e p=>by
 obtain⟨h1,q,y⟩:=h.2 j x f e p;exact⟨h1,q.mono a,y.mono a⟩⟩
theorem te{a b c:x4}(h:Ext a b)(k:ae S b c)(f:∀r o,a.heap[r]?=σ o->fx o=true->¬S r):Ext a c:=
 ⟨X0 h.size k.size,λr o e I=>k.aU r o (h.aU r o e I) I (f r o e I)⟩
theorem dv.cut{A:af}{t:az}(h:dv w ac A t):dv w ac (λr=>A r/\r<w.heap.size) t:=by
 obtain⟨s,x,go,dg,aZ,y,dQ,h1,e,f,j,z⟩:=h;refine⟨⟨s,h1.lt⟩,x,go,dg,aZ,y,dQ,h1,e,f,j,λr a=>⟨z r a,?_⟩⟩;rcases a with a|a|a
 .obtain⟨p,q⟩:=e.leads a;omega
 .obtain⟨p,q⟩:=f.leads a;omega
 .obtain⟨p,q⟩:=j.leads a;omega
def eT(w:x4)(ab ac j:Nat)(e f h:x3)(A R:af)(n:aK)(s:am)(t:az):Prop:=
 (A ab/\(∀r,A r->¬R r)/\(∀r,R r->r<w.heap.size)/\∀r,A r->r<w.heap.size)/\∃a1 p ge,∃(L:List pr)(E:List ps)(a:af)(w0:x4),
  ad w ab cG [Γ j,Γ ac,e,f,h]/\(gd w0 j n/\Ext w0 w/\∀r o,w0.heap[r]?=σ o->fx o=true->R r)/\
  (dv w ac a t/\(∀r,a r->A r)/\¬a ab/\∀r,leads e r\/leadsTo f r\/leadsTo h r->A r/\¬a r)/\aq .i64 ag w a1 e (iv s)/\
  (be n1 3 fT w p f L/\li R w L s)/\be n2 3 eY w ge h E/\l8 R w E s
theorem eT.aa{S:af}{y:Nat}{B C F:x3}{A R:af}{n:aK}{s:am}{t:az}(h:eT w ab ac y B C F A R n s t)(e:ae S w w')(f:∀r,r<w.heap.size->A r\/R r->¬S r):eT w' ab ac y B C F A R n s t:=by
 obtain⟨⟨h1,j,V,W⟩,a1,X,ge,L,E,Y,w0,G,⟨Z,H,J⟩,⟨ad,p,ag,q⟩,K,⟨M,ah⟩,N,ai⟩:=h;have z:=e.size;refine⟨⟨h1,j,λr a=>by have:=V r a;omega,λr a=>by have:=W r a;omega⟩,a1,X,ge,L,E,Y,w0,G.aa e (f _ G.lt (.inl h1)),⟨Z,te H e λr o a aj I=>f r (by have:=H.size;have:=(j6.1 a).1;omega) (.inr (J r o a aj)) I,J⟩,
  ⟨?_,p,ag,q⟩,br K e λr a I=>f r ?_ (.inl (q r (.inl a)).1) I,⟨M.aa e λr a I=>f r ?_ (.inl (q r (.inr (.inl a))).1) I,ah.aa e λr a h=>f r a (.inr h)⟩,N.aa e λr a I=>f r ?_ (.inl (q r (.inr (.inr a))).1) I,ai.aa e λr a h=>f r a (.inr h)⟩
 .obtain⟨O,ak,go,dg,aZ,al,dQ,P,Q,T,U,x⟩:=ad;refine⟨O,ak,go,dg,aZ,al,dQ,P.aa e (f _ P.lt (.inl (p _ O))),Q.aa e λr a I=>?_,T.aa e λr a I=>?_,U.aa e λr a I=>?_,x⟩
  .exact f r (by obtain⟨h1,j⟩:=Q.leads a;omega) (.inl (p _ (x r (.inl a)))) I
  .exact f r (by obtain⟨h1,j⟩:=T.leads a;omega) (.inl (p _ (x r (.inr (.inl a))))) I
  .exact f r (by obtain⟨h1,j⟩:=U.leads a;omega) (.inl (p _ (x r (.inr (.inr a))))) I
 .obtain⟨h1,j⟩:=bR K a;omega
 .obtain⟨h1,j⟩:=M.leads a;omega
 .obtain⟨h1,j⟩:=N.leads a;omega
theorem eT.ext{e f j:x3}{A R:af}{n:aK}{s:am}{t:az}(h:eT w ab ac a e f j A R n s t)(p:Ext w w'):eT w' ab ac a e f j A R n s t:=h.aa (p.aa λ_=>False) λ_ _ _ h=>h
theorem eT.qP{C:Nat}{F G H:x3}{A R:af}{n:aK}{s:am}{t:az}(h:eT w ab ac C F G H A R n s t):∃q,dv w ac q t/\∀p w' bn,Grow q w p w'->dv w' ac p bn->∃aI,Grow A w aI w'/\eT w' ab ac C F G H aI R n s bn:=by
 obtain⟨⟨h1,f,J,K⟩,a1,W,ge,L,E,q,w0,M,⟨X,Y,N⟩,⟨Z,j,O,x⟩,P,⟨Q,ad⟩,S,ae⟩:=h;refine⟨q,Z,λT w' bn y ag=>?_⟩;have U:=ag.cut;have e:Grow q w (λr=>T r/\r<w'.heap.size) w':=⟨y.1,λr a=>y.2.1 r a.1,λr a=>⟨y.2.2 r a,by have:=K r (j r a);have:=y.1.size;omega⟩⟩;obtain⟨p,V⟩:∃B:af,B=λr=>T r/\r<w'.heap.size:=⟨_,rfl⟩;rw[<-V]at U e;have ah:∀r,p r->r<w'.heap.size:=λr h=>by rw[V]at h;exact h.2
 refine⟨λr=>A r\/p r,⟨e.1.mono λr _ a=>j r a,λr a=>?_,λr a=>.inl a⟩,⟨.inl h1,λr a z=>?_,λr a=>?_,λr a=>?_⟩,a1,W,ge,L,E,p,w0,M.aa e.1 O,⟨X,te Y e.1 λr o a ai I=>f r (j r I) (N r o a ai),N⟩,
  ⟨U,λr a=>.inr a,λa=>?_,λr a=>⟨.inl (x r a).1,λaj=>?_⟩⟩,br P e.1 λr a I=>(x r (.inl a)).2 I,⟨Q.aa e.1 λr a I=>(x r (.inr (.inl a))).2 I,ad.aa e.1 λr _ a I=>f r (j r I) a⟩,S.aa e.1 λr a I=>(x r (.inr (.inr a))).2 I,ae.aa e.1 λr _ a I=>f r (j r I) a⟩
 .rcases a with a|a
  .exact .inl a
  .exact (e.2.1 r a).imp (j r) id
 .have:=J r z;rcases a with a|a
  .exact f r a z
  .rcases e.2.1 r a with h|h
   .exact f r (j r h) z
   .omega
 .have:=J r a;have:=e.1.size;omega
 .rcases a with a|a
  .have:=K r a;have:=e.1.size;omega
  .exact ah r a
 .rcases e.2.1 _ a with h|h
  .exact O h
  .have:=M.lt;omega
 .rcases e.2.1 r aj with h|h
  .exact (x r a).2 h
  .rcases a with a|a|a
   .obtain⟨h1,f⟩:=bR P a;omega
   .obtain⟨h1,f⟩:=Q.leads a;omega
   .obtain⟨h1,f⟩:=S.leads a;omega
def StateM(w:x4)(ab ac:Nat)(A R:af)(n:aK)(s:am)(t:az):Prop:=∃a e f h,eT w ab ac a e f h A R n s t
theorem StateM.aa{S:af}{A R:af}{n:aK}{s:am}{t:az}(h:StateM w ab ac A R n s t)(a:ae S w w')(e:∀r,r<w.heap.size->A r\/R r->¬S r):StateM w' ab ac A R n s t:=by
 obtain⟨f,j,p,q,h⟩:=h;exact⟨f,j,p,q,h.aa a e⟩
theorem StateM.ext{A R:af}{n:aK}{s:am}{t:az}(h:StateM w ab ac A R n s t)(a:Ext w w'):StateM w' ab ac A R n s t:=h.aa (a.aa λ_=>False) λ_ _ _ h=>h
theorem StateM.qP{A R:af}{n:aK}{s:am}{t:az}(h:StateM w ab ac A R n s t):∃a,dv w ac a t/\∀e w' bn,Grow a w e w'->dv w' ac e bn->∃aI,Grow A w aI w'/\StateM w' ab ac aI R n s bn:=by
 obtain⟨f,j,p,q,h⟩:=h;obtain⟨a,h1,r⟩:=h.qP;exact⟨a,h1,λe w' bn x y=>by
  obtain⟨aI,z,B⟩:=r e w' bn x y;exact⟨aI,z,f,j,p,q,B⟩⟩
def n3(s s':am):Prop:=iv s'=iv s/\s'.funs.length=s.funs.length/\(∀(j:Nat)a,s'.funs[j]?=σ a->∃f,s.funs[j]?=σ f/\a.sc=f.sc/\a.ah=f.ah/\fi s' j=fi s j)/\s'.dd=s.dd
theorem eT.same{e p q:x3}{A R:af}{n:aK}{s s':am}{t:az}(h:eT w ab ac a e p q A R n s t)(I:n3 s s'):eT w ab ac a e p q A R n s' t:=by
 obtain⟨ap,a1,y,ge,L,E,z,w0,B,C,F,G,⟨H,r⟩,J,K⟩:=h;obtain⟨M,N,O,P⟩:=I;refine⟨ap,a1,y,ge,L,E,z,w0,B,C,F,by rw[M];exact G,⟨H,r.1.trans N.symm,λj x Q S T=>?_⟩,J,?_⟩
 .obtain⟨f,U,V,W,X⟩:=O j Q T;rw[V,W,X];exact r.2 j x f S U
 .unfold l8;rw[P];exact K
theorem StateM.same{A R:af}{n:aK}{s s':am}{t:az}(h:StateM w ab ac A R n s t)(I:n3 s s'):StateM w ab ac A R n s' t:=by
 obtain⟨a,e,f,j,h⟩:=h;exact⟨a,e,f,j,h.same I⟩
theorem tf{α β:Type}{f:α->List β}:∀{L:List α}{i j:Nat}{a b:α},L[i]?=σ a->(f b).length=(f a).length->(((L.set i b).take j).flatMap f).length=((L.take j).flatMap f).length
 |[],_,_,_,_,h,_=>by simp at h
 |x::L,0,j,a,b,h,e=>by
  cases h;cases j with
  |zero=>rfl
  |succ j=>simp[e]
 |x::L,i+1,j,a,b,h,e=>by
  have h:L[i]?=σ a:=by simpa using h
  cases j with
  |zero=>rfl
  |succ j=>
   rw[List.set_cons_succ,List.take_succ_cons,List.take_succ_cons,V4,V4,o7,o7,tf h e]
theorem C5(s:am)(c:Int):n3 s {s with zero:=c}:=⟨rfl,rfl,λj f h=>⟨f,h,rfl,rfl,rfl⟩,rfl⟩
theorem C6{s:am}{i:Nat}{x y:bh}(a:s.vars[i]?=σ x)(p:y.un.length=x.un.length):n3 s {s with vars:=s.vars.set i y}:=by
 have e:(hE y).length=(hE x).length:=by simp[hE,p]
 refine⟨?_,rfl,λj f h=>⟨f,h,rfl,rfl,?_⟩,rfl⟩
 .unfold iv;rw[show({s with vars:=s.vars.set i y}:am).vars.length=s.vars.length from Z9];apply List.map_congr_left;intro j _;unfold fL;rw[tf a e]
 .unfold fi;have:=tf (j:=s.vars.length) a e;rw[j9 Ξ,j9 (o5 _)]at this;show 3+(((s.vars.set i y).flatMap hE).length+_)=_;rw[this]
theorem NM{s:am}{i:Nat}{x y:cK}(a:s.funs[i]?=σ x)(q:y.cs.length=x.cs.length)(h1:y.sc=x.sc)(r:y.ah=x.ah):n3 s {s with funs:=s.funs.set i y}:=by
 have w:(h4 y).length=(h4 x).length:=by simp[h4,q]
 refine⟨rfl,Z9,λj f h=>?_,rfl⟩;have h:(s.funs.set i y)[j]?=σ f:=h;have e:fi {s with funs:=s.funs.set i y} j=fi s j:=by
  unfold fi;show 3+(_+(((s.funs.set i y).take j).flatMap h4).length)=_;rw[tf a w]
 by_cases p:i=j
 .subst p;rw[c9 (x5.1 a).1]at h;cases h;exact⟨x,a,h1,r,e⟩
 .rw[Y5 p]at h;exact⟨f,h,rfl,rfl,e⟩
theorem az.wp(t:az)(i:Nat)(x:Int):(t.set i x).marks=t.marks:=by
 unfold az.set;cases t.cells[i]? with
 |none=>rfl
 |some c=>
  simp only;cases t.marks.getLast? with
  |none=>rfl
  |some m=>simp only;split<;>rfl
theorem az.C7(t:az)(i:Nat)(x:Int):(t.set i x).ii=t.ii:=by
 unfold az.set;cases t.cells[i]? with
 |none=>rfl
 |some c=>
  simp only;cases t.marks.getLast? with
  |none=>rfl
  |some m=>simp only;split<;>rfl
theorem az.C8(t:az)(i:Nat)(x:Int):(t.set i x).cells.length=t.cells.length:=by
 have h:=congrArg Q0 (az.qb (t:=t) (i:=i) (x:=x));rw[Z9]at h;unfold az.bY at h;rwa [u7,u7]at h
theorem az.C9(t:az)(i:Nat)(x:Int):(t.set i x).olds.length<=t.olds.length+1:=by
 unfold az.set;cases t.cells[i]? with
 |none=>exact Nat.le_succ _
 |some c=>
  simp only;cases t.marks.getLast? with
  |none=>exact Nat.le_succ _
  |some m=>simp only;split<;>simp
theorem az.wq{t:az}(h:t.marks=[])(i:Nat)(x:Int):(t.set i x).olds=t.olds:=by
 unfold az.set;cases t.cells[i]? with
 |none=>rfl
 |some c=>simp only[h,List.getLast?_nil]
def fN(t:az)(l:Λ):Nat->az
 |0=>t.grow l.length
 |i+1=>(fN t l i).set (t.cells.length+i) (l.getD i 0)
def mM(t:az)(l:Λ):az:=fN t l l.length
theorem qQ(t:az)(l:Λ):∀i,(fN t l i).marks=t.marks
 |0=>rfl
 |i+1=>(az.wp _ _ _).trans (qQ t l i)
theorem Da(t:az)(l:Λ):∀i,(fN t l i).ii=t.ii
 |0=>rfl
 |i+1=>(az.C7 _ _ _).trans (Da t l i)
theorem wr(t:az)(l:Λ):∀i,(fN t l i).cells.length=t.cells.length+l.length
 |0=>by simp[fN,az.grow]
 |i+1=>(az.C8 _ _ _).trans (wr t l i)
theorem ws(t:az)(l:Λ):∀i,(fN t l i).olds.length<=t.olds.length+i
 |0=>o5 _
 |i+1=>by have:=az.C9 (fN t l i) (t.cells.length+i) (l.getD i 0);have:=ws t l i;show(az.set _ _ _).olds.length<=_;omega
theorem Db{t:az}(h:t.marks=[])(l:Λ):∀i,(fN t l i).olds=t.olds
 |0=>rfl
 |i+1=>(az.wq ((qQ t l i).trans h) _ _).trans (Db h l i)
theorem Dc(t:az)(l:Λ):∀i,i<=l.length->(fN t l i).bY=t.bY++(l.take i++o4 (l.length-i) 0)
 |0,_=>by rw[List.take_zero,List.nil_append];exact az.Jy
 |i+1,h=>by
  have a:=Dc t l i Ω;show(az.set _ _ _).bY=_;have e:t.bY.length=t.cells.length:=by simp[az.bY]
  rw[az.qb,a,T8 _ _ Ω,e,R4,T8 _ _ (by rw[n9];omega),n9,Nat.min_eq_left Ω,U4,show l.length-i=(l.length-(i+1))+1 by omega,List.replicate_succ,List.set_cons_zero,r8,u4,x7 (show i<l.length by omega)];simp only[l7,V2,T3,List.singleton_append]
theorem Dd(t:az)(l:Λ):(mM t l).bY=t.bY++l:=by
 unfold mM;rw[Dc t l _ (o5 _),o6,U4,List.replicate_zero,U9]
theorem hv.fN{h:List az}{t:az}(hk:hv t h)(l:Λ):∀i,hv (fN t l i) h
 |0=>hk.grow
 |i+1=>(hv.fN hk l i).set
theorem k8{s:Go.Sem x3}{x:x3}(h:V x8 s w (λv=>v=x)):bZ x8 s x w:=by
 obtain⟨v,h,rfl⟩:=h;exact h
theorem tg{off:Nat}{z:Nat}{a:r9}{cs:List x3}{x:x3}(f:ad w ab e cs)(h:∀(K:x3->Prop),V x8 (u6 cG (Γ ab) z) w K=K (.pointer (σ ⟨ab,0+off,ν⟩)))(j:jC x8 a=true)(p:cs[0+off]?=σ x):
  bZ x8 (u5 a (.pointer (σ ⟨ab,0+off,ν⟩))) x w/\bZ x8 (u6 cG (Γ ab) z) (.pointer (σ ⟨ab,0+off,ν⟩)) w/\bZ x8 (bP (Γ ab)) (Γ ab) w/\True:=
 ⟨sg j (f.cell p),k8 (by rw[h]),k8 (by rw[bX]),trivial⟩
def De(w:x4)(r:Nat):Prop:=∃e c,ad w r e c/\(e=fB\/e=eK\/e=kQ\/e=gl\/e=cG\/e=fT\/e=eY)
def eA(w:x4)(r:Nat):Prop:=De w r\/∀o,w.heap[r]?=σ o->fx o≠true
theorem mN{J:x4}{r:Nat}(hk:∀o,w.heap[r]?=σ o->fx o=true->¬eA w r->J.heap[r]?=σ o)(h:eA J r):eA w r:=by
 by_cases a:eA w r
 .exact a
 .refine absurd (.inr λo j I=>?_) a;have h1:=hk o j I a;rcases h with⟨e,c,f,he⟩|p
  .refine a (.inl ⟨e,c,?_,he⟩);unfold ad at f ⊢;rw[h1]at f;rw[j];exact f
  .exact p o h1 I
theorem iw{J U:x4}(a:Ext w J)(e:ae (eA J) J U):ae (eA w) w U:=(a.aa _).trans (e.mono λr _ h=>mN (λo f I _=>a.aU r o f I) h)
theorem th{J U:x4}(h:ae (eA w) w J)(a:ae (eA J) J U):ae (eA w) w U:=h.trans (a.mono λr _ e=>mN (λo f I j=>h.aU r o f I j) e)
theorem dv.min{A:af}{t:az}(h:dv w ac A t):dv w ac (λr=>A r/\De w r) t:=by
 obtain⟨q,s,go,dg,aZ,x,dQ,h1,f,j,p,y⟩:=h;refine⟨⟨q,_,_,h1,.inl rfl⟩,s,go,dg,aZ,x,dQ,h1,f,j,p,λr a=>⟨y r a,?_⟩⟩;rcases a with a|a|a
 .obtain⟨rfl,c,e⟩:=ee f a;exact⟨_,c,e,.inr (.inl rfl)⟩
 .obtain⟨rfl,c,e⟩:=ee j a;exact⟨_,c,e,.inr (.inr (.inl rfl))⟩
 .obtain⟨rfl,c,e⟩:=ee p a;exact⟨_,c,e,.inr (.inr (.inr (.inl rfl)))⟩
theorem eT.wu{p q x:x3}{A R:af}{n:aK}{s:am}{t:az}(h:eT w ab ac j p q x A R n s t):∃a,dv w ac a t/\∀y w' bn,Grow a w y w'->dv w' ac y bn->ae (eA w) w w'/\∃aI,Grow A w aI w'/\eT w' ab ac j p q x aI R n s bn:=by
 obtain⟨a,z,B⟩:=h.qP;refine⟨_,z.min,λC J bn e E=>⟨e.1.mono λr _ h=>.inl h.2,?_⟩⟩;exact B (λr=>a r\/C r) J _ ⟨e.1.mono λr _ h=>h.1,λr f=>f.elim .inl λh=>(e.2.1 r h).imp (λh=>h.1) id,λr f=>.inl f⟩ (E.mono λr h=>.inr h)
theorem Df{y:Nat}{B C:x3}{A R:af}{n:aK}{s:am}{t:az}{c8:x3}(h:eT w ab ac y z B C A R n s t)(G:aH .i64 w c8 l)(Q:∀r,leads c8 r->¬A r)(aG:t.cells.length+l.length<=100000000)(aJ:t.olds.length+l.length<=100000000)(hm:t.marks.length<=100000000):
  ai x8 zb [Γ ab,c8] w λv w'=>v=Δ (t.cells.length:Int)/\ae (eA w) w w'/\∃aI,Grow A w aI w'/\eT w' ab ac y z B C aI R n s (mM t l):=by
 refine ay func131 ?_;obtain⟨_,a1,S,ge,L,E,_,w0,H,_⟩:=id h;obtain⟨V,I,K⟩:=h.wu;rw[aQ cG.p 1 H rfl,aV au.u G];refine(NA (n:=l.length) I ⟨Ω,Ω,hm⟩ Ω).mono ?_;rintro _ J _ ⟨rfl,W,X,Y⟩;obtain⟨Z,aa,N,ad⟩:=K W J _ X Y;have O:∀{aI:af}{w':x4},Grow A w aI w'->aH .i64 w' c8 l:=λag=>hX G ag.1 λr ah a ak c al an=>Q r ⟨a,ak,c,al,an⟩ ah;rw[aV au.u (O N)];have ap:=G.le;refine b1.range l.length (λi U=>ae (eA w) w U/\∃f,Grow A w f U/\eT U ab ac y z B C f R n s (fN t l i)) ap ⟨Z,aa,N,ad⟩ ?_ ?_
 .rintro i U k hi ⟨M,f,j,q⟩ hk;refine bD Ω ?_;obtain⟨x,P⟩:=aD (l:=l) hi;rw[bc au.u ao.i Ψ (O j) P];obtain⟨_,a1,S,ge,L,E,_,w0,H,_⟩:=id q;obtain⟨V,I,K⟩:=q.wu;have aL:=wr t l i;have aN:=ws t l i;have aq:=qQ t l i;rw[aQ cG.p 1 H rfl,aM,wrap_i64 Ω Ω];refine(tc (i:=t.cells.length+i) I Ω Ω ⟨Ω,Ω,by rw[aq];exact hm⟩).mono ?_;rintro _ av _ ⟨rfl,aw,ax,aA⟩;obtain⟨aB,aC,aE,aF⟩:=K aw av _ ax aA;rw[aM];refine hk _ ⟨th M aB,aC,j.trans aE,?_⟩;have e:fN t l (i+1)=(fN t l i).set (t.cells.length+i) x:=by
   show(fN t l i).set _ (l.getD i 0)=_;rw[u4,P];rfl
  rw[e];exact aF
 .rintro U k ⟨M,f,j,q⟩;rw[aR,aj];exact⟨λh=>Ω,λ_=>⟨rfl,M,f,j,q⟩⟩
def iU(s:am)(sc ah cs:Λ):am:={s with funs:=s.funs++[⟨sc,ah,1,cs⟩]}
def n4(s:am)(t:az)(cs:Λ):az:=(mM t (1::cs)).set 1 ((s.funs.length+1:Nat):Int)
theorem NN{s:am}{t:az}{sc ah cs:Λ}(h:t.bY=s.cells):(n4 s t cs).bY=(iU s sc ah cs).cells:=by
 unfold n4 iU;rw[az.qb,Dd,h,<-NF];rfl
theorem NO{bf:Nat}{bg aP bh:x3}{A R:af}{n:aK}{s:am}{t:az}{aL:x3}{sc ah cs:Λ}{g bQ:Nat}{W:x3}{k:Int}(h:eT w ab ac bf bg aP bh A R n s t)(cj:t.bY=s.cells)(ck:aH .i64 w aL sc)(dr:∀r,leads aL r->¬A r)(bi:df w g bQ W ah k cs)(bS:¬A g/\¬A bQ/\∀r,leads W r->¬A r)(ds:sc.length<=1000)(aX:t.cells.length+cs.length+1<=100000000)(bj:t.olds.length+cs.length+1<=100000000)(hm:t.marks.length<=100000000)(dt:s.funs.length<=1000000):
  ai x8 Hm [Γ ab,aL,Γ g] w λv w'=>v=Δ (s.funs.length:Int)/\ae (eA w) w w'/\∃aI R' bx,Grow A w aI w'/\eT w' ab ac bf bg bx bh aI R' n (iU s sc ah cs) (n4 s t cs)/\(∀r,R r->R' r)/\∀r,R' r->R r\/leads W r\/w.heap.size<=r:=by
 have du:t.cells.length=s.cells.length:=by rw[<-cj];simp[az.bY]
 have dv:=wn s;have cl:fi (iU s sc ah cs) s.funs.length=t.cells.length:=by
  unfold fi iU;simp only[List.take_left];omega
 have cm:∀j,j<s.funs.length->fi (iU s sc ah cs) j=fi s j:=λj bz=>by
  unfold fi iU;simp only[List.take_append_of_le_length (show j<=s.funs.length by omega)]
 have cn:iv (iU s sc ah cs)=iv s:=rfl;refine ay func133 ?_;refine dl (λJ=>ae (eA w) w J/\∃aI R' bx,Grow A w aI J/\eT J ab ac bf bg bx bh aI R' n (iU s sc ah cs) (mM t (1::cs))/\(∀r,R r->R' r)/\∀r,R' r->R r\/leads W r\/w.heap.size<=r) ?_ ?_
 .rintro J ⟨cp,dw,cq,cr,ct,cu,cw,cz⟩;intro U bA _ _;have bT:=cu.ext bA;obtain⟨_,a1,bB,ge,L,E,_,w0,ap,_,_,_,⟨a7,bk⟩,_⟩:=id bT;have bl:L.length=s.funs.length+1:=by rw[bk.1];simp[iU]
  rw[aQ cG.p 1 ap rfl,aQ cG.p 3 ap rfl,e9 fS.u a7];obtain⟨bU,cA,cB⟩:=bT.wu;have cC:=wr t (1::cs) (1::cs).length;have cD:=ws t (1::cs) (1::cs).length;have cE:=qQ t (1::cs) (1::cs).length;simp only[Z5]at cC cD;refine(tc (i:=1) (y:=1) cA rfl (by show 1<(fN _ _ _).cells.length;simp only[Z5];omega) ⟨by show(fN _ _ _).cells.length<=_;simp only[Z5];omega,by show(fN _ _ _).olds.length<=_;simp only[Z5];omega,by show(fN _ _ _).marks.length<=_;rw[cE];exact hm⟩).mono ?_;rintro _ cF _ ⟨rfl,cH,cI,cJ⟩;obtain⟨cK,cL,cM,bV⟩:=cB cH cF _ cI cJ;obtain⟨_,a1,bB,ge,cN,E,_,w0,ap,_,_,_,⟨a7,cP⟩,_⟩:=id bV;have dx:cN.length=s.funs.length+1:=by rw[cP.1];simp[iU]
  rw[aQ cG.p 3 ap rfl,e9 fS.u a7,ec,wrap_i64 Ω Ω];refine⟨by congr 1;omega,th cp (iw bA cK),cL,cq,cr,ct.trans ((Grow.ext bA).trans cM),?_,cw,cz⟩;have e:n4 s t cs=(mM t (1::cs)).set 1 (L.length:Int):=by unfold n4;rw[bl]
  rw[e];exact bV
 intro aw cQ;intro aJ aR _ _;have bW:=h.ext aR;obtain⟨_,a1,bB,ge,L,E,_,w0,ap,_⟩:=id bW;rw[aQ cG.p 3 ap rfl];have z4:=aR.size;have bm:∀{G:x4}{aj X:x3}{aY ak:Nat},Ext aJ G->w.heap.size<=aY->w.heap.size<=ak->aq .i64 ag G aY aj sc->aq .i64 ao G ak X (1::cs)->(∀r,leads aj r\/leads X r->¬A r)->
   ai x8 zb [Γ ab,X] G λcR av=>
    (Ext aJ av\/bZ x8 (u5 fS (.pointer (σ ⟨ab,0+3,ν⟩))) aP av/\bZ x8 (u6 cG (Γ ab) 3) (.pointer (σ ⟨ab,0+3,ν⟩)) av/\bZ x8 (bP (Γ ab)) (Γ ab) av/\True)/\
    V x8 (Instr.build fT #[(0,aj),(1,.agg #[W]),(2,cR)]) av λt22=>
    aC x8 (Y8 fS 1 #[(0,t22)]) av λcS ax=>
     (Ext aJ ax\/bZ x8 (u5 fS (.pointer (σ ⟨ab,0+3,ν⟩))) aP ax/\bZ x8 (u6 cG (Γ ab) 3) (.pointer (σ ⟨ab,0+3,ν⟩)) ax/\bZ x8 (bP (Γ ab)) (Γ ab) ax/\True)/\
    aC x8 (Z3 #[fS,fS] fS #[aP,cS]) ax λcT bn=>
     V x8 (bP (Γ ab)) bn λt25=>
     V x8 (u6 cG t25 3) bn λcU=>
     aC x8 (o8 fS cU cT) bn λ(_:Unit)aT=>
      aw aT:=by
  intro G aj X aY ak H b0 Y M O bC;have cV:=bW.ext H;refine(Df cV O.ls (λr B=>bC r (.inr B)) (by simp only[Z5];omega) (by simp only[Z5];omega) hm).mono ?_;rintro _ av _ ⟨rfl,cW,a8,aZ,cX⟩;obtain⟨⟨b1,b2,cZ,b3⟩,a1,bB,ge,L,E,bU,w0,ap,⟨c0,c1,b4⟩,⟨c2,b5,b6,aM⟩,bD,⟨a7,bk⟩,bE,c3⟩:=id cX;have aF:aq .i64 ag av aY aj sc:=br M aZ.1 λr B=>bC r (.inl B);have bo:aq .i64 ag G (Classical.choose (show∃gs,aq .i64 ag w gs W ah from by obtain⟨⟨_,gs,_,q,_⟩,_⟩:=bi;exact⟨gs,q⟩)) W ah:=((Classical.choose_spec (show∃gs,aq .i64 ag w gs W ah from by obtain⟨⟨_,gs,_,q,_⟩,_⟩:=bi;exact⟨gs,q⟩)).ext aR).ext H;have c4:=br bo aZ.1 bS.2.2;refine⟨.inr (tg (off:=3) (z:=3) ap (λK=>by rw[aS cG.p rfl]) Ψ rfl),?_⟩;rw[dn (cs:=#[aj,W,Δ (t.cells.length:Int)]) (by obtain⟨_,_,_,rfl⟩:=cY M.ls;obtain⟨_,_,_,rfl⟩:=cY bo.ls;kernel_rfl)];let a:pr:=⟨aj,W,t.cells.length⟩;have c5:∀u∈n1 a,u.oneCell'=true:=by
   intro u hu;simp[n1]at hu;rcases hu with rfl|rfl|rfl
   .exact M.ls.cells.2
   .exact bo.ls.cells.2
   .rfl
  refine h2 (f:=n1) (a:=a) fS.u fT.i Ω rfl rfl λdy dz ax dA N c6=>?_;refine⟨.inr (tg (off:=3) (z:=3) (ap.ext N) (λK=>by rw[aS cG.p rfl]) Ψ rfl),?_⟩;have ba:=a7.ext N;have bl:L.length=s.funs.length:=bk.1;refine ip (f:=n1) (a:=a) fS.u fT.i rfl ba (by simpa using c6.sl) c5 Ω Ω λb7 c7 bn bb c8 b8=>?_;have bc:=ap.ext N;have b9:=bc.aa b8 λhe=>cO ba bc Φ he;rw[bX,aS cG.p rfl];refine bq fS.i (eS bb.sl).1 (eS bb.sl).2 b9 Ξ λaT bF dC bG=>?_;have bG:ad aT ab cG [Γ bf,Γ ac,bg,b7,bh]:=bG;have aA:ae (λr=>leadsTo aP r\/r=ab) ax aT:=(b8.mono λr _ h=>.inl h).trans (bF.mono λr _ h=>.inr h);have z9:=H.size;have dD:=aZ.1.size;have dE:=N.size;have dF:=aA.size;have bH:∀r,(leadsTo aP r\/r=ab)->a8 r:=λr B=>B.elim (λB=>(aM r (.inr (.inl B))).1) λB=>B▸b1;have bI:∀r,(leadsTo aP r\/r=ab)->¬R r:=λr B=>b2 r (bH r B);have c9:ae (eA w) w aT:=th (iw (aR.trans H) cW) (iw N (aA.mono λr _ B=>by
   rcases B with B|rfl
   .obtain⟨_,c,aX⟩:=ee ba B;exact .inl ⟨_,c,‹r=_› ▸aX,Φ⟩
   .exact .inl ⟨_,_,bc,Φ⟩))
  let da:af:=λr=>a8 r\/(ax.heap.size<=r/\r<aT.heap.size);let bJ:af:=λr=>R r\/(leads W r/\r<av.heap.size)\/(leads aj r/\r<av.heap.size);have dG:∀r,r<w.heap.size->a8 r->A r:=λr B h=>(aZ.2.1 r h).elim id λh=>Ω
  have bK:∀r,leads aj r->w.heap.size<=r/\r<G.heap.size:=λr B=>by obtain⟨h1,a2⟩:=bR M B;omega
  have ca:∀r,leads W r->r<G.heap.size:=λr B=>by obtain⟨h1,a2⟩:=bR bo B;omega
  have bp:∀r,leads aj r\/leads W r->¬a8 r:=λr B db=>by
   rcases aZ.2.1 r db with h|h
   .rcases B with B|B
    .exact bC r (.inl B) h
    .exact bS.2.2 r B h
   .rcases B with B|B
    .have:=bK r B;omega
    .have:=ca r B;omega
  refine cQ _ ⟨c9,da,bJ,b7,(Grow.ext (aR.trans H)).trans (aZ.trans ((Grow.ext N).trans ⟨aA.mono λr _ B=>bH r B,λr B=>B.imp id And.left,λr B=>.inl B⟩)),?_,λr B=>.inl B,λr B=>?_⟩
  rotate_left
  .rcases B with B|B|B
   .exact .inl B
   .exact .inr (.inl B.1)
   .exact .inr (.inr (bK r B.1).1)
  have cb:∀{v:x3}{bd:Nat}{l:Λ},aq .i64 ag ax bd v l->(∀r,leads v r->¬a8 r)->aq .i64 ag aT bd v l:=λhm dc=>br hm aA λr B I=>dc r B (bH r I);have cc:∀r,bJ r->r<ax.heap.size:=λr B=>by
   rcases B with B|B|B
   .have:=cZ r B;omega
   .omega
   .omega
  refine⟨⟨.inl b1,λr B aN=>?_,λr B=>by have:=cc r B;omega,λr B=>B.elim (λB=>by have:=b3 r B;omega) And.right⟩,a1,c7,ge,L++[a],E,bU,w0,bG,⟨c0,te (c1.trans N) aA λr o B bj I=>bI r I (b4 r o B bj),λr o B bj=>.inl (b4 r o B bj)⟩,⟨(c2.ext N).aa aA λr B I=>?_,λr B=>.inl (b5 r B),b6,λr B=>?_⟩,?_,⟨bb.aa bF λr B he=>?_,?_⟩,(bE.ext N).aa aA λr B I=>?_,?_⟩
  .have:=cc r aN;rcases B with B|B
   .rcases aN with aN|aN|aN
    .exact b2 r B aN
    .exact bp r (.inr aN.1) B
    .exact bp r (.inl aN.1) B
   .omega
  .rcases I with I|rfl
   .exact (aM r (.inr (.inl I))).2 B
   .exact b6 B
  .rcases B with B|B|B
   .exact⟨.inl (aM r (.inl B)).1,(aM r (.inl B)).2⟩
   .obtain⟨h1,a2⟩:=bb.leads B;rcases c8 r B with h|h
    .exact⟨.inl (aM r (.inr (.inl h))).1,(aM r (.inr (.inl h))).2⟩
    .refine⟨.inr ⟨h,by have:=bF.size;omega⟩,λdd=>?_⟩;have:=b3 r (b5 r dd);omega
   .exact⟨.inl (aM r (.inr (.inr B))).1,(aM r (.inr (.inr B))).2⟩
  .rw[cn];exact br (bD.ext N) aA λr B I=>by
    rcases I with I|rfl
    .obtain⟨rfl,c,aX⟩:=ee ba I;exact ce (bD.ext N) aX Φ B rfl
    .exact ce (bD.ext N) bc Φ B rfl
  .have he:r=ab:=he;subst he;exact cO bb b9 Φ B
  .refine⟨by rw[o7,bl];simp[iU],λj x f bt aU=>?_⟩;have aU:(s.funs++[⟨sc,ah,1,cs⟩])[j]?=σ f:=aU;by_cases bz:j<s.funs.length
   .rw[Y1 Ω]at bt;rw[Y1 bz]at aU;obtain⟨de,dg,dh⟩:=((((li.aa bk (N.aa λ_=>False) λ_ _ _ h=>h).aa aA λr _ B I=>bI r I B).mono (R':=bJ) λr B=>.inl B)).2 j x f bt aU;exact⟨de,dg,by rw[cm j bz];exact dh⟩
   .have bL:j=s.funs.length:=by have:=(x5.1 aU).1;simp at this;omega
    rw[Y3 Ω,bl,bL,U4]at bt;rw[Y3 Ω,bL,U4]at aU;cases bt;cases aU;refine⟨⟨⟨_,cb (aF.ext N) λr B=>bp r (.inl B)⟩,λr B=>.inr (.inr ⟨B,?_⟩)⟩,⟨⟨_,cb (c4.ext N) λr B=>bp r (.inr B)⟩,λr B=>.inr (.inl ⟨B,?_⟩)⟩,?_⟩
    .have:=bK r B;omega
    .have:=ca r B;omega
    .rw[bL,cl]
  .rcases I with I|rfl
   .obtain⟨rfl,c,aX⟩:=ee ba I;exact cO (bE.ext N) aX Φ B
   .exact cO (bE.ext N) bc Φ B
  .exact ((l8.aa c3 (N.aa λ_=>False) λ_ _ _ h=>h).aa aA λr _ B I=>bI r I B).mono λr B=>.inl B
 have a6:=bi.ext aR;have cd:=ck.ext aR;have di:∀r,A r->r<w.heap.size:=h.1.2.2.2;obtain⟨_,⟨_,_,dH⟩,dI,dJ⟩:=id bi;have dK:cs.length<=4096:=Ω
 have bu:∀{aB:x4}{aV aW:x3}{Z:Nat}{K:x3->x4->Prop},Ext aJ aB->aJ.heap.size<=Z->aq .i64 ao aB Z aV [1]->aH .i64 aB aW cs->
   (∀X ak G,Ext aJ G->ae (λr=>r=Z) aB G->w.heap.size<=ak->aq .i64 ao G ak X (1::cs)->(Ext aJ G->K X G))->aC x8 (Z3 #[au,au] au #[aV,aW]) aB K:=by
  intro aB aV aW Z K C bw aD aG dj;refine jg au.u ao.i rfl aD aG Θ Θ λX ak G Y O aE=>?_;have H:Ext aJ G:=C.put aE Ω;have dk:=C.size;exact dj X ak G H aE Ω O H
 have aO:∀{v:x3}{bd:Nat}{dm:o9}{e:r9}{dp:x4}{l:Λ},aq dm e dp bd v l->w.heap.size<=bd->∀r,leads v r->¬A r:=λhm dL r B dq=>by
  obtain⟨h1,_⟩:=bR hm B;have:=di r dq;omega
 refine⟨?_,?_⟩
 .refine (jJ cd Ω).mono ?_;rintro aj cg _ ⟨P,aY,b0,M⟩;have z5:=P.size;refine⟨.inl P,?_,?_⟩
  .refine (pe (a6.ext P)).mono ?_;rintro _ ch _ ⟨rfl,Q⟩;have al:=P.trans Q;have dM:=al.size;have dN:=Q.size;have ci:=(a6.ext P).ext Q;refine⟨.inl al,?_,?_⟩
   .refine eM au.u ao.i rfl λaV Z aB bw C aD=>?_;refine⟨.inl (al.trans C),?_⟩;refine(mG (ci.ext C)).mono ?_;rintro aW bM _ ⟨S,bN,bO,aG⟩;have an:=(al.trans C).trans S;refine⟨.inl an,?_⟩;refine bu an Ω (aD.ext S) aG.ls λX ak G H aE Y O _=>⟨.inl H,?_⟩;have aF:=br (((M.ext Q).ext C).ext S) aE λr B he=>by have he:r=Z:=he;obtain⟨h1,a2⟩:=bR M B;omega
    exact bm H Ω Y aF O λr B=>B.elim (aO M Ω r) (aO O Y r)
   .refine (mG ci).mono ?_;rintro aW aB _ ⟨C,bN,bO,aG⟩;refine⟨.inl (al.trans C),?_⟩;have dk:=C.size;refine eM au.u ao.i rfl λaV Z bM bw S aD=>?_;have an:=(al.trans C).trans S;refine⟨.inl an,?_⟩;refine bu an Ω aD (aG.ls.ext S) λX ak G H aE Y O _=>⟨.inl H,?_⟩;have aF:=br (((M.ext Q).ext C).ext S) aE λr B he=>by have he:r=Z:=he;obtain⟨h1,a2⟩:=bR M B;omega
    exact bm H Ω Y aF O λr B=>B.elim (aO M Ω r) (aO O Y r)
  .refine eM au.u ao.i rfl λaV Z ch bw Q aD=>?_;have al:=P.trans Q;refine⟨.inl al,?_⟩;refine(pe ((a6.ext P).ext Q)).mono ?_;rintro _ aB _ ⟨rfl,C⟩;have be:=al.trans C;refine⟨.inl be,?_⟩;refine(mG (((a6.ext P).ext Q).ext C)).mono ?_;rintro aW bM _ ⟨S,bN,bO,aG⟩;have an:=be.trans S;refine⟨.inl an,?_⟩;refine bu an Ω ((aD.ext C).ext S) aG.ls λX ak G H aE Y O _=>⟨.inl H,?_⟩;have aF:=br (((M.ext Q).ext C).ext S) aE λr B he=>by have he:r=Z:=he;obtain⟨h1,a2⟩:=bR M B;omega
   exact bm H Ω Y aF O λr B=>B.elim (aO M Ω r) (aO O Y r)
 .refine eM au.u ao.i rfl λaV Z cg bw P aD=>?_;refine⟨.inl P,?_⟩;have z5:=P.size;have dO:Z<cg.heap.size:=sS aD Ξ;refine(jJ (cd.ext P) Ω).mono ?_;rintro aj ch _ ⟨Q,aY,b0,M⟩;have al:=P.trans Q;refine⟨.inl al,?_⟩;refine(pe ((a6.ext P).ext Q)).mono ?_;rintro _ aB _ ⟨rfl,C⟩;have be:=al.trans C;refine⟨.inl be,?_⟩;refine(mG (((a6.ext P).ext Q).ext C)).mono ?_;rintro aW bM _ ⟨S,bN,bO,aG⟩;have an:=be.trans S;refine⟨.inl an,?_⟩;refine bu an Ω (((aD.ext Q).ext C).ext S) aG.ls λX ak G H aE Y O _=>⟨.inl H,?_⟩;have aF:=br ((M.ext C).ext S) aE λr B he=>by have he:r=Z:=he;obtain⟨h1,a2⟩:=bR M B;omega
  exact bm H Ω Y aF O λr B=>B.elim (aO M Ω r) (aO O Y r)
theorem h5{P:W9}{G:r9}{k:o9}{b g:Nat}{x:x3}{m:Λ}{K:x3->x4->Prop}(y:P.underlying t=σ (.slice e))(hi:aP P e 1 b z)(A:z.cells.size=1)(h:aq k e w g v l)(B:aH k w x m)(C:(l.length+m.length)*b<=140737488355328)(E:l.length+m.length<=9223372036854775807)(F:∀a f w',aq k e w' f a (l++m)->(∀r,leads a r->leads v r\/w.heap.size<=r)->ae (λr=>leads v r) w w'->K a w'):aC P (Z3 #[t,t] G #[v,x]) w K:=by
 rcases h.2 with⟨p,H⟩|⟨cap,cs,p,L,M⟩
 .have I:l=[]:=b9 H;subst I;have h':aq k e w w.heap.size v []:=by rw[p];exact aq.nil _ _ _ _
  refine jg y hi A h' B C E λa f w' q hm s=>F a f w' hm (λr j=>.inr ?_) (s.mono λr j he=>by have he:r=w.heap.size:=he;omega);obtain⟨J,_⟩:=bR hm j;omega
 .refine jg y hi A h B C E λa f w' q hm s=>F a f w' hm (λr j=>?_) (s.mono λr j he=>⟨_,_,_,p,he.symm⟩);obtain⟨J,_⟩:=bR hm j;rcases q with q|q
  .exact .inl ⟨_,_,_,p,by show g=r;omega⟩
  .exact .inr Ω
def addVar(s:am)(u:Λ):am:={s with vars:=s.vars++[newVar u]}
theorem NP(s:am)(u:Λ):iv (addVar s u)=iv s++[((3+(s.vars.flatMap hE).length:Nat):Int)]:=by
 unfold iv addVar;rw[o7,S3,List.range_succ,Z2];congr 1
 .apply List.map_congr_left;intro i hi;have:=List.mem_range.1 hi;unfold fL;simp only[List.take_append_of_le_length (show i<=s.vars.length by omega)]
 .simp[fL]
theorem NQ{s:am}{u:Λ}(a:s.funs=[]):(addVar s u).cells=s.cells++(0::0::u):=by
 unfold am.cells addVar iR;simp only[a,List.flatMap_nil,U9,List.flatMap_append,List.flatMap_singleton,T3];rfl
def e1(n:aK)(i j:Nat):am:=⟨n.zero,(n.unary.take i).map newVar,(n.funs.take j).map (kw n.sizes),[]⟩
theorem Dg{n:aK}{i:Nat}{u:Λ}(h:n.unary[i]?=σ u):e1 n (i+1) 0=addVar (e1 n i 0) u:=by
 unfold e1 addVar;simp only[r8,h,l7,Z2,List.map_singleton]
theorem NR{n:aK}{i:Nat}{g:cI}(h:n.funs[j]?=σ g):e1 n i (j+1)=iU (e1 n i j) g.1 (bI n.sizes g.1) g.2:=by
 unfold e1 iU;simp only[r8,h,l7,Z2,List.map_singleton];rfl
theorem wv(n:aK):e1 n n.unary.length n.funs.length=cZ n:=by
 unfold e1 cZ;rw[o6,o6]
theorem wx{α β:Type}{f:α->List β}{b:Nat}:∀{L:List α},(∀x∈L,(f x).length<=b)->(L.flatMap f).length<=L.length*b
 |[],_=>Ξ
 |x::L,h=>by
  rw[V4,o7,Z5,U7];have:=wx (L:=L) λy a=>h y (.tail _ a);have:=h x (.head _);omega
theorem ti{n:aK}(a:jR n)(B:n.funs.length<=256)(i j:Nat):(e1 n i j).cells.length<=2000000:=by
 rw[wn];have h1:=wx (f:=hE) (b:=34) (L:=(e1 n i j).vars) λx h=>by
  obtain⟨u,hu,rfl⟩:=j0.1 (show x∈(n.unary.take i).map newVar from h);obtain⟨p,q⟩:=X6.1 (T9 hu);have C:=a.ku;have E:=(x5.1 q).1;obtain⟨z,r⟩:=aD (l:=n.sizes) (i:=p) Ω;have w:=(a.unary p z u r q).1;have e:=a.sizes.2.2 z (x6 r);show u.length+2<=34;omega
 have w:=wx (f:=h4) (b:=4097) (L:=(e1 n i j).funs) λx h=>by
  obtain⟨g,y,rfl⟩:=j0.1 (show x∈(n.funs.take j).map (kw n.sizes)from h);have e:=(a.funs g (T9 y)).1;have s:=e.len;have A:=e.small;show g.2.length+1<=4097;omega
 have e:(e1 n i j).vars.length<=64:=by
  show((n.unary.take i).map newVar).length<=64;rw[u7,n9];have:=a.ku;have:=a.sizes.2.1;omega
 have s:(e1 n i j).funs.length<=256:=by
  show((n.funs.take j).map (kw n.sizes)).length<=256;rw[u7,n9];omega
 have A:=W0 34 e;have F:=W0 4097 s;omega
def Plain(t:az):Prop:=t.marks=[]/\t.olds=[]/\hv t []/\t.ii=0
theorem Plain.set{t:az}(h:Plain t)(i:Nat)(x:Int):Plain (t.set i x):=⟨(az.wp _ _ _).trans h.1,(az.wq h.1 _ _).trans h.2.1,h.2.2.1.set,(az.C7 _ _ _).trans h.2.2.2⟩
theorem Plain.lay{t:az}(h:Plain t)(l:Λ):Plain (mM t l):=⟨(qQ _ _ _).trans h.1,(Db h.1 _ _).trans h.2.1,h.2.2.1.fN l _,(Da _ _ _).trans h.2.2.2⟩
theorem Plain.put{s:am}{t:az}(h:Plain t)(cs:Λ):Plain (n4 s t cs):=(h.lay _).set _ _
def NS(w:x4)(R0:af)(n:aK)(v:x3)(w':x4):Prop:=Ext w w'/\∃ab ac A R t,v=Γ ab/\StateM w' ab ac A R n (cZ n) t/\t.bY=(cZ n).cells/\Plain t/\(∀r,A r->w.heap.size<=r)/\∀r,R r->R0 r\/w.heap.size<=r
theorem NT{w0:x4}{R0:af}{n:aK}(aP:gd w0 B n)(ax:Ext w0 w)(bh:∀r o,w0.heap[r]?=σ o->fx o=true->R0 r)(aR:∀r,R0 r->r<w.heap.size)(C:jR n)(bi:n.funs.length<=256):ai x8 y3 [Γ B] w (NS w R0 n):=by
 have h:=aP.ext ax;have bV:=C.ku;have c1:=C.sizes.2.1;refine ay func62 ?_;rw[da mr.u];simp only[Z6,aY];refine(NB (n:=3) Ω).mono ?_;rintro _ J _ ⟨aA,ac,rfl,bW⟩;rw[dn (cs:=#[Γ B,Γ ac,.slice ν 0 0,.slice ν 0 0,.slice ν 0 0]) Ψ];refine bk λab U c2 S V=>?_;have V:ad U ab cG [Γ B,Γ ac,.slice ν 0 0,.slice ν 0 0,.slice ν 0 0]:=V;have c3:=aA.size;have c4:=S.size;have c5:=V.lt;have bZ:eT U ab ac B (.slice ν 0 0) (.slice ν 0 0) (.slice ν 0 0) (λr=>r=ab\/(w.heap.size<=r/\r<J.heap.size)) R0 n ⟨0,[],[],[]⟩ ⟨o4 3 ⟨0,0⟩,[],[],0⟩:=by
  refine⟨⟨.inl rfl,λr q O=>?_,λr q=>?_,λr q=>?_⟩,0,0,0,[],[],λr=>w.heap.size<=r/\r<J.heap.size,w0,V,⟨aP,ax.trans (aA.trans S),bh⟩,⟨(bW.cut).ext S,λr q=>.inr q,λq=>?_,λr q=>?_⟩,aq.nil _ _ _ _,⟨be.nil _ _ _ _ _,rfl,λj x f W=>by simp at W⟩,be.nil _ _ _ _ _,rfl,λj x f W=>by simp at W⟩
  .have O:=aR r O;rcases q with q|q<;>omega
  .have q:=aR r q;omega
  .rcases q with q|q<;>omega
  .omega
  .rcases q with q|q|q
   .obtain⟨a,c6,c,aT,c7⟩:=q;cases aT
   .exact (fg q).elim
   .exact (fg q).elim
 intro c8 X _ _;have b0:=bZ.ext X;rw[aQ cG.p 1 (V.ext X) rfl];refine(NI (h.ext ((aA.trans S).trans X))).mono ?_;rintro _ c9 _ ⟨rfl,aB⟩;refine⟨.inl aB,?_⟩;have b2:=b0.ext aB;obtain⟨aU,b3,b4⟩:=b2.qP;refine(tc (i:=0) (y:=0) b3 rfl Φ ⟨Ξ,Ξ,Ξ⟩).mono ?_;rintro _ bj _ ⟨_,b5,b6,b8⟩;obtain⟨b9,bl,aV⟩:=b4 b5 bj _ b6 b8;have aV:=aV.same (C5 ⟨0,[],[],[]⟩ n.zero);have z3:=X.size;have z4:=aB.size;have ca:=((aA.trans S).trans X).trans aB;have bm:Ext w bj:=ca.then bl.1 λr q he=>by rcases he with he|he<;>omega
 refine(wo (h.ext bm)).mono ?_;rintro _ db _ ⟨rfl,bn⟩;refine b1.range n.sizes.length (λi aC=>∃A M t,Ext w aC/\eT aC ab ac B M (.slice ν 0 0) (.slice ν 0 0) A R0 n (e1 n i 0) t/\t.bY=(e1 n i 0).cells/\Plain t/\∀r,A r->w.heap.size<=r) Ω
  ⟨b9,_,_,bm.trans bn,aV.ext bn,?_,?_,λr q=>?_⟩ ?_ ?_
 .rw[az.qb];rfl
 .exact Plain.set (t:=⟨o4 3 ⟨0,0⟩,[],[],0⟩) ⟨rfl,rfl,⟨rfl,rfl,λc G=>by rw[(List.mem_replicate.1 G).2];exact o5 _,X5 _⟩,rfl⟩ _ _
 .rcases bl.2.1 r q with he|he
  .rcases he with he|he<;>omega
  .omega
 .rintro i aC cb hi ⟨A,M,t,P,aW,Y,Z,aE⟩ cc;obtain⟨u,hu⟩:=aD (l:=n.unary) (i:=i) Ω;obtain⟨bo,bp⟩:=aD (l:=n.sizes) (i:=i) Ω;have dc:u.length<=32:=by
   have dd:=(C.unary i bo u bp hu).1;have de:=C.sizes.2.2 bo (x6 bp);omega
  refine bD Ω ?_;refine(C2 (h.ext P) C).mono ?_;rintro df dg _ ⟨cd,_,cg⟩;obtain⟨dh,di,ch⟩:=cg u Ω (by rw[u9];exact hu);intro aX bt _ _;have aZ:=cd.trans bt;have bu:=aW.ext aZ;obtain⟨⟨_,_,_,ah⟩,a1,bw,ge,L,E,aU,w0,aF,_⟩:=id bu;have dj:=aZ.size;have dk:=P.size;rw[aQ cG.p 2 aF rfl];refine Ab (l:=[0,0]) au.u ao.i Ω rfl Ψ λci dl dm dp aG bx=>?_;refine⟨.inl aG,?_⟩;refine h5 au.u ao.i rfl bx ((ch.ext bt).ls.ext aG) Θ Θ λcj dq ck cl cm cn=>?_;have bz:∀r,leads ci r->aX.heap.size<=r:=λr q=>by obtain⟨aT,_⟩:=bR bx q;omega
  have aH:Ext aX ck:=aG.then cn λr q he=>by have:=bz r he;omega
  refine⟨.inl aH,?_⟩;have cp:=bu.ext aH;have cq:∀r,leads cj r->aX.heap.size<=r:=λr q=>by
   rcases cm r q with h|h
   .exact bz r h
   .have:=aG.size;omega
  have cr:t.cells.length<=2000000:=by
   have h1:=ti C bi i 0;rw[<-Y]at h1;unfold az.bY at h1;rwa [u7]at h1
  have ct:t.olds.length=0:=by rw[Z.2.1];rfl
  have cu:t.marks.length=0:=by rw[Z.1];rfl
  refine(Df cp cl.ls (λr q s=>by have:=ah r s;have:=cq r q;omega) Θ Θ Ω).mono ?_;rintro _ dr _ ⟨rfl,_,a2,a6,cw⟩;obtain⟨⟨bA,bB,cz,bC⟩,a1,bw,ge,L,E,aU,w0,aF,⟨cA,cB,bE⟩,⟨cC,bF,bG,aJ⟩,cD,⟨cE,cF⟩,cH,cI⟩:=id cw;refine⟨.inr (tg (off:=2) (z:=2) aF (λK=>by rw[aS cG.p rfl]) Ψ rfl),?_⟩;refine eM (k:=.i64) an.u ag.i rfl λds dt bH du H cJ=>?_;have a7:=aF.ext H;refine⟨.inr (tg (off:=2) (z:=2) a7 (λK=>by rw[aS cG.p rfl]) Ψ rfl),?_⟩;have bI:(iv (e1 n i 0)).length=i:=by
   unfold iv e1;simp only[u7,List.length_range,n9];omega
  have bJ:=cD.ext H;refine h5 an.u ag.i rfl bJ cJ.ls (by rw[bI];simp;omega) (by rw[bI];simp;omega) λbK cK dv aj cL bL=>?_;have bM:=a7.aa bL λhe=>ce bJ a7 Φ he rfl;rw[bX,aS cG.p rfl];refine bq an.i aj.ls.cells.1 aj.ls.cells.2 bM Ξ λa8 ba dw bb=>?_;have bb:ad a8 ab cG [Γ B,Γ ac,bK,.slice ν 0 0,.slice ν 0 0]:=bb;rw[aM];have G:ae (λr=>leads M r\/r=ab) bH a8:=(bL.mono λr _ h=>.inl h).trans (ba.mono λr _ h=>.inr h);have dx:=aH.size;have z12:=a6.1.size;have dy:=H.size;have dz:=G.size;have bN:∀r,a2 r->w.heap.size<=r:=λr q=>(a6.2.1 r q).elim (aE r) λh=>Ω
  have bO:∀r,(leads M r\/r=ab)->a2 r:=λr q=>q.elim (λq=>(aJ r (.inl q)).1) λq=>q▸bA;have cM:(e1 n (i+1) 0).cells=(e1 n i 0).cells++(0::0::u):=by rw[Dg hu];exact NQ rfl
  have cN:t.cells.length=3+((e1 n i 0).vars.flatMap hE).length:=by
   have h1:=congrArg Q0 Y;rw[wn]at h1;unfold az.bY at h1;rw[u7]at h1;have:((e1 n i 0).funs.flatMap h4).length=0:=by simp[e1]
   omega
  refine cc _ ⟨λr=>a2 r\/(bH.heap.size<=r/\r<a8.heap.size),bK,mM t ([0,0]++u),?_,⟨⟨.inl bA,λr q O=>?_,λr q=>by have:=cz r q;omega,λr q=>?_⟩,cK,bw,ge,L,E,aU,w0,bb,⟨cA,te (cB.trans H) G λr o q cO I=>bB r (bO r I) (bE r o q cO),bE⟩,⟨(cC.ext H).aa G λr q I=>?_,λr q=>.inl (bF r q),bG,λr q=>?_⟩,?_,⟨(cE.ext H).aa G λr q I=>?_,?_⟩,(cH.ext H).aa G λr q I=>?_,?_⟩,?_,Z.lay _,λr q=>?_⟩
  .exact ((P.trans (aZ.trans aH)).then a6.1 λr q he=>by have:=aE r he;omega).trans H |>.then G λr q I=>by have:=bN r (bO r I);omega
  .rcases q with q|q
   .exact bB r q O
   .have O:=aR r O;omega
  .rcases q with q|q
   .have:=bC r q;omega
   .exact q.2
  .rcases I with I|rfl
   .exact (aJ r (.inl I)).2 q
   .exact bG q
  .rcases q with q|q|q
   .have dA:=(bR aj q);rcases cL r q with h|h
    .exact⟨.inl (aJ r (.inl h)).1,(aJ r (.inl h)).2⟩
    .refine⟨.inr ⟨h,by have:=ba.size;omega⟩,λcP=>by have:=bC r (bF r cP);omega⟩
   .exact (fg q).elim
   .exact (fg q).elim
  .rw[Dg hu,NP,<-cN];exact br aj ba λr q he=>by
    have he:r=ab:=he;subst he;exact ce aj bM Φ q rfl
  .exact (fg q).elim
  .refine⟨cF.1,λj x f W bc=>?_⟩;have bc:((n.funs.take 0).map (kw n.sizes))[j]?=σ f:=bc;simp at bc
  .exact (fg q).elim
  .refine⟨cI.1,λj x e W he=>?_⟩;have he:([]:List td)[j]?=σ e:=he;simp at he
  .rw[Dd,cM,Y];rfl
  .rcases q with q|q
   .exact bN r q
   .omega
 .rintro aC cb ⟨A,M,t,P,aW,Y,Z,aE⟩;refine b7 Ω ?_;refine(C1 (h.ext P)).mono ?_;rintro _ dC _ ⟨rfl,bP⟩;refine b1.range n.funs.length (λj ak=>∃A R aN t,Ext w ak/\eT ak ab ac B M aN (.slice ν 0 0) A R n (e1 n n.sizes.length j) t/\t.bY=(e1 n n.sizes.length j).cells/\Plain t/\(∀r,A r->w.heap.size<=r)/\∀r,R r->R0 r\/w.heap.size<=r) Ω
   ⟨A,_,_,t,P.trans bP,aW.ext bP,Y,Z,aE,λ_ h=>.inl h⟩ ?_ ?_
  .rintro j ak cQ cR ⟨A,R,aN,t,N,al,Q,am,ap,bd⟩ cS;obtain⟨g,aO⟩:=aD (l:=n.funs) cR;have bf:=(C.funs g (x6 aO)).1;refine bD Ω ?_;refine(NJ (h.ext N) C aO).mono ?_;rintro aL dD _ ⟨av,gs,dE,bQ⟩;refine(NL aP (ax.trans (N.trans av)) aO).mono ?_;rintro _ dF _ ⟨aw,gt,dG,cT,rfl,dH,dI,cU,bS⟩;have z0:=ax.size;have cV:∀r,leads cT r->r<w.heap.size:=λr q=>by obtain⟨c,bg⟩:=bS r q;have:=bg.lt;omega
   have cW:=(al.ext av).ext aw;have ah:∀r,A r->r<ak.heap.size:=al.1.2.2.2;have dJ:=av.size;have cr:t.cells.length<=2000000:=by
    have h1:=ti C bi n.sizes.length j;rw[<-Q]at h1;unfold az.bY at h1;rwa [u7]at h1
   have ct:t.olds.length=0:=by rw[am.2.1];rfl
   have cu:t.marks.length=0:=by rw[am.1];rfl
   have dK:g.2.length<=4096:=by have:=bf.len;have:=bf.small;omega
   have dL:g.1.length<=6:=bf.scope.2;refine(NO (sc:=g.1) cW Q (bQ.ls.ext aw) (λr q s=>by have:=ah r s;obtain⟨aT,_⟩:=bR bQ q;omega) cU ⟨λs=>by have:=ah _ s;omega,λs=>by have:=ah _ s;omega,λr q s=>by have:=ap r s;have:=cV r q;omega⟩ Ω Ω Ω Ω ?_).mono ?_
   .show ((n.funs.take j).map (kw n.sizes)).length<=_;rw[u7,n9];omega
   rintro _ dM _ ⟨rfl,_,aI,R',cX,bT,cY,dN,c0⟩;rw[aM];have bU:=NR (i:=n.sizes.length) aO;refine cS _ ⟨aI,R',cX,n4 (e1 n n.sizes.length j) t g.2,((N.trans av).trans aw).then bT.1 (λr q s=>by have:=ap r s;omega),?_,?_,am.put _,λr q=>?_,λr q=>?_⟩
   .rw[bU];exact cY
   .rw[bU];exact NN Q
   .rcases bT.2.1 r q with h|h
    .exact ap r h
    .have:=N.size;have:=aw.size;omega
   .rcases c0 r q with h|h|h
    .exact bd r h
    .exact .inl (by obtain⟨c,bg⟩:=bS r h;exact bh r _ bg rfl)
    .exact .inr (by have:=N.size;have:=av.size;have:=aw.size;omega)
  .rintro ak cQ ⟨A,R,aN,t,N,al,Q,am,ap,bd⟩;refine b7 Ω ?_;have e:e1 n n.sizes.length n.funs.length=cZ n:=by rw[<-bV];exact wv n
   rw[e]at al Q;exact⟨N,ab,ac,A,R,t,rfl,⟨B,M,aN,_,al⟩,Q,am,ap,bd⟩
theorem NU(L:Bytes l)(W:l.length<=100000):ai x8 HS [bU l] w λv w'=>v=km l/\Ext w w':=by
 refine ay func173 ?_;refine ib (λac ad J=>Ext w J/\∃(m:Λ)(s:Int),ac=bU m/\ad=Δ s/\Bytes m/\m.length<=100000/\o3 l m s) ?_ ?_
 .rintro _ _ J ⟨M,m,s,rfl,rfl,H,ax,I⟩;rw[nF c5.u,bb,aj];refine⟨λN=>?_,λN=>?_⟩
  .have O:m=[]:=b9 Ω;exact⟨by rw[sn I (by rw[O];rfl)],M⟩
  have O:m≠[]:=λh=>N (by rw[h];rfl);refine pO.range m.length (λi _ _ P Q f=>Ext J f/\∃(n:Int)(a:Bool),P= .int .u64 n/\Q= .bool a/\mz n a ((m.take i).foldl e7 0)/\(m.take i).all gx=true) Ω ⟨Ext.refl _,0,false,rfl,rfl,Jv,rfl⟩ ?_ ?_
  .rintro i ae t3 _ _ f af hi ⟨B,n,a,rfl,rfl,p,C⟩ ag;obtain⟨b,q⟩:=aD (l:=m) hi;have az:=H b (x6 q);rw[nF c5.u];refine bD Ω ?_;refine Ak (λ_ _ P Q j=>Ext J j/\∃(n:Int)(a:Bool),P= .int .u64 n/\Q= .bool a/\mz n a ((m.take (i+1)).foldl e7 0)/\(m.take (i+1)).all gx=true) ?_ ?_
   .rintro aA aB a3 a4 j ah;rw[aM];exact ag _ _ _ _ _ ah
   intro aw z;refine aW (λv j=>f=j/\v= .bool (!gx b)) ?_ ?_
   rotate_left
   .intro R e;rw[qc rfl c5.u H q,aR,aj];refine⟨λh=>e _ _ ⟨rfl,by unfold gx;rw[decide_eq_false Ω];rfl⟩,λh=>?_⟩;rw[qc rfl c5.u H q,bS];refine e _ _ ⟨rfl,?_⟩;unfold gx;congr 1;by_cases X:57<b
    .rw[decide_eq_true X,decide_eq_false Ω];rfl
    .rw[decide_eq_false X,decide_eq_true Ω];rfl
   rintro _ _ ⟨rfl,rfl⟩;cases S:gx b with
   |false=>
    rw[X9,bQ];exact⟨by rw[sn I (A7 q S)],M.trans B⟩
   |true=>
    rw[Y9,aY];have ak:=of_decide_eq_true S;have K:=Ju p ak;rw[A5 q,A4 q,C,S]at z;have al:=p.1;have am:=p.2.1;refine aW (λv j=>f=j/\v= .bool (a||decide (461168601842738790<n))) ?_ ?_
    rotate_left
    .intro R e;rw[bS,aj];refine⟨λh=>e _ _ ⟨rfl,by rw[decide_eq_true h,Bool.or_true]⟩,λh=>e _ _ ⟨rfl,by rw[decide_eq_false h,Bool.or_false]⟩⟩
    rintro _ _ ⟨rfl,rfl⟩;by_cases E:a=true\/461168601842738790<n
    .have r:(a||decide (461168601842738790<n))=true:=by rcases E with h|h<;>simp[h]
     rw[if_pos E,r]at K;rw[r,bJ,Y9,aY];exact z _ _ _ _ _ ⟨B,n,true,rfl,rfl,K,rfl⟩
    .have r:(a||decide (461168601842738790<n))=false:=by
      cases a with
      |true=>exact absurd (.inl rfl) E
      |false=>simp;omega
     rw[if_neg E,r]at K;have aC:¬461168601842738790<n:=λh=>E (.inr h);rw[r,bJ,X9,bQ,gp,qc rfl c5.u H q,ec,wrap_u8 Ω Ω,fo cH.u fA.u,wrap_u64 Ω Ω,wrap_u64 Ω Ω,aM,wrap_u64 Ω Ω];exact z _ _ _ _ _ ⟨B,_,false,rfl,rfl,K,rfl⟩
  .rintro ae t3 _ _ f af ⟨B,n,a,rfl,rfl,p,C⟩;rw[o6]at C p;rw[nF c5.u];refine b7 Ω ?_;have Y:=Jw p;have al:=p.1;have am:=p.2.1;have an:∀{x:Int},x=m.foldl e7 0->0<=x->x<=4611686018427387904->(V x8 (convert fA ao (.int .u64 x)) f λap=>
     V x8 (aJ .mul ao false false (Δ s) ap) f λaq=>(λv w'=>v=km l/\Ext w w') (.tuple #[aq,(Δ 0)]) f):=by
    intro x au N h1;rw[fo fA.u ao.u,wrap_i64 Ω Ω,gp];have hw:X7.wrap (s*x)=s*x:=by
     rcases I.1 with rfl|rfl<;>exact wrap_i64 Ω Ω
    rw[hw];refine⟨?_,M.trans B⟩;rw[Bb I (A6 O C),au]
   refine aW (λv j=>f=j/\v= .int .u64 (m.foldl e7 0)) ?_ ?_
   .rintro _ _ ⟨rfl,rfl⟩;have Z:=sb (l:=m) (n:=0) C ⟨Q1 _,Φ⟩;exact an rfl Z.1 Z.2
   intro R e;refine aW (λv j=>f=j/\v= .bool (a||decide (4611686018427387904<n))) ?_ ?_
   .rintro _ _ ⟨rfl,rfl⟩;rw[cj];refine⟨λh=>e _ _ ⟨rfl,?_⟩,λh=>e _ _ ⟨rfl,?_⟩⟩
    .have h':a=true\/4611686018427387904<n:=by simpa using h
     rw[Y,if_pos h']
    .have h':¬(a=true\/4611686018427387904<n):=by
      intro G;rcases G with G|G
      .simp[G]at h
      .simp[G]at h
     rw[Y,if_neg h']
   .intro aE aa;cases a with
    |true=>rw[bQ];exact aa _ _ ⟨rfl,rfl⟩
    |false=>rw[aY,bS];exact aa _ _ ⟨rfl,by rw[Bool.false_or]⟩
 .intro aw z;refine aW (λv U=>w=U/\∃c:Bool,v= .bool c/\(c=true↔l[0]?=σ 45)) ?_ ?_
  .rintro _ _ ⟨rfl,c,rfl,ab⟩;rw[cj];refine⟨λav=>?_,λr=>?_⟩
   .obtain⟨m,rfl⟩:∃m,l=45::m:=by
     have:=ab.1 av;cases l with
     |nil=>simp at this
     |cons x m=>exact⟨m,by simp at this;rw[this]⟩
    rw[Ao (y:=1) (i:=1) rfl c5.u Ξ];exact z _ _ _ ⟨Ext.refl _,m,-1,rfl,rfl,λb A=>L b (.tail _ A),by simp at W;omega,A8⟩
   .refine z _ _ _ ⟨Ext.refl _,l,1,rfl,rfl,L,W,Ba λb A he=>?_⟩;subst he;have:=ab.2 A;rw[r]at this;cases this
  .intro R e;rw[nF c5.u,bS,aj];refine⟨λh=>?_,λh=>e _ _ ⟨rfl,false,rfl,?_⟩⟩
   .obtain⟨b,A⟩:=aD (l:=l) (i:=0) Ω;rw[qc (y:=0) (i:=0) rfl c5.u L A,bb];refine e _ _ ⟨rfl,_,rfl,?_⟩;rw[decide_eq_true_eq,A];exact⟨λh=>by rw[h],λh=>Z0 h⟩
   .have:l=[]:=b9 Ω;subst this;simp
theorem NV{s:Go.Sem x3}(h:V x8 s w λu=>u=v)(hk:K v):V x8 s w K:=by
 obtain⟨u,h1,rfl⟩:=h;exact⟨u,h1,hk⟩
abbrev hc:Type:=Λ×Int
def fO(x:hc):List x3:=[bU x.1,Δ x.2]
theorem wy(x:hc):∀u∈fO x,u.oneCell'=true:=by
 intro u hu;simp[fO]at hu;rcases hu with rfl|rfl<;>rfl
def iV(w:x4)(v:x3)(L:List hc):Prop:=cc w 2 v L.length (L.flatMap fO)
theorem wz{g:Nat}{L:List hc}(h:be fO 2 cr w g v L):iV w v L:=h.sl
theorem Dh{L:List hc}{a:r9}(h:iV w v L):V x8 (W7 #[fm] a #[v]) w K=K (Δ (L.length:Int)):=by
 obtain⟨_,_,_,_,_,rfl,_⟩:=h;exact hQ fm.u
theorem NW{cs:List x3}(h:cc w k v n cs)(f:ae S w w')(p:∀r,leadsTo v r->¬S r):cc w' k v n cs:=by
 obtain⟨h1,b,o,base,cap,rfl,q,s,e,x⟩:=h;refine⟨h1,b,o,base,cap,rfl,q,s,e,?_⟩;rcases Q2 n with a|a
 .have:cs=[]:=b9 (by rw[h1,a,Nat.zero_mul]);subst this;intro j v y;simp at y
 .have z:=e a;exact hP f (p b ⟨⟨b,o,ν⟩,n,cap,by rw[z],rfl⟩) x
theorem iV.aa{L:List hc}(h:iV w v L)(a:ae S w w')(e:∀r,leadsTo v r->¬S r):iV w' v L:=NW h a e
theorem Di{x:hc}{L:List hc}(h:iV w v (x::L))(a:∀b o,w.rangeAt b o (fO x)->K (.pointer (σ ⟨b,o,ν⟩))):V x8 (j5 fm v (Δ 0)) w K:=by
 obtain⟨_,b,o,base,cap,rfl,_,_,e,f⟩:=h;have:=eL (P:=x8) (w:=w) (K:=K) (k:=.i64) (c:=cap) fm.u cr.i (show 0<(x::L).length by simp) e;rw[show((0:Nat):Int)=0 from rfl]at this;rw[this];refine a _ _ λj u hu=>?_;have p:=(x5.1 hu).1;rw[Nat.zero_mul,Nat.add_zero];exact f j u (by rw[V4,Y1 p];exact hu)
theorem NX{x:hc}{L:List hc}(h:iV w v (x::L))(s:∀j,(∀w',iV w' v (x::L)->iV w' j L)->(∀r,leadsTo j r->leadsTo v r)->K j):V x8 (V8 fm v (σ (Δ 1)) ν ν) w K:=by
 have B:=h;obtain⟨_,b,o,base,cap,rfl,C,_⟩:=h;rw[hR fm.u cr.i (nv 1 1 rfl) jE fE Ξ Ω (o5 _)];refine s _ (λw' y=>?_) λr z=>?_
 .have:=cc.part (l:=1) (h:=(x::L).length) (m:=cap) y Ξ (o5 _) Ω (o5 _);have e:(((x::L).flatMap fO).drop (1*2)).take (((x::L).length-1)*2)=L.flatMap fO:=by
   rw[V4];have A:(L.flatMap fO).length=L.length*2:=io (k:=2) λ_ _=>rfl;show(L.flatMap fO).take _=_;rw[j9 (by rw[A,Z5,Nat.add_sub_cancel];exact o5 _)]
  rw[e]at this;exact this
 .obtain⟨a,n,c,f,p⟩:=z;split at f
  .cases f;exact⟨_,_,_,rfl,p⟩
  .cases base with
   |none=>cases f
   |some q=>cases f;exact⟨_,_,_,rfl,p⟩
theorem NY{g:Nat}{L:List hc}(x:y=(n:Int))(h:be fO 2 cr w g v L)(z:n<=L.length)(A:∀p,iV w p (L.take n)->(∀r,leadsTo p r->leadsTo v r)->K p):V x8 (V8 fm v ν (σ (Δ y)) ν) w K:=by
 have B:=wz h;obtain⟨_,b,o,base,cap,rfl,F,_⟩:=h.sl;rw[hR fm.u cr.i jD (nw n y x) fE (X5 _) Ω (o5 _)];refine A _ ?_ λr C=>?_
 .have:=cc.part (l:=0) (h:=n) (m:=cap) B (X5 _) z Ω (o5 _);have e:((L.flatMap fO).drop (0*2)).take ((n-0)*2)=(L.take n).flatMap fO:=by
   rw[Nat.zero_mul,List.drop_zero,Nat.sub_zero,qv (f:=fO) (k:=2) n λ_ _=>rfl]
  rw[e]at this;have E:(L.take n).length=n-0:=by rw[n9];omega
  unfold iV;rw[E];exact this
 .obtain⟨a,n,c,j,s⟩:=C;split at j
  .cases j;exact⟨_,_,_,rfl,s⟩
  .cases base with
   |none=>cases j
   |some q=>cases j;exact⟨_,_,_,rfl,s⟩
def NZ(w:x4)(pl:Λ)(v:x3)(w':x4):Prop:=Ext w w'/\∃a L,∃bad:Int,v= .tuple #[a,Δ bad]/\iV w' a L/\L.map (·.1)=(lex pl).1/\(0<=bad↔(lex pl).2=false)/\(∀r,leadsTo a r->w.heap.size<=r)/\∀r,leadsTo a r->∃c,ad w' r cr c
theorem N0{p:x3}(S:aH .u8 w p pl)(aA:Bytes pl)(bd:pl.length<=65536):ai x8 He [p] w (NZ w pl):=by
 refine ay func118 ?_;rw[aV cL.u S];refine pO.range pl.length (λi _ _ A N J=>Ext w J/\∃g L,∃(q:List (Λ))(B:Λ)(op:Bool),N= .bool op/\be fO 2 cr J g A L/\L.map (·.1)=(if op then q++[B]else q)/\(op=true->B.length<=i)/\L.length<=i/\ij (pl.drop i) q B op=lex pl/\∀r,leadsTo A r->w.heap.size<=r) S.le
  ⟨Ext.refl _,0,[],[],[],false,rfl,be.nil _ _ _ _ _,rfl,(λh=>by cases h),o5 _,JL pl,λr C=>(fg C).elim⟩ ?_ ?_
 rotate_left
 .rintro aB t3 A N J aC ⟨G,g,L,q,B,op,rfl,E,z,_,_,s,H⟩;refine b7 Ω ?_;rw[List.drop_length]at s;have s:(if op then q++[B]else q,true)=lex pl:=s;exact⟨G,A,L,-1,rfl,wz E,by rw[z,<-s],by rw[<-s];simp,H,λr C=>by obtain⟨rfl,c,Y⟩:=ee E C;exact⟨c,Y⟩⟩
 rintro i aB t3 A N J aC hi ⟨G,g,L,q,B,op,rfl,E,z,am,bf,s,H⟩ aE;obtain⟨b,Z⟩:=aD (l:=pl) hi;have bg:=aA b (x6 Z);have an:pl.drop i=b::pl.drop (i+1):=by rw[X8 hi,(x5.1 Z).2]
 rw[an]at s;unfold ij at s;refine bD Ω ?_;refine Ak (λ_ _ A N aa=>Ext w aa/\∃g L,∃(q:List (Λ))(B:Λ)(op:Bool),N= .bool op/\be fO 2 cr aa g A L/\L.map (·.1)=(if op then q++[B]else q)/\(op=true->B.length<=i+1)/\L.length<=i+1/\ij (pl.drop (i+1)) q B op=lex pl/\∀r,leadsTo A r->w.heap.size<=r) ?_ ?_
 .rintro bh bi a3 a4 aa aG;rw[aM];exact aE _ _ _ _ _ aG
 intro aw ao;rw[bc cL.u cH.i Ψ (S.ext G) Z];refine aW (λv O=>J=O/\v= .bool (cA b)) ?_ ?_
 rotate_left
 .intro ab y;unfold cA at y;rw[bb,aj];refine⟨λh=>y _ _ ⟨rfl,by rw[decide_eq_true (.inl h)]⟩,λh1=>?_⟩;rw[bb,aj];refine⟨λh=>y _ _ ⟨rfl,by rw[decide_eq_true (.inr (.inl h))]⟩,λU=>?_⟩;rw[bb,aj];refine⟨λh=>y _ _ ⟨rfl,by rw[decide_eq_true (.inr (.inr (.inl h)))]⟩,λaI=>?_⟩;rw[bb];refine y _ _ ⟨rfl,?_⟩;congr 1;rw[V7,decide_eq_true_eq,decide_eq_true_eq];exact⟨λh=>.inr (.inr (.inr h)),λh=>by rcases h with h|h|h|h;exact absurd h h1;exact absurd h U;exact absurd h aI;exact h⟩
 rintro _ _ ⟨rfl,rfl⟩;cases I:cA b with
 |true=>
  rw[bQ];rw[if_pos I]at s;exact ao _ _ _ _ _ ⟨G,g,L,_,[],false,rfl,E,z,(λh=>by cases h),Ω,s,H⟩
 |false=>
  rw[aY];rw[if_neg (by rw[I];simp)]at s;refine aW (λv O=>J=O/\v= .bool (!bO b)) ?_ ?_
  rotate_left
  .intro ab y;unfold bO at y;rw[aR,aj];refine⟨λh=>y _ _ ⟨rfl,by rw[decide_eq_false Ω];rfl⟩,λh=>?_⟩;rw[bS];refine y _ _ ⟨rfl,?_⟩;by_cases U:126<b
   .rw[decide_eq_true U,decide_eq_false Ω];rfl
   .rw[decide_eq_false U,decide_eq_true Ω];rfl
  rintro _ _ ⟨rfl,rfl⟩;cases hw:bO b with
  |false=>
   rw[X9,bQ];rw[if_neg (by rw[hw];simp)]at s;refine aW (λv O=>J=O/\∃W,iV J v W/\W.map (·.1)=q/\(∀r,leadsTo v r->w.heap.size<=r)/\∀r,leadsTo v r->leadsTo A r) ?_ ?_
   .rintro v _ ⟨rfl,W,ac,aJ,X,aK⟩;exact⟨G,v,W,(i:Int),rfl,ac,by rw[aJ,<-s],by rw[<-s];simp,X,λr C=>by obtain⟨rfl,c,Y⟩:=ee E (aK r C);exact⟨c,Y⟩⟩
   .intro ab y;cases op with
    |false=>
     rw[aY];rw[if_neg Ξ]at z;exact y _ _ ⟨rfl,L,wz E,z,H,λ_ h=>h⟩
    |true=>
     rw[bQ];rw[if_pos rfl]at z;have ad:L.length=q.length+1:=by have:=congrArg Q0 z;simpa using this
     rw[e9 fm.u E,ec,wrap_i64 Ω Ω];refine NY (n:=q.length) Ω E Ω λQ ac X=>y _ _ ⟨rfl,_,ac,?_,λr C=>H r (X r C),X⟩;rw[List.map_take,z,List.take_left]
  |true=>
   rw[Y9,aY];rw[if_pos hw]at s;refine aW (λA ae=>Ext w ae/\∃g M,∃x:hc,be fO 2 cr ae g A (M++[x])/\M.map (·.1)=q/\x.1=(if op then B else[])/\(M++[x]).length<=i+1/\∀r,leadsTo A r->w.heap.size<=r) ?_ ?_
   .rintro bj ae ⟨ap,aL,M,x,aN,aO,af,aP,aq⟩;intro ag ah _ _;have R:=aN.ext ah;have au:(M++[x])[M.length]?=σ x:=Ξ
    have bk:(M++[x]).length=M.length+1:=Ξ
    rw[e9 fm.u R,ec,wrap_i64 Ω Ω,dE (i:=M.length) Ω fm.u cr.i R Ω,aS cr.p rfl,aF (o:=M.length*2+0) Ψ (R.range au 0 _ rfl),aM,wrap_i64 Ω Ω];obtain⟨bl,av⟩:∃Q,aH .u8 ag Q [b]/\V x8 (V8 cL p (σ (Δ (i:Int))) (σ (Δ ((i:Int)+1))) ν) ag (λv=>v=Q):=by
     have aQ:=S.ext (ap.trans ah);have:=se (P:=x8) (low:=σ (Δ (i:Int))) (high:=σ (Δ ((i:Int)+1))) (K:=λv=>aH .u8 ag v [b]) cL.u cH.i aQ (nv i _ rfl) (nw (i+1) ((i:Int)+1) Ω) Ω Ω λQ ax=>by
      have e:((ints .u8 pl).drop (i*1)).take ((i+1-i)*1)=ints .u8 [b]:=by
       simp only[U2,show i+1-i=1 by omega];rw[ints,<-List.map_drop,<-List.map_take,an];rfl
      rw[e]at ax;exact aH.of (n:=i+1-i) ax
     obtain⟨v,aT,aU⟩:=this;exact⟨v,aU,v,aT,rfl⟩
    refine NV av.2 ?_;have bm:x.1.length<=65536:=by
     rw[af];cases op with
     |true=>rw[if_pos rfl];have:=am rfl;omega
     |false=>simp
    rw[vf cL.u cH.u c5.u av.1,ve Θ,dE (i:=M.length) Ω fm.u cr.i R Ω,aS cr.p rfl];refine ph (f:=fO) (j:=0) (a:=x) (a':=(x.1++[b],x.2)) c5.i rfl rfl R au rfl Ω λbn aX bo az=>?_;have e:(M++[x]).set M.length (x.1++[b],x.2)=M++[(x.1++[b],x.2)]:=by
     rw[T8 _ _ (o5 _),U4];rfl
    rw[e]at az;refine ao _ _ _ _ _ ⟨(ap.trans ah).then aX (λr C he=>by have:=aq r he;omega),aL,_,q,x.1++[b],true,rfl,az,by rw[Z2,aO];rfl,λ_=>?_,by simp at aP ⊢;omega,?_,aq⟩
    .rw[o7,af];cases op with
     |true=>rw[if_pos rfl];have:=am rfl;simp;omega
     |false=>simp
    .rw[<-s,af];cases op with
     |true=>rfl
     |false=>rfl
   .intro ab y;cases op with
    |true=>
     rw[bJ,Y9,aY];rw[if_pos rfl]at z;have ad:L.length=q.length+1:=by have:=congrArg Q0 z;simpa using this
     obtain⟨M,x,rfl⟩:∃M x,L=M++[x]:=by
      have:L≠[]:=λh=>by rw[h]at ad;simp at ad
      exact⟨L.dropLast,L.getLast this,(List.dropLast_concat_getLast this).symm⟩
     rw[Z2]at z;obtain⟨aZ,ak⟩:=List.append_inj' z Ξ;refine y _ _ ⟨G,g,M,x,E,aZ,?_,Ω,H⟩;rw[if_pos rfl];have ak:[x.1]=[B]:=ak;exact(List.cons.inj ak).1
    |false=>
     rw[bJ,X9,bQ];rw[if_neg Ξ]at z;rw[dn (cs:=#[bU [],Δ (i:Int)]) Ψ];refine h2 (f:=fO) (a:=(([],(i:Int)):hc)) fm.u cr.i Ω rfl rfl λv9 bp bq br al a1=>?_;have a2:=E.ext al;refine ip (f:=fO) (a:=(([],(i:Int)):hc)) fm.u cr.i rfl a2 (by simpa using a1.sl) (wy _) Ω Ω λQ a6 bt a7 a8 ba=>?_;have bu:=G.size;have z9:=al.size;refine y _ _ ⟨(G.trans al).then ba (λr C he=>by have:=H r he;omega),a6,L,_,a7,z,rfl,Θ,λr C=>?_⟩;rcases a8 r C with h|h
     .exact H r h
     .omega
structure wA where
 v:x3
 t:Λ
 c:Int
def n5(y:wA):List x3:=[y.v,Δ y.c]
def kx(w:x4)(g:Nat)(v:x3)(l:List (Λ×Int)):Prop:=∃L:List wA,be n5 2 ch w g v L/\(∀y∈L,∃gy,aq .i64 ao w gy y.v y.t)/\L.map (λy=>(y.t,y.c))=l
structure iW where
 aL:x3
 szv:x3
 o:Int
 cb:x3
def e2(h:iW):List x3:=[h.aL,h.szv,Δ h.o,h.cb]
def gQ(w:x4)(h:iW)(x:cw):Prop:=(∃g,aq .i64 ao w g h.aL x.scope)/\(∃g,aq .i64 ao w g h.szv x.sizes)/\h.o=x.other/\∃g,kx w g h.cb x.lines
def hd(w:x4)(r:Nat):Prop:=∃e c,ad w r e c/\e≠ao/\e≠ch
theorem eH{g:Nat}(h:aq .i64 ao w g v l)(f:ae S w w')(j:∀r,S r->hd w r\/w.heap.size<=r):aq .i64 ao w' g v l:=br h f λr a I=>by
 rcases j r I with⟨e,c,p,q,_⟩|s
 .exact ce h p (λhe=>q he.symm) a rfl
 .obtain⟨x,y⟩:=bR h a;omega
theorem wB{α:Type}{f:α->List x3}{g:Nat}{L:List α}(h:be f k e w g v L)(p:ae S w w')(q:∀r,S r->(∃a c,ad w r a c/\a≠e)\/w.heap.size<=r):be f k e w' g v L:=h.aa p λr j I=>by
 rcases q r I with⟨a,c,s,x⟩|y
 .exact cO h s (λhe=>x he.symm) j
 .obtain⟨z,A⟩:=h.leads j;omega
theorem kx.dR{g:Nat}{l:List (Λ×Int)}(h:kx w g v l)(a:ae S w w')(f:∀r,S r->hd w r\/w.heap.size<=r):kx w' g v l:=by
 obtain⟨L,h1,j,p⟩:=h;refine⟨L,wB h1 a λr q=>(f r q).imp (λ⟨e,c,s,_,x⟩=>⟨e,c,s,x⟩) id,λy z=>?_,p⟩;obtain⟨gy,hm⟩:=j y z;exact⟨gy,eH hm a f⟩
theorem gQ.dR{h:iW}{x:cw}(ap:gQ w h x)(a:ae S w w')(e:∀r,S r->hd w r\/w.heap.size<=r):gQ w' h x:=by
 obtain⟨⟨g1,h1⟩,⟨f,j⟩,p,q,s⟩:=ap;exact⟨⟨g1,eH h1 a e⟩,⟨f,eH j a e⟩,p,q,s.dR a e⟩
theorem gQ.ext{h:iW}{x:cw}(ap:gQ w h x)(a:Ext w w'):gQ w' h x:=ap.dR (a.aa λ_=>False) λ_ h=>h.elim
theorem gQ.one{h:iW}{x:cw}(ap:gQ w h x):∀u∈e2 h,u.oneCell'=true:=by
 obtain⟨⟨g1,h1⟩,⟨f,a⟩,j,p,L,e,_⟩:=ap;intro u hu;simp[e2]at hu;rcases hu with rfl|rfl|rfl|rfl
 .exact h1.ls.cells.2
 .exact a.ls.cells.2
 .rfl
 .exact (eS e.sl).2
def ma(w:x4)(a:x3)(f:List hc)(gs:Nat)(sv:x3)(L:List iW)(e:List cw):Prop:=(iV w a f/\∀r,leadsTo a r->∃c,ad w r cr c)/\be e2 4 a6 w gs sv L/\e.length=L.length/\∀(i:Nat)h x,L[i]?=σ h->e[i]?=σ x->gQ w h x
theorem ma.dR{p:x3}{y:List hc}{gs:Nat}{L:List iW}{z:List cw}(h:ma w p y gs sv L z)(j:ae S w w')(q:∀r,S r->(∃e c,ad w r e c/\e≠ao/\e≠ch/\e≠cr/\¬leadsTo sv r)\/w.heap.size<=r):ma w' p y gs sv L z:=by
 obtain⟨⟨h1,A⟩,B,E,F⟩:=h;have hw:∀r,leadsTo p r->¬S r:=λr a I=>by
  obtain⟨c,f⟩:=A r a;rcases q r I with⟨e,G,C,_,_,s,_⟩|H
  .exact s (fh C f)
  .have:=f.lt;omega
 refine⟨⟨h1.aa j hw,λr a=>?_⟩,B.aa j λr a I=>?_,E,λi ap x hi J=>(F i ap x hi J).dR j λr a=>(q r a).imp (λ⟨e,c,f,K,M,_⟩=>⟨e,c,f,K,M⟩) id⟩
 .obtain⟨c,f⟩:=A r a;exact⟨c,f.aa j (hw r a)⟩
 .rcases q r I with⟨e,G,C,_,_,_,s⟩|H
  .exact s a
  .obtain⟨N,O⟩:=B.leads a;omega
def gG(a:x3)(e f bad h big j told:Int)(sv:x3):List x3:=[a,Δ e,Δ f,Δ bad,Δ h,Δ big,Δ j,Δ told,sv]
def N1(N:Nat)(so:Option aE)(a:List hc)(e bad big told:Int)(L:List iW)(f:List cw):Prop:=match so with
 |some s=>bad=0/\e≠0/\(big≠0↔s.big=true)/\(s.big=false->told=s.told)/\True/\a.map (·.1)=s.toks/\(∀t∈s.toks,Bytes t/\t.length<=65536)/\f.map (λx=>(x.sizes,x.lines))=s.shared/\L.length+a.length<=100000
 |none=>bad≠0/\L.length<=N
def bN(w:x4)(g B:Nat)(H:af)(N:Nat)(so:Option aE):Prop:=100000<=N/\∃w0 a e gs sv L f,∃(j h bad p big q told:Int),w0.heap.size=B/\ae (λr=>r=g) w0 w/\(∃c,ad w0 g bC c)/\ad w g bC (gG a j h bad p big q told sv)/\ma w0 a e gs sv L f/\(∀r,leadsTo sv r->H r)/\N1 N so e h bad big told L f
theorem ma.g{g:Nat}{e:x3}{f:List hc}{gs:Nat}{L:List iW}{j:List cw}(h:ma w e f gs sv L j)(q:ae (λr=>r=g) w w')(s:∃c,ad w g bC c):ma w' e f gs sv L j:=
 h.dR q λr a=>.inl (by
  have a:r=g:=a;subst a;obtain⟨c,p⟩:=s;exact⟨_,c,p,Φ,Φ,Φ,λx=>cO h.2.1 p Φ x⟩)
theorem bN.new{g:Nat}{H:af}{so:Option aE}(h:bN w g B H N so)(a:ae S w w')(e:∀r,S r->B<=r):bN w' g B H N so:=by
 obtain⟨s,w0,x,y,gs,sv,L,z,A,C,bad,E,big,F,told,h1,f,j,G,J,K,M⟩:=h;have p:g<w0.heap.size:=by obtain⟨c,O⟩:=j;exact O.lt
 exact⟨s,w0,x,y,gs,sv,L,z,A,C,bad,E,big,F,told,h1,⟨X0 f.size a.size,λr o q I p=>a.aU r o (f.aU r o q I p) I λP=>by
  have:=e r P;have:=(j6.1 q).1;omega⟩,j,G.aa a λI=>by have:=e g I;omega,J,K,M⟩
theorem bN.ext{g:Nat}{H:af}{so:Option aE}(h:bN w g B H N so)(a:Ext w w'):bN w' g B H N so:=h.new (a.aa λ_=>False) λ_ h=>h.elim
theorem bN.base{g:Nat}{H:af}{so:Option aE}(h:bN w g B H N so):bN w g w.heap.size H N so:=by
 obtain⟨e,w0,f,j,gs,sv,L,p,q,r,bad,s,big,x,told,h1,y,z,a,A,C,E⟩:=h;exact⟨e,w,f,j,gs,sv,L,p,q,r,bad,s,big,x,told,rfl,ae.refl _ _,⟨_,a⟩,a,A.g y z,C,E⟩
theorem bN.dR{g:Nat}{H:af}{so:Option aE}(h:bN w g B H N so)(j:ae S w w')(p:∀r,S r->(∃e c,ad w r e c/\e≠ao/\e≠ch/\e≠cr/\e≠bC/\¬H r)\/w.heap.size<=r):bN w' g w'.heap.size H N so:=by
 obtain⟨z,w0,q,s,gs,sv,L,x,A,C,bad,E,big,F,told,h1,G,J,f,K,y,M⟩:=h.base;have O:ma w q s gs sv L x:=K.g G J;have a:=f.aa j λI=>by
  rcases p g I with⟨e,c,a,_,_,_,P,_⟩|Y
  .exact P (fh a f)
  .have:=f.lt;omega
 refine⟨z,w',q,s,gs,sv,L,x,A,C,bad,E,big,F,told,rfl,ae.refl _ _,⟨_,a⟩,a,O.dR j λr Q=>(p r Q).imp (λ⟨e,c,a,R,U,V,_,W⟩=>⟨e,c,a,R,U,V,λX=>W (y r X)⟩) id,y,M⟩
theorem bN.lt{g:Nat}{H:af}{so:Option aE}(h:bN w g B H N so):g<B/\B<=w.heap.size:=by
 obtain⟨f,w0,j,p,gs,sv,L,q,r,s,bad,x,big,y,told,h1,a,⟨c,e⟩,_⟩:=h;have:=e.lt;have:=a.size;omega
theorem h6{g:Nat}{H:af}{so:Option aE}(h:bN w g B H N so):∃a,∃(e f bad j big p told:Int),∃sv,ad w g bC (gG a e f bad j big p told sv)/\(so.isSome=true↔bad=0):=by
 obtain⟨x,w0,a,y,gs,sv,L,z,e,f,bad,j,big,p,told,h1,A,C,r,E,F,q⟩:=h;refine⟨a,e,f,bad,j,big,p,told,sv,r,?_⟩;cases so with
 |none=>exact⟨(λh=>by cases h),λh=>absurd h q.1⟩
 |some s=>exact⟨λ_=>q.1,λ_=>rfl⟩
theorem lj{g:Nat}{H:af}{so:Option aE}(h:bN w g B H N so):V x8 (bP (Γ g)) w (λa=>V x8 (u6 bC a 3) w λt45=>V x8 (u5 ag t45) w λt46=>V x8 (aJ .eql ag false true t46 (Δ 0)) w K)=K (.bool so.isSome):=by
 obtain⟨f,j,q,bad,r,big,s,told,sv,e,hi⟩:=h6 h;rw[aQ bC.p 3 e rfl,bb];congr 2;rw[V7,decide_eq_true_eq];exact hi.symm
theorem qR{g:Nat}{H:af}{so:Option aE}(h:bN w g B H N so):V x8 (bP (Γ g)) w (λf=>V x8 (u6 bC f 3) w λt45=>V x8 (u5 ag t45) w λt46=>V x8 (aJ .neq ag false true t46 (Δ 0)) w K)=K (.bool (!so.isSome)):=by
 obtain⟨q,r,s,bad,x,big,y,told,sv,j,hi⟩:=h6 h;rw[aQ bC.p 3 j rfl,bK];congr 2;cases e:so.isSome with
 |true=>have a:=hi.1 e;simp[a]
 |false=>
  have a:bad≠0:=λa=>by rw[hi.2 a]at e;cases e
  simp[a]
def pt(w:x4)(g B:Nat)(H:af)(N:Nat)(so:Option aE)(w':x4):Prop:=ae (λr=>r=g) w w'/\bN w' g B H N so
theorem n7{g:Nat}{H:af}{so:Option aE}{e at_:Int}(h:bN w g B H N so)(he:e≠0):ai x8 np [Γ g,Δ e,Δ at_] w λ_ w'=>pt w g B H N ν w':=by
 refine ay func123 ?_;rw[lj h];cases so with
 |none=>rw[S9,aY];exact⟨ae.refl _ _,h⟩
 |some s=>
  rw[S8,bQ];obtain⟨y,w0,f,z,gs,sv,L,A,j,q,bad,R,big,r,told,h1,C,E,G,I,K,M⟩:=h;rw[bX,aS bC.p rfl];refine bq (g:=g) (o:=3) ag.i rfl rfl G (by simp[gG]) λJ O S P=>?_;rw[bX,aS bC.p rfl];refine bq (g:=g) (o:=4) ag.i rfl rfl P (by simp[gG]) λU Q V a=>?_;have a:ad U g bC (gG f j q e at_ big r told sv):=a;have x:=O.trans Q;obtain⟨_,_,_,_,_,_,_,_,W⟩:=M;exact⟨x,y,w0,f,z,gs,sv,L,A,j,q,e,at_,big,r,told,h1,C.trans x,E,a,I,K,he,Ω⟩
theorem mO{g:Nat}{H:af}{so:Option aE}{b:Bool}{at_:Int}(h:bN w g B H N so):ai x8 rR [Γ g,.bool b,Δ at_] w λ_ w'=>pt w g B H N (so.map (ba b)) w':=by
 refine ay func120 ?_;obtain⟨I,w0,e,K,gs,sv,L,M,f,j,bad,q,big,X,told,h1,O,P,r,Q,R,x⟩:=id h;refine aW (λv J=>w=J/\v= .bool (b&&decide (big=0)&&so.isSome)) ?_ ?_
 .rintro _ _ ⟨rfl,rfl⟩;rw[cj];refine⟨λS=>?_,λY=>⟨ae.refl _ _,I,w0,e,K,gs,sv,L,M,f,j,bad,q,big,X,told,h1,O,P,r,Q,R,?_⟩⟩
  .rw[U1,U1]at S;obtain⟨⟨Z,ak⟩,aa⟩:=S;rw[bX,aS bC.p rfl];refine bq (g:=g) (o:=5) ag.i rfl rfl r (by simp[gG]) λJ ab al ac=>?_;rw[bX,aS bC.p rfl];refine bq (g:=g) (o:=6) ag.i rfl rfl ac (by simp[gG]) λU ah am y=>?_;have y:ad U g bC (gG e f j bad q 5 at_ told sv):=y;have V:=ab.trans ah;refine⟨V,I,w0,e,K,gs,sv,L,M,f,j,bad,q,5,at_,told,h1,O.trans V,P,y,Q,R,?_⟩;cases so with
   |none=>cases aa
   |some s=>
    obtain⟨z,A,W,C,E⟩:=x;exact⟨z,A,⟨λ_=>by show(s.big||b)=true;rw[Z,Bool.or_true],λ_=>Ω⟩,λap=>C (U3.1 ap).1,E⟩
  .cases so with
   |none=>exact x
   |some s=>
    obtain⟨z,A,W,C,E⟩:=x;refine⟨z,A,?_,λap=>C (U3.1 ap).1,E⟩;show big≠0↔(s.big||b)=true;cases b with
    |false=>rw[Bool.or_false];exact W
    |true=>
     have a:big≠0:=by simpa using Y
     simp[a]
 .intro aw G;cases b with
  |false=>rw[aY];exact G _ _ ⟨rfl,Ξ⟩
  |true=>
   rw[bQ,aQ bC.p 5 r rfl,bb,aj];refine⟨λa=>?_,λa=>G _ _ ⟨rfl,by rw[decide_eq_false a];simp⟩⟩;rw[lj h];exact G _ _ ⟨rfl,by rw[decide_eq_true a];simp⟩
def jo(so:Option aE):Option (Λ×aE):=so.bind dU
theorem Dj{g:Nat}{H:af}{so:Option aE}(h:bN w g B H N so):ai x8 Hf [Γ g] w λv w'=>pt w g B H N ((jo so).map (·.2)) w'/\∃(t:Λ)(n:Int),v= .agg #[bU t,Δ n]/\Bytes t/\t.length<=65536/\∀q,jo so=σ q->t=q.1:=by
 have aG:=h.lt;refine ay func119 ?_;refine bw cr.i λa J bl y z=>?_;have h1:=h.ext y;have zero:∀{f:x4},pt J g B H N ν f->ad f a cr [.string ⟨#[]⟩,Δ 0]->jo so=ν->(V x8 (Instr.build cr #[]) f λt9=>
   aC x8 (o8 cr (Γ a) t9) f λ(_:Unit)U=>
   V x8 (do loadVar cr (<-asAddr (Γ a))) U λaH=>(λv w'=>pt w g B H N ((jo so).map (·.2)) w'/\∃(t:Λ)(n:Int),v= .agg #[bU t,Δ n]/\Bytes t/\t.length<=65536/\∀q,jo so=σ q->t=q.1) aH U):=by
  intro f j I Q;rw[dn (cs:=#[.string ⟨#[]⟩,Δ 0]) Ψ];refine bT (vs:=[.string ⟨#[]⟩,Δ 0]) cr.i rfl rfl (by intro v Z;simp at Z;rcases Z with rfl|rfl<;>rfl) I λaI ab bm aJ=>?_;rw[e6 cr.p cr.i rfl aJ.range,Q];have aK:=y.size;have bn:=aG;refine⟨⟨hx ((y.aa _).trans j.1) ab λr e he=>?_,j.2.new ab λr e=>?_⟩,[],0,rfl,(λb aL=>by cases aL),Ξ,λq R=>by cases R⟩
  .have he:r=a:=he;omega
  .have e:r=a:=e;omega
 rw[qR h1];cases so with
 |none=>
  rw[S9,X9,bQ];exact zero ⟨ae.refl _ _,h1⟩ z rfl
 |some s=>
 rw[S8,Y9,aY];obtain⟨aM,w0,bo,S,gs,sv,L,ac,ag,ah,bad,ak,big,al,told,aN,am,an,A,K,aO,aP⟩:=id h1;have aR:=K.g am an;obtain⟨⟨M,bp⟩,_⟩:=id aR;obtain⟨aT,ao,aU,aV,aW,ap,aq,aX,aZ⟩:=id aP;rw[aQ bC.p 0 A rfl,Dh M,bb,aj];refine⟨λau=>?_,λau=>?_⟩
 .have a1:S=[]:=b9 Ω;have C:s.toks=[]:=by rw[<-ap,a1];rfl
  have Q:jo (σ s)=ν:=by show dU s=ν;unfold dU;rw[C]
  intro f O _ _;have I:=A.ext O;rw[aQ bC.p 2 I rfl,aQ bC.p 1 I rfl];refine(n7 (h1.ext O) ao).mono ?_;rintro _ aI _ j;have a2:=z.lt;exact zero ⟨(O.aa _).trans j.1,j.2⟩ ((z.ext O).aa j.1 λhe=>by have he:a=g:=he;omega) Q
 .obtain⟨x,E,rfl⟩:∃x l,S=x::l:=by
   cases S with
   |nil=>exact absurd rfl au
   |cons x l=>exact⟨x,l,rfl⟩
  have C:s.toks=x.1::E.map (·.1):=by rw[<-ap];rfl
  have a6:jo (σ s)=σ (x.1,{s with toks:=E.map (·.1)}):=by show dU s=_;unfold dU;rw[C]
  have av:=aq x.1 (by rw[C];exact .head _);rw[aQ bC.p 0 A rfl];refine Di M λb o a7=>?_;rw[bF cr.p cr.i rfl a7];refine bw cr.i λaw br bt a8 ba=>?_;refine bT (vs:=fO x) cr.i rfl rfl (wy x) ba λbc bd bu ax=>?_;have P:Ext J bc:=a8.put bd Ω;have az:=A.ext P;rw[aQ bC.p 0 az rfl];refine NX (M.aa (P.aa λ_=>False) λ_ _ h=>h) λW aA be=>?_;have aB:=aA J M;rw[bX,aS bC.p rfl];refine bq (g:=g) (o:=0) fm.i (eS aB).1 (eS aB).2 az (by simp[gG]) λG X bx Y=>?_;have Y:ad G g bC (gG W ag ah bad ak big al told sv):=Y;have a2:=A.lt;have bz:=ax.lt;have bA:=z.lt;have aK:=y.size;have bf:ad G aw cr (fO x):=ax.aa X λhe=>by have he:aw=g:=he;omega
  rw[bF cr.p cr.i rfl bf.range];have bg:ad G a cr [.string ⟨#[]⟩,Δ 0]:=(ad.ext z P).aa X λhe=>by have he:a=g:=he;omega
  refine bT (vs:=fO x) cr.i rfl rfl (wy x) bg λbB aD bD bh=>?_;rw[e6 cr.p cr.i rfl bh.range];have aF:ae (λr=>r=g) J G:=(P.aa _).trans X;rw[a6];refine⟨⟨hx ((y.aa _).trans aF) aD λr e he=>?_,?_⟩,x.1,x.2,rfl,av.1,av.2,λq R=>by cases R;rfl⟩
  .have he:r=a:=he;omega
  .have bi:ma w0 W E gs sv L ac:=⟨⟨aA w0 K.1.1,λr e=>K.1.2 r (be r e)⟩,K.2⟩;have bj:bN G g B H N (σ {s with toks:=E.map (·.1)}):=⟨aM,w0,W,E,gs,sv,L,ac,ag,ah,bad,ak,big,al,told,aN,am.trans aF,an,Y,bi,aO,aT,ao,aU,aV,aW,rfl,λt bk=>aq t (by rw[C];exact .tail _ bk),aX,by simp at aZ;omega⟩;refine bj.new aD λr e=>?_;have e:r=a:=e;omega
theorem N2{lo hi:Int}{so:Option aE}:a7 lo hi so=match jo so with
  |none=>ν
  |some (w,s)=>match gA w with
   |none=>ν
   |some n=>if lo<=n/\n<=hi then σ (n,s)else ν:=by
 cases so with
 |none=>rfl
 |some s=>rfl
theorem ky{g:Nat}{H:af}{so:Option aE}{lo hi:Int}(h:bN w g B H N so):ai x8 lM [Γ g,Δ lo,Δ hi] w λv w'=>pt w g B H N ((a7 lo hi so).map (·.2)) w'/\∃n at_:Int,v= .tuple #[Δ n,Δ at_]/\(∀q,a7 lo hi so=σ q->n=q.1)/\(a7 lo hi so=ν->n=0):=by
 have az:=h.lt;refine ay func121 ?_;refine(Dj h).mono ?_;rintro _ J _ ⟨⟨M,h1⟩,t,at_,rfl,X,aA,O⟩;have aB:=h1.lt;refine bw cr.i λY U aC Z ab=>?_;refine bT (vs:=[bU t,Δ at_]) cr.i rfl rfl (by intro v P;simp at P;rcases P with rfl|rfl<;>rfl) ab λac ad aD Q=>?_;have R:Ext J ac:=Z.put ad Ω;have ag:=h1.ext R;rw[aG cr.p 0 Q rfl];refine(NU X Ω).mono ?_;rintro _ C _ ⟨rfl,E⟩;have G:=ag.ext E;have S:=Q.ext E;have ah:=R.trans E;have aF:=M.size;obtain⟨n,e,ak,I,al⟩:∃n e:Int,km t= .tuple #[Δ n,Δ e]/\(∀m,gA t=σ m->n=m/\e=0)/\(gA t=ν->e≠0):=by
  unfold km;cases gA t with
  |none=>exact⟨0,4,rfl,(λm hm=>by cases hm),λ_=>Ω⟩
  |some m=>exact⟨m,0,rfl,(λm hm=>by cases hm;exact⟨rfl,rfl⟩),λh=>by cases h⟩
 rw[ak,bz,bA];have a:=N2 (lo:=lo) (hi:=hi) (so:=so);have V:ae (λr=>r=g) w C:=M.trans (ah.aa _);refine dl (λx=>ae (λr=>r=g) C x/\bN x g B H N ((a7 lo hi so).map (·.2))) ?_ ?_
 .rintro x ⟨y,s⟩;rw[qR s];cases z:a7 lo hi so with
  |none=>
   rw[z]at s;rw[Option.map_none,S9,X9,bQ];exact⟨⟨V.trans y,s⟩,0,0,rfl,(λq z=>by cases z),λ_=>rfl⟩
  |some q=>
   rw[z]at s a;rw[Z7,S8,Y9,aY];intro aH K _ _;have am:=(S.aa y λhe=>by have he:Y=g:=he;omega).ext K;rw[aG cr.p 1 am rfl];refine⟨⟨(V.trans y).trans (K.aa _),s.ext K⟩,n,at_,rfl,λaI an=>?_,λh=>by cases h⟩;cases an;cases j:jo so with
   |none=>rw[j]at a;cases a
   |some p=>
    obtain⟨bn,s1⟩:=p;have L:=O (bn,s1) j;subst L;rw[j]at a;simp only at a;cases f:gA t with
    |none=>rw[f]at a;cases a
    |some m=>
     rw[f]at a;simp only at a;split at a
     .cases a;exact(I m f).1
     .cases a
 .intro aw W;refine aW (λv x=>C=x/\∃c:Bool,v= .bool c/\(c=true->a7 lo hi so=ν)/\(c=false->(a7 lo hi so).map (·.2)=(jo so).map (·.2))) ?_ ?_
  .rintro _ _ ⟨rfl,c,rfl,ao,aq⟩;rw[cj];refine⟨λh=>?_,λh=>W _ ⟨ae.refl _ _,by rw[aq h];exact G⟩⟩;rw[aG cr.p 1 S rfl];refine(n7 G Ω).mono ?_;rintro _ x _ ⟨y,s⟩;exact W _ ⟨y,by rw[ao h];exact s⟩
  .intro aJ A;rw[lj G];cases j:jo so with
   |none=>
    rw[j]at a;simp only at a;rw[Option.map_none,S9,aY];exact A _ _ ⟨rfl,false,rfl,(λh=>by cases h),λ_=>by rw[a,j];rfl⟩
   |some p=>
    obtain⟨bn,s1⟩:=p;have L:=O (bn,s1) j;subst L;rw[j]at a;simp only at a;rw[Z7,S8,bQ,bK,aj];refine⟨λhe=>?_,λhe=>?_⟩
    .refine A _ _ ⟨rfl,true,rfl,λ_=>?_,λh=>by cases h⟩;cases f:gA t with
     |none=>rw[a,f]
     |some m=>exact absurd (I m f).2 he
    .have au:e=0:=X2.1 he;cases f:gA t with
     |none=>exact absurd au (al f)
     |some m=>
      rw[f]at a;simp only at a;have av:=(I m f).1;subst av;rw[aR,aj];refine⟨λax=>A _ _ ⟨rfl,true,rfl,λ_=>by rw[a,if_neg Ω],λh=>by cases h⟩,λax=>?_⟩;rw[bS];refine A _ _ ⟨rfl,_,rfl,λap=>?_,λap=>?_⟩
      .rw[a,if_neg (by have:=of_decide_eq_true ap;omega)]
      .rw[a,if_pos (by have:=of_decide_eq_false ap;omega),j];rfl
theorem wC{a8 bv:x3}{a b:Λ}(e:aH .i64 w a8 a)(s:aH .i64 w bv b):ai x8 rS [a8,bv] w λv w'=>v= .bool (decide (a=b))/\Ext w w':=by
 refine ay func174 ?_;rw[aV au.u e,aV au.u s,bK,aj];refine⟨λh=>⟨by rw[decide_eq_false];intro he;rw[he]at h;exact h rfl,Ext.refl _⟩,λh=>?_⟩;have z:a.length=b.length:=by have:=X2.1 h;omega
 rw[aV au.u e];refine b3.range a.length (λi _ J=>Ext w J/\a.take i=b.take i) e.le ⟨Ext.refl _,rfl⟩ ?_ ?_
 .rintro i _ J k hi ⟨q,f⟩ hk;obtain⟨x,j⟩:=aD (l:=a) hi;obtain⟨y,r⟩:=aD (l:=b) (i:=i) Ω;refine bD Ω ?_;intro U A _ _;have p:=q.trans A;rw[bc au.u ao.i Ψ (e.ext p) j,bc au.u ao.i Ψ (s.ext p) r,bK,aj];refine⟨λB=>⟨by rw[decide_eq_false];intro he;rw[he,r]at j;exact B (Z0 j).symm,p⟩,λhe=>?_⟩;rw[aM];refine hk _ _ ⟨p,?_⟩;rw[r8,r8,f,j,r,X2.1 he]
 .rintro _ J k ⟨q,f⟩;rw[aR,aj];refine⟨λh=>Ω,λ_=>⟨?_,q⟩⟩;rw[o6,z,o6]at f;rw[decide_eq_true f]
def hf(w:x4)(B a:Nat)(x:cw):Prop:=∃aL szv cb g1 e f,ad w a a6 [aL,szv,Δ x.other,cb]/\aq .i64 ao w g1 aL x.scope/\aq .i64 ao w e szv x.sizes/\kx w f cb x.lines/\(∀r,leads aL r\/leads szv r->B<=r)/\(∀r,leads aL r->¬leads szv r)/\B<=a
def Dk(w:x4)(r:Nat):Prop:=(∃e c,ad w r e c/\e≠ao/\e≠ch/\e≠a6)\/w.heap.size<=r
theorem hf.dR{f:Nat}{x:cw}(h:hf w B f x)(a:ae S w w')(q:∀r,S r->Dk w r):hf w' B f x:=by
 obtain⟨aL,szv,cb,g1,s,y,h1,z,A,C,E,F,G⟩:=h;have j:∀r,S r->hd w r\/w.heap.size<=r:=λr H=>(q r H).imp (λ⟨e,c,p,J,K,_⟩=>⟨e,c,p,J,K⟩) id;refine⟨aL,szv,cb,g1,s,y,h1.aa a λI=>?_,eH z a j,eH A a j,C.dR a j,E,F,G⟩;rcases q f I with⟨e,c,p,_,_,L⟩|M
 .exact L (fh p h1)
 .have:=h1.lt;omega
theorem hf.ext{x:cw}(h:hf w B a x)(e:Ext w w'):hf w' B a x:=h.dR (e.aa λ_=>False) λ_ h=>h.elim
theorem kz{g:Nat}{H:af}{so:Option aE}(h:bN w g B H N so):∀r,r=g->Dk w r:=λr a=>by
 subst a;obtain⟨f,j,p,bad,q,big,s,told,sv,e,_⟩:=h6 h;exact .inl ⟨_,_,e,Φ,Φ,Φ⟩
def gR(g B:Nat):af:=λr=>r=g\/B<=r
theorem N3{n:Int}{acc:Λ}{s:aE}:cM (λacc s=>match bd 0 (n-1) s with
 |none=>ν
 |some (v,s)=>if v∈acc then ν else σ (v,s)) (k+1) acc s=match bd 0 (n-1) s with
  |none=>ν
  |some (v,s')=>if v∈acc then ν else cM (λacc s=>match bd 0 (n-1) s with
 |none=>ν
 |some (v,s)=>if v∈acc then ν else σ (v,s)) k (acc++[v]) s':=by
 rw[cM];cases bd 0 (n-1) s with
 |none=>rfl
 |some q=>
  obtain⟨v,s'⟩:=q;simp only;by_cases a:v∈acc
  .rw[if_pos a,if_pos a]
  .rw[if_neg a,if_neg a]
def Dl(n:Int)(k:Nat)(acc:Λ)(s:aE):Option (Λ×aE):=cM (λacc s=>match bd 0 (n-1) s with
 |none=>ν
 |some (v,s)=>if v∈acc then ν else σ (v,s)) k acc s
theorem Dm{g f ar:Nat}{H:af}{s:aE}{so:Option aE}{ac:x3}{aP aQ:x4->Prop}(ap:bN w g B H N so)(b5:so=σ s\/(so=ν/\ar=0))(b6:hf w B f ⟨[],[],0,[]⟩)(b7:∀c,ad w f a6 c->c[3]?=σ (.slice ν 0 0))(bG:aq .i64 ao w gz ac all)(b9:∀r,leads ac r->r<B)(dk:all.length<=100001)(dl:ar<=4611686018427387904)(aT:so=σ s->s.toks.length<=100000)(ax:so=σ s->∀w' x,ae (gR g B) w w'->e8 all.length ar s=ν->bN w' g B H N ν->hf w' B f x->aP w')(ca:so=ν->aQ w)(aU:so=σ s->∀w' scope s',ae (gR g B) w w'->e8 all.length ar s=σ (scope,s')->bN w' g B H N (σ s')->hf w' B f ⟨scope,scope.map λv=>all.getD v.toNat 0,0,[]⟩->(∀c,ad w' f a6 c->c[3]?=σ (.slice ν 0 0))->aQ w'):
  b1 (Δ 0) w λi z k=>
   cv (α:=x3->x4->Prop) (λ(cc:x3)(O:x4)=>
    Split cc (V x8 (W7 #[au] ag #[ac]) O λt53=>
   V x8 (aJ .sub ao false true t53 (Δ 1)) O λcd=>
   ai x8 lM [Γ g,(Δ 0),cd] O λt55 A=>
   V x8 (Y2 t55 0) A λaX=>
   V x8 (Y2 t55 1) A λcg=>
   V x8 (bP (Γ g)) A λch=>
   V x8 (u6 bC ch 3) A λci=>
   V x8 (u5 ag ci) A λcj=>
   V x8 (aJ .neq ag false true cj (Δ 0)) A λck=>
   Split ck (aP A)
    (V x8 (u6 a6 (Γ f) 0) A λcl=>
   V x8 (u5 au cl) A λbH=>
   V x8 (W7 #[au] ag #[bH]) A λt66=>
   b1 (Δ 0) A λaZ E cm=>
    V x8 (aJ .lss ag false false aZ t66) E λcn=>
    Split cn (V x8 (j5 au bH aZ) E λcp=>
    V x8 (u5 ao cp) E λt70=>
    V x8 (aJ .eql ao false false t70 aX) E λcq=>
    Split cq (ai x8 np [Γ g,(Δ 4),cg] E λt76 a1=>aP a1)
     (V x8 (aJ .add ag false true aZ (Δ 1)) E λcr=>
    cm cr E))
     (V x8 (u6 a6 (Γ f) 0) E λct=>
   V x8 (u5 au ct) E λcu=>
   aC x8 (Y8 au 1 #[(0,aX)]) E λcw ah=>
   aC x8 (Z3 #[au,au] au #[cu,cw]) ah λcz a2=>
   V x8 (u6 a6 (Γ f) 0) a2 λcA=>
   aC x8 (o8 au cA cz) a2 λ(_:Unit)R=>
   eg R λU=>
   V x8 (u6 a6 (Γ f) 1) U λa8=>
   V x8 (u5 au a8) U λbI=>
   V x8 (j5 au ac aX) U λcB=>
   V x8 (u5 ao cB) U λcC=>
   aC x8 (Y8 au 1 #[(0,cC)]) U λcD ab=>
    (Ext U ab\/bZ x8 (u5 au a8) bI ab/\bZ x8 (u6 a6 (Γ f) 1) a8 ab/\True)/\
   aC x8 (Z3 #[au,au] au #[bI,cD]) ab λcE ba=>
    V x8 (u6 a6 (Γ f) 1) ba λcF=>
    aC x8 (o8 au cF cE) ba λ(_:Unit)W=>
     V x8 (aJ .add ao false true i (Δ 1)) W λcG=>
   k cG W)))
     (aQ O)) λbJ=>
   V x8 (aJ .lss ao false false i (Δ (ar:Int))) z λcH=>
   Split cH (V x8 (bP (Γ g)) z λcI=>
   V x8 (u6 bC cI 3) z λcJ=>
   V x8 (u5 ag cJ) z λt45=>
   V x8 (aJ .eql ag false true t45 (Δ 0)) z λt46=>
   bJ t46 z)
    (bJ (.bool false) z):=by
 have dm:=ap.lt;rcases b5 with rfl|⟨rfl,rfl⟩
 rotate_left
 .refine b1.range 0 (λ_ J=>w=J) Ω rfl (λi J k hi=>Ω) ?_;rintro _ k rfl;refine aW (λv O=>w=O/\v= .bool false) ?_ ?_
  .rintro _ _ ⟨rfl,rfl⟩;rw[aY];exact ca rfl
  .intro aw ak;rw[aR,aj];exact⟨λh=>Ω,λ_=>ak _ _ ⟨rfl,rfl⟩⟩
 have h:=ap;have aT:=aT rfl;have ax:=ax rfl;have aU:=aU rfl;refine b1.range ar (λi z=>∃scope P,ae (gR g B) w z/\bN z g B H N (σ P)/\hf z B f ⟨scope,scope.map λv=>all.getD v.toNat 0,0,[]⟩/\scope.length=i/\scope.length+P.toks.length<=100000/\e8 all.length ar s=Dl all.length (ar-i) scope P/\∀c,ad z f a6 c->c[3]?=σ (.slice ν 0 0)) Ω ⟨[],s,ae.refl _ _,h,b6,rfl,by simpa using aT,rfl,b7⟩ ?_ ?_
 rotate_left
 .rintro z k ⟨scope,P,ay,S,az,bK,cK,C,be⟩;refine aW (λv O=>z=O/\v= .bool false) ?_ ?_
  .rintro _ _ ⟨rfl,rfl⟩;rw[aY];rw[U4]at C;exact aU z scope P ay C S az be
  .intro aw ak;rw[aR,aj];exact⟨λh=>Ω,λ_=>ak _ _ ⟨rfl,rfl⟩⟩
 rintro i z k hi ⟨scope,P,ay,S,az,bK,cK,C,be⟩ hk;refine aW (λv O=>z=O/\v= .bool true) ?_ ?_
 rotate_left
 .intro aw ak;refine bD Ω ?_;rw[lj S];exact ak _ _ ⟨rfl,rfl⟩
 rintro _ _ ⟨rfl,rfl⟩;rw[bQ];have bL:∀{w':x4},ae (gR g B) w w'->aq .i64 ao w' gz ac all:=λcL=>br bG cL λr e I=>by
  rcases I with rfl|I
  .obtain⟨cM,G,al,bad,cN,big,cP,told,sv,K,_⟩:=h6 h;exact ce bG K Φ e rfl
  .have:=b9 r e;omega
 rw[aV au.u (bL ay).ls,ec,wrap_i64 Ω Ω];refine(ky S).mono ?_;rintro _ A _ ⟨⟨bf,M⟩,n,at_,rfl,bg,cQ⟩;rw[bz,bA,qR M];have bh:=az.dR bf (kz S);have bi:ae (gR g B) w A:=ay.trans (bf.mono λr _ h=>.inl h);have cR:=N3 (n:=(all.length:Int)) (k:=ar-(i+1)) (acc:=scope) (s:=P);have cS:ar-i=(ar-(i+1))+1:=Ω
 rw[cS]at C;unfold Dl at C;rw[cR]at C;have cT:a7 0 ((all.length:Int)-1) (σ P)=bd 0 ((all.length:Int)-1) P:=rfl;rw[cT]at M bg cQ ⊢;cases aA:bd 0 ((all.length:Int)-1) P with
 |none=>
  rw[aA]at M C;rw[Option.map_none,S9,X9,bQ];exact ax A _ bi C M bh
 |some q=>
  obtain⟨v,bj⟩:=q;rw[aA]at M C bg;have cU:n=v:=bg _ rfl;subst cU;have dn:=(hY aA).1;have dp:=(dK aA).1;simp only at C;rw[Z7,S8,Y9,aY];have M:bN A g B H N (σ bj):=M;obtain⟨aL,szv,cb,g1,cV,bk,f1,f2,f3,f4,f5,f6,f7⟩:=id bh;rw[aG a6.p 0 f1 rfl,aV au.u f2.ls];have dq:scope.length<=100000:=Ω
  refine b1.range scope.length (λj E=>A=E/\n∉scope.take j) Ω ⟨rfl,Ξ⟩ ?_ ?_
  .rintro j _ cW cX ⟨rfl,aB⟩ cY;obtain⟨u,hu⟩:=aD (l:=scope) cX;rw[aR,aj];refine⟨λ_=>?_,λh=>by simp only at h;omega⟩;rw[bc au.u ao.i Ψ f2.ls hu,bb,aj];refine⟨λhe=>?_,λcZ=>?_⟩
   .refine (n7 M Ω).mono ?_;rintro _ a1 _ ⟨bM,c0⟩;rw[if_pos (by rw[<-he];exact x6 hu)]at C;exact ax a1 _ (bi.trans (bM.mono λr _ h=>.inl h)) C c0 (bh.dR bM (kz M))
   .rw[aM];refine cY _ ⟨rfl,?_⟩;rw[r8,hu];intro hm;rcases l9.1 hm with hm|hm
    .exact aB hm
    .simp at hm;exact cZ hm.symm
  .rintro _ cW ⟨rfl,aB⟩;rw[o6]at aB;rw[aR,aj];refine⟨λh=>by simp only at h;omega,λ_=>?_⟩;rw[if_neg aB]at C;rw[aG a6.p 0 f1 rfl];refine eM au.u ao.i rfl λdr ds ah dt Q c1=>?_;have du:=M.lt;refine h5 au.u ao.i rfl (f2.ext Q) c1.ls Θ Θ λX bl a2 aF c2 bO=>?_;have aH:=f1.ext Q;have f113:=aH.aa bO λhe=>ce (f2.ext Q) aH Φ he rfl;rw[aS a6.p rfl];refine bq (g:=f) (o:=0) au.i aF.ls.cells.1 aF.ls.cells.2 f113 Ξ λR bS dv aI=>?_;have aI:ad R f a6 [X,szv,Δ 0,cb]:=aI;intro U bm _ _;have am:ae (λr=>leads aL r\/r=f) ah R:=(bO.mono λr _ h=>.inl h).trans (bS.mono λr _ h=>.inr h);have bT:∀r,(leads aL r\/r=f)->gR g B r:=λr e=>.inr (e.elim (λe=>f5 r (.inl e)) λe=>e▸f7);have bU:ae (gR g B) w R:=(bi.trans (Q.aa _)).trans (am.mono λr _ e=>bT r e);have c3:ae (gR g B) w U:=bU.trans (bm.aa _);have c4:aq .i64 ao R cV szv _:=br (f3.ext Q) am λr e I=>by
    rcases I with I|rfl
    .exact f6 r I e
    .exact ce (f3.ext Q) aH Φ e rfl
   have c5:aq .i64 ao R bl X (scope++[n]):=br aF bS λr e he=>by
    have he:r=f:=he;subst he;exact ce aF f113 Φ e rfl
   have c6:∀r,(leads aL r\/r=f)->(∃c,ad ah r ao c)\/∃c,ad ah r a6 c:=λr e=>by
    rcases e with e|rfl
    .obtain⟨G,_⟩:=bR f2 e;obtain⟨_,⟨an,_⟩|⟨_,cs,an,K,_⟩⟩:=f2.ext Q
     .rw[an]at e;obtain⟨a,c7,c,G,al⟩:=e;cases G
     .exact .inl ⟨cs,G▸K⟩
    .exact .inr ⟨_,aH⟩
   have c8:kx R bk cb []:=by
    obtain⟨L,Y,c9,bn⟩:=f4.dR (Q.aa λ_=>False) λ_ h=>h.elim;have bo:L=[]:=List.map_eq_nil_iff.1 bn;subst bo;refine⟨[],Y.aa am λr e I=>?_,λy bp=>(by cases bp),rfl⟩;rcases c6 r I with⟨c,K⟩|⟨c,K⟩
    .exact cO Y K Φ e
    .exact cO Y K Φ e
   have da:bN R g B H N (σ bj):=(M.ext Q).new am λr e=>by
    rcases bT r e with rfl|h
    .rcases e with e|e
     .exact f5 _ (.inl e)
     .exact e▸f7
    .exact h
   rw[aG a6.p 1 (aI.ext bm) rfl];have db:all[n.toNat]?=σ (all.getD n.toNat 0):=by rw[u4,x7 Ω];rfl
   rw[fF (y:=n) (i:=n.toNat) Ω au.u ao.i Ψ (bL c3).ls db];refine eM au.u ao.i rfl λdw dx ab dy bV dc=>?_;refine⟨.inl bV,?_⟩;have Z:=bm.trans bV;have f316:=c4.ext Z;have bW:(scope.map λv=>all.getD v.toNat 0).length=scope.length:=u7 _;refine h5 au.u ao.i rfl f316 dc.ls (by simp at bW ⊢;omega) (by simp at bW ⊢;omega) λbt dd ba aK bX bY=>?_;have aN:=aI.ext Z;have b0:=aN.aa bY λhe=>ce f316 aN Φ he rfl;rw[aS a6.p rfl];refine bq (g:=f) (o:=1) au.i aK.ls.cells.1 aK.ls.cells.2 b0 Ξ λW b2 dz av=>?_;have av:ad W f a6 [X,bt,Δ 0,cb]:=av;rw[aM];have aO:ae (λr=>leads szv r\/r=f) ab W:=(bY.mono λr _ h=>.inl h).trans (b2.mono λr _ h=>.inr h);have b3:∀r,(leads szv r\/r=f)->B<=r:=λr e=>e.elim (λe=>f5 r (.inr e)) λe=>e▸f7;have bu:=c5.ext Z;have dA:=Q.size;have dC:=am.size;have bw:∀r,leads X r->B<=r/\¬leads szv r:=λr e=>by
    rcases c2 r e with h|h
    .exact⟨f5 r (.inl h),f6 r h⟩
    .exact⟨Ω,λbx=>by obtain⟨G,al⟩:=bR f3 bx;omega⟩
   have de:aq .i64 ao W bl X (scope++[n]):=br bu aO λr e I=>by
    rcases I with I|rfl
    .exact (bw r e).2 I
    .exact ce bu aN Φ e rfl
   have df:=br aK b2 λr e he=>by
    have he:r=f:=he;subst he;exact ce aK b0 Φ e rfl
   have dg:kx W bk cb []:=by
    obtain⟨L,Y,c9,bn⟩:=c8.dR (Z.aa λ_=>False) λ_ h=>h.elim;have bo:L=[]:=List.map_eq_nil_iff.1 bn;subst bo;refine⟨[],Y.aa aO λr e I=>?_,λy bp=>(by cases bp),rfl⟩;rcases I with I|rfl
    .obtain⟨G,_⟩:=bR f316 I;obtain⟨_,⟨an,_⟩|⟨_,cs,an,K,_⟩⟩:=f316
     .rw[an]at I;obtain⟨a,c7,c,G,al⟩:=I;cases G
     .exact cO Y (G▸K) Φ e
    .exact cO Y aN Φ e
   refine hk _ ⟨scope++[n],bj,((bU.trans (Z.aa _)).trans (aO.mono λr _ e=>.inr (b3 r e))),(da.ext Z).new aO b3,⟨X,bt,cb,bl,dd,bk,av,de,by rw[Z2];exact df,dg,λr e=>?_,λr e bx=>?_,f7⟩,by rw[o7,bK];rfl,by rw[o7];simp;omega,C,λc bB=>?_⟩
   .rcases e with e|e
    .exact (bw r e).1
    .rcases bX r e with h|h
     .exact f5 r (.inr h)
     .have:=Z.size;omega
   .rcases bX r bx with h|h
    .exact (bw r e).2 h
    .obtain⟨G,al⟩:=bR bu e;omega
   .have dh:c=[X,bt,Δ 0,cb]:=by
     unfold ad at bB av;rw[av]at bB;have:=(Obj.cells.inj (Z0 bB)).1;exact(Array.toList_inj.2 this).symm
    have di:cb= .slice ν 0 0:=by
     obtain⟨dD,dE,dF,_,_,_,bE,_⟩:=az;have b4:=be _ bE;have bF:=bE.aa bf λhe=>by
      have he:f=g:=he;obtain⟨cM,G,al,bad,cN,big,cP,told,sv,K,_⟩:=h6 S;subst he;exact absurd (fh K bE) Φ
     unfold ad at bF f1;rw[f1]at bF;have dj:=Array.toList_inj.2 (Obj.cells.inj (Z0 bF)).1;have S:=congrArg (λl=>l[3]?) dj;simp at S;simp at b4;rw[S,b4]
    rw[dh,di];rfl
theorem N4{x:x3->x4->Prop}(h:aH .i64 w sv l)(h1:∀z∈l,1<=z)(I:∀c:Int,(4096<c↔dt l=true)->x (Δ c) w):
  b3 (Δ 1) (Δ 0) w λy q a K=>
   V x8 (aJ .lss ag false false q (Δ (l.length:Int))) a λL=>
   Split L (cv (α:=x3->x4->Prop) (λ(M:x3)(A:x4)=>
    V x8 (aJ .add ag false true q (Δ 1)) A λN=>
    K M N A) λB=>
   V x8 (j5 au sv q) a λO=>
   V x8 (u5 ao O) a λC=>
   cv (α:=x3->x4->Prop) (λ(P:x3)(f:x4)=>
    V x8 (aJ .mul ao false false y P) f λE=>
    V x8 (aJ .gtr ao false true E (Δ 4096)) f λQ=>
    Split Q (B (Δ 4097) f)
     (B E f)) λF=>
   V x8 (aJ .gtr ao false true C (Δ 4096)) a λR=>
   Split R (F (Δ 4097) a)
    (F C a))
    (x y a):=by
 refine b3.range l.length (λi c J=>w=J/\∃p:Int,p=aN ((l.take i).map λk=>min k 4097)/\1<=p/\c=Δ (if 4096<p then 4097 else p)) h.le ⟨rfl,1,by simp[aN],Ω,by rw[if_neg Ω]⟩ ?_ ?_
 .rintro i _ _ S hi ⟨rfl,p,j,W,rfl⟩ X;obtain⟨z,r⟩:=aD (l:=l) hi;have Z:=h1 z (x6 r);have e:aN ((l.take (i+1)).map λk=>min k 4097)=p*min z 4097:=by
   rw[j,r8,r,l7,Z2,T1,List.map_nil,Bh]
  have aa:p*1<=p*min z 4097:=Int.mul_le_mul_of_nonneg_left Ω Ω;refine bD Ω ?_;refine aW (λv U=>w=U/\v=Δ (if 4096<p*min z 4097 then 4097 else p*min z 4097)) ?_ ?_
  .rintro _ _ ⟨rfl,rfl⟩;rw[aM];exact X _ _ ⟨rfl,_,e.symm,Ω,rfl⟩
  intro aw s;rw[bc au.u ao.i Ψ h r];refine aW (λv U=>w=U/\v=Δ (min z 4097)) ?_ ?_
  .rintro _ _ ⟨rfl,rfl⟩;rw[gp];by_cases G:4096<p
   .rw[if_pos G];have Y:(4097:Int)*1<=4097*min z 4097:=Int.mul_le_mul_of_nonneg_left Ω Ω;rw[wrap_i64 Ω Ω,bS,aj];refine⟨λ_=>s _ _ ⟨rfl,by rw[if_pos Ω]⟩,λab=>Ω⟩
   .rw[if_neg G];have Y:p*min z 4097<=4096*4097:=by
     have ac:=Int.mul_le_mul_of_nonneg_right (show p<=4096 by omega) (show 0<=min z 4097 by omega);have ad:=Int.mul_le_mul_of_nonneg_left (show min z 4097<=4097 by omega) (show(0:Int)<=4096 by omega);omega
    rw[wrap_i64 Ω Ω,bS,aj];exact⟨λap=>s _ _ ⟨rfl,by rw[if_pos ap]⟩,λap=>s _ _ ⟨rfl,by rw[if_neg ap]⟩⟩
  .intro ae H;rw[bS,aj];exact⟨λap=>H _ _ ⟨rfl,by congr 1;omega⟩,λap=>H _ _ ⟨rfl,by congr 1;omega⟩⟩
 .rintro _ _ S ⟨rfl,p,j,W,rfl⟩;rw[o6]at j;rw[aR,aj];refine⟨λh=>Ω,λ_=>I _ ?_⟩;unfold dt;rw[<-j,decide_eq_true_eq];split
  .exact⟨λ_=>Ω,λ_=>Ω⟩
  .exact Iff.rfl
theorem N5{g al:Nat}{H:af}{so:Option aE}{szv:x3}{ab:x4->Prop}(h:bN w g B H N so)(C:aq .i64 ao w gz szv sizes)(aH:∀z∈sizes,1<=z/\z<=av)(bn:sizes.length<=100001)(S:ad w al ch [.slice ν 0 0,Δ 0])(aI:B<=al)(ac:∀t w' aO gt,t.length=sizes.length->ae (λr=>r=g\/r=al\/w.heap.size<=r) w w'->ad w' al ch [aO,Δ 0]->aq .i64 ao w' gt aO t->(∀r,leads aO r->w.heap.size<=r)->bN w' g B H N ((fa sizes [] so).map (·.2))->(∀q,fa sizes [] so=σ q->t=q.1)->ab w'):
  b1 (Δ 0) w λW s aK=>
      V x8 (aJ .lss ag false false W (Δ (sizes.length:Int))) s λaL=>
      Split aL (V x8 (j5 au szv W) s λaN=>
      V x8 (u5 ao aN) s λaP=>
      V x8 (aJ .sub ao false true aP (Δ 1)) s λaQ=>
      ai x8 lM [Γ g,(Δ 0),aQ] s λah E=>
      V x8 (Y2 ah 0) E λaR=>
      V x8 (Y2 ah 1) E λbo=>
      V x8 (u6 ch (Γ al) 0) E λaT=>
      V x8 (u5 au aT) E λaU=>
      aC x8 (Y8 au 1 #[(0,aR)]) E λaV aW=>
      aC x8 (Z3 #[au,au] au #[aU,aV]) aW λaX aj=>
      V x8 (u6 ch (Γ al) 0) aj λaY=>
      aC x8 (o8 au aY aX) aj λ(_:Unit)ak=>
      V x8 (aJ .add ag false true W (Δ 1)) ak λaZ=>
      aK aZ ak)
       (ab s):=by
 have bp:=S.lt;have bt:=h.lt;refine b1.range sizes.length (λj J=>∃t aO gt s1,t.length=j/\ae (λr=>r=g\/r=al\/w.heap.size<=r) w J/\ad J al ch [aO,Δ 0]/\aq .i64 ao J gt aO t/\(∀r,leads aO r->w.heap.size<=r)/\bN J g B H N s1/\fa sizes [] so=fa (sizes.drop j) t s1) C.ls.le
  ⟨[],_,0,so,rfl,ae.refl _ _,S,aq.nil _ _ _ _,(λr e=>by obtain⟨a,n,c,M,X⟩:=e;cases M),h,rfl⟩ ?_ ?_
 rotate_left
 .rintro J a1 ⟨t,aO,gt,s1,O,x,P,G,y,K,he⟩;refine b7 Ω ?_;rw[List.drop_length]at he;cases s1 with
  |none=>
   have he:fa sizes [] so=ν:=he;exact ac t J aO gt O x P G y (by rw[he];exact K) (λq f=>by rw[he]at f;cases f)
  |some s1=>
   have he:fa sizes [] so=σ (t,s1):=he;exact ac t J aO gt O x P G y (by rw[he];exact K) (λq f=>by rw[he]at f;cases f;rfl)
 rintro j J a1 am ⟨t,aO,gt,s1,O,x,P,G,y,K,he⟩ a2;obtain⟨z,Y⟩:=aD (l:=sizes) am;have a6:=aH z (x6 Y);have bu:z<=4611686018427387904:=a6.2;have a8:aq .i64 ao J gz szv sizes:=br C x λr e I=>by
  rcases I with rfl|rfl|I
  .obtain⟨ba,M,X,bad,bb,big,bd,told,sv,L,_⟩:=h6 h;exact ce C L Φ e rfl
  .exact ce C S Φ e rfl
  .obtain⟨M,X⟩:=bR C e;omega
 refine bD Ω ?_;rw[bc au.u ao.i Ψ a8.ls Y,ec,wrap_i64 Ω Ω];refine(ky K).mono ?_;rintro _ U _ ⟨⟨Q,be⟩,n,at_,rfl,bf,bw⟩;rw[bz,bA];have bg:al≠g:=Ω
 have an:=P.aa Q λhe=>bg he;have bh:∃c,ad J g bC c:=by obtain⟨ba,M,X,bad,bb,big,bd,told,sv,L,_⟩:=h6 K;exact⟨_,L⟩
 have ap:aq .i64 ao U gt aO t:=br G Q λr e he=>by
  have he:r=g:=he;obtain⟨c,L⟩:=bh;exact ce G L Φ e he
 rw[aG ch.p 0 an rfl];refine eM au.u ao.i rfl λa3 bx bi bB A bj=>?_;refine h5 au.u ao.i rfl (ap.ext A) bj.ls Θ Θ λaw bk bE R bl ax=>?_;have ay:=an.ext A;have az:=ay.aa ax λhe=>ce (ap.ext A) ay Φ he rfl;rw[aS ch.p rfl];refine bq (g:=al) (o:=0) au.i R.ls.cells.1 R.ls.cells.2 az Ξ λaA aB bF Z=>?_;have Z:ad aA al ch [aw,Δ 0]:=Z;rw[aM];have aF:ae (λr=>leads aO r\/r=al) bi aA:=(ax.mono λr _ h=>.inl h).trans (aB.mono λr _ h=>.inr h);have bG:=x.size;have bH:=Q.size;have z3:=A.size;refine a2 _ ⟨t++[n],aw,bk,(a7 0 (z-1) s1).map (·.2),by simp[O],?_,Z,br R aB λr e he=>?_,λr e=>?_,?_,?_⟩
 .refine (x.trans (Q.mono λr _ h=>.inl h)).trans ((A.aa _).trans (aF.mono λr _ h=>?_));exact h.elim (λh=>.inr (.inr (y r h))) λh=>.inr (.inl h)
 .have he:r=al:=he;subst he;exact ce R az Φ e rfl
 .rcases bl r e with h|h
  .exact y r h
  .omega
 .refine (be.ext A).new aF λr e=>?_;rcases e with e|rfl
  .have:=y r e;omega
  .exact aI
 .rw[he];have bm:sizes.drop j=z::sizes.drop (j+1):=by rw[X8 am,(x5.1 Y).2]
  rw[bm,BT];cases f:a7 0 (z-1) s1 with
  |none=>rfl
  |some q=>
   obtain⟨v,bI⟩:=q;have:=bf _ f;subst this;rfl
theorem wD{g:Nat}{t:Λ}{c:Int}(h:aq .i64 ao w g v t):∀u∈n5 ⟨v,t,c⟩,u.oneCell'=true:=by
 intro u hu;simp[n5]at hu;rcases hu with rfl|rfl
 .exact h.ls.cells.2
 .rfl
def N6(sizes:Λ)(cnt i:Nat)(s0:aE)(A:List (Λ×Int))(so:Option aE):Prop:=(∃s,so=σ s/\cM (dV sizes) cnt [] s0=cM (dV sizes) (cnt-i) A s/\A.length+s.toks.length<=100000)\/(so=ν/\cM (dV sizes) cnt [] s0=ν)
theorem N7{g K g1 ba Y:Nat}{H:af}{s0:aE}{aL szv cb:x3}{scope:Λ}{o n:Int}{aB:List (Λ×Int)}{b0:x4->Prop}(h:bN w g B H N (σ s0))(f1:ad w K a6 [aL,szv,Δ o,cb])(f2:aq .i64 ao w g1 aL scope)(f3:aq .i64 ao w ba szv sizes)(f4:kx w Y cb aB)(f5:∀r,leads aL r\/leads szv r->B<=r)(f6:∀r,leads aL r->¬leads szv r)(f7:B<=K)(cU:∀z∈sizes,1<=z/\z<=av)(cV:sizes.length<=100001)(eR:n<=4611686018427387904)(bp:0<n->aB=[]/\∀r,¬leadsTo cb r)(cW:s0.toks.length<=100000)(b2:∀w' A bt,ae (gR g B) w w'->hf w' B K ⟨scope,sizes,o,A⟩->bN w' g B H N bt->(n<=0->A=aB/\bt=σ s0)->(0<n->bt=(cM (dV sizes) n.toNat [] s0).map (·.2)/\∀q,cM (dV sizes) n.toNat [] s0=σ q->A=q.1)->b0 w'):
  b1 (Δ 0) w λb3 ah cX=>
     cv (α:=x3->x4->Prop) (λ(cY:x3)(b4:x4)=>
      Split cY (aC x8 (Instr.alloc ch true (.tuple #[])) b4 λx Z=>
     V x8 (u6 a6 (Γ K) 1) Z λcZ=>
     V x8 (u5 au cZ) Z λb5=>
     V x8 (W7 #[au] ag #[b5]) Z λc0=>
     b1 (Δ 0) Z λbu ak c1=>
      V x8 (aJ .lss ag false false bu c0) ak λc2=>
      Split c2 (V x8 (j5 au b5 bu) ak λc3=>
      V x8 (u5 ao c3) ak λc4=>
      V x8 (aJ .sub ao false true c4 (Δ 1)) ak λc5=>
      ai x8 lM [Γ g,(Δ 0),c5] ak λb6 aH=>
      V x8 (Y2 b6 0) aH λc6=>
      V x8 (Y2 b6 1) aH λeU=>
      V x8 (u6 ch x 0) aH λc7=>
      V x8 (u5 au c7) aH λc8=>
      aC x8 (Y8 au 1 #[(0,c6)]) aH λc9 da=>
      aC x8 (Z3 #[au,au] au #[c8,c9]) da λdb b8=>
      V x8 (u6 ch x 0) b8 λdc=>
      aC x8 (o8 au dc db) b8 λ(_:Unit)b9=>
      V x8 (aJ .add ag false true bu (Δ 1)) b9 λdd=>
      c1 dd b9)
       (ai x8 lM [Γ g,(Δ 0),(Δ 4611686018427387904)] ak λca E=>
     V x8 (Y2 ca 0) E λdf=>
     V x8 (Y2 ca 1) E λdg=>
     V x8 (u6 a6 (Γ K) 3) E λdh=>
     V x8 (u5 ei dh) E λcc=>
     V x8 (W7 #[ei] ag #[cc]) E λdi=>
     b1 (Δ 0) E λbx M dj=>
      V x8 (aJ .lss ag false false bx di) M λdk=>
      Split dk (cv (α:=x4->Prop) (λ(ay:x4)=>
       V x8 (aJ .add ag false true bx (Δ 1)) ay λdm=>
       dj dm ay) λcd=>
      V x8 (j5 ei cc bx) M λdn=>
      V x8 (u5 ch dn) M λdp=>
      aC x8 (Instr.alloc ch true (.tuple #[])) M λy cg=>
      aC x8 (o8 ch y dp) cg λ(_:Unit)O=>
      cv (α:=x3->x4->Prop) (λ(dq:x3)(aI:x4)=>
       Split dq (ai x8 np [Γ g,(Δ 4),dg] aI λeV ci=>
        cd ci)
        (cd aI)) λcj=>
      V x8 (bP (Γ g)) O λdr=>
      V x8 (u6 bC dr 3) O λds=>
      V x8 (u5 ag ds) O λdt=>
      V x8 (aJ .eql ag false true dt (Δ 0)) O λdu=>
      Split du (V x8 (u6 ch x 0) O λdv=>
       V x8 (u5 au dv) O λdw=>
      V x8 (u6 ch y 0) O λdx=>
      V x8 (u5 au dx) O λdy=>
      ai x8 rS [dw,dy] O λdz ck=>
      cj dz ck)
       (cj (.bool false) O))
       (V x8 (u6 ch x 1) M λdA=>
     aC x8 (o8 ao dA df) M λ(_:Unit)ab=>
     V x8 (u6 a6 (Γ K) 3) ab λdC=>
     V x8 (u5 ei dC) ab λdD=>
     V x8 (u5 ch x) ab λdF=>
     aC x8 (Y8 ei 1 #[(0,dF)]) ab λdG bb=>
     aC x8 (Z3 #[ei,ei] ei #[dD,dG]) bb λdH bB=>
     V x8 (u6 a6 (Γ K) 3) bB λdI=>
     aC x8 (o8 ei dI dH) bB λ(_:Unit)ac=>
     V x8 (aJ .add ao false true b3 (Δ 1)) ac λdJ=>
     cX dJ ac)))
       (b0 b4)) λcl=>
     V x8 (aJ .lss ao false false b3 (Δ n)) ah λdL=>
     Split dL (V x8 (bP (Γ g)) ah λdM=>
     V x8 (u6 bC dM 3) ah λdN=>
     V x8 (u5 ag dN) ah λdO=>
     V x8 (aJ .eql ag false true dO (Δ 0)) ah λdP=>
     cl dP ah)
      (cl (.bool false) ah):=by
 have dQ:=h.lt;refine b1.range n.toNat (λi J=>∃A so cb Y,ae (gR g B) w J/\ad J K a6 [aL,szv,Δ o,cb]/\aq .i64 ao J g1 aL scope/\aq .i64 ao J ba szv sizes/\kx J Y cb A/\(0<n->∀r,leadsTo cb r->B<=r)/\bN J g B H N so/\(n<=0->A=aB/\so=σ s0)/\(0<n->N6 sizes n.toNat i s0 A so)) Ω
  ⟨aB,σ s0,cb,Y,ae.refl _ _,f1,f2,f3,f4,λW r C=>absurd C ((bp W).2 r),h,λ_=>⟨rfl,rfl⟩,λW=>.inl ⟨s0,rfl,by rw[(bp W).1];rfl,by rw[(bp W).1];simpa using cW⟩⟩ ?_ ?_
 rotate_left
 .rintro J k ⟨A,so,cb,Y,aK,az,bc,aN,aP,bE,am,cm,G⟩;refine aW (λv U=>J=U/\v= .bool false) ?_ ?_
  .rintro _ _ ⟨rfl,rfl⟩;rw[aY];refine b2 J A so aK ⟨aL,szv,cb,g1,ba,Y,az,bc,aN,aP,f5,f6,f7⟩ am cm λW=>?_;rcases G W with⟨s,rfl,he,_⟩|⟨rfl,he⟩
   .rw[U4]at he;rw[he];exact⟨rfl,λq P=>by cases P;rfl⟩
   .rw[he];exact⟨rfl,λq P=>by cases P⟩
  .intro aw bG;rw[aR,aj];exact⟨λh=>Ω,λ_=>bG _ _ ⟨rfl,rfl⟩⟩
 rintro i J k hi ⟨A,so,cb,Y,aK,az,bc,aN,aP,bE,am,cm,G⟩ hk;have W:0<n:=Ω
 refine aW (λv U=>J=U/\v= .bool so.isSome) ?_ ?_
 rotate_left
 .intro aw bG;refine bD Ω ?_;rw[lj am];exact bG _ _ ⟨rfl,rfl⟩
 rintro _ _ ⟨rfl,rfl⟩;rcases G W with⟨de,rfl,he,eW⟩|⟨rfl,he⟩
 rotate_left
 .rw[S9,aY];refine b2 J A ν aK ⟨aL,szv,cb,g1,ba,Y,az,bc,aN,aP,f5,f6,f7⟩ am (λh=>Ω) λ_=>?_;rw[he];exact⟨rfl,λq P=>by cases P⟩
 rw[S8,bQ];have eX:=am.lt;refine bw ch.i λal Z eY aQ bH=>?_;have bH:ad Z al ch [.slice ν 0 0,Δ 0]:=bH;have dS:=az.ext aQ;have cn:=aN.ext aQ;have eZ:=aQ.size;have e0:=az.lt;rw[aS a6.p rfl,aF Ψ (dS.cell (o:=0+1) rfl),aV au.u cn.ls];refine N5 (am.ext aQ) cn cU cV bH Ω λt ak aO gt e1 dT dU dW dX dY dZ=>?_;refine(ky dY).mono ?_;rintro _ E _ ⟨⟨bI,be⟩,c,at_,rfl,ea,e2⟩;rw[bz,bA];have bJ:al≠g:=Ω
 have cp:K≠g:=by have:=h.lt;omega
 have eb:ae (λr=>r=g\/r=al\/Z.heap.size<=r) Z E:=dT.trans (bI.mono λr _ h=>.inl h);have cq:∀{S:Nat->Prop},(∀r,S r->r=g\/J.heap.size<=r)->∀r,S r->hd J r\/J.heap.size<=r:=λec r C=>(ec r C).imp (λhe=>by
  subst he;obtain⟨cr,aT,aU,bad,ct,big,cu,told,sv,G,_⟩:=h6 am;exact⟨_,_,G,Φ,Φ⟩) id
 have bf:ae (λr=>r=g\/J.heap.size<=r) J E:=(aQ.aa _).trans (eb.mono λr _ h=>h.elim .inl λh=>h.elim (λh=>.inr Ω) λh=>.inr Ω);have cw:ad E K a6 [aL,szv,Δ o,cb]:=az.aa bf λh=>h.elim cp λh=>Ω
 obtain⟨L,bg,cz,bK⟩:=aP.dR bf (cq λr C=>C);have cA:ad E al ch [aO,Δ 0]:=dU.aa bI λhe=>bJ he;have cB:aq .i64 ao E gt aO t:=br dW bI λr C he=>by
  have he:r=g:=he;have:=dX r C;omega
 have e3:L.length=A.length:=by rw[<-bK,u7]
 rw[aG a6.p 3 cw rfl,e9 ei.u bg];generalize cC:(a7 0 4611686018427387904 (V9 (λx=>x.snd) (fa sizes [] (σ de)))).map (·.2)=an at be;have e4:=bf.size;refine b1.range L.length (λj M=>ae (λr=>r=g) E M/\bN M g B H N (if t∈(L.take j).map (·.t)then ν else an)) bg.le ⟨ae.refl _ _,by simpa using be⟩ ?_ ?_
 .rintro j M ed cD ⟨Q,aX⟩ ef;obtain⟨y,R⟩:=aD (l:=L) cD;have bL:∃c,ad E g bC c:=by obtain⟨cr,aT,aU,bad,ct,big,cu,told,sv,G,_⟩:=h6 be;exact⟨_,G⟩
  have ap:∀r,r=g->hd E r\/E.heap.size<=r:=λr C=>by
   subst C;obtain⟨c,G⟩:=bL;exact .inl ⟨_,c,G,Φ,Φ⟩
  have bh:=wB bg Q λr C=>(ap r C).imp (λ⟨e,c,G,_,aZ⟩=>⟨e,c,G,aZ⟩) id;obtain⟨e5,eg⟩:=cz y (x6 R);have cE:=eH eg Q ap;have bM:=eH cB Q ap;have bi:=cA.aa Q λhe=>bJ he;refine bD Ω ?_;have bO:t∈(L.take (j+1)).map (·.t)↔t∈(L.take j).map (·.t)\/t=y.t:=by
   rw[r8,R,l7,Z2,l9];simp
  refine dl (λay=>ae (λr=>r=g) E ay/\bN ay g B H N (if t∈(L.take (j+1)).map (·.t)then ν else an)) ?_ ?_
  .rintro ay eh;rw[aM];exact ef _ eh
  intro e6 cF;rw[dE rfl ei.u ch.i bh cD,bF ch.p ch.i rfl (bh.range R)];refine bw ch.i λgy cg e7 ej ek=>?_;refine bT (vs:=n5 y) ch.i rfl rfl (wD cE) ek λO em e8 en=>?_;have a1:Ext M O:=ej.put em Ω;have cG:=aX.ext a1;have cH:ae (λr=>r=g) E O:=Q.trans (a1.aa _);refine aW (λv aI=>∃b:Bool,v= .bool b/\Ext O aI/\(b=true->t=y.t)/\(b=false->t≠y.t\/(if t∈(L.take j).map (·.t)then ν else an)=ν)) ?_ ?_
  .rintro _ aI ⟨b,rfl,bR,eo,ep⟩;have ax:=cG.ext bR;cases b with
   |true=>
    rw[bQ];refine(n7 ax Ω).mono ?_;rintro _ ci _ ⟨er,es⟩;refine cF _ ⟨(cH.trans (bR.aa _)).trans er,?_⟩;rw[if_pos (bO.2 (.inr (eo rfl)))];exact es
   |false=>
    rw[aY];refine cF _ ⟨cH.trans (bR.aa _),?_⟩;by_cases hm:t∈(L.take j).map (·.t)
    .rw[if_pos (bO.2 (.inl hm))];rw[if_pos hm]at ax;exact ax
    .rw[if_neg hm]at ax;rcases ep rfl with aZ|cI
     .rw[if_neg (λh=>(bO.1 h).elim hm aZ)];exact ax
     .rw[if_neg hm]at cI;rw[cI]at ax ⊢;split<;>exact ax
  .intro fb cJ;rw[lj cG];cases a2:(if t∈(L.take j).map (·.t)then ν else an)with
   |none=>
    rw[S9,aY];exact cJ _ _ ⟨false,rfl,Ext.refl _,(λh=>by cases h),λ_=>.inr a2⟩
   |some fc=>
    rw[S8,bQ];have et:=bi.ext a1;rw[aG ch.p 0 et rfl,aG ch.p 0 en rfl];refine(wC (bM.ls.ext a1) (cE.ls.ext a1)).mono ?_;rintro _ ck _ ⟨rfl,eu⟩;exact cJ _ _ ⟨_,rfl,eu,λh=>of_decide_eq_true h,λh=>.inl (of_decide_eq_false h)⟩
 .rintro M ed ⟨Q,aX⟩;rw[o6]at aX;have ev:L.map (·.t)=A.map (·.1):=by rw[<-bK,R2];rfl
  rw[ev]at aX;have bL:∃c,ad E g bC c:=by obtain⟨cr,aT,aU,bad,ct,big,cu,told,sv,G,_⟩:=h6 be;exact⟨_,G⟩
  have ap:∀r,r=g->hd E r\/E.heap.size<=r:=λr C=>by
   subst C;obtain⟨c,G⟩:=bL;exact .inl ⟨_,c,G,Φ,Φ⟩
  have cK:∀r,(r=g\/J.heap.size<=r)->hd J r\/J.heap.size<=r:=cq λr C=>C;have bj:ae (λr=>r=g\/J.heap.size<=r) J M:=bf.trans (Q.mono λr _ h=>.inl h);have ew:=cw.aa Q λhe=>cp he;have ey:=eH bc bj cK;have ez:=eH aN bj cK;have bh:=wB bg Q λr C=>(ap r C).imp (λ⟨e,c,G,_,aZ⟩=>⟨e,c,G,aZ⟩) id;have eA:∀y∈L,∃gy,aq .i64 ao M gy y.v y.t:=λy R=>by
   obtain⟨gy,hm⟩:=cz y R;exact⟨gy,eH hm Q ap⟩
  have bM:=eH cB Q ap;have bi:=cA.aa Q λhe=>bJ he;refine b7 Ω ?_;rw[aS ch.p rfl];refine bq (g:=al) (o:=1) ao.i rfl rfl bi Ξ λab aA fd bS=>?_;have bS:ad ab al ch [aO,Δ c]:=bS;have eB:K≠al:=Ω
  have cL:=ew.aa aA λhe=>eB he;have fe:J.heap.size<=al:=Ω
  have eC:∀r,leadsTo cb r->r≠al:=λr C=>by obtain⟨aT,aU⟩:=aP.choose_spec.1.leads C;omega
  have eD:=bh.aa aA λr C he=>eC r C he;rw[aG a6.p 3 cL rfl,bF ch.p ch.i rfl bS.range];let a:wA:=⟨aO,t,c⟩;have bk:∀{v:x3}{a8:Nat}{l:Λ},aq .i64 ao M a8 v l->aq .i64 ao ab a8 v l:=λhm=>br hm aA λr C he=>by
   have he:r=al:=he;exact ce hm bi Φ C he
  have cN:=bk bM;refine h2 (f:=n5) (a:=a) ei.u ch.i Ω rfl rfl λv45 ff bb fg X eE=>?_;have bU:=eD.ext X;refine ip (f:=n5) (a:=a) ei.u ch.i rfl bU (by simpa using eE.sl) (wD (cN.ext X)) Ω Ω λbV cP bB bl eF cQ=>?_;have bW:=cL.ext X;have cR:=bW.aa cQ λhe=>cO bU bW Φ he;rw[aS a6.p rfl];refine bq (g:=K) (o:=3) ei.i (eS bl.sl).1 (eS bl.sl).2 cR Ξ λac cS fh bX=>?_;have bX:ad ac K a6 [aL,szv,Δ o,bV]:=bX;rw[aM];have bY:ae (λr=>leadsTo cb r\/r=K) bb ac:=(cQ.mono λr _ h=>.inl h).trans (cS.mono λr _ h=>.inr h);have bm:∀{v:x3}{a8:Nat}{l:Λ},aq .i64 ao bb a8 v l->aq .i64 ao ac a8 v l:=λhm=>br hm bY λr C I=>by
   rcases I with I|rfl
   .obtain⟨rfl,fi,G⟩:=ee bU I;exact ce hm G Φ C rfl
   .exact ce hm bW Φ C rfl
  have cT:∀r,(leadsTo cb r\/r=K)->B<=r:=λr C=>C.elim (λC=>bE W r C) λC=>C▸f7;have eI:bN ab g B H N (if t∈A.map (·.1)then ν else an):=aX.new aA λr C=>by
   have C:r=al:=C;omega
  have eJ:=(eI.ext X).new bY cT;have eK:ae (gR g B) J ac:=((bj.mono λr _ h=>h.elim .inl λh=>.inr Ω).trans (aA.mono λr _ h=>.inr (by have h:r=al:=h;omega))).trans ((X.aa _).trans (bY.mono λr _ h=>.inr (cT r h)));have eL:kx ac cP bV (A++[(t,c)]):=⟨L++[a],bl.aa cS λr C he=>by
   have he:r=K:=he;subst he;exact cO bl cR Φ C,λy R=>by
   rcases l9.1 R with R|R
   .obtain⟨gy,hm⟩:=eA y R;exact⟨gy,bm ((bk hm).ext X)⟩
   .rw[j4.1 R];exact⟨gt,bm (cN.ext X)⟩,by rw[Z2,bK];rfl⟩
  refine hk _ ⟨A++[(t,c)],_,bV,cP,aK.trans eK,bX,bm ((bk ey).ext X),bm ((bk ez).ext X),eL,λ_ r C=>?_,eJ,λh=>Ω,λ_=>?_⟩
  .rcases eF r C with h|h
   .exact bE W r h
   .have:=aK.size;have:=bj.size;have:=aA.size;have:=X.size;have:=dQ.2;omega
  .have eM:n.toNat-i=(n.toNat-(i+1))+1:=Ω
   rw[eM]at he;obtain⟨eN,eO⟩:=BX (sizes:=sizes) (acc:=A) (st:=de) (t:=t) (c:=c) dZ ea;cases P:a7 0 av ((fa sizes [] (σ de)).map (·.2))with
   |none=>
    have a2:an=ν:=by rw[<-cC];show(a7 0 av _).map _=ν;rw[P];rfl
    rw[pd (eN P)]at he;refine .inr ⟨?_,he⟩;rw[a2];split<;>rfl
   |some q=>
    have a2:an=σ q.2:=by rw[<-cC];show(a7 0 av _).map _=_;rw[P];rfl
    have bo:=eO q P;by_cases hm:t∈A.map (·.1)
    .rw[if_pos hm]at bo;rw[pd bo]at he;exact .inr ⟨by rw[if_pos hm],he⟩
    .rw[if_neg hm]at bo;rw[sz bo]at he;refine .inl ⟨q.2,by rw[if_neg hm,a2],he,?_⟩;cases bZ:fa sizes [] (σ de)with
     |none=>rw[bZ]at P;cases P
     |some p=>
      rw[bZ]at P;obtain⟨bn,s1⟩:=p;have aT:iI sizes [] de=σ (bn,s1):=bZ;obtain⟨u,_,_,eP⟩:=vy aT;have aU:bd 0 av s1=σ q:=P;obtain⟨fj,fk⟩:=q;have eQ:=dK aU;have:=eP.1;have:=eQ.1;rw[o7];simp only[S3];omega
def jU(s:aE):Prop:=s.big=false->0<=s.told/\s.told<=16384
def jV(neg:Bool)(ar:Nat)(scope sizes:Λ)(e:Option aE):Option (cw×aE):=match a7 0 av (e.map (ba (decide (6<ar)||dt sizes)))with
 |none=>ν
 |some (other,f)=>match dW sizes f with
  |none=>ν
  |some (lines,a)=>σ (⟨scope,sizes,other,lines⟩,if neg=true then{a with shared:=a.shared++[(sizes,lines)]}else a)
theorem Dn{s s':aE}{l:List (Λ×Int)}(h:dW sizes s=σ (l,s')):s'.toks.length+1<=s.toks.length/\s'.shared=s.shared:=by
 unfold dW at h;cases e:bd (-av) av s with
 |none=>rw[e]at h;cases h
 |some q=>
  obtain⟨n,s1⟩:=q;have p:=dK e;have z:=p.1;have r:=p.eqs.2.2;rw[e]at h;simp only at h;split at h
  .split at h
   .cases h
   .split at h
    .cases h;exact⟨Ω,r⟩
    .cases h
  .have h':cM (dV sizes) n.toNat [] (ba (decide (16384<min (s1.told+n) av)) {s1 with told:=min (s1.told+n) av})=σ (l,s'):=h;have:=ko (f:=dV sizes) (λ_ t=>t.toks.length<=s1.toks.length/\t.shared=s1.shared) (λacc t a bn w y=>by
    obtain⟨_,_,_,x⟩:=pa y;have h1:=x.1;have j:=x.eqs.2.2;exact⟨by have:=w.1;omega,j.trans w.2⟩) n.toNat [] (ba (decide (16384<min (s1.told+n) av)) {s1 with told:=min (s1.told+n) av}) l s' ⟨o5 _,rfl⟩ h'
   obtain⟨⟨h1,j⟩,_⟩:=this;exact⟨Ω,j.trans r⟩
theorem tj{g:Nat}{H:af}{s:aE}(h:bN w g B H N (σ s)):s.toks.length<=100000/\s.shared.length+s.toks.length<=100000:=by
 obtain⟨j,w0,p,q,gs,sv,L,r,x,y,bad,z,big,A,told,h1,C,E,F,e,G,I,J,K,M,O,a,P,f,Q⟩:=h;have R:=e.2.2.1;refine⟨by rw[<-a,u7];omega,by rw[<-a,<-f,u7,u7];omega⟩
def Do(w:x4)(g h B:Nat)(H:af)(e:Option (cw×aE))(v:x3)(w':x4):Prop:=∃f x a,ae (λr=>r=g\/H r\/r=h\/B<=r) w w'/\v= .agg (e2 f).toArray/\gQ w' f x/\bN w' g w'.heap.size a 100001 (e.map (·.2))/\(∀q,e=σ q->x=q.1)/\(∀r,H r->a r)/\(∀r,a r->H r\/B<=r)/\∀r,a r->r<w'.heap.size
theorem Dp{g E ar:Nat}{H:af}{R:Option aE}{neg:Bool}{dv:Int}{scope:Λ}{Q:x3->x4->Prop}(h:bN w g B H 100000 R)(dw:hf w B E ⟨scope,sizes,0,[]⟩)(fm:∀c,ad w E a6 c->c[3]?=σ (.slice ν 0 0))(dx:∀z∈sizes,1<=z/\z<=av)(fo:sizes.length<=100001)(dy:ad w N a6 [.slice ν 0 0,.slice ν 0 0,Δ 0,.slice ν 0 0])(ju:N<B)(cF:¬H N)(cG:∀r,H r->r<B)(fp:∀an,R=σ an->jU an)(fq:∀v w',Do w g N B H (jV neg ar scope sizes R) v w'->Q v w'):
  V x8 (u6 a6 (Γ E) 1) w λfs=>
  V x8 (u5 au fs) w λdz=>
  V x8 (W7 #[au] ag #[dz]) w λft=>
  b3 (Δ 1) (Δ 0) w λdA cX aB fu=>
   V x8 (aJ .lss ag false false cX ft) aB λfv=>
   Split fv (cv (α:=x3->x4->Prop) (λ(fw:x3)(dD:x4)=>
    V x8 (aJ .add ag false true cX (Δ 1)) dD λfx=>
    fu fw fx dD) λdF=>
   V x8 (j5 au dz cX) aB λfy=>
   V x8 (u5 ao fy) aB λdG=>
   cv (α:=x3->x4->Prop) (λ(fz:x3)(cH:x4)=>
    V x8 (aJ .mul ao false false dA fz) cH λdH=>
    V x8 (aJ .gtr ao false true dH (Δ 4096)) cH λfA=>
    Split fA (dF (Δ 4097) cH)
     (dF dH cH)) λdI=>
   V x8 (aJ .gtr ao false true dG (Δ 4096)) aB λfB=>
   Split fB (dI (Δ 4097) aB)
    (dI dG aB))
    (cv (α:=x4->Prop) (λ(bW:x4)=>
   ai x8 lM [(Γ g),(Δ 0),(Δ 4611686018427387904)] bW λdJ bx=>
   V x8 (Y2 dJ 0) bx λfD=>
   V x8 (Y2 dJ 1) bx λjv=>
   V x8 (u6 a6 (Γ E) 2) bx λfE=>
   aC x8 (o8 ao fE fD) bx λ(_:Unit)bf=>
   ai x8 lM [(Γ g),(Δ (-4611686018427387904)),(Δ 4611686018427387904)] bf λdL O=>
   V x8 (Y2 dL 0) O λbB=>
   V x8 (Y2 dL 1) O λdM=>
   V x8 (bP (Γ g)) O λfF=>
   V x8 (u6 bC fF 3) O λfG=>
   V x8 (u5 ag fG) O λfH=>
   V x8 (aJ .neq ag false true fH (Δ 0)) O λfI=>
   Split fI (V x8 (u5 a6 (Γ E)) O λbY=>
    aC x8 (o8 a6 (Γ N) bY) O λ(_:Unit)bg=>
    V x8 (do loadVar a6 (<-asAddr (Γ N))) bg λb0=>
 Q b0 bg)
    (cv (α:=x4->Prop) (λ(aT:x4)=>
    b1 (Δ 0) aT λdN bm fJ=>
     cv (α:=x3->x4->Prop) (λ(fK:x3)(b2:x4)=>
      Split fK (aC x8 (Instr.alloc ch true (.tuple #[])) b2 λx cI=>
     V x8 (u6 a6 (Γ E) 1) cI λfL=>
     V x8 (u5 au fL) cI λdO=>
     V x8 (W7 #[au] ag #[dO]) cI λfM=>
     b1 (Δ 0) cI λcY bD fN=>
      V x8 (aJ .lss ag false false cY fM) bD λfO=>
      Split fO (V x8 (j5 au dO cY) bD λfP=>
      V x8 (u5 ao fP) bD λfQ=>
      V x8 (aJ .sub ao false true fQ (Δ 1)) bD λfR=>
      ai x8 lM [(Γ g),(Δ 0),fR] bD λdP b4=>
      V x8 (Y2 dP 0) b4 λfS=>
      V x8 (Y2 dP 1) b4 λjw=>
      V x8 (u6 ch x 0) b4 λfU=>
      V x8 (u5 au fU) b4 λfV=>
      aC x8 (Y8 au 1 #[(0,fS)]) b4 λfW fX=>
      aC x8 (Z3 #[au,au] au #[fV,fW]) fX λfY dQ=>
      V x8 (u6 ch x 0) dQ λfZ=>
      aC x8 (o8 au fZ fY) dQ λ(_:Unit)dS=>
      V x8 (aJ .add ag false true cY (Δ 1)) dS λgb=>
      fN gb dS)
       (ai x8 lM [(Γ g),(Δ 0),(Δ 4611686018427387904)] bD λdT bE=>
     V x8 (Y2 dT 0) bE λgc=>
     V x8 (Y2 dT 1) bE λgd=>
     V x8 (u6 a6 (Γ E) 3) bE λgf=>
     V x8 (u5 ei gf) bE λdU=>
     V x8 (W7 #[ei] ag #[dU]) bE λgg=>
     b1 (Δ 0) bE λcZ bG gh=>
      V x8 (aJ .lss ag false false cZ gg) bG λgi=>
      Split gi (cv (α:=x4->Prop) (λ(dX:x4)=>
       V x8 (aJ .add ag false true cZ (Δ 1)) dX λgj=>
       gh gj dX) λdY=>
      V x8 (j5 ei dU cZ) bG λgk=>
      V x8 (u5 ch gk) bG λgl=>
      aC x8 (Instr.alloc ch true (.tuple #[])) bG λy gm=>
      aC x8 (o8 ch y gl) gm λ(_:Unit)aH=>
      cv (α:=x3->x4->Prop) (λ(gn:x3)(dZ:x4)=>
       Split gn (ai x8 np [(Γ g),(Δ 4),gd] dZ λjx gp=>
        dY gp)
        (dY dZ)) λea=>
      V x8 (bP (Γ g)) aH λgq=>
      V x8 (u6 bC gq 3) aH λgu=>
      V x8 (u5 ag gu) aH λgv=>
      V x8 (aJ .eql ag false true gv (Δ 0)) aH λgw=>
      Split gw (V x8 (u6 ch x 0) aH λgx=>
       V x8 (u5 au gx) aH λgA=>
      V x8 (u6 ch y 0) aH λgB=>
      V x8 (u5 au gB) aH λgC=>
      ai x8 rS [gA,gC] aH λgD gE=>
      ea gD gE)
       (ea (.bool false) aH))
       (V x8 (u6 ch x 1) bG λgF=>
     aC x8 (o8 ao gF gc) bG λ(_:Unit)cJ=>
     V x8 (u6 a6 (Γ E) 3) cJ λgH=>
     V x8 (u5 ei gH) cJ λgI=>
     V x8 (u5 ch x) cJ λgJ=>
     aC x8 (Y8 ei 1 #[(0,gJ)]) cJ λgK gL=>
     aC x8 (Z3 #[ei,ei] ei #[gI,gK]) gL λgM eb=>
     V x8 (u6 a6 (Γ E) 3) eb λgN=>
     aC x8 (o8 ei gN gM) eb λ(_:Unit)ed=>
     V x8 (aJ .add ao false true dN (Δ 1)) ed λgO=>
     fJ gO ed)))
       (cv (α:=x4->Prop) (λ(ah:x4)=>
     V x8 (u5 a6 (Γ E)) ah λgP=>
     aC x8 (o8 a6 (Γ N) gP) ah λ(_:Unit)ef=>
     V x8 (do loadVar a6 (<-asAddr (Γ N))) ef λgS=>
 Q gS ef) λeh=>
    Split (.bool neg) (eg b2 λap=>
     V x8 (bP (Γ g)) ap λc0=>
     V x8 (u6 bC c0 8) ap λc1=>
     V x8 (u5 dC c1) ap λej=>
     V x8 (u5 a6 (Γ E)) ap λgT=>
     aC x8 (Y8 dC 1 #[(0,gT)]) ap λgU aU=>
     (Ext ap aU\/bZ x8 (u5 dC c1) ej aU/\bZ x8 (u6 bC c0 8) c1 aU/\bZ x8 (bP (Γ g)) c0 aU/\True)/\
     aC x8 (Z3 #[dC,dC] dC #[ej,gU]) aU λgV cK=>
      V x8 (bP (Γ g)) cK λgW=>
      V x8 (u6 bC gW 8) cK λgX=>
      aC x8 (o8 dC gX gV) cK λ(_:Unit)bn=>
      eh bn)
     (eh b2))) λek=>
     V x8 (aJ .lss ao false false dN bB) bm λgY=>
     Split gY (V x8 (bP (Γ g)) bm λgZ=>
     V x8 (u6 bC gZ 3) bm λg0=>
     V x8 (u5 ag g0) bm λg2=>
     V x8 (aJ .eql ag false true g2 (Δ 0)) bm λg3=>
     ek g3 bm)
      (ek (.bool false) bm)) λem=>
   V x8 (aJ .lss ao false true bB (Δ 0)) O λg4=>
   Split g4 (cv (α:=x3->x4->Prop) (λ(g5:x3)(X:x4)=>
     Split g5 (ai x8 np [(Γ g),(Δ 4),dM] X λjy c2=>
     V x8 (u5 a6 (Γ E)) c2 λg6=>
     aC x8 (o8 a6 (Γ N) g6) c2 λ(_:Unit)en=>
     V x8 (do loadVar a6 (<-asAddr (Γ N))) en λg7=>
 Q g7 en)
     (V x8 (bP (Γ g)) X λg8=>
    V x8 (u6 bC g8 8) X λg9=>
    V x8 (u5 dC g9) X λha=>
    V x8 (Op.unary .neg bB) X λhb=>
    V x8 (aJ .sub ao false true hb (Δ 1)) X λhc=>
    V x8 (j5 dC ha hc) X λhg=>
    V x8 (u6 a6 hg 3) X λhh=>
    V x8 (u5 ei hh) X λhj=>
    V x8 (u6 a6 (Γ E) 3) X λhl=>
    aC x8 (o8 ei hl hj) X λ(_:Unit)eo=>
    em eo)) λep=>
    eg O λP=>
    V x8 (Op.unary .neg bB) P λhn=>
    V x8 (bP (Γ g)) P λho=>
    V x8 (u6 bC ho 8) P λhp=>
    V x8 (u5 dC hp) P λhq=>
    V x8 (W7 #[dC] ag #[hq]) P λhr=>
    V x8 (aJ .gtr ao false false hn hr) P λhs=>
    Split hs (ep (.bool true) P)
    (V x8 (bP (Γ g)) P λht=>
    V x8 (u6 bC ht 8) P λhv=>
    V x8 (u5 dC hv) P λhx=>
    V x8 (Op.unary .neg bB) P λhy=>
    V x8 (aJ .sub ao false true hy (Δ 1)) P λhz=>
    V x8 (j5 dC hx hz) P λhA=>
    V x8 (u6 a6 hA 1) P λhB=>
    V x8 (u5 au hB) P λhC=>
    V x8 (u6 a6 (Γ E) 1) P λhD=>
    V x8 (u5 au hD) P λhE=>
    ai x8 rS [hC,hE] P λhF c3=>
    V x8 (Op.unary .not hF) c3 λhG=>
    ep hG c3))
    (V x8 (bP (Γ g)) O λhH=>
    V x8 (u6 bC hH 7) O λhI=>
    V x8 (u5 ao hI) O λhJ=>
    V x8 (aJ .add ao false false hJ bB) O λhK=>
    V x8 (bP (Γ g)) O λhL=>
    V x8 (u6 bC hL 7) O λhM=>
    aC x8 (o8 ao hM hK) O λ(_:Unit)aI=>
    cv (α:=x4->Prop) (λ(aK:x4)=>
     V x8 (bP (Γ g)) aK λhN=>
     V x8 (u6 bC hN 7) aK λhO=>
     V x8 (u5 ao hO) aK λhP=>
     V x8 (aJ .gtr ao false true hP (Δ 16384)) aK λhQ=>
     ai x8 rR [(Γ g),hQ,dM] aK λjz c4=>
     em c4) λer=>
    V x8 (bP (Γ g)) aI λhR=>
    V x8 (u6 bC hR 7) aI λhS=>
    V x8 (u5 ao hS) aI λhT=>
    V x8 (aJ .gtr ao false true hT (Δ 4611686018427387904)) aI λhU=>
    Split hU (V x8 (bP (Γ g)) aI λhV=>
    V x8 (u6 bC hV 7) aI λhW=>
    aC x8 (o8 ao hW (Δ 4611686018427387904)) aI λ(_:Unit)es=>
    er es)
    (er aI)))) λet=>
  V x8 (aJ .gtr ao false true (Δ (ar:Int)) (Δ 6)) aB λhX=>
  Split hX (ai x8 rR [(Γ g),(.bool true),(Δ dv)] aB λjA hZ=>
  et hZ)
   (V x8 (aJ .gtr ao false true dA (Δ 4096)) aB λh0=>
  ai x8 rR [(Γ g),h0,(Δ dv)] aB λjB h3=>
  et h3)):=by
 have h4:=h.lt;have eu:N≠g:=λhe=>by
  obtain⟨ax,Z,ab,bad,ay,big,az,told,sv,C,_⟩:=h6 h;subst he;exact absurd (fh C dy) Φ
 obtain⟨aL,szv,cb,g1,cL,cN,f1,f2,f3,f4,f5,f6,f7⟩:=id dw;have b5:E≠g:=Ω
 have ret:∀{G:x4}{x:cw}{S:af},hf G B E x->ad G N a6 [.slice ν 0 0,.slice ν 0 0,Δ 0,.slice ν 0 0]->ae (λr=>r=g\/H r\/B<=r) w G->bN G g G.heap.size S 100001 ((jV neg ar scope sizes R).map (·.2))->(∀q,jV neg ar scope sizes R=σ q->x=q.1)->¬S N->(∀r,H r->S r)->(∀r,S r->H r\/B<=r)->(∀r,S r->r<G.heap.size)->
   (V x8 (u5 a6 (Γ E)) G λbY=>
    aC x8 (o8 a6 (Γ N) bY) G λ(_:Unit)bg=>
    V x8 (do loadVar a6 (<-asAddr (Γ N))) bg λb0=>Q b0 bg):=by
  intro G x S c5 c6 h5 h7 h8 h9 c7 ia ib;obtain⟨aL,szv,cb,g1,cL,cN,c8,c9,da,db,dc,ev,ew⟩:=c5;let ac:iW:=⟨aL,szv,x.other,cb⟩;have b6:gQ G ac x:=⟨⟨g1,c9⟩,⟨cL,da⟩,rfl,cN,db⟩;rw[bF a6.p a6.i rfl (show G.rangeAt E 0 (e2 ac)from c8.range)];refine bT (vs:=e2 ac) a6.i rfl rfl b6.one c6 λjC dd ic ie=>?_;rw[e6 a6.p a6.i rfl ie.range];have ig:∀r,r=N->hd G r\/G.heap.size<=r:=λr j=>by subst j;exact .inl ⟨_,_,c6,Φ,Φ⟩
  refine fq _ _ ⟨ac,x,S,(h5.mono λr _ h=>?_).trans (dd.mono λr _ h=>.inr (.inr (.inl h))),rfl,b6.dR dd ig,h7.dR dd λr j=>.inl ?_,h8,c7,ia,λr j=>by rw[ic];exact ib r j⟩
  .exact h.elim .inl λh=>h.elim (λh=>.inr (.inl h)) λh=>.inr (.inr (.inr h))
  .have j:r=N:=j;subst j;exact⟨_,_,c6,Φ,Φ,Φ,Φ,h9⟩
 have de:∀{G:x4},ae (gR g B) w G->ad G N a6 [.slice ν 0 0,.slice ν 0 0,Δ 0,.slice ν 0 0]:=λaX=>dy.aa aX λI=>I.elim eu λh=>Ω
 have df:∀{G:x4},ae (gR g B) w G->ae (λr=>r=g\/H r\/B<=r) w G:=λaX=>aX.mono λr _ h=>h.elim .inl λh=>.inr (.inr h);have ey:∀{G:x4}{ez:Nat}{S:af}{so:Option aE},bN G g ez S 100000 so->bN G g ez S 100001 so:=λj=>by
  obtain⟨b7,w0,ax,bh,gs,sv,L,aA,Z,ab,bad,ay,big,az,told,h1,ih,ii,ij,ik,dg,dh⟩:=j;refine⟨Ω,w0,ax,bh,gs,sv,L,aA,Z,ab,bad,ay,big,az,told,h1,ih,ii,ij,ik,dg,?_⟩;rename_i so;cases so with
  |none=>exact⟨dh.1,by have:=dh.2;omega⟩
  |some s=>exact dh
 have eA:∀{G:x4}{x:cw},hf G B E x->ae (gR g B) w G->bN G g B H 100000 ν->jV neg ar scope sizes R=ν->(V x8 (u5 a6 (Γ E)) G λbY=>
    aC x8 (o8 a6 (Γ N) bY) G λ(_:Unit)bg=>
    V x8 (do loadVar a6 (<-asAddr (Γ N))) bg λb0=>Q b0 bg):=λc5 aX j eB=>
  ret c5 (de aX) (df aX) (by rw[eB];exact ey j.base) (λq U=>by rw[eB]at U;cases U) cF (λ_ h=>h) (λ_ h=>.inl h) λr j=>by have:=cG r j;have:=aX.size;omega
 rw[aG a6.p 1 f1 rfl,aV au.u f3.ls];refine N4 f3.ls (λz il=>(dx z il).1) λc aX=>?_;refine dl (λbW=>ae (λr=>r=g) w bW/\bN bW g B H 100000 (R.map (ba (decide (6<ar)||dt sizes)))) ?_ ?_
 rotate_left
 .intro aw aZ;rw[bS,aj];refine⟨λdg=>?_,λdg=>?_⟩
  .refine (mO h).mono ?_;rintro _ J _ a1;refine aZ _ ⟨a1.1,?_⟩;rw[decide_eq_true (show 6<ar by omega),Bool.true_or];exact a1.2
  .rw[bS];refine(mO h).mono ?_;rintro _ J _ a1;refine aZ _ ⟨a1.1,?_⟩;have e:dt sizes=decide (4096<c):=by rw[V7,decide_eq_true_eq];exact aX.symm
   rw[decide_eq_false (show¬6<ar by omega),Bool.false_or,e];exact a1.2
 rintro bW ⟨im,io⟩;refine(ky io).mono ?_;rintro _ bx _ ⟨⟨iq,ir⟩,o,jD,rfl,it,jE⟩;rw[bz,bA];have bH:ae (λr=>r=g) w bx:=im.trans iq;have jF:=dw.dR bH (kz h);have f123:=f1.aa bH λhe=>b5 he;rw[aS a6.p rfl];refine bq (g:=E) (o:=2) ao.i rfl rfl f123 Ξ λbf b9 jG bI=>?_;have bI:ad bf E a6 [aL,szv,Δ o,cb]:=bI;have di:∀r,r=g->hd w r\/w.heap.size<=r:=λr j=>(kz h r j).imp (λ⟨e,c,C,a2,a8,_⟩=>⟨e,c,C,a2,a8⟩) id;have bK:∀{G:x4}{c:List x3},ad G E a6 c->∀r,r=E->hd G r\/G.heap.size<=r:=λC r j=>by subst j;exact .inl ⟨_,_,C,Φ,Φ⟩
 have f224:=eH (eH f2 bH di) b9 (bK f123);have f324:=eH (eH f3 bH di) b9 (bK f123);have eC:=(f4.dR bH di).dR b9 (bK f123);have bL:=ir.new b9 λr j=>by have j:r=E:=j;omega
 have eD:ae (gR g B) w bf:=(bH.mono λr _ h=>.inl h).trans (b9.mono λr _ h=>.inr (by have h:r=E:=h;omega));refine(ky bL).mono ?_;rintro _ O _ ⟨⟨bi,bb⟩,n,jH,rfl,iu,eE⟩;rw[bz,bA,qR bb];have eF:ae (gR g B) w O:=eD.trans (bi.mono λr _ h=>.inl h);have iv:hf bf B E ⟨scope,sizes,o,[]⟩:=⟨aL,szv,cb,g1,cL,cN,bI,f224,f324,eC,f5,f6,f7⟩;have eI:=iv.dR bi (kz bL);cases bc:a7 (-4611686018427387904) 4611686018427387904 (V9 (λx=>x.snd) (a7 0 4611686018427387904 (R.map (ba (decide (6<ar)||dt sizes)))))with
 |none=>
  rw[bc]at bb;rw[Option.map_none,S9,X9,bQ];refine eA eI eF bb ?_;unfold jV;cases W:a7 0 av (R.map (ba (decide (6<ar)||dt sizes)))with
  |none=>rfl
  |some p=>
   obtain⟨o',M⟩:=p;have iw:a7 0 4611686018427387904 (R.map (ba (decide (6<ar)||dt sizes)))=σ (o',M):=W;rw[iw]at bc;have e:bd (-av) av M=ν:=bc;simp only;unfold dW;rw[e]
 |some q=>
 obtain⟨jI,K⟩:=q;have ix:=iu _ bc;subst ix;rw[bc]at bb;have bb:bN O g B H 100000 (σ K):=bb;rw[Z7,S8,Y9,aY];obtain⟨M,W,dj⟩:∃M,a7 0 av (R.map (ba (decide (6<ar)||dt sizes)))=σ (o,M)/\bd (-av) av M=σ (n,K):=by
  cases W:a7 0 4611686018427387904 (R.map (ba (decide (6<ar)||dt sizes)))with
  |none=>rw[W]at bc;cases bc
  |some p=>
   obtain⟨o',M⟩:=p;have:=it _ W;subst this;rw[W]at bc;exact⟨M,W,bc⟩
 have ca:jV neg ar scope sizes R=match dW sizes M with
   |none=>ν
   |some (lines,K)=>σ (⟨scope,sizes,o,lines⟩,if neg=true then{K with shared:=K.shared++[(sizes,lines)]}else K):=by
  unfold jV;rw[W]
 have iy:=(hY dj).1;have iz: -4611686018427387904<=n/\n<=4611686018427387904:=iy;have eJ:dW sizes M=(if n<0 then match K.shared[(-n-1).toNat]? with
   |none=>ν
   |some (z,l)=>if z=sizes then σ (l,K)else ν
  else cM (dV sizes) n.toNat [] (ba (decide (16384<min (K.told+n) av)) {K with told:=min (K.told+n) av})):=by
  unfold dW;rw[dj];rfl
 have iA:jU K:=by
  cases bM:R with
  |none=>rw[bM]at W;cases W
  |some an=>
   rw[bM]at W;have dk:bd 0 av (ba (decide (6<ar)||dt sizes) an)=σ (o,M):=W;have cP:=(dK dk).eqs;have cc:=(dK dj).eqs;intro C;rw[cc.2.1,cP.2.1]at C;rw[cc.1,cP.1];exact fp an bM (U3.1 C).1
 refine dl (λaT=>ae (gR g B) w aT/\∃bo cd cQ bj,ad aT E a6 [aL,szv,Δ o,bo]/\aq .i64 ao aT g1 aL scope/\aq .i64 ao aT cL szv sizes/\kx aT cd bo cQ/\bN aT g B H 100000 (σ bj)/\(0<n->cQ=[]/\∀r,¬leadsTo bo r)/\dW sizes M=(if n<=0 then σ (cQ,bj)else cM (dV sizes) n.toNat [] bj)) ?_ ?_
 .rintro aT ⟨iB,bo,cd,cQ,bj,c8,c9,da,db,dc,ev,ew⟩;refine N7 dc c8 c9 da db f5 f6 f7 dx fo iz.2 ev (tj dc).1 λb2 A dm iC eK eL iD ce=>?_;have bO:=iB.trans iC;have bp:dm=(dW sizes M).map (·.2)/\∀q,dW sizes M=σ q->A=q.1:=by
   rw[ew];by_cases dn:n<=0
   .obtain⟨Z,ab⟩:=iD dn;rw[if_pos dn];exact⟨ab,λq U=>by cases U;exact Z⟩
   .rw[if_neg dn];exact ce Ω
  obtain⟨bp,a1⟩:=bp;cases neg with
  |false=>
   refine dl (λah=>b2=ah) ?_ ?_
   .rintro _ rfl;refine ret eK (de bO) (df bO) ?_ ?_ cF (λ_ h=>h) (λ_ h=>.inl h) λr j=>by have:=cG r j;have:=bO.size;omega
    .have:(jV false ar scope sizes R).map (·.2)=dm:=by
      rw[ca,bp];cases dW sizes M with
      |none=>rfl
      |some p=>rfl
     rw[this];exact ey eL.base
    .intro q U;rw[ca]at U;cases ak:dW sizes M with
     |none=>rw[ak]at U;cases U
     |some p=>
      rw[ak]at U;have:=a1 p ak;cases U;rw[this]
   .intro aw aZ;rw[aY];exact aZ _ rfl
  |true=>
   refine dl (λah=>∃S,ae (λr=>r=g\/H r\/B<=r) w ah/\hf ah B E ⟨scope,sizes,o,A⟩/\ad ah N a6 [.slice ν 0 0,.slice ν 0 0,Δ 0,.slice ν 0 0]/\bN ah g ah.heap.size S 100001 ((jV true ar scope sizes R).map (·.2))/\¬S N/\(∀r,H r->S r)/\(∀r,S r->H r\/B<=r)/\∀r,S r->r<ah.heap.size) ?_ ?_
   .rintro ah ⟨S,iE,iF,a3,a4,a5,iG,iH,iI⟩;refine ret iF a3 iE a4 ?_ a5 iG iH iI;intro q U;rw[ca]at U;cases ak:dW sizes M with
    |none=>rw[ak]at U;cases U
    |some p=>
     rw[ak]at U;have:=a1 p ak;cases U;rw[this]
   .intro aw aZ;rw[bQ];intro ap cg _ _;have iJ:=eL.ext cg;have iK:=eK.ext cg;have iL:=(de bO).ext cg;obtain⟨b7,w0,ax,bh,gs,sv,L,aA,Z,ab,bad,ay,big,az,told,cR,br,bt,al,bu,bk,bw⟩:=id iJ;have iM:=bu.g br bt;obtain⟨⟨iN,eM⟩,aN,ci,cj⟩:=id iM;have iO:∀r,leadsTo sv r->r<B:=λr j=>cG r (bk r j);rw[aQ bC.p 8 al rfl];obtain⟨eN,eO,bo,eP,eQ,cd,eR,eU,eV,eW,iP,iQ,iR⟩:=id iK;let ac:iW:=⟨eN,eO,o,bo⟩;let x:cw:=⟨scope,sizes,o,A⟩;have b6:gQ ap ac x:=⟨⟨eP,eU⟩,⟨eQ,eV⟩,rfl,cd,eW⟩;rw[bF a6.p a6.i rfl (show ap.rangeAt E 0 (e2 ac)from eR.range)];refine h2 (f:=e2) (a:=ac) dC.u a6.i Ω rfl rfl λjJ jK aU jL Y iS=>?_;refine⟨.inl Y,?_⟩;have jM:L.length<=100000:=by
     cases dm with
     |none=>exact bw.2
     |some s=>have:=bw.2.2.2.2.2.2.2.2;omega
    have dp:=aN.ext Y;refine ip (f:=e2) (a:=ac) dC.u a6.i rfl dp (by simpa using iS.sl) (b6.ext Y).one Ω Ω λeX iT cK ck iU eY=>?_;have dq:=al.ext Y;have eZ:=dq.aa eY λhe=>cO dp dq Φ he;rw[bX,aS bC.p rfl];refine bq (g:=g) (o:=8) dC.i (eS ck.sl).1 (eS ck.sl).2 eZ (by simp[gG]) λbn dr jN cS=>?_;have cS:ad bn g bC (gG ax Z ab bad ay big az told eX):=cS;have aO:ae (λr=>leadsTo sv r\/r=g) aU bn:=(eY.mono λr _ h=>.inl h).trans (dr.mono λr _ h=>.inr h);have cT:∀r,(leadsTo sv r\/r=g)->hd aU r\/aU.heap.size<=r:=λr j=>by
     rcases j with j|rfl
     .obtain⟨rfl,c,C⟩:=ee dp j;exact .inl ⟨_,c,C,Φ,Φ⟩
     .exact .inl ⟨_,_,dq,Φ,Φ⟩
    have e0:∀{ac x},gQ ap ac x->gQ bn ac x:=λhe=>(he.ext Y).dR aO cT;have z50:=cg.size;have jO:=Y.size;have z53:=aO.size;have jP:=bO.size;have jQ:=h4.2;refine aZ _ ⟨λr=>H r\/(ap.heap.size<=r/\r<bn.heap.size),?_,?_,?_,?_,?_,λr j=>.inl j,λr j=>j.imp id λj=>Ω,λr j=>?_⟩
    .refine (((df bO).trans (cg.aa _)).trans (Y.aa _)).trans (aO.mono λr _ j=>?_);exact j.elim (λj=>.inr (.inl (bk r j))) .inl
    .have iV:=eR.ext Y;refine⟨eN,eO,bo,eP,eQ,cd,iV.aa aO λj=>?_,eH (eU.ext Y) aO cT,eH (eV.ext Y) aO cT,(eW.dR (Y.aa λ_=>False) λ_ h=>h.elim).dR aO cT,iP,iQ,iR⟩;rcases j with j|j
     .have:=iO _ j;omega
     .exact b5 j
    .exact (iL.ext Y).aa aO λj=>j.elim (λj=>cF (bk _ j)) eu
    .refine⟨Ω,bn,ax,bh,iT,eX,L++[ac],aA++[x],Z,ab,bad,ay,big,az,told,rfl,ae.refl _ _,⟨_,cS⟩,cS,⟨⟨?_,λr j=>?_⟩,ck.aa dr λr j he=>?_,by rw[o7,o7,ci];rfl,λi iX iY hi cl=>?_⟩,λr j=>?_,?_⟩
     .refine (iN.aa (Y.aa λ_=>False) λ_ _ h=>h).aa aO λr j I=>?_;obtain⟨c,C⟩:=eM r j;rcases I with I|rfl
      .obtain⟨rfl,iZ,ds⟩:=ee aN I;exact absurd (fh C ds) Φ
      .exact absurd (fh C al) Φ
     .obtain⟨c,C⟩:=eM r j;refine⟨c,(C.ext Y).aa aO λI=>?_⟩;rcases I with I|rfl
      .obtain⟨rfl,iZ,ds⟩:=ee aN I;exact absurd (fh C ds) Φ
      .exact absurd (fh C al) Φ
     .have he:r=g:=he;subst he;exact cO ck eZ Φ j
     .by_cases i0:i<L.length
      .rw[Y1 i0]at hi;rw[Y1 Ω]at cl;exact e0 (cj i iX iY hi cl)
      .rw[Y3 Ω]at hi;rw[Y3 Ω]at cl;have i1:i-L.length=0:=by have:=(x5.1 hi).1;simp at this;omega
       have c7:i-aA.length=0:=Ω
       rw[i1]at hi;rw[c7]at cl;cases hi;cases cl;exact e0 b6
     .rcases iU r j with h|h
      .exact .inl (bk r h)
      .have:=(ck.leads j);have:=dr.size;exact .inr ⟨Ω,Ω⟩
     .rw[ca];cases ak:dW sizes M with
      |none=>
       rw[ak]at bp;rw[bp]at bw;exact⟨bw.1,by rw[o7];simp;have:=bw.2;omega⟩
      |some p=>
       obtain⟨lines,bj⟩:=p;rw[ak]at bp;rw[bp]at bw;have i2:=a1 _ ak;obtain⟨cm,cn,cp,cq,cr,bR,ct,aP,cU⟩:=id bw;have e1:=Dn ak;refine⟨cm,cn,cp,cq,cr,bR,ct,?_,?_⟩
       .show (aA++[x]).map _=bj.shared++[(sizes,lines)];rw[Z2,aP];simp only[x,T1,List.map_nil];rw[i2]
       .have jR:M.shared.length+M.toks.length<=100000:=by
         cases bM:R with
         |none=>rw[bM]at W;cases W
         |some an=>
          rw[bM]at W h;have dk:bd 0 av (ba (decide (6<ar)||dt sizes) an)=σ (o,M):=W;have t9:=dK dk;have cP:=t9.1;have cc:=t9.eqs.2.2;have t3:=(tj h).2;have e3:(ba (decide (6<ar)||dt sizes) an).toks=an.toks:=rfl;have e4:(ba (decide (6<ar)||dt sizes) an).shared=an.shared:=rfl;rw[e3]at cP;rw[e4]at cc;rw[cc];omega
        have e5:L.length=bj.shared.length:=by rw[<-aP,u7,ci]
        have i3:bh.length=bj.toks.length:=by rw[<-bR,u7]
        rw[e1.2]at e5;rw[o7,e5,i3];simp only[S3];have:=e1.1;omega
    .rintro (j|j)
     .exact cF j
     .omega
    .rcases j with j|j
     .have:=cG r j;omega
     .exact j.2
 .intro aw aZ;rw[aR,aj];refine⟨λi4=>?_,λi5=>?_⟩
  .
   refine aW (λv X=>Ext O X/\∃b:Bool,v= .bool b/\(b=true->dW sizes M=ν)/\(b=false->∃lines,dW sizes M=σ (lines,K)/\K.shared[(-n-1).toNat]?=σ (sizes,lines))) ?_ ?_
   .rintro _ X ⟨bU,b,rfl,i6,i7⟩;have cV:=bb.ext bU;have i8:=eI.ext bU;have e7:=eF.trans (bU.aa _);cases b with
    |true=>
     rw[bQ];refine(n7 cV Ω).mono ?_;rintro _ c2 _ ⟨e8,i9⟩;exact eA (i8.dR e8 (kz cV)) (e7.trans (e8.mono λr _ h=>.inl h)) i9 (by rw[ca,i6 rfl])
    |false=>
     rw[aY];obtain⟨lines,ja,bV⟩:=i7 rfl;obtain⟨b7,w0,ax,bh,gs,sv,L,aA,Z,ab,bad,ay,big,az,told,cR,br,bt,al,bu,bk,cm,cn,cp,cq,cr,bR,ct,aP,cU⟩:=id cV;obtain⟨_,aN,ci,cj⟩:=bu.g br bt;have cu:(-n-1).toNat<L.length:=by
      have h1:=(x5.1 bV).1;rw[<-aP,u7]at h1;omega
     obtain⟨hk,cz⟩:∃h,L[(-n-1).toNat]?=σ h:=⟨_,x7 cu⟩;obtain⟨be,cA⟩:=aD (l:=aA) (i:=(-n-1).toNat) Ω;obtain⟨_,_,_,jb,am⟩:=cj _ hk be cz cA;have jc:be.lines=lines:=by
      rw[<-aP,v8,cA]at bV;have:=Z0 bV;exact(Prod.mk.inj this).2
     rw[aQ bC.p 8 al rfl,lR,wrap_i64 Ω Ω,ec,wrap_i64 Ω Ω,dE (i:=(-n-1).toNat) Ω dC.u a6.i aN cu,aS a6.p rfl,aF Ψ (aN.range cz 3 _ rfl)];obtain⟨jS,fa,jT,jW⟩:=id am;have cW:ad X E a6 [aL,szv,Δ o,cb]:=(bI.aa bi λhe=>b5 he).ext bU;have jd:=(eH f224 bi λr j=>(kz bL r j).imp (λ⟨e,c,C,a2,a8,_⟩=>⟨e,c,C,a2,a8⟩) id).ext bU;have je:=(eH f324 bi λr j=>(kz bL r j).imp (λ⟨e,c,C,a2,a8,_⟩=>⟨e,c,C,a2,a8⟩) id).ext bU;rw[aS a6.p rfl];refine bq (g:=E) (o:=3) ei.i (eS fa.sl).1 (eS fa.sl).2 cW Ξ λeo cB jX jf=>?_;refine aZ _ ⟨e7.trans (cB.mono λr _ h=>.inr (by have h:r=E:=h;omega)),hk.cb,jb,lines,K,jf,eH jd cB (bK cW),eH je cB (bK cW),?_,cV.new cB λr j=>by have j:r=E:=j;omega,λh=>Ω,by rw[ja,if_pos Ω]⟩;rw[<-jc];exact am.dR cB (bK cW)
   .intro jY fb;intro P cC _ _;have jg:=bb.ext cC;obtain⟨b7,w0,ax,bh,gs,sv,L,aA,Z,ab,bad,ay,big,az,told,cR,br,bt,al,bu,bk,cm,cn,cp,cq,cr,bR,ct,aP,cU⟩:=id jg;obtain⟨_,aN,ci,cj⟩:=bu.g br bt;have jZ:K.shared.length=L.length:=by rw[<-aP,u7,ci]
    have am:=eJ;rw[if_pos i4]at am;rw[lR,wrap_i64 Ω Ω,aQ bC.p 8 al rfl,e9 dC.u aN,bS,aj];refine⟨λce=>fb _ _ ⟨cC,true,rfl,λ_=>?_,λh=>by cases h⟩,λce=>?_⟩
    .rw[am,Y4 Ω]
    have cu:(-n-1).toNat<L.length:=Ω
    obtain⟨hk,cz⟩:∃h,L[(-n-1).toNat]?=σ h:=⟨_,x7 cu⟩;obtain⟨be,cA⟩:=aD (l:=aA) (i:=(-n-1).toNat) Ω;obtain⟨_,⟨gz,jh⟩,_,_⟩:=cj _ hk be cz cA;have bV:K.shared[(-n-1).toNat]?=σ (be.sizes,be.lines):=by rw[<-aP,v8,cA];rfl
    rw[bV]at am;simp only at am;rw[aQ bC.p 8 al rfl,lR,wrap_i64 Ω Ω,ec,wrap_i64 Ω Ω,dE (i:=(-n-1).toNat) Ω dC.u a6.i aN cu,aS a6.p rfl,aF Ψ (aN.range cz 1 _ rfl)];have ji:ad P E a6 [aL,szv,Δ o,cb]:=(bI.aa bi λhe=>b5 he).ext cC;have jj:=(eH f324 bi λr j=>(kz bL r j).imp (λ⟨e,c,C,a2,a8,_⟩=>⟨e,c,C,a2,a8⟩) id).ext cC;rw[aG a6.p 1 ji rfl];refine(wC jh.ls jj.ls).mono ?_;rintro _ c3 _ ⟨rfl,jk⟩;rw[bJ];refine fb _ _ ⟨cC.trans jk,_,rfl,λC=>?_,λC=>?_⟩
    .have jl:be.sizes≠sizes:=by simpa using C
     rw[am,if_neg jl]
    .have fc:be.sizes=sizes:=by simpa using C
     exact⟨be.lines,by rw[am,if_pos fc],by rw[bV,fc]⟩
  .
   have am:=eJ;rw[if_neg i5]at am;obtain⟨b7,w0,ax,bh,gs,sv,L,aA,Z,ab,bad,ay,big,az,told,cR,br,bt,al,bu,bk,cm,cn,cp,cq,cr,bR,ct,aP,cU⟩:=id bb;rw[aQ bC.p 7 al rfl,aM];generalize jm:X7.wrap (told+n)=bl;have fd:K.big=false->bl=K.told+n/\0<=bl:=λC=>by
    obtain⟨e3,e4⟩:=iA C;have jn:=cq C;rw[<-jm,jn,wrap_i64 Ω Ω];exact⟨rfl,Ω⟩
   rw[bX,aS bC.p rfl];refine bq (g:=g) (o:=7) ao.i rfl rfl al (by simp[gG]) λaI fe j0 cD=>?_;have cD:ad aI g bC (gG ax Z ab bad ay big az bl sv):=cD;refine dl (λaK=>ae (λr=>r=g) O aK/\ad aK g bC (gG ax Z ab bad ay big az (min bl av) sv)) ?_ ?_
   rotate_left
   .intro j1 ff;rw[aQ bC.p 7 cD rfl,bS,aj];refine⟨λce=>?_,λce=>ff _ ⟨fe,?_⟩⟩
    .rw[bX,aS bC.p rfl];refine bq (g:=g) (o:=7) ao.i rfl rfl cD (by simp[gG]) λes jo j2 jp=>?_;refine ff _ ⟨fe.trans jo,?_⟩;have e:min bl av=4611686018427387904:=by unfold av;omega
     rw[e];exact jp
    .have e:min bl av=bl:=by unfold av;omega
     rw[e];exact cD
   rintro aK ⟨fi,fj⟩;have jq:bN aK g B H 100000 (σ {K with told:=min (K.told+n) av}):=⟨b7,w0,ax,bh,gs,sv,L,aA,Z,ab,bad,ay,big,az,_,cR,br.trans fi,bt,fj,bu,bk,cm,cn,cp,λC=>by
    have C:K.big=false:=C;rw[(fd C).1],cr,bR,ct,aP,cU⟩
   rw[aQ bC.p 7 fj rfl,bS];refine(mO jq).mono ?_;rintro _ c4 _ ⟨jr,fk⟩;have js:(σ {K with told:=min (K.told+n) av}).map (ba (decide (16384<min bl av)))=σ (ba (decide (16384<min (K.told+n) av)) {K with told:=min (K.told+n) av}):=by
    show σ (ba _ _)=_;congr 1;unfold ba;cases C:K.big with
    |true=>simp
    |false=>rw[(fd C).1]
   rw[js]at fk;have cE:ae (λr=>r=g) bf c4:=(bi.trans fi).trans jr;have du:∀r,r=g->hd bf r\/bf.heap.size<=r:=λr j=>(kz bL r j).imp (λ⟨e,c,C,a2,a8,_⟩=>⟨e,c,C,a2,a8⟩) id;have jt:cb= .slice ν 0 0:=by
    have:=fm _ f1;simpa using this
   refine aZ _ ⟨eD.trans (cE.mono λr _ h=>.inl h),cb,cN,[],_,bI.aa cE λhe=>b5 he,eH f224 cE du,eH f324 cE du,eC.dR cE du,fk,λ_=>⟨rfl,λr j=>by rw[jt]at j;exact fg j⟩,?_⟩;rw[am];by_cases eE:n<=0
   .have:n=0:=Ω
    subst this;rw[if_pos (Q1 _)];rfl
   .rw[if_neg eE]
theorem Dq{s:aE}:db all s=match bd (-av) av s with
  |none=>ν
  |some (a,s1)=>match e8 all.length a.natAbs s1 with
   |none=>ν
   |some (scope,e)=>jV (decide (a<0)) a.natAbs scope (scope.map λv=>all.getD v.toNat 0) (σ e):=by
 unfold db;cases bd (-av) av s with
 |none=>rfl
 |some q=>
  obtain⟨a,s1⟩:=q;simp only;cases e8 all.length a.natAbs s1 with
  |none=>rfl
  |some p=>
   obtain⟨scope,e⟩:=p;simp only;unfold jV;show _=match bd 0 av (ba (decide (6<a.natAbs)||dt (scope.map λv=>all.getD v.toNat 0)) e)with
    |none=>ν
    |some (other,f)=>_
   cases bd 0 av (ba (decide (6<a.natAbs)||dt (scope.map λv=>all.getD v.toNat 0)) e)with
   |none=>rfl
   |some j=>
    obtain⟨o,f⟩:=j;simp only;cases dW (scope.map λv=>all.getD v.toNat 0) f with
    |none=>rfl
    |some r=>
     obtain⟨ls,w⟩:=r;by_cases h:a<0
     .simp[h]
     .simp[h]
def wE(w:x4)(g:Nat)(H:af)(e:Option (cw×aE))(v:x3)(w':x4):Prop:=∃f x a,ae (λr=>r=g\/H r) w w'/\v= .agg (e2 f).toArray/\gQ w' f x/\bN w' g w'.heap.size a 100001 (e.map (·.2))/\(∀q,e=σ q->x=q.1)/\(∀r,H r->a r)/\(∀r,a r->H r\/w.heap.size<=r)/\∀r,a r->r<w'.heap.size
theorem Dr{n:Int}{s s':aE}(h:e8 n k s=σ (l,s')):s'.toks.length+l.length<=s.toks.length/\s'.told=s.told/\s'.big=s.big/\s'.shared=s.shared/\∀v∈l,0<=v/\v<n:=by
 have:=ko (f:=kp n) (λ(acc:Λ)t=>t.toks.length+acc.length<=s.toks.length/\t.told=s.told/\t.big=s.big/\t.shared=s.shared/\∀v∈acc,0<=v/\v<n) (λacc t a bn j e=>by
  unfold kp at e;cases r:bd 0 (n-1) t with
  |none=>rw[r]at e;cases e
  |some q=>
   obtain⟨v,C⟩:=q;rw[r]at e;simp only at e;split at e
   .cases e
   .cases e;have w:=dK r;have E:=(hY r).1;obtain⟨x,z,A⟩:=w.eqs;have t0:=w.1;refine⟨by have:=j.1;rw[o7];simp only[S3];omega,x.trans j.2.1,z.trans j.2.2.1,A.trans j.2.2.2.1,λy p=>?_⟩;rcases l9.1 p with p|p
    .exact j.2.2.2.2 y p
    .rw[j4.1 p];omega) k [] s l s' ⟨Ξ,rfl,rfl,rfl,λv B=>by cases B⟩ h
 exact this.1
theorem N8{g B0:Nat}{H:af}{s:aE}{P:x3}(h:bN w g B0 H 100000 (σ s))(ac:aq .i64 ao w gz P all)(ag:∀z∈all,1<=z/\z<=av)(aQ:all.length<=100001)(Q:∀r,H r->r<w.heap.size)(bj:jU s):
  ai x8 y9 [Γ g,P] w (wE w g H (db all s)):=by
 have bX:=h.lt;refine ay func122 ?_;refine bw a6.i λG J bY R S=>?_;have S:ad J G a6 [.slice ν 0 0,.slice ν 0 0,Δ 0,.slice ν 0 0]:=S;refine bw a6.i λM U bZ W X=>?_;have X:ad U M a6 [.slice ν 0 0,.slice ν 0 0,Δ 0,.slice ν 0 0]:=X;have h1:=(h.ext R).base;have ah:=h1.ext W;have b0:=R.size;have aS:=S.lt;have b1:=X.lt;refine(ky ah).mono ?_;rintro _ E _ ⟨⟨Y,j⟩,a,b2,rfl,ak,al⟩;rw[bz,bA,aR];have bk:M≠g:=Ω
 have am:G≠g:=Ω
 have an:=X.aa Y λhe=>bk he;have au:=(S.ext W).aa Y λhe=>am he;have aT:aq .i64 ao E gz P all:=br ((ac.ext R).ext W) Y λr e he=>by
  have he:r=g:=he;obtain⟨aU,B,K,bad,aV,big,aX,told,sv,Z,_⟩:=h6 h;subst he;exact ce ac Z Φ e rfl
 have aY:∀r,leads P r->r<J.heap.size:=λr e=>by obtain⟨B,K⟩:=bR ac e;omega
 have ax:hf E J.heap.size M ⟨[],[],0,[]⟩:=⟨_,_,_,0,0,0,an,aq.nil _ _ _ _,aq.nil _ _ _ _,⟨[],be.nil _ _ _ _ _,λy bl=>(by cases bl),rfl⟩,(λr e=>by rcases e with⟨a,n,c,B,K⟩|⟨a,n,c,B,K⟩<;>cases B),(λr e=>by obtain⟨a,n,c,B,K⟩:=e;cases B),Ω⟩;have az:∀c,ad E M a6 c->c[3]?=σ (.slice ν 0 0):=λc aA=>by
  unfold ad at aA an;rw[an]at aA;have:=Array.toList_inj.2 (Obj.cells.inj (Z0 aA)).1;simp at this;rw[<-this];rfl
 have aZ:ae (λr=>r=g) J E:=(W.aa _).trans Y;have b3:J.heap.size<=E.heap.size:=aZ.size;have aB:∀{f:x4}{aD:Option (cw×aE)}{v:x3}{w':x4},ae (gR g J.heap.size) E f->aD=db all s->Do f g G J.heap.size H aD v w'->wE w g H (db all s) v w':=by
  rintro f aD v w' C rfl ⟨O,x,bm,aF,aG,aH,aI,a1,a2,a8,bn⟩;refine⟨O,x,bm,?_,aG,aH,aI,a1,a2,λr e=>(a8 r e).imp id λh=>Ω,bn⟩;refine hx (hx ((R.aa _).trans (aZ.mono λr _ h=>.inl h)) C λr e he=>?_) aF λr e he=>?_
  .exact he.elim .inl λhe=>Ω
  .rcases he with he|he|he|he
   .exact .inl he
   .exact .inr he
   .omega
   .omega
 have bo:∀{f:x4}{x:cw},ae (gR g J.heap.size) E f->db all s=ν->bN f g J.heap.size H 100000 ν->hf f J.heap.size M x->
   (V x8 (u5 a6 (Γ M)) f λbp=>
    aC x8 (o8 a6 (Γ G) bp) f λ(_:Unit)ba=>
    V x8 (do loadVar a6 (<-asAddr (Γ G))) ba λbq=>wE w g H (db all s) bq ba):=by
  intro f x C bb aJ bt;obtain⟨aL,szv,cb,g1,bu,bx,aF,aG,aH,aI,a1,a2,a8⟩:=bt;let O:iW:=⟨aL,szv,x.other,cb⟩;have bc:gQ f O x:=⟨⟨g1,aG⟩,⟨bu,aH⟩,rfl,bx,aI⟩;have aK:=au.aa C λI=>I.elim am λh=>Ω
  rw[bF a6.p a6.i rfl (show f.rangeAt M 0 (e2 O)from aF.range)];refine bT (vs:=e2 O) a6.i rfl rfl bc.one aK λb4 aM b5 bB=>?_;rw[e6 a6.p a6.i rfl bB.range];have bC:∀r,r=G->hd f r\/f.heap.size<=r:=λr e=>by subst e;exact .inl ⟨_,_,aK,Φ,Φ⟩
  have b6:=C.size;refine aB C rfl ⟨O,x,H,aM.mono λr _ h=>.inr (.inr (.inl h)),rfl,bc.dR aM bC,?_,(λq A=>by rw[bb]at A;cases A),λ_ h=>h,λ_ h=>.inl h,λr e=>by have:=Q r e;omega⟩;rw[bb];have bD:bN f g J.heap.size H 100001 ν:=by
   obtain⟨b7,w0,aU,bE,gs,sv,L,bG,B,K,bad,aV,big,aX,told,h1,ah,j,bH,bI,aN,bf⟩:=aJ;exact⟨Ω,w0,aU,bE,gs,sv,L,bG,B,K,bad,aV,big,aX,told,h1,ah,j,bH,bI,aN,bf.1,by have:=bf.2;omega⟩
  refine bD.dR aM λr e=>.inl ?_;have e:r=G:=e;subst e;exact⟨_,_,aK,Φ,Φ,Φ,Φ,λap=>by have:=Q _ ap;omega⟩
 have N:=Dq (all:=all) (s:=s);have bJ:a7 (-4611686018427387904) 4611686018427387904 (σ s)=bd (-av) av s:=rfl;rw[bJ]at j ak al;have b9: -4611686018427387904<=a/\a<=4611686018427387904:=by
  cases A:bd (-av) av s with
  |none=>have:=al A;omega
  |some q=>have:=ak q A;rw[this];exact(hY (n:=q.1) (s':=q.2) A).1
 refine aW (λv bK=>E=bK/\v=Δ (a.natAbs:Int)) ?_ ?_
 rotate_left
 .intro aw bg;rw[aj];refine⟨λca=>?_,λcc=>bg _ _ ⟨rfl,by congr 1;omega⟩⟩;rw[lR,wrap_i64 Ω Ω];exact bg _ _ ⟨rfl,by congr 1;omega⟩
 rintro _ _ ⟨rfl,rfl⟩;have bh:∀r,H r->r<J.heap.size:=λr e=>by have:=Q r e;omega
 have bi:¬H G:=λap=>by have:=Q _ ap;omega
 have bL:∀{scope:Λ},(∀v∈scope,0<=v/\v<(all.length:Int))->∀z∈scope.map (λv=>all.getD v.toNat 0),1<=z/\z<=av:=λbM z bO=>by
  obtain⟨v,bP,rfl⟩:=j0.1 bO;have:=bM v bP;refine ag _ ?_;rw[u4,x7 Ω];exact Q3 _
 cases A:bd (-av) av s with
 |none=>
  rw[A]at j N;have bQ:=al A;subst bQ;refine Dm (s:=s) (ar:=(0:Int).natAbs) j (.inr ⟨rfl,rfl⟩) ax az aT aY aQ Φ (λh=>by cases h) ?_ ?_ ?_
  .intro h;cases h
  .intro _;exact Dp (neg:=decide ((0:Int)<0)) j ax az (λz ag=>by cases ag) Ξ au aS bi bh (λbS I=>by cases I) λv w' aO=>aB (ae.refl _ _) (by rw[N];rfl) aO
  .intro h;cases h
 |some q=>
  obtain⟨a',s1⟩:=q;rw[A]at j N;have:=ak _ A;subst this;simp only at N;have j:bN E g J.heap.size H 100000 (σ s1):=j;have bU:=dK A;refine Dm (s:=s1) (ar:=a.natAbs) j (.inl rfl) ax az aT aY aQ Ω (λ_=>(tj j).1) ?_ ?_ ?_
  .intro _ f x C ab aJ aP;exact bo C (by rw[N,ab]) aJ aP
  .intro h;cases h
  .intro _ f scope s' C ab aN aP bV;obtain⟨cd,bW,t3,t4,t5⟩:=Dr ab;rw[ab]at N;obtain⟨B,K,cg⟩:=bU.eqs;refine Dp (neg:=decide (a<0)) aN aP bV (bL t5) ?_ (au.aa C λI=>I.elim am λh=>Ω) aS bi bh (λbS I=>?_) λv w' aO=>aB C N.symm aO
   .rw[u7];have:=(tj j).1;omega
   .cases I;intro Z;rw[t3,K]at Z;rw[bW,B];exact bj Z
theorem N9{s s':aE}{l:List (Λ×Int)}(h:dW sizes s=σ (l,s'))(r:jU s):jU s':=by
 unfold dW at h;cases j:bd (-av) av s with
 |none=>rw[j]at h;cases h
 |some q=>
  obtain⟨n,s1⟩:=q;obtain⟨w,x,t3⟩:=(dK j).eqs;have p:jU s1:=λe=>by rw[w];exact r (by rw[<-x];exact e)
  rw[j]at h;simp only at h;split at h
  .split at h
   .cases h
   .split at h
    .cases h;exact p
    .cases h
  .rename_i G;have h':cM (dV sizes) n.toNat [] (ba (decide (16384<min (s1.told+n) av)) {s1 with told:=min (s1.told+n) av})=σ (l,s'):=h;have:=ko (f:=dV sizes) (λ_ t=>jU t) (λacc t a bn y z=>by
    obtain⟨_,_,_,A⟩:=pa z;obtain⟨B,C,H⟩:=A.eqs;intro e;rw[B];exact y (by rw[<-C];exact e)) n.toNat [] (ba (decide (16384<min (s1.told+n) av)) {s1 with told:=min (s1.told+n) av}) l s' (λe=>by
     obtain⟨E,F⟩:=U3.1 e;have I:=p E;have J:=of_decide_eq_false F;show 0<=min (s1.told+n) av/\min (s1.told+n) av<=16384;unfold av at*;omega) h'
   exact this.1
theorem Oa{s s':aE}{x:cw}(h:db all s=σ (x,s')):s'.toks.length+1<=s.toks.length/\(jU s->jU s'):=by
 rw[Dq]at h;cases r:bd (-av) av s with
 |none=>rw[r]at h;cases h
 |some q=>
  obtain⟨a,s1⟩:=q;rw[r]at h;simp only at h;have A:=dK r;cases I:e8 all.length a.natAbs s1 with
  |none=>rw[I]at h;cases h
  |some p=>
   obtain⟨scope,f⟩:=p;rw[I]at h;simp only at h;obtain⟨T,F,t3,_⟩:=Dr I;unfold jV at h;have e:a7 0 av ((σ f).map (ba (decide (6<a.natAbs)||dt (scope.map λv=>all.getD v.toNat 0))))=bd 0 av (ba (decide (6<a.natAbs)||dt (scope.map λv=>all.getD v.toNat 0)) f):=rfl;rw[e]at h;cases w:bd 0 av (ba (decide (6<a.natAbs)||dt (scope.map λv=>all.getD v.toNat 0)) f)with
   |none=>rw[w]at h;cases h
   |some G=>
    obtain⟨o,B⟩:=G;rw[w]at h;simp only at h;have C:=dK w;cases j:dW (scope.map λv=>all.getD v.toNat 0) B with
    |none=>rw[j]at h;cases h
    |some H=>
     obtain⟨ls,y⟩:=H;rw[j]at h;simp only[X4,S1]at h;obtain⟨_,J⟩:=h;have U:=Dn j;have K:(ba (decide (6<a.natAbs)||dt (scope.map λv=>all.getD v.toNat 0)) f).toks=f.toks:=rfl;have L:=C.1;rw[K]at L;have V:=A.1;obtain⟨M,N,_⟩:=A.eqs;obtain⟨f1,f2,_⟩:=C.eqs;have z:s'.toks=y.toks/\s'.told=y.told/\s'.big=y.big:=by
      rw[<-J];split<;>exact⟨rfl,rfl,rfl⟩
     refine⟨by rw[z.1];omega,λO=>?_⟩;have P:jU B:=λE=>by
      rw[f2]at E;rw[f1];have Q:f.big=false:=(U3.1 E).1;show 0<=f.told/\f.told<=16384;rw[F,M];exact O (by rw[<-N,<-t3];exact Q)
     have R:=N9 j P;intro S;rw[z.2.1];exact R (by rw[<-z.2.2];exact S)
theorem bN.shrink{g:Nat}{H:af}{so:Option aE}(h:bN w g B H N so):∃a,bN w g B a N so/\(∀r,a r->H r)/\∀r,a r->∃c,ad w r a6 c:=by
 obtain⟨s,w0,x,y,gs,sv,L,z,A,C,bad,E,big,F,told,h1,f,j,G,p,I,J⟩:=h;refine⟨λr=>leadsTo sv r,⟨s,w0,x,y,gs,sv,L,z,A,C,bad,E,big,F,told,h1,f,j,G,p,λr e=>e,J⟩,I,λr e=>?_⟩;obtain⟨rfl,c,q⟩:=ee p.2.1 e;refine⟨c,q.aa f λhe=>?_⟩;obtain⟨M,K⟩:=j;subst he;exact absurd (fh q K) Φ
theorem bN.low{g:Nat}{H:af}{s:aE}(h:bN w g B H N (σ s)):bN w g B H 100000 (σ s):=by
 obtain⟨F,w0,a,e,gs,sv,L,f,j,p,bad,q,big,r,told,h1,x,y,z,A,C,E⟩:=h;exact⟨o5 _,w0,a,e,gs,sv,L,f,j,p,bad,q,big,r,told,h1,x,y,z,A,C,E⟩
theorem bN.up{g M:Nat}{H:af}{so:Option aE}(h:bN w g B H N so)(F:N<=M):bN w g B H M so:=by
 obtain⟨G,w0,e,f,gs,sv,L,j,p,q,bad,r,big,x,told,h1,y,z,A,C,E,a⟩:=h;refine⟨Ω,w0,e,f,gs,sv,L,j,p,q,bad,r,big,x,told,h1,y,z,A,C,E,?_⟩;cases so with
 |none=>exact⟨a.1,by have:=a.2;omega⟩
 |some s=>exact a
def lk{α:Type}(f:List α->aE->Option (α×aE))(cnt i:Nat)(a:Option aE)(A:List α)(so:Option aE):Prop:=a.bind (cM f cnt [])=(match so with
 |none=>ν
 |some s=>cM f (cnt-i) A s)
theorem lk.step{α:Type}{f:List α->aE->Option (α×aE)}{cnt i:Nat}{j:Option aE}{A:List α}{s:aE}{a:α}{p:Option aE}(h:lk f cnt i j A (σ s))(hi:i<cnt)(h1:p=(f A s).map (·.2))(r:∀q,f A s=σ q->a=q.1):lk f cnt (i+1) j (A++[a]) p:=by
 unfold lk at*;rw[h,show cnt-i=(cnt-(i+1))+1 by omega];simp only;cases e:f A s with
 |none=>rw[pd e,h1,e];rfl
 |some q=>
  obtain⟨a',s'⟩:=q;have:=r _ e;subst this;rw[sz e,h1,e];rfl
theorem Ob{s0:aE}{t acc:Λ}{n most p k:Int}{F:List cw}{x y z A G so6 e:Option aE}(h1:x=((dU s0).map (·.2)).map (ba (decide (64<t.length))))(P:∀q,dU s0=σ q->t=q.1)(r:y=((a7 1 av x).map (·.2)).map (ba (decide (64<n))))(M:∀q,a7 1 av x=σ q->n=q.1)(h:z=(a7 1 av y).map (·.2))(hm:∀q,a7 1 av y=σ q->most=q.1)(f:A=((a7 0 av z).map (·.2)).map (ba (decide (256<p))))(N:∀q,a7 0 av z=σ q->p=q.1)(a:G=((a7 1 av A).map (·.2)).map (ba (decide (2147483648<k))))(hk:∀q,a7 1 av A=σ q->k=q.1)(w:G.bind (cM (fW most) n.toNat [])=so6.map λs=>(acc,s))(j:so6.bind (cM (λ_ s=>db acc s) p.toNat [])=e.map λs=>(F,s)):hU s0=e.map λs=>(⟨t,k,acc,F⟩,s):=by
 unfold hU;cases H:dU s0 with
 |none=>
  rw[H]at h1;subst h1;subst r;subst h;subst f;subst a;have:so6=ν:=by cases so6 with|none=>rfl|some s=>cases w
  subst this;cases e with|none=>rfl|some s=>cases j
 |some Q=>
 obtain⟨bn,s1⟩:=Q;have:=P _ H;subst this;rw[H]at h1;have h1:x=σ (ba (decide (64<t.length)) s1):=h1;subst h1;simp only;have R:a7 1 av (σ (ba (decide (64<t.length)) s1))=bd 1 av (ba (decide (64<t.length)) s1):=rfl;rw[R]at r M;cases I:bd 1 av (ba (decide (64<t.length)) s1)with
 |none=>
  rw[I]at r;subst r;subst h;subst f;subst a;have:so6=ν:=by cases so6 with|none=>rfl|some s=>cases w
  subst this;cases e with|none=>rfl|some s=>cases j
 |some S=>
 obtain⟨aa,B⟩:=S;have:=M _ I;subst this;rw[I]at r;have r:y=σ (ba (decide (64<n)) B):=r;subst r;simp only;have T:a7 1 av (σ (ba (decide (64<n)) B))=bd 1 av (ba (decide (64<n)) B):=rfl;rw[T]at h hm;cases J:bd 1 av (ba (decide (64<n)) B)with
 |none=>
  rw[J]at h;subst h;subst f;subst a;have:so6=ν:=by cases so6 with|none=>rfl|some s=>cases w
  subst this;cases e with|none=>rfl|some s=>cases j
 |some U=>
 obtain⟨bV,C⟩:=U;have:=hm _ J;subst this;rw[J]at h;have h:z=σ C:=h;subst h;simp only;have V:a7 0 av (σ C)=bd 0 av C:=rfl;rw[V]at f N;cases K:bd 0 av C with
 |none=>
  rw[K]at f;subst f;subst a;have:so6=ν:=by cases so6 with|none=>rfl|some s=>cases w
  subst this;cases e with|none=>rfl|some s=>cases j
 |some W=>
 obtain⟨ab,E⟩:=W;have:=N _ K;subst this;rw[K]at f;have f:A=σ (ba (decide (256<p)) E):=f;subst f;simp only;have X:a7 1 av (σ (ba (decide (256<p)) E))=bd 1 av (ba (decide (256<p)) E):=rfl;rw[X]at a hk;cases L:bd 1 av (ba (decide (256<p)) E)with
 |none=>
  rw[L]at a;subst a;have:so6=ν:=by cases so6 with|none=>rfl|some s=>cases w
  subst this;cases e with|none=>rfl|some s=>cases j
 |some Y=>
 obtain⟨ac,O⟩:=Y;have:=hk _ L;subst this;rw[L]at a;have a:G=σ (ba (decide (2147483648<k)) O):=a;subst a;simp only;have w:cM (fW most) n.toNat [] (ba (decide (2147483648<k)) O)=so6.map λs=>(acc,s):=w;rw[w];cases so6 with
 |none=>cases e with|none=>rfl|some s=>cases j
 |some Z=>
  simp only[Z7];have j:cM (λ_ s=>db acc s) p.toNat [] Z=e.map λs=>(F,s):=j;rw[j];cases e<;>rfl
def pu(w:x4)(gr:Nat)(e:x3)(a:List cw):Prop:=∃L,be e2 4 a6 w gr e L/\a.length=L.length/\∀(i:Nat)h x,L[i]?=σ h->a[i]?=σ x->gQ w h x
def n8(w:x4)(e:Nat)(f:ca):Prop:=∃szv gz a gr,ad w e dJ [bU f.name,Δ f.k,szv,a]/\aq .i64 ao w gz szv f.sizes/\pu w gr a f.funs
theorem pu.ext{gr:Nat}{a:x3}{e:List cw}(h:pu w gr a e)(f:Ext w w'):pu w' gr a e:=by
 obtain⟨L,h1,j,p⟩:=h;exact⟨L,h1.ext f,j,λi ap x hi q=>(p i ap x hi q).ext f⟩
theorem n8.ext{e:Nat}{f:ca}(h:n8 w e f)(a:Ext w w'):n8 w' e f:=by
 obtain⟨szv,gz,j,gr,h1,p,q⟩:=h;exact⟨szv,gz,j,gr,h1.ext a,p.ext a,q.ext a⟩
def Oc(w:x4)(pl:Λ)(v:x3)(w':x4):Prop:=Ext w w'/\∃n e:Int,(gB pl=ν->v= .tuple #[.pointer ν,Δ n,Δ e])/\∀f,gB pl=σ f->∃a,v= .tuple #[Γ a,Δ n,Δ e]/\n8 w' a f
theorem Od{w0:x4}{g A:Nat}{so6:Option aE}{t acc:Λ}{k R bad:Int}{szv p:x3}{Q:x3->x4->Prop}(c9:ae (λr=>w0.heap.size<=r) w0 w)(b2:ad w A dJ [bU t,Δ k,szv,.slice ν 0 0])(da:aq .i64 ao w gz szv acc)(h:bN w g B bx 100000 so6)(dc:∀s,so6=σ s->jU s/\s.toks.length<=100000/\(∀z∈acc,1<=z/\z<=av)/\acc.length<=100001)(fa:w0.heap.size<=g)(fb:w0.heap.size<=A)(dd:aH .u8 w0 p pl)(fc:0<=R/\R<=4611686018427387904)(bj:∀v w' M bk,Ext w0 w'->so6.bind (cM (λ_ s=>db acc s) R.toNat [])=bk.map (λs=>(M,s))->
   (∀s,bk=σ s->s.toks=[]/\¬0<=bad/\s.big=false->v= .tuple #[Γ A,Δ (pl.length:Int),Δ 0]/\n8 w' A ⟨t,k,acc,M⟩)->
   ((∀s,bk=σ s->¬(s.toks=[]/\¬0<=bad/\s.big=false))->∃n e:Int,v= .tuple #[.pointer ν,Δ n,Δ e])->Q v w'):
  b1 (Δ 0) w λb3 E de=>
   cv (α:=x3->x4->Prop) (λ(df:x3)(N:x4)=>
    Split df (eg N λJ=>
   V x8 (bP (Γ A)) J λaG=>
   V x8 (u6 dJ aG 3) J λaI=>
   V x8 (u5 dC aI) J λbl=>
   V x8 (bP (Γ A)) J λdg=>
   V x8 (u6 dJ dg 2) J λdh=>
   V x8 (u5 au dh) J λdi=>
   ai x8 y9 [(Γ g),di] J λdj ak=>
    (Ext J ak\/bZ x8 (u5 dC aI) bl ak/\bZ x8 (u6 dJ aG 3) aI ak/\bZ x8 (bP (Γ A)) aG ak/\True)/\
   aC x8 (Y8 dC 1 #[(0,dj)]) ak λdk S=>
    (Ext J S\/bZ x8 (u5 dC aI) bl S/\bZ x8 (u6 dJ aG 3) aI S/\bZ x8 (bP (Γ A)) aG S/\True)/\
    aC x8 (Z3 #[dC,dC] dC #[bl,dk]) S λdm aZ=>
     V x8 (bP (Γ A)) aZ λdn=>
     V x8 (u6 dJ dn 3) aZ λdp=>
     aC x8 (o8 dC dp dm) aZ λ(_:Unit)aK=>
     V x8 (aJ .add ao false true b3 (Δ 1)) aK λdq=>
   de dq aK)
     (cv (α:=x4->Prop) (λ(P:x4)=>
   cv (α:=x4->Prop) (λ(G:x4)=>
    V x8 (bP (Γ g)) G λdr=>
    V x8 (u6 bC dr 3) G λds=>
    V x8 (u5 ag ds) G λdt=>
    V x8 (aJ .neq ag false true dt (Δ 0)) G λdu=>
    Split du (eg G λZ=>
     V x8 (bP (Γ g)) Z λdv=>
     V x8 (u6 bC dv 4) Z λdw=>
     V x8 (u5 ag dw) Z λdx=>
     V x8 (bP (Γ g)) Z λdy=>
     V x8 (u6 bC dy 3) Z λdz=>
     V x8 (u5 ag dz) Z λdA=>
     Q (.tuple #[(.pointer ν),dx,dA]) Z)
     (V x8 (bP (Γ g)) G λdD=>
    V x8 (u6 bC dD 5) G λdE=>
    V x8 (u5 ag dE) G λdF=>
    V x8 (aJ .neq ag false true dF (Δ 0)) G λdG=>
    Split dG (eg G λab=>
     V x8 (bP (Γ g)) ab λdH=>
     V x8 (u6 bC dH 6) ab λdI=>
     V x8 (u5 ag dI) ab λdK=>
     V x8 (bP (Γ g)) ab λdL=>
     V x8 (u6 bC dL 5) ab λdM=>
     V x8 (u5 ag dM) ab λdN=>
     Q (.tuple #[(.pointer ν),dK,dN]) ab)
     (V x8 (W7 #[cL] ag #[p]) G λdO=>
    Q (.tuple #[(Γ A),dO,(Δ 0)]) G))) λb4=>
   cv (α:=x3->x4->Prop) (λ(dP:x3)(a1:x4)=>
    Split dP (ai x8 np [(Γ g),(Δ 11),(Δ bad)] a1 λfd b5=>
     b4 b5)
     (b4 a1)) λb6=>
   V x8 (bP (Γ g)) P λdQ=>
   V x8 (u6 bC dQ 3) P λdS=>
   V x8 (u5 ag dS) P λdT=>
   V x8 (aJ .eql ag false true dT (Δ 0)) P λdU=>
   Split dU (V x8 (aJ .geq ag false true (Δ bad) (Δ 0)) P λdV=>
   b6 dV P)
    (b6 (.bool false) P)) λb7=>
  cv (α:=x3->x4->Prop) (λ(dW:x3)(U:x4)=>
   Split dW (V x8 (bP (Γ g)) U λdX=>
    V x8 (u6 bC dX 0) U λdY=>
    V x8 (u5 fm dY) U λdZ=>
    V x8 (j5 fm dZ (Δ 0)) U λea=>
    V x8 (u6 cr ea 1) U λeb=>
    V x8 (u5 ag eb) U λec=>
    ai x8 np [(Γ g),(Δ 4),ec] U λfe bm=>
    b7 bm)
    (b7 U)) λb8=>
  V x8 (bP (Γ g)) N λed=>
  V x8 (u6 bC ed 3) N λef=>
  V x8 (u5 ag ef) N λeh=>
  V x8 (aJ .eql ag false true eh (Δ 0)) N λei=>
  Split ei (V x8 (bP (Γ g)) N λej=>
  V x8 (u6 bC ej 0) N λek=>
  V x8 (u5 fm ek) N λem=>
  V x8 (W7 #[fm] ag #[em]) N λen=>
  V x8 (aJ .gtr ag false true en (Δ 0)) N λeo=>
  b8 eo N)
   (b8 (.bool false) N))) λca=>
   V x8 (aJ .lss ao false false b3 (Δ R)) E λep=>
   Split ep (V x8 (bP (Γ g)) E λer=>
   V x8 (u6 bC er 3) E λes=>
   V x8 (u5 ag es) E λet=>
   V x8 (aJ .eql ag false true et (Δ 0)) E λeu=>
   ca eu E)
    (ca (.bool false) E):=by
 have cb:A≠g:=λhe=>by
  obtain⟨al,ac,ah,bad,am,big,an,told,sv,C,_⟩:=h6 h;subst he;exact absurd (fh C b2) Φ
 refine⟨λbn E=>∃i:Nat,bn=Δ (i:Int)/\i<=R.toNat/\ae (λr=>w0.heap.size<=r) w0 E/\∃O gr M so,∃H:af,ad E A dJ [bU t,Δ k,szv,O]/\aq .i64 ao E gz szv acc/\pu E gr O M/\(∀r,leadsTo O r->w0.heap.size<=r/\¬H r)/\¬H A/\(∀r,leads szv r->¬H r)/\(∀r,H r->w0.heap.size<=r)/\bN E g E.heap.size H 100001 so/\lk (λ_ s=>db acc s) R.toNat i so6 M so/\
   ∀s,so=σ s->jU s/\M.length+s.toks.length<=100000/\(∀z∈acc,1<=z/\z<=av)/\acc.length<=100001,λbn _=>R.toNat-(b0 bn).toNat,
  ⟨0,rfl,X5 _,c9,_,0,[],so6,bx,b2,da,⟨[],be.nil _ _ _ _ _,rfl,λi h x hi=>by simp at hi⟩,λr y=>(fg y).elim,id,λr _ h=>h,λr h=>h.elim,h.base.up Ω,?_,λs I=>?_⟩,?_⟩
 .unfold lk;cases so6<;>rfl
 .obtain⟨ev,ew,a3,a4⟩:=dc s I;exact⟨ev,by simpa using ew,a3,a4⟩
 rintro _ E ⟨i,rfl,hi,a2,O,gr,M,so,H,cc,cd,ce,aL,bo,ey,cg,Y,bp,ez⟩;refine aW (λv N=>E=N/\((v= .bool true/\i<R.toNat/\∃s,so=σ s)\/(v= .bool false/\(so=ν\/i=R.toNat)))) ?_ ?_
 rotate_left
 .intro aw br;rw[aR,aj];refine⟨λci=>?_,λff=>br _ _ ⟨rfl,.inr ⟨rfl,.inr Ω⟩⟩⟩;rw[lj Y];cases so with
  |none=>exact br _ _ ⟨rfl,.inr ⟨rfl,.inl rfl⟩⟩
  |some s=>exact br _ _ ⟨rfl,.inl ⟨rfl,Ω,s,rfl⟩⟩
 rintro _ _ ⟨rfl,⟨rfl,ci,s,rfl⟩|⟨rfl,eA⟩⟩
 .
  rw[bQ];intro J ax _ _;obtain⟨cj,fi,ck,cl⟩:=ez s rfl;have aN:=cc.ext ax;obtain⟨eB,cm,aO,cn⟩:=(Y.ext ax).low.shrink;have bt:=cd.ext ax;have eC:=ce.ext ax;rw[aQ dJ.p 3 aN rfl,aQ dJ.p 2 aN rfl];refine(N8 cm bt ck cl (λr y=>by obtain⟨c,C⟩:=cn r y;exact C.lt) cj).mono ?_;rintro _ ak _ ⟨bu,x,cp,ay,rfl,cq,eD,eE,fj,ct,eF⟩;have cu:∃c,ad J g bC c:=by obtain⟨al,ac,ah,bad,am,big,an,told,sv,C,_⟩:=h6 cm;exact⟨_,C⟩
  have cw:∀r,(r=g\/eB r)->hd J r\/J.heap.size<=r:=λr y=>by
   rcases y with rfl|y
   .obtain⟨c,C⟩:=cu;exact .inl ⟨_,c,C,Φ,Φ⟩
   .obtain⟨c,C⟩:=cn r y;exact .inl ⟨_,c,C,Φ,Φ⟩
  have bw:=aN.aa ay λy=>y.elim (λhe=>cb he) λy=>bo (aO _ y);have st:∀{w':x4},ad w' A dJ [bU t,Δ k,szv,O]->bZ x8 (u5 dC (.pointer (σ ⟨A,0+3,ν⟩))) O w'/\bZ x8 (u6 dJ (Γ A) 3) (.pointer (σ ⟨A,0+3,ν⟩)) w'/\bZ x8 (bP (Γ A)) (Γ A) w'/\True:=λC=>
   ⟨sg Ψ (C.cell (o:=0+3) rfl),k8 (by rw[aS dJ.p rfl]),k8 (by rw[bX]),trivial⟩
  refine⟨.inr (st bw),?_⟩;refine h2 (f:=e2) (a:=bu) dC.u a6.i Ω rfl rfl λfk fo S fp W eI=>?_;refine⟨.inr (st (bw.ext W)),?_⟩;obtain⟨L,az,bz,bA⟩:=id eC;have eJ:be e2 4 a6 ak gr O L:=az.aa ay λr y I=>I.elim (λhe=>by
   obtain⟨c,C⟩:=cu;subst he;exact cO az C Φ y) λI=>(aL r y).2 (aO r I)
  have bB:=eJ.ext W;refine ip (f:=e2) (a:=bu) dC.u a6.i rfl bB (by simpa using eI.sl) (cq.ext W).one Ω Ω λcz eK aZ a7 eL cA=>?_;have bD:=bw.ext W;have cB:=bD.aa cA λhe=>cO bB bD Φ he;rw[bX,aS dJ.p rfl];refine bq (g:=A) (o:=3) dC.i (eS a7.sl).1 (eS a7.sl).2 cB Ξ λaK cC fq bE=>?_;have bE:ad aK A dJ [bU t,Δ k,szv,cz]:=bE;have fs:i<=4611686018427387904:=Ω
  rw[aM,wrap_i64 Ω Ω];have aA:ae (λr=>leadsTo O r\/r=A) S aK:=(cA.mono λr _ h=>.inl h).trans (cC.mono λr _ h=>.inr h);have cD:∀r,(leadsTo O r\/r=A)->∃e c,ad S r e c/\e≠ao/\e≠ch/\e≠cr/\e≠bC:=λr y=>by
   rcases y with y|rfl
   .obtain⟨rfl,c,C⟩:=ee bB y;exact⟨_,c,C,Φ,Φ,Φ,Φ⟩
   .exact⟨_,_,bD,Φ,Φ,Φ,Φ⟩
  have bF:∀r,(leadsTo O r\/r=A)->hd S r\/S.heap.size<=r:=λr y=>by
   obtain⟨e,c,C,bG,bH,_⟩:=cD r y;exact .inl ⟨e,c,C,bG,bH⟩
  have ft:=ax.size;have fu:=ay.size;have fv:=W.size;have fw:=aA.size;have cE:∀r,leadsTo O r->r<J.heap.size:=λr y=>by obtain⟨ac,ah⟩:=az.leads y;omega
  have aP:∀r,r<J.heap.size->¬H r->¬cp r:=λr y eM bI=>(ct r bI).elim (λh=>eM (aO r h)) λh=>Ω
  have eN:∀r,leads szv r->r<J.heap.size:=λr y=>by obtain⟨ac,ah⟩:=bR bt y;omega
  refine⟨⟨i+1,rfl,Ω,?_,cz,eK,M++[x],_,cp,bE,eH ((eH bt ay cw).ext W) aA bF,⟨L++[bu],a7.aa cC λr y he=>?_,by rw[o7,o7,bz];rfl,λj cF eO aB aT=>?_⟩,λr y=>?_,aP A aN.lt bo,λr y=>aP r (eN r y) (ey r y),λr y=>?_,?_,bp.step ci rfl λq K=>eE q K,λs' X=>?_⟩,by simp only[b0];omega⟩
  .refine (((a2.trans (ax.aa _)).trans (ay.mono λr _ h=>?_)).trans (W.aa _)).trans (aA.mono λr _ h=>?_)
   .exact h.elim (λh=>Ω) λh=>cg r (aO r h)
   .exact h.elim (λh=>(aL r h).1) λh=>Ω
  .have he:r=A:=he;subst he;exact cO a7 cB Φ y
  .by_cases eP:j<L.length
   .rw[Y1 eP]at aB;rw[Y1 Ω]at aT;exact(((bA j cF eO aB aT).dR ay cw).ext W).dR aA bF
   .rw[Y3 Ω]at aB;rw[Y3 Ω]at aT;have eQ:j-L.length=0:=by have:=(x5.1 aB).1;simp at this;omega
    have eR:j-M.length=0:=Ω
    rw[eQ]at aB;rw[eR]at aT;cases aB;cases aT;exact(cq.ext W).dR aA bF
  .rcases eL r y with h|h
   .exact⟨(aL r h).1,aP r (cE r h) (aL r h).2⟩
   .exact⟨by have:=a2.size;omega,λbI=>by have:=eF r bI;omega⟩
  .rcases ct r y with h|h
   .exact cg r (aO r h)
   .have:=a2.size;omega
  .refine (eD.ext W).dR aA λr y=>.inl ?_;obtain⟨e,c,C,bG,bH,eU,eV⟩:=cD r y;refine⟨e,c,C,bG,bH,eU,eV,?_⟩;rcases y with y|rfl
   .exact aP r (cE r y) (aL r y).2
   .exact aP _ aN.lt bo
  .cases bJ:db acc s with
   |none=>rw[bJ]at X;cases X
   |some q=>
    obtain⟨fx,cG⟩:=q;rw[bJ]at X;cases X;obtain⟨fy,eW⟩:=Oa bJ;refine⟨eW cj,?_,ck,cl⟩;rw[o7];simp only[S3];omega
 .
  rw[aY];have bL:so6.bind (cM (λ_ s=>db acc s) R.toNat [])=so.map λs=>(M,s):=by
   unfold lk at bp;rw[bp];cases so with
   |none=>rfl
   |some s=>
    rcases eA with h|rfl
    .cases h
    .simp only[U4];rfl
  have row:∀{w':x4},ae (λr=>r=g) E w'->pu w' gr O M/\ad w' A dJ [bU t,Δ k,szv,O]/\aq .i64 ao w' gz szv acc:=λa8=>by
   obtain⟨al,ac,ah,bad,am,big,an,told,sv,C,_⟩:=h6 Y;have cH:∀r,r=g->hd E r\/E.heap.size<=r:=λr y=>by subst y;exact .inl ⟨_,_,C,Φ,Φ⟩
   obtain⟨L,az,bz,bA⟩:=id ce;refine⟨⟨L,az.aa a8 λr y he=>?_,bz,λi h x hi eX=>(bA i h x hi eX).dR a8 cH⟩,cc.aa a8 λhe=>cb he,eH cd a8 cH⟩;have he:r=g:=he;subst he;exact cO az C Φ y
  refine dl (λP=>ae (λr=>r=g) E P/\bN P g E.heap.size H 100001 (so.bind λs=>if s.toks=[]then σ s else ν)) ?_ ?_
  rotate_left
  .intro fz cI;refine aW (λv U=>E=U/\∃b:Bool,v= .bool b/\(b=true->∃s,so=σ s/\s.toks≠[])/\(b=false->∀s,so=σ s->s.toks=[])) ?_ ?_
   .rintro _ _ ⟨rfl,b,rfl,bM,bO⟩;cases b with
    |true=>
     obtain⟨s,rfl,ba⟩:=bM rfl;rw[bQ];obtain⟨cJ,cK,al,aU,gs,sv,L,cN,ac,ah,bT,am,big,an,told,cP,bb,bc,aD,bd,cR,cS,cT,bf,cU,cV,bg,cW,cX,cY⟩:=id Y;obtain⟨⟨bV,eY⟩,_⟩:=bd.g bb bc;obtain⟨x,fA,rfl⟩:∃x l,aU=x::l:=by
      cases aU with
      |nil=>exact absurd bg.symm (by simpa using ba)
      |cons x l=>exact⟨x,l,rfl⟩
     rw[aQ bC.p 0 aD rfl];refine Di bV λb o eZ=>?_;rw[aS cr.p rfl,aF Ψ (eZ 1 _ rfl)];refine(n7 Y Ω).mono ?_;rintro _ bm _ ⟨e0,e1⟩;refine cI _ ⟨e0,?_⟩;show bN bm g _ H 100001 (if s.toks=[]then σ s else ν);rw[if_neg ba];exact e1
    |false=>
     rw[aY];refine cI _ ⟨ae.refl _ _,?_⟩;cases so with
     |none=>exact Y
     |some s=>
      show bN _ g _ H 100001 (if s.toks=[]then σ s else ν);rw[if_pos (bO rfl s rfl)];exact Y
   .intro fB cZ;rw[lj Y];cases so with
    |none=>
     rw[S9,aY];exact cZ _ _ ⟨rfl,false,rfl,(λh=>by cases h),λ_ s I=>by cases I⟩
    |some s=>
     rw[S8,bQ];obtain⟨cJ,cK,al,aU,gs,sv,L,cN,ac,ah,bT,am,big,an,told,cP,bb,bc,aD,bd,cR,cS,cT,bf,cU,cV,bg,cW,cX,cY⟩:=id Y;obtain⟨⟨bV,eY⟩,_⟩:=bd.g bb bc;rw[aQ bC.p 0 aD rfl,Dh bV,bS];have fD:aU.length=s.toks.length:=by rw[<-bg,u7]
     refine cZ _ _ ⟨rfl,_,rfl,λh=>⟨s,rfl,λaX=>?_⟩,λh s' X=>?_⟩
     .have:=of_decide_eq_true h;have cF:s.toks.length=0:=by rw[aX];rfl
      omega
     .cases X;have:=of_decide_eq_false h;exact b9 Ω
  rintro P ⟨c0,bW⟩;refine dl (λG=>ae (λr=>r=g) E G/\bN G g E.heap.size H 100001 (so.bind λs=>if s.toks=[]/\¬0<=bad then σ s else ν)) ?_ ?_
  rotate_left
  .intro fE c1;refine aW (λv a1=>P=a1/\∃b:Bool,v= .bool b/\(b=true->(so.bind λs=>if s.toks=[]/\¬0<=bad then σ s else ν)=ν)/\(b=false->(so.bind λs=>if s.toks=[]/\¬0<=bad then σ s else ν)=so.bind λs=>if s.toks=[]then σ s else ν)) ?_ ?_
   .rintro _ _ ⟨rfl,b,rfl,bM,bO⟩;cases b with
    |true=>
     rw[bQ];refine(n7 bW Ω).mono ?_;rintro _ b5 _ ⟨e3,e4⟩;exact c1 _ ⟨c0.trans e3,by rw[bM rfl];exact e4⟩
    |false=>
     rw[aY];exact c1 _ ⟨c0,by rw[bO rfl];exact bW⟩
   .intro fF c2;rw[lj bW];cases K:(so.bind λs=>if s.toks=[]then σ s else ν)with
    |none=>
     rw[S9,aY];refine c2 _ _ ⟨rfl,false,rfl,(λh=>by cases h),λ_=>?_⟩;cases so with
     |none=>rfl
     |some s=>
      have K:(if s.toks=[]then σ s else ν)=ν:=K;show(if s.toks=[]/\¬0<=bad then σ s else ν)=(if s.toks=[]then σ s else ν);rw[K];split at K
      .cases K
      .rename_i ba;rw[if_neg (λh=>ba h.1)]
    |some s=>
     rw[S8,bQ,cQ];refine c2 _ _ ⟨rfl,_,rfl,λh=>?_,λh=>?_⟩
     .have aX:=of_decide_eq_true h;cases so with
      |none=>rfl
      |some s=>exact if_neg λh=>h.2 aX
     .have aX:=of_decide_eq_false h;cases so with
      |none=>rfl
      |some s=>
       show(if s.toks=[]/\¬0<=bad then σ s else ν)=(if s.toks=[]then σ s else ν);by_cases I:s.toks=[]
       .rw[if_pos I,if_pos ⟨I,aX⟩]
       .rw[if_neg I,if_neg λh=>I h.1]
  rintro G ⟨c3,bh⟩;obtain⟨e5,e6,e7⟩:=row c3;have e8:ae (λr=>w0.heap.size<=r) w0 G:=a2.trans (c3.mono λr _ h=>by have h:r=g:=h;omega);have bi:Ext w0 G:=e8.ext λr y he=>Ω
  rw[qR bh];cases K:(so.bind λs=>if s.toks=[]/\¬0<=bad then σ s else ν)with
  |none=>
   rw[S9,X9,bQ];intro Z c4 _ _;obtain⟨al,ac,ah,bT,am,big,an,told,sv,C,_⟩:=h6 (bh.ext c4);rw[aQ bC.p 4 C rfl,aQ bC.p 3 C rfl];refine bj _ _ M so (bi.trans c4) bL (λs I ap=>?_) λ_=>⟨_,_,rfl⟩;subst I;have K:(if s.toks=[]/\¬0<=bad then σ s else ν)=ν:=K;rw[if_pos ⟨ap.1,ap.2.1⟩]at K;cases K
  |some s=>
   rw[K]at bh;rw[S8,Y9,aY];obtain⟨s',rfl,X⟩:∃s',so=σ s'/\(if s'.toks=[]/\¬0<=bad then σ s' else ν)=σ s:=by
    cases so with
    |none=>cases K
    |some s'=>exact⟨s',rfl,K⟩
   split at X
   .rename_i c5;cases X;obtain⟨cJ,cK,al,aU,gs,sv,L,cN,ac,ah,bT,am,big,an,told,cP,bb,bc,aD,bd,cR,cS,cT,bf,cU,cV,bg,cW,cX,cY⟩:=id bh;rw[aQ bC.p 5 aD rfl,bK,aj];refine⟨λbY=>?_,λbY=>?_⟩
    .intro ab c6 _ _;have c7:=aD.ext c6;rw[aQ bC.p 6 c7 rfl,aQ bC.p 5 c7 rfl];refine bj _ _ M _ (bi.trans c6) bL (λcG c8 ap=>?_) λ_=>⟨_,_,rfl⟩;cases c8;rw[bf.1 bY]at ap;cases ap.2.2
    .rw[aV cL.u (dd.ext bi)];refine bj _ _ M _ bi bL (λcG c8 ap=>⟨rfl,szv,gz,O,gr,e6,e7,e5⟩) λe9=>?_;refine absurd ⟨c5.1,c5.2,?_⟩ (e9 s rfl);cases C:s.big with
     |false=>rfl
     |true=>exact absurd (bf.2 C) bY
   .cases X
def Zero(so:Option aE):Prop:=∀s,so=σ s->s.told=0/\s.toks.length<=100000
theorem Zero.big{so:Option aE}(h:Zero so)(b:Bool):Zero (so.map (ba b)):=λs I=>by
 cases so with
 |none=>cases I
 |some s0=>cases I;exact h s0 rfl
theorem zero_num{lo hi:Int}{so:Option aE}(h:Zero so):Zero ((a7 lo hi so).map (·.2)):=λs I=>by
 cases so with
 |none=>cases I
 |some s0=>
  have I:V9 (λx=>x.2) (bd lo hi s0)=σ s:=I;cases a:bd lo hi s0 with
  |none=>rw[a]at I;cases I
  |some q=>
   obtain⟨n,s1⟩:=q;rw[a]at I;cases I;have e:=dK a;have:=e.1;obtain⟨h1,f⟩:=h s0 rfl;exact⟨e.eqs.1.trans h1,by show s1.toks.length<=100000;omega⟩
theorem Oe{so:Option aE}(h:Zero so):Zero ((jo so).map (·.2)):=λs I=>by
 cases so with
 |none=>cases I
 |some s0=>
  have I:V9 (λx=>x.2) (dU s0)=σ s:=I;cases a:dU s0 with
  |none=>rw[a]at I;cases I
  |some q=>
   obtain⟨n,s1⟩:=q;rw[a]at I;cases I;obtain⟨J,U⟩:=sq a;obtain⟨h1,e⟩:=h s0 rfl;have:s0.toks.length=s1.toks.length+1:=by rw[J];rfl
   exact⟨by show s1.told=0;rw[U];exact h1,by show s1.toks.length<=100000;omega⟩
theorem Of{so:Option aE}{f:ca}(h:hU ⟨(lex pl).1,0,false,[]⟩=so.map λs=>(f,s))(a:¬65536<pl.length):gB pl=so.bind λs=>if s.toks=[]/\(lex pl).2=true/\s.big=false then σ f else ν:=by
 unfold gB;rw[if_neg a,h];cases so<;>rfl
theorem Og(a:pl.length<=60000):(∀t∈(lex pl).1,Bytes t/\t.length<=65536)/\(lex pl).1.length<=60000:=by
 refine⟨λt e=>?_,X0 (p9 pl.length pl (o5 _)) a⟩;obtain⟨_,f,j⟩:=sa pl.length pl (o5 _) t e;refine⟨λb h=>?_,Ω⟩;have:=of_decide_eq_true (f b h);omega
theorem Ds{p:x3}(am:aH .u8 w p pl)(cz:Bytes pl)(cA:pl.length<=60000):ai x8 GF [p] w (Oc w pl):=by
 obtain⟨cB,dP⟩:=Og cA;refine ay func60 ?_;rw[aV cL.u am,bS,aj];refine⟨λh=>Ω,λ_=>?_⟩;refine(N0 am cz Ω).mono ?_;rintro _ J _ ⟨aI,an,bh,bad,rfl,bi,bj,cC,dQ,bl⟩;rw[bz,bA,aV cL.u (am.ext aI),dn (cs:=#[an,Δ (pl.length:Int),Δ 4,Δ 0,Δ 0,Δ 0,Δ 0,Δ 0,.slice ν 0 0]) (by obtain⟨_,_,_,_,_,rfl,_⟩:=bi;kernel_rfl)];refine bk λg U dR ax W=>?_;have W:ad U g bC (gG an (pl.length:Int) 4 0 0 0 0 0 (.slice ν 0 0)):=W;have dS:=aI.size;have dT:=ax.size;have dU:=W.lt;refine dl (λC=>Ext w C/\ae (λr=>r=g) U C/\∃X Y:Int,Y≠0/\ad C g bC (gG an X Y 0 0 0 0 0 (.slice ν 0 0))) ?_ ?_
 rotate_left
 .intro aw S;have bm:=aI.trans ax;rw[cQ,aj];refine⟨λ_=>?_,λ_=>S _ ⟨bm,ae.refl _ _,_,_,Ω,W⟩⟩;rw[bX,aS bC.p rfl];refine bq (g:=g) (o:=1) ag.i rfl rfl W (by simp[gG]) λdV cD dW cE=>?_;rw[bX,aS bC.p rfl];refine bq (g:=g) (o:=2) ag.i rfl rfl cE (by simp[gG]) λdX cF dY cG=>?_;have E:=cD.trans cF;exact S _ ⟨bm.then E λr j he=>by have he:r=g:=he;omega,E,bad,11,Ω,cG⟩
 rintro C ⟨bn,aJ,X,Y,cH,bo⟩;have z3:=aJ.size;have cI:bN C g C.heap.size bx 100000 (σ ⟨(lex pl).1,0,false,[]⟩):=by
  refine⟨o5 _,C,an,bh,0,_,[],[],X,Y,0,0,0,0,0,rfl,ae.refl _ _,⟨_,bo⟩,bo,⟨⟨?_,λr j=>?_⟩,be.nil _ _ _ _ _,rfl,λi h x hi=>by simp at hi⟩,λr j=>fg j,rfl,cH,Ξ,λ_=>rfl,trivial,bj,cB,rfl,?_⟩
  .refine (bi.aa (ax.aa λ_=>False) λ_ _ h=>h).aa aJ λr j he=>?_;have he:r=g:=he;obtain⟨c,O⟩:=bl r j;have:=O.lt;omega
  .obtain⟨c,O⟩:=bl r j;exact⟨c,(O.ext ax).aa aJ λhe=>by have he:r=g:=he;have:=O.lt;omega⟩
  .have:bh.length=(lex pl).1.length:=by rw[<-bj,u7]
   simp only[List.length_nil];omega
 have dZ:∀{R:x4}{cJ N:Nat}{H:af}{so:Option aE},bN R g cJ H N so->True:=λ_=>trivial;rw[dn (cs:=#[bU [],Δ 0,.slice ν 0 0,.slice ν 0 0]) Ψ];refine bk λA cK ea aK az=>?_;have az:ad cK A dJ [bU [],Δ 0,.slice ν 0 0,.slice ν 0 0]:=az;have eb:C.heap.size<=A:=Ω
 have ec:=az.lt;have cN:A≠g:=Ω
 have K:∀{R Z:x4}{c:List x3},ad R A dJ c->ae (λr=>r=g) R Z->ad Z A dJ c:=λO E=>O.aa E λhe=>cN he;refine(Dj (cI.ext aK)).mono ?_;rintro _ cO _ ⟨⟨aL,cP⟩,t,bp,rfl,ed,ee,cR⟩;refine bw cr.i λbt ef eg cS cT=>?_;refine bT (vs:=[bU t,Δ bp]) cr.i rfl rfl (by intro v bu;simp at bu;rcases bu with rfl|rfl<;>rfl) cT λcU cV eh bB=>?_;have aA:Ext cO cU:=cS.put cV Ω;have cW:=(K az aL).ext aA;rw[aG cr.p 0 bB rfl,bX,aS dJ.p rfl];refine bq (g:=A) (o:=0) c5.i rfl rfl cW Ξ λaN aO ei aP=>?_;have aP:ad aN A dJ [bU t,Δ 0,.slice ν 0 0,.slice ν 0 0]:=aP;have cX:=(cP.ext aA).new aO λr j=>by have j:r=A:=j;omega
 have z4:=aK.size;have z5:=aL.size;have ej:=aA.size;have bD:ad aN bt cr [bU t,Δ bp]:=bB.aa aO λhe=>by have he:bt=A:=he;omega
 rw[aG cr.p 0 bD rfl,nF c5.u,bS,aG cr.p 1 bD rfl];have cY:ae (λr=>w.heap.size<=r) w aN:=((((bn.aa _).trans (aK.aa _)).trans (aL.mono λr _ h=>by have h:r=g:=h;omega)).trans (aA.aa _)).trans (aO.mono λr _ h=>by have h:r=A:=h;omega);have up:∀{R Z:x4},ae (λr=>w.heap.size<=r) w R->ae (λr=>r=g) R Z->ae (λr=>w.heap.size<=r) w Z:=λh k=>h.trans (k.mono λr _ h=>by have h:r=g:=h;omega);refine(mO cX).mono ?_;rintro _ ek _ ⟨bE,ab⟩;have cZ:=up cY bE;have c0:=K aP bE;generalize aT:(((jo (σ ⟨(lex pl).1,0,false,[]⟩)).map (·.2)).map (ba (decide ((64:Int)<(t.length:Int)))))=aU at ab;refine(ky ab).mono ?_;rintro _ em _ ⟨⟨bF,c1⟩,n,en,rfl,bG,c2⟩;rw[bz,bA,bS];refine(mO c1).mono ?_;rintro _ eo _ ⟨bH,bI⟩;have c3:=up (up cZ bF) bH;have c4:=K (K c0 bF) bH;generalize bJ:((a7 1 4611686018427387904 aU).map (·.2)).map (ba (decide (64<n)))=aX at bI;refine(ky bI).mono ?_;rintro _ ep _ ⟨⟨bK,bL⟩,most,er,rfl,hm,c6⟩;rw[bz,bA];generalize bM:(a7 1 4611686018427387904 aX).map (·.2)=aZ at bL;refine(ky bL).mono ?_;rintro _ es _ ⟨⟨bO,c7⟩,a1,et,rfl,bP,c8⟩;rw[bz,bA,bS];refine(mO c7).mono ?_;rintro _ eu _ ⟨bR,bV⟩;generalize bW:((a7 0 4611686018427387904 aZ).map (·.2)).map (ba (decide (256<a1)))=bY at bV;refine(ky bV).mono ?_;rintro _ ev _ ⟨⟨bZ,c9⟩,k,ew,rfl,hk,ey⟩;rw[bz,bA,bS];refine(mO c9).mono ?_;rintro _ ez _ ⟨b1,b2⟩;generalize b3:((a7 1 4611686018427387904 bY).map (·.2)).map (ba (decide (2147483648<k)))=ac at b2;have da:=up (up (up (up (up c3 bK) bO) bR) bZ) b1;have db:=K (K (K (K (K c4 bK) bO) bR) bZ) b1;rw[bX,aS dJ.p rfl];refine bq (g:=A) (o:=1) ao.i rfl rfl db Ξ λb4 b5 eA a2=>?_;have a2:ad b4 A dJ [bU t,Δ k,.slice ν 0 0,.slice ν 0 0]:=a2;have dc:=b2.new b5 λr j=>by have j:r=A:=j;omega
 have b6:ae (λr=>w.heap.size<=r) w b4:=da.trans (b5.mono λr _ h=>by have h:r=A:=h;omega);have eB:0<=n/\n<=4611686018427387904:=by
  cases B:a7 1 4611686018427387904 aU with
  |none=>have:=c2 B;omega
  |some q=>have ab:=bG q B;have:=mJ (n:=q.1) (s':=q.2) B;omega
 have eC:0<=most/\most<=4611686018427387904:=by
  cases B:a7 1 4611686018427387904 aX with
  |none=>have:=c6 B;omega
  |some q=>have ab:=hm q B;have:=mJ (n:=q.1) (s':=q.2) B;omega
 have dd:0<=a1/\a1<=4611686018427387904:=by
  cases B:a7 0 4611686018427387904 aZ with
  |none=>have:=c8 B;omega
  |some q=>have ab:=bP q B;have:=mJ (n:=q.1) (s':=q.2) B;omega
 have de:Zero (σ (⟨(lex pl).1,0,false,[]⟩:aE)):=λs I=>by cases I;exact⟨rfl,by simp only;omega⟩
 have df:Zero aU:=by rw[<-aT];exact(Oe de).big _
 have dg:Zero aX:=by rw[<-bJ];exact(zero_num df).big _
 have dh:Zero aZ:=by rw[<-bM];exact zero_num dg
 have di:Zero bY:=by rw[<-bW];exact(zero_num dh).big _
 have b7:Zero ac:=by rw[<-b3];exact(zero_num di).big _
 have eD:=b6.size;refine⟨λa6 P=>∃i:Nat,a6=Δ (i:Int)/\i<=n.toNat/\ae (λr=>w.heap.size<=r) w P/\∃szv gz acc so,ad P A dJ [bU t,Δ k,szv,.slice ν 0 0]/\aq .i64 ao P gz szv acc/\(∀r,leads szv r->C.heap.size<=r)/\bN P g C.heap.size bx 100000 so/\lk (fW most) n.toNat i ac acc so/\∀s,so=σ s->s.told=0/\acc.length+s.toks.length<=100000/\∀z∈acc,1<=z/\z<=av,λa6 _=>n.toNat-(b0 a6).toNat,
  ⟨0,rfl,X5 _,b6,_,0,[],ac,a2,aq.nil _ _ _ _,(λr j=>by obtain⟨a,aB,c,X,Y⟩:=j;cases X),dc,?_,λs I=>⟨(b7 s I).1,by simpa using(b7 s I).2,λz dj=>by cases dj⟩⟩,?_⟩
 .unfold lk;cases ac<;>rfl
 rintro _ P ⟨i,rfl,hi,a8,szv,gz,acc,so,b8,b9,ca,ah,bb,cb⟩;refine aW (λv dk=>P=dk/\((v= .bool true/\i<n.toNat/\∃s,so=σ s)\/(v= .bool false/\(so=ν\/i=n.toNat)))) ?_ ?_
 rotate_left
 .intro aw S;rw[aR,aj];refine⟨λcc=>?_,λeE=>S _ _ ⟨rfl,.inr ⟨rfl,.inr Ω⟩⟩⟩;rw[lj ah];cases so with
  |none=>exact S _ _ ⟨rfl,.inr ⟨rfl,.inl rfl⟩⟩
  |some s=>exact S _ _ ⟨rfl,.inl ⟨rfl,Ω,s,rfl⟩⟩
 rintro _ _ ⟨rfl,⟨rfl,cc,s,rfl⟩|⟨rfl,dm⟩⟩
 .rw[bQ];obtain⟨dp,eF,dq⟩:=cb s rfl;refine(ky ah).mono ?_;rintro _ eI _ ⟨⟨dr,ds⟩,z,eJ,rfl,bc,eK⟩;rw[bz,bA,bS];refine(mO ds).mono ?_;rintro _ eL _ ⟨dt,du⟩;have aC:=dr.trans dt;have cd:=K b8 aC;have dv:∀r,r=g->hd P r\/P.heap.size<=r:=λr j=>(kz ah r j).imp (λ⟨e,c,O,dw,dx,_⟩=>⟨e,c,O,dw,dx⟩) id;have cg:=eH b9 aC dv;rw[aQ dJ.p 2 cd rfl];refine eM au.u ao.i rfl λa22 eN dy eO V dz=>?_;refine h5 au.u ao.i rfl (cg.ext V) dz.ls Θ Θ λch dA eP aD dC ci=>?_;have cj:=cd.ext V;have ck:=cj.aa ci λhe=>ce (cg.ext V) cj Φ he rfl;rw[bX,aS dJ.p rfl];refine bq (g:=A) (o:=2) au.i aD.ls.cells.1 aD.ls.cells.2 ck Ξ λcl cm eQ bf=>?_;have bf:ad cl A dJ [bU t,Δ k,ch,.slice ν 0 0]:=bf;rw[aM,wrap_i64 Ω Ω];have cn:ae (λr=>leads szv r\/r=A) dy cl:=(ci.mono λr _ h=>.inl h).trans (cm.mono λr _ h=>.inr h);have cp:∀r,(leads szv r\/r=A)->C.heap.size<=r:=λr j=>j.elim (ca r) λj=>Ω
  have eR:w.heap.size<=C.heap.size:=bn.size;have eS:=aC.size;have z22:=V.size;have eU:=a8.size;have eV:=ah.lt;refine⟨⟨i+1,rfl,Ω,((up a8 aC).trans (V.aa _)).trans (cn.mono λr _ h=>by have:=cp r h;omega),ch,dA,acc++[z],((a7 1 most (σ s)).map (·.2)).map (ba (decide (32<z))),bf,br aD cm λr j he=>?_,λr j=>?_,(du.ext V).new cn cp,?_,λs' L=>?_⟩,by simp only[b0];omega⟩
  .have he:r=A:=he;subst he;exact ce aD ck Φ j rfl
  .rcases dC r j with h|h
   .exact ca r h
   .omega
  .refine bb.step cc ?_ λq B=>?_
   .show (V9 _ (bd 1 most s)).map _=_;unfold fW;cases B:bd 1 most s with
    |none=>rfl
    |some q=>
     have:=bc q B;obtain⟨cq,aF⟩:=q;subst this;rfl
   .unfold fW at B;cases M:bd 1 most s with
    |none=>rw[M]at B;cases B
    |some ak=>
     rw[M]at B;have:=bc ak M;obtain⟨cq,aF⟩:=ak;cases B;exact this
  .cases M:bd 1 most s with
   |none=>
    have L:(V9 (λx=>x.2) (bd 1 most s)).map (ba (decide (32<z)))=σ s':=L;rw[M]at L;cases L
   |some ak=>
    have L:(V9 (λx=>x.2) (bd 1 most s)).map (ba (decide (32<z)))=σ s':=L;rw[M]at L;have dD:=bc ak M;obtain⟨cq,aF⟩:=ak;cases L;have ct:=dK M;have hg:=(hY M).1;have eW:=ct.1;refine⟨by show aF.told=0;rw[ct.eqs.1];exact dp,?_,λy al=>?_⟩
    .rw[o7];show acc.length+1+aF.toks.length<=100000;omega
    .rcases l9.1 al with al|al
     .exact dq y al
     .rw[j4.1 al,dD];exact⟨hg.1,by unfold av;have:=hg.2;simp only at*;omega⟩
 .rw[aY];have dE:ac.bind (cM (fW most) n.toNat [])=so.map λs=>(acc,s):=by
   unfold lk at bb;rw[bb];cases so with
   |none=>rfl
   |some s=>
    rcases dm with h|rfl
    .cases h
    .simp only[U4];rfl
  refine Od a8 b8 b9 ah (λs I=>?_) Ω Ω am dd λv w' dF dG bg dH dI cu=>?_
  .obtain⟨dL,eX,a3⟩:=cb s I;exact⟨λ_=>by rw[dL];omega,Ω,a3,Ω⟩
  .have dM:(decide ((64:Int)<(t.length:Int)))=decide (64<t.length):=by rw[V7,decide_eq_true_eq,decide_eq_true_eq];omega
   rw[dM]at aT;have dN:=Ob (s0:=⟨(lex pl).1,0,false,[]⟩) aT.symm (λq B=>cR q B) bJ.symm bG bM.symm hm bW.symm bP b3.symm hk dE dH;have Q:=Of dN Ω;have cw:¬0<=bad↔(lex pl).2=true:=by
    rw[cC];cases (lex pl).2<;>simp
   cases dG with
   |none=>
    obtain⟨aB,e,rfl⟩:=cu λs I=>by cases I
    exact⟨bg,aB,e,λ_=>rfl,λf G=>by rw[Q]at G;cases G⟩
   |some s=>
    have Q:gB pl=if s.toks=[]/\(lex pl).2=true/\s.big=false then σ ⟨t,k,acc,dF⟩else ν:=Q;by_cases E:s.toks=[]/\(lex pl).2=true/\s.big=false
    .rw[if_pos E]at Q;obtain⟨rfl,dO⟩:=dI s rfl ⟨E.1,cw.2 E.2.1,E.2.2⟩;exact⟨bg,_,_,(λG=>by rw[Q]at G;cases G),λf G=>⟨A,rfl,by rw[Q]at G;cases G;exact dO⟩⟩
    .rw[if_neg E]at Q;obtain⟨aB,e,rfl⟩:=cu λs' L ap=>by
      cases L;exact E ⟨ap.1,cw.1 ap.2.1,ap.2.2⟩
     exact⟨bg,aB,e,λ_=>rfl,λf G=>by rw[Q]at G;cases G⟩
theorem Dt{a b:Int}:ai x8 Ic [Δ a,Δ b] w λv w'=>v=Δ (min a b)/\Ext w w':=by
 refine ay func202 ?_;rw[aR,aj];exact⟨λh=>⟨by congr 1;omega,Ext.refl _⟩,λh=>⟨by congr 1;omega,Ext.refl _⟩⟩
theorem Oh{s:iW}{x:cw}{aO:x3}{t:Λ}{k:Int}(h:gQ w s x)(O:(x.lines.map (·.1)).Nodup)(P:aH .i64 w aO t):ai x8 IE [.agg (e2 s).toArray,aO,Δ k] w λv w'=>v=Δ (jM x k t)/\Ext w w':=by
 obtain⟨⟨g1,Q⟩,⟨aq,R⟩,S,au,L,f,V,E⟩:=id h;refine ay func247 ?_;refine bk λW J av z a=>?_;have a:ad J W a6 (e2 s):=by
  obtain⟨_,_,_,X⟩:=cY Q.ls;obtain⟨_,_,_,Y⟩:=cY R.ls;obtain⟨_,_,_,_,_,Z,_⟩:=f.sl;simp only[e2,X,Y,Z]at a ⊢;exact a
 have aa:=f.ext z;have ab:L.length=x.lines.length:=by rw[<-E,u7]
 rw[aG a6.p 2 a rfl,aG a6.p 3 a rfl,e9 ei.u aa,S];refine b3.range L.length (λi j U=>Ext J U/\∃c:Int,j=Δ c/\min c k=ld x k i t) f.le ⟨Ext.refl _,x.other,rfl,(Cg x k t).symm⟩ ?_ ?_
 .rintro i _ U ac hi ⟨e,c,rfl,q⟩ ae;obtain⟨y,A⟩:=aD (l:=L) hi;obtain⟨gy,G⟩:=V y (x6 A);have B:=z.trans e;have af:x.lines[i]?=σ (y.t,y.c):=by rw[<-E,v8,A];rfl
  have H:=Ci (k:=k) O af t;refine bD Ω ?_;refine aW (λj I=>Ext J I/\∃c:Int,j=Δ c/\min c k=ld x k (i+1) t) ?_ ?_
  .rintro j I ag;rw[aM];exact ae _ _ ag
  intro aw K;have M:=f.ext B;rw[dE rfl ei.u ch.i M hi,bF ch.p ch.i rfl (M.range A)];refine bw ch.i λal ax az ah ak=>?_;refine bT (vs:=n5 y) ch.i rfl rfl (wD G) ak λam an aA N=>?_;have r:Ext U am:=ah.put an Ω;rw[aG ch.p 0 N rfl];refine(wC ((G.ls.ext B).ext r) ((P.ext B).ext r)).mono ?_;rintro _ aB _ ⟨rfl,C⟩;rw[aj];refine⟨λhe=>?_,λao=>?_⟩
  .rw[aG ch.p 1 (N.ext C) rfl];refine K _ _ ⟨(e.trans r).trans C,y.c,rfl,?_⟩;rw[H,if_pos he.symm]
  .refine K _ _ ⟨(e.trans r).trans C,c,rfl,?_⟩;rw[H,if_neg λhe=>ao he.symm,q]
 .rintro _ U ac ⟨e,c,rfl,q⟩;rw[ab,Ch]at q;refine b7 Ω ?_;refine Dt.mono ?_;rintro _ aC _ ⟨rfl,ap⟩;exact⟨by rw[q],(z.trans e).trans ap⟩
theorem Oi{c8:x3}(h:aH .i64 w c8 l)(M:l.Nodup)(ah:l.length<=64):ai x8 ID [c8] w λv w'=>Ext w w'/\∃g,aq .i64 ag w' g v (bo l)/\∀r,leads v r->w.heap.size<=r:=by
 refine ay func246 ?_;have N:∀i,i<=64->(((W3 i).map λ(v:Nat)=>(v:Int)).filter λv=>decide (v∈l)).length<=i:=λi _=>by
  have:=List.length_filter_le (λv=>decide (v∈l)) ((W3 i).map λ(v:Nat)=>(v:Int));simp at this;omega
 refine b3.range 64 (λi e J=>Ext w J/\∃g,aq .i64 ag J g e (((W3 i).map λ(v:Nat)=>(v:Int)).filter λv=>decide (v∈l))/\∀r,leads e r->w.heap.size<=r) Ω ⟨Ext.refl _,0,aq.nil _ _ _ _,λr y=>by obtain⟨a,n,c,O,ak⟩:=y;cases O⟩ ?_ ?_
 .rintro i e J k hi ⟨z,g,hm,C⟩ hk;refine bD Ω ?_;rw[aV au.u (h.ext z)];have P:=N i Ω;generalize Q:(((W3 i).map λ(v:Nat)=>(v:Int)).filter λv=>decide (v∈l))=A at hm P;refine b3.range l.length (λj e U=>Ext w U/\∃g,aq .i64 ag U g e (A++(if(i:Int)∈l.take j then[(i:Int)]else[]))/\∀r,leads e r->w.heap.size<=r) h.le ⟨z,g,by simpa using hm,C⟩ ?_ ?_
  .rintro j R U S V ⟨q,E,f,s⟩ W;obtain⟨x,G⟩:=aD (l:=l) V;refine bD Ω ?_;refine aW (λe B=>Ext w B/\∃g,aq .i64 ag B g e (A++(if(i:Int)∈l.take (j+1)then[(i:Int)]else[]))/\∀r,leads e r->w.heap.size<=r) ?_ ?_
   .rintro al B X;rw[aM];exact W _ _ X
   intro aw L;have H:(i:Int)∈l.take (j+1)↔(i:Int)∈l.take j\/(i:Int)=x:=by
    rw[r8,G,l7,l9,j4]
   rw[bc au.u ao.i Ψ (h.ext q) G,bb,aj];refine⟨λhe=>?_,λY=>?_⟩
   .have Z:(i:Int)∉l.take j:=λhm=>by
     obtain⟨p,I⟩:=X6.1 hm;have aa:p<j:=by have:=(x5.1 I).1;rw[n9]at this;omega
     rw[Y0 aa,<-he]at I;have:=kq M I G;omega
    rw[if_neg Z,U9]at f;refine eM (k:=.i64) an.u ag.i rfl λa3 am B av K ab=>?_;refine h5 an.u ag.i rfl (f.ext K) ab.ls Θ Θ λax ac az ad ae af=>?_;have aA:=q.size;have z3:=K.size;refine L _ _ ⟨(q.trans K).then af λr y he=>by have:=s r he;omega,ac,?_,λr y=>(ae r y).elim (s r) λh=>Ω⟩;rw[if_pos (H.2 (.inr he.symm))];exact ad
   .refine L _ _ ⟨q,E,?_,s⟩;have:((i:Int)∈l.take (j+1))=((i:Int)∈l.take j):=propext ⟨λap=>(H.1 ap).resolve_right λhe=>Y he.symm,λap=>H.2 (.inl ap)⟩;simp only[this];exact f
  .rintro R U S ⟨q,E,f,s⟩;rw[o6]at f;refine b7 Ω ?_;rw[aM];refine hk _ _ ⟨q,E,?_,s⟩;rw[List.range_succ,Z2,List.filter_append,Q];by_cases hm:(i:Int)∈l
   .rw[if_pos hm]at f;simpa[hm]using f
   .rw[if_neg hm]at f;simpa[hm]using f
 .rintro e J k ⟨z,g,hm,C⟩;rw[aR,aj];exact⟨λh=>Ω,λ_=>⟨z,g,hm,C⟩⟩
structure fv where
 aL:x3
 szv:x3
 aZ:x3
 sc:Λ
 cs:Λ
def dr(h:fv):List x3:=[h.aL,h.szv,h.aZ]
def pv(h:fv)(r:Nat):Prop:=leads h.aZ r\/leads h.aL r\/leads h.szv r
def fP(w:x4)(sizes:Λ)(h:fv):Prop:=(∃g,aq .i64 ag w g h.aL h.sc)/\(∃g,aq .i64 ag w g h.szv (bI sizes h.sc))/\∃g,aq .i64 ao w g h.aZ h.cs
theorem fP.ext{h:fv}(ap:fP w sizes h)(a:Ext w w'):fP w' sizes h:=by
 obtain⟨⟨g1,h1⟩,⟨e,f⟩,j,p⟩:=ap;exact⟨⟨g1,h1.ext a⟩,⟨e,f.ext a⟩,j,p.ext a⟩
theorem fP.one{h:fv}(ap:fP w sizes h):∀u∈dr h,u.oneCell'=true:=by
 obtain⟨⟨g1,h1⟩,⟨f,a⟩,j,e⟩:=ap;intro u hu;simp[dr]at hu;rcases hu with rfl|rfl|rfl
 .exact h1.ls.cells.2
 .exact a.ls.cells.2
 .exact e.ls.cells.2
theorem Du{f:ca}{x:cw}{ac:iW}(h:gQ w ac x)(aF:ff N f)(bN:x∈f.funs)(cB:aq .i64 ao w gz sv f.sizes):
  ai x8 H9 [.agg (e2 ac).toArray,sv,Δ f.k] w λv w'=>Ext w w'/\∃c:fv,v= .agg (dr c).toArray/\c.sc=bo x.scope/\c.cs=(hZ f.sizes f.k x).2/\fP w' f.sizes c/\∀r,pv c r->w.heap.size<=r:=by
 obtain⟨af,cC,dQ⟩:=aF.funs x bN;have bO:=sO af aF.sizes.2.1;have bP:=sN bO af.scope.1;have cD:(bo x.scope).length<=6:=by rw[bP.length_eq];exact cC
 have cE:=pn aF bN;have bQ:=B7 x.scope;obtain⟨⟨g1,aH⟩,⟨dR,cF⟩,dS,dT,cG⟩:=id h;refine ay func198 ?_;refine bk λbe J dU bS ah=>?_;have ah:ad J be a6 (e2 ac):=by
  obtain⟨L,cH,_⟩:=cG;obtain⟨_,_,_,E⟩:=cY aH.ls;obtain⟨_,_,_,K⟩:=cY cF.ls;obtain⟨_,_,_,_,_,cI,_⟩:=cH.sl;simp only[e2,E,K,cI]at ah ⊢;exact ah
 refine bw aX.i λbU U dV bf bg=>?_;have bh:=bS.trans bf;rw[aG a6.p 0 (ah.ext bf) rfl];refine(Oi (aH.ls.ext bh) af.scope.1 Ω).mono ?_;rintro aL bV _ ⟨aI,gr,bi,cJ⟩;rw[dn (cs:=#[aL,.slice ν 0 0,.slice ν 0 0]) (by obtain⟨_,_,_,rfl⟩:=cY bi.ls;kernel_rfl)];refine bw aX.i λB dW cK cL cM=>?_;refine bT (vs:=[aL,.slice ν 0 0,.slice ν 0 0]) aX.i rfl rfl (by intro u hu;simp at hu;rcases hu with rfl|rfl;exact bi.ls.cells.2;rfl) cM λM cN dX X=>?_;have aJ:Ext bV M:=cL.put cN Ω;have bW:=(bh.trans aI).trans aJ;have V:=bi.ext aJ;have bl:=((ah.ext bf).ext aI).ext aJ;have bX:=(bg.ext aI).ext aJ;have dY:=bh.size;have z3:=aI.size;have dZ:=bW.size;have ea:=X.lt;have eb:B=bV.heap.size:=cK;rw[aG aX.p 0 X rfl,aV an.u V.ls];have bY:∀v∈bo x.scope,0<=v/\v<f.sizes.length:=λv hm=>af.scope.2 v ((qB bO).1 hm);have bm:∀{w':x4},ae (λr=>r=B\/M.heap.size<=r) M w'->Ext w w':=λbn=>bW.then bn λr s he=>Ω
 have bp:(bI f.sizes (bo x.scope)).length=(bo x.scope).length:=by simp[bI]
 refine b1.range (bo x.scope).length (λi O=>ae (λr=>r=B\/M.heap.size<=r) M O/\∃szv gs,ad O B aX [aL,szv,.slice ν 0 0]/\aq .i64 ag O gs szv ((bI f.sizes (bo x.scope)).take i)/\∀r,leads szv r->M.heap.size<=r) Ω
  ⟨ae.refl _ _,_,0,X,aq.nil _ _ _ _,λr s=>by obtain⟨a,n,c,E,K⟩:=s;cases E⟩ ?_ ?_
 .rintro i O cO hi ⟨P,szv,gs,cP,al,aK⟩ cQ;obtain⟨v,bt⟩:=aD (l:=(bo x.scope)) hi;have ec:=bY v (x6 bt);have cR:aq .i64 ag O gr aL (bo x.scope):=br V P λr s I=>by
   rcases I with rfl|I
   .exact ce V X Φ s rfl
   .obtain⟨E,K⟩:=bR V s;omega
  refine bD Ω ?_;rw[bc an.u ag.i Ψ cR.ls bt];intro ed am _ _;have bZ:=cP.ext am;have cS:f.sizes[v.toNat]?=σ (f.sizes.getD v.toNat 0):=by rw[u4,x7 Ω];rfl
  rw[aG aX.p 1 bZ rfl,fF (y:=v) (i:=v.toNat) Ω au.u ao.i Ψ (cB.ext ((bm P).trans am)).ls cS];refine eM (k:=.i64) an.u ag.i rfl λee ef cT eg av cU=>?_;refine⟨.inl av,?_⟩;have b0:=(al.ext am).ext av;refine h5 an.u ag.i rfl b0 cU.ls Θ Θ λcV cW eh aP cX b4=>?_;have b5:=bZ.ext av;have b6:=b5.aa b4 λhe=>ce b0 b5 Φ he rfl;rw[aS aX.p rfl];refine bq (g:=B) (o:=1) an.i aP.ls.cells.1 aP.ls.cells.2 b6 Ξ λcZ b8 ei c0=>?_;rw[aM];have c1:ae (λr=>leads szv r\/r=B) cT cZ:=(b4.mono λr _ h=>.inl h).trans (b8.mono λr _ h=>.inr h);have c2:=P.size;have ej:=(am.trans av).size;refine cQ _ ⟨((P.trans (am.aa _)).trans (av.aa _)).trans (c1.mono λr _ h=>h.elim (λh=>.inr (aK r h)) .inl),cV,cW,c0,?_,λr s=>(cX r s).elim (aK r) λh=>Ω⟩;have e:(bI f.sizes (bo x.scope)).take (i+1)=(bI f.sizes (bo x.scope)).take i++[f.sizes.getD v.toNat 0]:=by
   unfold bI;rw[<-List.map_take,<-List.map_take,r8,bt,l7,Z2];rfl
  rw[e];exact br aP b8 λr s he=>by
   have he:r=B:=he;subst he;exact ce aP b6 Φ s rfl
 rintro O cO ⟨P,szv,gs,bu,al,aK⟩;rw[<-bp,o6]at al;refine b7 Ω ?_;have ek:=bm P;have aQ:cd (bI f.sizes (bo x.scope)):=⟨by rw[bp];exact cD,nT aF.sizes.2.2 bY⟩;have c3:=cE.small;rw[aG aX.p 1 bu rfl];refine(vk _ al.ls aQ).mono ?_;rintro c4 C _ ⟨aR,b9⟩;have em:=jj aQ.2;have en:=l0 aQ.2;have ep:aN (bI f.sizes (bo x.scope))<=4096:=c3;rw[fG b2.u b9];have aT:ae (λr=>r=B\/M.heap.size<=r) M C:=P.trans (aR.aa _);have ax:=bu.ext aR;have cb:=al.ext aR;have c2:=P.size;have er:=aR.size;have bz:aq .i64 ag C gr aL (bo x.scope):=br V aT λr s I=>by
  rcases I with rfl|I
  .exact ce V X Φ s rfl
  .obtain⟨E,K⟩:=bR V s;omega
 have bA:ad C be a6 (e2 ac):=bl.aa aT λI=>I.elim (λhe=>by subst he;exact absurd (fh bl X) Φ) λh=>by have:=bl.lt;omega
 have cc:=bX.aa aT λI=>I.elim (λhe=>by have:=bg.lt;omega) λh=>by have:=bX.lt;omega
 have cg:∀{w':x4},ae (λr=>r=B\/C.heap.size<=r) C w'->Ext w w':=λbn=>(bm aT).then bn λr s he=>by
  have he:r=B\/C.heap.size<=r:=he;omega
 have es:B<C.heap.size:=ax.lt;refine b1.range (bj (bI f.sizes (bo x.scope))).length (λq z=>ae (λr=>r=B\/C.heap.size<=r) C z/\∃aZ az,ad z B aX [aL,szv,aZ]/\aq .i64 ao z az aZ (((bj (bI f.sizes (bo x.scope))).take q).map λt=>jM x f.k (pb x.scope (bo x.scope) t))/\∀r,leads aZ r->C.heap.size<=r) Ω
  ⟨ae.refl _ _,_,0,ax,aq.nil _ _ _ _,λr s=>by obtain⟨a,n,c,E,K⟩:=s;cases E⟩ ?_ ?_
 .rintro q z c5 c6 ⟨G,aZ,az,aA,aB,aY⟩ c7;obtain⟨t,a1⟩:∃t,(bj (bI f.sizes (bo x.scope)))[q]?=σ t:=⟨_,x7 c6⟩;have et:t.length=(bo x.scope).length:=by
   have c8:=qg aQ.2 (i:=q) Ω;rw[c8]at a1;cases a1;rw[ji,bp]
  have bB:=cg G;have c9:ak.rep (α:=List (Λ)) true (eo O.heap.size) bx z [c4] (bj (bI f.sizes (bo x.scope))):=ak.aa b9 G λr s h I=>by
   rcases h with h|h
   .have h:O.heap.size<=r:=h;have:=bu.lt;rcases I with I|I<;>omega
   .exact h
  have Y:∀{Q:Nat}{R:x3}{S:Λ},aq .i64 ag C Q R S->aq .i64 ag z Q R S:=λhm=>br hm G λr s I=>by
   rcases I with rfl|I
   .exact ce hm ax Φ s rfl
   .obtain⟨E,K⟩:=bR hm s;omega
  have ch:=Y bz;have ci:ad z be a6 (e2 ac):=bA.aa G λI=>I.elim (λhe=>by subst he;exact absurd (fh bA ax) Φ) λh=>by have:=bA.lt;omega
  refine bD Ω ?_;refine gw (α:=Λ) rfl rfl b2.u an.i Ψ c9 a1 λaO da=>?_;have db:=dD da;rw[aG a6.p 0 ci rfl,aV au.u (aH.ls.ext bB)];have z12:=G.size;refine b3.range x.scope.length (λp H a2=>Ext z a2/\∃go,aq .i64 ao a2 go H ((x.scope.take p).map λv=>t.getD ((bo x.scope).idxOf v) 0)/\∀r,leads H r->z.heap.size<=r) Ω ⟨Ext.refl _,0,aq.nil _ _ _ _,λr s=>by obtain⟨a,n,c,E,K⟩:=s;cases E⟩ ?_ ?_
  .rintro p H a2 dc dd ⟨Z,go,aC,cj⟩ de;obtain⟨v,bC⟩:=aD (l:=x.scope) dd;have df:v∈bo x.scope:=bP.mem_iff.2 (x6 bC);refine bD Ω ?_;have dg:=bB.trans Z;have dh:=aA.ext Z;have di:=ch.ext Z;rw[bc au.u ao.i Ψ (aH.ls.ext dg) bC,aG aX.p 0 dh rfl,aV an.u di.ls];generalize ck:((x.scope.take p).map λv=>t.getD ((bo x.scope).idxOf v) 0)=A at aC;have eu:A.length=p:=by rw[<-ck,u7,n9];omega
   refine b3.range (bo x.scope).length (λj H a7=>Ext z a7/\∃go,aq .i64 ao a7 go H (A++if v∈(bo x.scope).take j then[t.getD ((bo x.scope).idxOf v) 0]else[])/\∀r,leads H r->z.heap.size<=r) Ω ⟨Z,go,by simpa using aC,cj⟩ ?_ ?_
   .rintro j dj a7 dk dl ⟨W,bE,ab,aE⟩ dm;obtain⟨u,hu⟩:=aD (l:=(bo x.scope)) dl;have dp:=ch.ext W;refine bD Ω ?_;refine aW (λH bG=>Ext z bG/\∃go,aq .i64 ao bG go H (A++if v∈(bo x.scope).take (j+1)then[t.getD ((bo x.scope).idxOf v) 0]else[])/\∀r,leads H r->z.heap.size<=r) ?_ ?_
    .rintro ev bG dq;rw[aM];exact dm _ _ dq
    intro aw cl;have bH:v∈(bo x.scope).take (j+1)↔v∈(bo x.scope).take j\/v=u:=by
     rw[r8,hu,l7,l9,j4]
    rw[bc an.u ag.i Ψ dp.ls hu,bb,aj];refine⟨λhe=>?_,λbJ=>?_⟩
    .have ds:v∉(bo x.scope).take j:=λhm=>by
      obtain⟨dt,bK⟩:=X6.1 hm;have du:dt<j:=by have:=(x5.1 bK).1;rw[n9]at this;omega
      rw[Y0 du,<-he]at bK;have:=kq bQ bK hu;omega
     rw[if_neg ds,U9]at ab;have dv:t[j]?=σ (t.getD ((bo x.scope).idxOf v) 0):=by
      have:(bo x.scope).idxOf v=j:=qD bQ (by rw[hu,he]);rw[this,u4,x7 (show j<t.length by omega)];rfl
     rw[bc an.u ag.i Ψ (db.ext W) dv];refine eM au.u ao.i rfl λew ey ez eA bL dw=>?_;refine h5 au.u ao.i rfl (ab.ext bL) dw.ls Θ Θ λeB dx eC dy dz dA=>?_;have eD:=W.size;have eE:=bL.size;refine cl _ _ ⟨(W.trans bL).then dA λr s he=>by have:=aE r he;omega,dx,?_,λr s=>(dz r s).elim (aE r) λh=>Ω⟩;rw[if_pos (bH.2 (.inr he.symm))];exact dy
    .refine cl _ _ ⟨W,bE,?_,aE⟩;have:(v∈(bo x.scope).take (j+1))=(v∈(bo x.scope).take j):=propext ⟨λap=>(bH.1 ap).resolve_right λhe=>bJ he.symm,λap=>bH.2 (.inl ap)⟩;simp only[this];exact ab
   .rintro dj a7 dk ⟨W,bE,ab,aE⟩;rw[o6,if_pos df]at ab;refine b7 Ω ?_;rw[aM];refine de _ _ ⟨W,bE,?_,aE⟩;rw[r8,bC,l7,Z2,ck];exact ab
  .rintro H a2 dc ⟨Z,go,aC,cj⟩;rw[o6]at aC;refine b7 Ω ?_;intro eF cm _ _;have a8:=Z.trans cm;have dC:=aA.ext a8;have dE:=ci.ext a8;rw[aG aX.p 2 dC rfl,bF a6.p a6.i rfl dE.range];refine(Oh (h.ext (bB.trans a8)) af.lines.1 (aC.ls.ext cm)).mono ?_;rintro _ eH _ ⟨rfl,bM⟩;refine⟨.inl bM,?_⟩;refine eM au.u ao.i rfl λeI eJ dF eK cn dG=>?_;refine⟨.inl (bM.trans cn),?_⟩;have ba:=(a8.trans bM).trans cn;have cp:=aB.ext ba;refine h5 au.u ao.i rfl cp dG.ls Θ Θ λdH dI eL bd dJ cq=>?_;have cr:=aA.ext ba;have ct:=cr.aa cq λhe=>ce cp cr Φ he rfl;rw[aS aX.p rfl];refine bq (g:=B) (o:=2) au.i bd.ls.cells.1 bd.ls.cells.2 ct Ξ λdK cu eN dL=>?_;rw[aM];have dM:ae (λr=>leads aZ r\/r=B) dF dK:=(cq.mono λr _ h=>.inl h).trans (cu.mono λr _ h=>.inr h);have eO:=ba.size;refine c7 _ ⟨(G.trans (ba.aa _)).trans (dM.mono λr _ h=>h.elim (λh=>.inr (aY r h)) .inl),dH,dI,dL,?_,λr s=>(dJ r s).elim (aY r) λh=>Ω⟩;rw[r8,a1,l7,Z2];exact br bd cu λr s he=>by
    have he:r=B:=he;subst he;exact ce bd ct Φ s rfl
 .rintro z c5 ⟨G,aZ,az,aA,aB,aY⟩;rw[o6]at aB;refine b7 Ω ?_;have Y:∀{Q:Nat}{R:x3}{S:Λ},aq .i64 ag C Q R S->aq .i64 ag z Q R S:=λhm=>br hm G λr s I=>by
   rcases I with rfl|I
   .exact ce hm ax Φ s rfl
   .obtain⟨E,K⟩:=bR hm s;omega
  let c:fv:=⟨aL,szv,aZ,bo x.scope,(hZ f.sizes f.k x).2⟩;have dN:fP z f.sizes c:=⟨⟨gr,Y bz⟩,⟨gs,Y cb⟩,az,aB⟩;rw[bF aX.p aX.i rfl (show z.rangeAt B 0 (dr c)from aA.range)];have cz:=cc.aa G λI=>I.elim (λhe=>by have:=bg.lt;omega) λh=>by have:=cc.lt;omega
  refine bT (vs:=dr c) aX.i rfl rfl dN.one cz λdO cA eP dP=>?_;rw[e6 aX.p aX.i rfl dP.range];have aU:∀{Q:Nat}{R:x3}{S:Λ}{e:r9},e≠aX->aq .i64 e z Q R S->aq .i64 e dO Q R S:=λbJ hm=>br hm cA λr s he=>by
   have he:r=bU:=he;exact ce hm cz bJ s he
  refine⟨(cg G).then cA λr s he=>by have he:r=bU:=he;have:=bS.size;omega,c,rfl,rfl,rfl,⟨⟨gr,aU Φ (Y bz)⟩,⟨gs,aU Φ (Y cb)⟩,az,aU Φ aB⟩,λr s=>?_⟩;rcases s with s|s|s
  .have:=aY r s;omega
  .have:=cJ r s;omega
  .have:=aK r s;omega
theorem Dv{h:fv}{g:Nat}(e:fP w sizes h)(a:ad w' g aX (x3.agg (dr h).toArray).cells.toList):ad w' g aX (dr h):=by
 obtain⟨⟨g1,h1⟩,⟨s,f⟩,x,j⟩:=e;obtain⟨_,_,_,p⟩:=cY h1.ls;obtain⟨_,_,_,q⟩:=cY f.ls;obtain⟨_,_,_,r⟩:=cY j.ls;simp only[dr,p,q,r]at a ⊢;exact a
theorem Oj{a b:fv}(R:fP w sizes a)(S:fP w sizes b)(Y:jn a.sc)(Z:jn b.sc):ai x8 zl [.agg (dr a).toArray,.agg (dr b).toArray] w λv w'=>v= .bool (decide (dc a.sc<dc b.sc))/\Ext w w':=by
 obtain⟨⟨ga,W⟩,_⟩:=id R;obtain⟨⟨av,aa⟩,_⟩:=id S;have I:=(vR Y Z).1;refine ay func200 ?_;refine bk λg1 J aw ab L=>?_;refine bk λac U ax X M=>?_;have L:=(Dv R L).ext X;have M:=Dv S M;have r:=ab.trans X;have s:=W.ls.ext r;have B:=aa.ls.ext r;have z:∀{w':x4},Ext U w'->∀{K:x3->Prop},V x8 (u6 aX (Γ g1) 0) w' (λt=>V x8 (u5 an t) w' K)=K a.aL:=λe K=>by
  rw[aG aX.p 0 (L.ext e) rfl]
 have C:∀{w':x4},Ext U w'->∀{K:x3->Prop},V x8 (u6 aX (Γ ac) 0) w' (λt=>V x8 (u5 an t) w' K)=K b.aL:=λe K=>by
  rw[aG aX.p 0 (M.ext e) rfl]
 rw[z (Ext.refl _),aV an.u s,C (Ext.refl _),aV an.u B,bK,aj];refine⟨λad=>?_,λae=>?_⟩
 .rw[z (Ext.refl _),aV an.u s,C (Ext.refl _),aV an.u B,aR];refine⟨?_,r⟩;congr 1;rw[V7,decide_eq_true_eq,decide_eq_true_eq,I];exact⟨λh=>.inl Ω,λh=>by rcases h with h|h<;>omega⟩
 have af:a.sc.length=b.sc.length:=by have:=X2.1 ae;omega
 rw[z (Ext.refl _),aV an.u s];refine b3.range a.sc.length (λi _ N=>Ext U N/\∀(j:Nat)(x y:Int),j<i->a.sc[j]?=σ x->b.sc[j]?=σ y->x=y) W.ls.le ⟨Ext.refl _,λj x y ah=>Ω⟩ ?_ ?_
 .rintro i _ N k hi ⟨O,E⟩ hk;obtain⟨x,e⟩:=aD (l:=a.sc) hi;obtain⟨y,G⟩:=aD (l:=b.sc) (i:=i) Ω;have f:fY a.sc b.sc=fY (a.sc.drop i) (b.sc.drop i):=sZ E Ω Ω;have ak:a.sc.drop i=x::a.sc.drop (i+1):=by rw[X8 hi,(x5.1 e).2]
  have al:b.sc.drop i=y::b.sc.drop (i+1):=by rw[X8 (show i<b.sc.length by omega),(x5.1 G).2]
  rw[ak,al]at f;simp only[fY]at f;refine bD Ω ?_;intro az am _ _;have q:=O.trans am;rw[z q,bc an.u ag.i Ψ (s.ext q) e,C q,bc an.u ag.i Ψ (B.ext q) G,bK,aj];refine⟨λad=>?_,λhe=>?_⟩
  .intro aA ao _ _;have A:=q.trans ao;rw[z A,bc an.u ag.i Ψ (s.ext A) e,C A,bc an.u ag.i Ψ (B.ext A) G,aR];refine⟨?_,r.trans A⟩;congr 1;rw[V7,decide_eq_true_eq,decide_eq_true_eq,I,f];by_cases H:x<y
   .rw[if_pos H];exact⟨λ_=>.inr ⟨af,Ω⟩,λ_=>H⟩
   .rw[if_neg H,if_pos (show y<x by omega)];exact⟨λh=>absurd h H,λh=>by rcases h with h|h<;>omega⟩
  .rw[aM];refine hk _ _ ⟨q,λj ap aq ah P Q=>?_⟩;by_cases au:j=i
   .subst au;rw[e]at P;rw[G]at Q;cases P;cases Q;exact X2.1 he
   .exact E j ap aq Ω P Q
 .rintro _ N k ⟨O,E⟩;rw[aR,aj];refine⟨λh=>Ω,λ_=>⟨?_,r.trans O⟩⟩;congr 1;symm;rw[decide_eq_false_iff_not,I];have f:fY a.sc b.sc=fY (a.sc.drop a.sc.length) (b.sc.drop a.sc.length):=sZ E (o5 _) Ω;rw[List.drop_length,show b.sc.drop a.sc.length=[]from List.drop_eq_nil_of_le Ω]at f;rw[f];simp only[fY];omega
def dw(h:fv):cI:=(h.sc,h.cs)
def kA(w:x4)(B g:Nat)(v:x3)(sizes:Λ)(L:List fv):Prop:=be dr 3 aX w g v L/\(∀h∈L,fP w sizes h/\∀r,pv h r->B<=r)/\(∀(i j:Nat)x y,L[i]?=σ x->L[j]?=σ y->i≠j->∀r,leads x.aZ r->¬leads y.aZ r)/\∀r,leadsTo v r->B<=r
theorem mP{h:fv}(y:fP w sizes h)(q:ae S w w')(s:∀r,S r->(∃e c,ad w r e c/\e≠ag/\e≠ao)\/w.heap.size<=r\/((∃c,ad w r ao c)/\¬leads h.aZ r)):fP w' sizes h:=by
 obtain⟨⟨g1,h1⟩,⟨z,A⟩,B,j⟩:=y;have x:∀{g:Nat}{v:x3}{l:Λ},aq .i64 ag w g v l->aq .i64 ag w' g v l:=λhm=>br hm q λr a I=>by
  rcases s r I with⟨e,c,f,p,_⟩|C|⟨⟨c,f⟩,_⟩
  .exact ce hm f (λhe=>p he.symm) a rfl
  .obtain⟨E,F⟩:=bR hm a;omega
  .exact ce hm f Φ a rfl
 refine⟨⟨g1,x h1⟩,⟨z,x A⟩,B,br j q λr a I=>?_⟩;rcases s r I with⟨e,c,f,_,p⟩|C|⟨_,G⟩
 .exact ce j f (λhe=>p he.symm) a rfl
 .obtain⟨E,F⟩:=bR j a;omega
 .exact G a
theorem kA.ext{g:Nat}{L:List fv}(h:kA w B g v sizes L)(a:Ext w w'):kA w' B g v sizes L:=⟨h.1.ext a,λx e=>⟨(h.2.1 x e).1.ext a,(h.2.1 x e).2⟩,h.2.2⟩
section
variable{α:Type}{f:α->List x3}{k:Nat}{P:W9}{w:x4}{e:r9}{g:Nat}{v:x3}{L:List α}
theorem Ol{M:List α}(h:be f k e w g v L)(j:L.map f=M.map f):be f k e w g v M:=by
 have p:L.length=M.length:=by have:=congrArg Q0 j;simpa using this
 have hm:L.flatMap f=M.flatMap f:=by rw[List.flatMap_def,List.flatMap_def,j]
 refine⟨by rw[<-p,<-hm];exact h.1,λa q=>?_⟩;obtain⟨b,r,he⟩:=j0.1 (show f a∈L.map f by rw[j];exact j0.2 ⟨a,q,rfl⟩);rw[<-he];exact h.2 b r
theorem Dw{b l h':Nat}{low high:Option x3}(r:P.underlying t=σ (.slice e))(hi:aP P e k b z)(h:be f k e w g v L)(h1:lS low l)(s:lT high L.length h')(p:l<=h')(ap:h'<=L.length)(x:∀q,(∀w',be f k e w' g v L->cc w' k q ((L.drop l).take (h'-l)).length (((L.drop l).take (h'-l)).flatMap f))->K q):V P (V8 t v low high ν) w K:=by
 have y:=h.sl;obtain⟨_,B,o,base,cap,rfl,C,_⟩:=y;rw[hR r hi h1 s fE p Ω (o5 _)];refine x _ λw' j=>?_;have:=cc.part (l:=l) (h:=h') (m:=cap) j.sl p ap Ω (o5 _);rw[sE l j.2,qv (h'-l) (λa A=>j.2 a (List.mem_of_mem_drop A))]at this;have el:((L.drop l).take (h'-l)).length=h'-l:=by rw[n9,List.length_drop];omega
 rw[el];exact this
theorem wF{O:r9}{b:Nat}{x:x3}{M:List α}{K:x3->x4->Prop}(A:P.underlying t=σ (.slice e))(hi:aP P e k b z)(G:z.cells.size=k)(h:be f k e w g v L)(H:cc w k x M.length (M.flatMap f))(Q:∀a∈M,(f a).length=k)(h1:∀a∈M,∀u∈f a,u.oneCell'=true)(B:(L.length+M.length)*b<=140737488355328)(I:L.length+M.length<=9223372036854775807)(J:∀j p w',be f k e w' p j (L++M)->(∀r,leadsTo j r->leadsTo v r\/w.heap.size<=r)->ae (λr=>leadsTo v r) w w'->K j w'):aC P (Z3 #[t,t] O #[v,x]) w K:=by
 have N:∀u∈M.flatMap f,u.oneCell'=true:=λu hu=>by
  obtain⟨a,R,hu⟩:=List.mem_flatMap.1 hu;exact h1 a R u hu
 have C:∀j p w',bW w' p e k j (L.length+M.length) (L.flatMap f++M.flatMap f)->be f k e w' p j (L++M):=λj p w' hm=>⟨by simpa using hm,λb B=>by
  rcases l9.1 B with h'|h'
  .exact h.2 b h'
  .exact Q b h'⟩
 rcases h.1.2 with⟨q,S⟩|⟨cap,cs,q,T,_⟩
 .have hm:bW w w.heap.size e k v L.length (L.flatMap f):=⟨h.1.1,.inl ⟨q,S⟩⟩;subst q;refine nz A A hi G hm H N (by simpa using B) (by simpa[maxLen]using I) λj p w' E s F=>J j p w' (C _ _ _ s) (λr y=>.inr ?_) (F.mono λr y h=>Ω);have:=((C _ _ _ s).leads y).1;omega
 .refine nz A A hi G h.1 H N (by simpa using B) (by simpa[maxLen]using I) λj p w' E s F=>J j p w' (C _ _ _ s) (λr y=>?_) (F.mono λr y h=>⟨_,_,_,q,h.symm⟩);have:=((C _ _ _ s).leads y).1;rcases E with E|E
  .exact .inl ⟨_,_,_,q,by show g=r;omega⟩
  .exact .inr Ω
theorem Om{b:Nat}{K:x3->x4->Prop}(a:P.underlying t=σ (.slice e))(hi:aP P e k b z)(h:∀v g w',g=w.heap.size->Ext w w'->be f k e w' g v []->K v w'):aC P (Y8 t 0 #[]) w K:=
 jF a hi Ω (cs:=#[]) (by simp[Instr.fill]) λg w' j p q=>by
  exact h _ g w' j p ⟨by simpa using bW.full (k:=k) (n:=0) q Ξ (by simp[maxLen]),λc r=>by cases r⟩
end
theorem wG{α:Type}{A B:List α}{s:Nat}{a:α}(I:s<B.length)(e:A[s]?=σ a):(A.take s++B.drop s).set s a=A.take (s+1)++B.drop (s+1):=by
 have f:=(x5.1 e).1;have h1:(A.take s).length=s:=by rw[n9];omega
 rw[T8 _ _ Ω,h1,U4,X8 I,List.set_cons_zero,r8,e,l7,T3];rfl
theorem Dx{α:Type}{A B:List α}{s:Nat}(I:s<=A.length):(A.take s++B.drop s)[s]?=B[s]?:=by
 have h1:(A.take s).length=s:=by rw[n9];omega
 rw[Y3 Ω,h1,U4,S2,Nat.add_zero]
theorem Dy{g:cI}:∀{l:List cI}{i:Nat},(∀p<i,∀x,l[p]?=σ x->dc x.1<dc g.1)->i<=l.length->(∀x,l[i]?=σ x->¬dc x.1<dc g.1)->hz g l=l.take i++g::l.drop i
 |[],i,_,a,_=>by
  have:i=0:=by simpa using a
  subst this;rfl
 |x::l,0,_,_,e=>by
  unfold hz;rw[if_neg (e x rfl)];rfl
 |x::l,i+1,h1,a,e=>by
  unfold hz;rw[if_pos (h1 0 Ω x rfl),Dy (i:=i) (λp h y f=>h1 (p+1) Ω y f) (by simpa using a) (λy f=>e y f)];rfl
theorem On{g:Nat}{L:List fv}{h:fv}{s:Nat}{n:Int}{K:Unit->x4->Prop}(f:kA w B g v sizes L)(G:L[j]?=σ h)(I:s<h.cs.length)(Y:∀w',ae (λr=>leads h.aZ r) w w'->(∀r,leads h.aZ r->∃c,ad w r ao c)->kA w' B g v sizes (L.set j {h with cs:=h.cs.set s n})->K () w'):
  V x8 (j5 au h.aZ (Δ (s:Int))) w λt=>aC x8 (o8 ao t (Δ n)) w K:=by
 obtain⟨h1,P,Q,Z⟩:=f;have N:=(x5.1 G).1;obtain⟨R,ab⟩:=P h (x6 G);obtain⟨_,_,S,H⟩:=id R;have J:∀r,leads h.aZ r->∃c,ad w r ao c:=λr f=>by
  obtain⟨rfl,_⟩:=bR H f;obtain⟨_,⟨ac,_⟩|⟨cap,full,_,C,_⟩⟩:=H
  .obtain⟨a,n,c,e,_⟩:=f;rw[ac]at e;cases e
  .exact⟨_,C⟩
 have af:∀r,r=S->leads h.aZ r:=λr he=>by
  subst he;obtain⟨_,⟨_,ay⟩|⟨cap,full,e,C,_⟩⟩:=H
  .omega
  .exact⟨_,_,_,e,rfl⟩
 rw[hV rfl au.u ao.i H I];refine hW ao.i H I λw' E az ag=>?_;have E:=E.mono (T:=λr=>leads h.aZ r) λr _ he=>af r he;refine Y w' E J ⟨?_,λx A=>?_,λp q x y A ah ai r aj ak=>?_,Z⟩
 .refine Ol (h1.aa E λr f I=>?_) ?_
  .obtain⟨c,C⟩:=J r I;exact cO h1 C Φ f
  .rw[U5];symm;refine Y7 λp=>?_;rw[X1,v8];by_cases z:j=p
   .subst z;rw[if_pos rfl,if_pos (by simpa using N),G];rfl
   .rw[if_neg z]
 .have al:x={h with cs:=h.cs.set s n}\/∃p,p≠j/\L[p]?=σ x:=by
   obtain⟨p,z⟩:=X6.1 A;rw[X1]at z;by_cases F:j=p
   .subst F;rw[if_pos rfl,if_pos N]at z;exact .inl (Z0 z).symm
   .rw[if_neg F]at z;exact .inr ⟨p,λh=>F h.symm,z⟩
  rcases al with rfl|⟨p,am,z⟩
  .obtain⟨⟨g1,U⟩,⟨an,W⟩,_⟩:=R;refine⟨⟨⟨g1,br U E λr f I=>?_⟩,⟨an,br W E λr f I=>?_⟩,S,ag⟩,ab⟩
   .obtain⟨c,C⟩:=J r I;exact ce U C Φ f rfl
   .obtain⟨c,C⟩:=J r I;exact ce W C Φ f rfl
  .obtain⟨ap,aq⟩:=P x (x6 z);refine⟨mP ap E λr f=>.inr (.inr ⟨J r f,λO=>Q p j x h z G am r O f⟩),aq⟩
 .have X:∀{p:Nat}{x:fv},(L.set j {h with cs:=h.cs.set s n})[p]?=σ x->∃M,L[p]?=σ M/\M.aZ=x.aZ:=λ{p x}A=>by
   rw[X1]at A;by_cases F:j=p
   .subst F;rw[if_pos rfl,if_pos N]at A;cases A;exact⟨h,G,rfl⟩
   .rw[if_neg F]at A;exact⟨x,A,rfl⟩
  obtain⟨M,O,ex⟩:=X A;obtain⟨av,aw,ax⟩:=X ah;exact Q p q M av O aw ai r (by rw[ex];exact aj) (by rw[ax];exact ak)
def ll(f:ca)(j:Nat):List cI:=(((fq f).take j).filter fH).foldl (λl g=>hz g l) []
theorem Dz{f:ca}{x:cI}(h:(fq f)[j]?=σ x):ll f (j+1)=if fH x then hz x (ll f j)else ll f j:=by
 unfold ll;rw[r8,h,l7,List.filter_append,R5];cases I:fH x with
 |true=>rw[List.filter_cons_of_pos I];rfl
 |false=>rw[List.filter_cons_of_neg (by simp[I])];rfl
theorem Oo(f:ca):ll f (fq f).length=fI f:=by unfold ll fI;rw[o6]
theorem DA(g:cI):∀l,(hz g l).length=l.length+1
 |[]=>rfl
 |h::l=>by
  unfold hz;split
  .rw[Z5,DA g l,Z5]
  .rfl
theorem Oq{f:ca}(e:j<=(fq f).length):(ll f j).length<=j:=by
 induction j with
 |zero=>simp[ll]
 |succ j a=>
  have:=a Ω;rw[Dz (x:=(fq f)[j]) (x7 Ω)];split
  .rw[DA];omega
  .omega
theorem Ot{g:Nat}{l:x3}{f:ca}{L:List fv}{Q:x3->x4->Prop}(aA:ff N f)(A:kA w B g l f.sizes L)(aB:L.map dw=fq f)(bN:∀out w' go z,Ext w w'->be dr 3 aX w' go out z->(∀h∈z,h∈L)->(∀h∈z,fP w' f.sizes h)->z.map dw=fI f->(∀r,leadsTo out r->w.heap.size<=r)->Q out w'):
  V x8 (W7 #[cV] ag #[l]) w λbO=>
 b3 (.slice ν 0 0) (Δ 0) w λout aE S bP=>
  V x8 (aJ .lss ag false false aE bO) S λbR=>
  Split bR (cv (α:=x3->x4->Prop) (λ(bU:x3)(U:x4)=>
   V x8 (aJ .add ag false true aE (Δ 1)) U λbV=>
   bP bU bV U) λbf=>
  V x8 (j5 cV l aE) S λbW=>
  V x8 (u5 aX bW) S λbX=>
  aC x8 (Instr.alloc aX true (.tuple #[])) S λal bg=>
  aC x8 (o8 aX al bX) bg λ(_:Unit)O=>
  V x8 (u6 aX al 2) O λbY=>
  V x8 (u5 au bY) O λbh=>
  V x8 (W7 #[au] ag #[bh]) O λb2=>
  b3 (.bool false) (Δ 0) O λbi aF C b4=>
   V x8 (aJ .lss ag false false aF b2) C λb5=>
   Split b5 (cv (α:=x3->x4->Prop) (λ(b6:x3)(Z:x4)=>
    V x8 (aJ .add ag false true aF (Δ 1)) Z λb8=>
    b4 b6 b8 Z) λbj=>
   V x8 (j5 au bh aF) C λb9=>
   V x8 (u5 ao b9) C λcb=>
   Split bi (bj (.bool true) C)
    (V x8 (aJ .gtr ao false true cb (Δ 0)) C λcc=>
   bj cc C))
    (V x8 (Op.unary .not bi) C λcd=>
  Split cd (bf out C)
   (b1 (Δ 0) C λi am ce=>
   cv (α:=x3->x4->Prop) (λ(cg:x3)(W:x4)=>
    Split cg (V x8 (aJ .add ag false true i (Δ 1)) W λch=>
   ce ch W)
     (eg W λG=>
  V x8 (u5 aX al) G λci=>
  V x8 (V8 cV out (σ i) ν ν) G λbk=>
  aC x8 (Y8 cV 1 #[(0,ci)]) G λck ab=>
   (Ext G ab\/bZ x8 (V8 cV out (σ i) ν ν) bk ab/\True)/\
  aC x8 (Z3 #[cV,cV] cV #[ck,bk]) ab λcl aH=>
   aC x8 (Y8 cV 0 #[]) aH λcm an=>
  V x8 (V8 cV out ν (σ i) ν) an λcn=>
  aC x8 (Z3 #[cV,cV] cV #[cm,cn]) an λcp aI=>
  aC x8 (Z3 #[cV,cV] cV #[cp,cl]) aI λcq aK=>
  bf cq aK)) λbl=>
   eg am λH=>
   V x8 (W7 #[cV] ag #[out]) H λcr=>
   V x8 (aJ .lss ag false false i cr) H λct=>
   Split ct (V x8 (j5 cV out i) H λcu=>
   V x8 (u5 aX cu) H λcw=>
   V x8 (u5 aX al) H λcz=>
   ai x8 zl [cw,cz] H λcA bm=>
    bl cA bm)
    (bl (.bool false) H))))
   (Q out S):=by
 have cB:L.length=(fq f).length:=by rw[<-aB,u7]
 have dg:L.length<=256:=by have:=(lb aA).2.2;have:=aA.k4;omega
 have bn:=(lb aA).1;rw[e9 cV.u A.1];refine b3.range L.length (λj out J=>∃go z,Ext w J/\be dr 3 aX J go out z/\(∀h∈z,h∈L)/\z.map dw=ll f j/\∀r,leadsTo out r->w.heap.size<=r) A.1.le
  ⟨0,[],Ext.refl _,be.nil _ _ _ _ _,λh ap=>(by cases ap),rfl,λr A=>(fg A).elim⟩ ?_ ?_
 rotate_left
 .rintro out J cC ⟨go,z,bo,ac,P,ad,aL⟩;rw[aR,aj];refine⟨λh=>Ω,λ_=>bN _ _ go z bo ac P (λh ap=>((A.ext bo).2.1 h (P h ap)).1) ?_ aL⟩;rw[ad,cB,Oo]
 rintro j out S cC bp ⟨go,z,aq,ac,P,ad,aL⟩ cD;obtain⟨h,ap⟩:=aD (l:=L) bp;have hm:(fq f)[j]?=σ (dw h):=by rw[<-aB,v8,ap];rfl
 have cE:=bn _ (x6 hm);have dh:z.length<=256:=by
  have:=Oq (f:=f) (j:=j) Ω;rw[<-ad,u7]at this;omega
 have ae:=A.ext aq;obtain⟨aN,_⟩:=ae.2.1 h (x6 ap);obtain⟨_,_,di,cF⟩:=id aN;refine bD Ω ?_;refine aW (λaP U=>∃aQ af,Ext w U/\be dr 3 aX U aQ aP af/\(∀h∈af,h∈L)/\af.map dw=ll f (j+1)/\∀r,leadsTo aP r->w.heap.size<=r) ?_ ?_
 .rintro aP U ⟨aQ,af,h1,cG,cH,cI,cJ⟩;rw[aM];exact cD _ _ ⟨aQ,af,h1,cG,cH,cI,cJ⟩
 intro aw ah;rw[dE rfl cV.u aX.i ae.1 bp,bF aX.p aX.i rfl (ae.1.range ap)];refine bw aX.i λbq bg dj cK cL=>?_;refine bT (vs:=dr h) aX.i rfl rfl aN.one cL λO cM dk br=>?_;have bt:Ext S O:=cK.put cM Ω;have aS:=cF.ext bt;rw[aG aX.p 2 br rfl,aV au.u aS.ls];refine b3.range h.cs.length (λq sv C=>Ext O C/\sv= .bool ((h.cs.take q).any λc=>decide (0<c))) aS.ls.le ⟨Ext.refl _,rfl⟩ ?_ ?_
 .rintro q _ C cN cO ⟨X,rfl⟩ cP;obtain⟨c,bu⟩:=aD (l:=h.cs) cO;have e:(h.cs.take (q+1)).any (λc=>decide (0<c))=((h.cs.take q).any (λc=>decide (0<c))||decide (0<c)):=by
   rw[r8,bu,l7,List.any_append];simp
  refine bD Ω ?_;refine aW (λsv Z=>Ext O Z/\sv= .bool ((h.cs.take (q+1)).any λc=>decide (0<c))) ?_ ?_
  .rintro _ Z ⟨cQ,rfl⟩;rw[aM];exact cP _ _ ⟨cQ,rfl⟩
  intro aw ah;rw[bc au.u ao.i Ψ (aS.ext X).ls bu,cj];refine⟨λcR=>ah _ _ ⟨X,by rw[e,cR];rfl⟩,λcS=>?_⟩;rw[bS];exact ah _ _ ⟨X,by rw[e,cS];rfl⟩
 rintro _ C cN ⟨X,rfl⟩;have bx:=br.ext X;have R:=bt.trans X;rw[o6];refine b7 Ω ?_;rw[bJ,cj];have av:=Dz hm;have cT:(h.cs.any λc=>decide (0<c))=fH (dw h):=rfl;rw[cT];refine⟨λaT=>?_,λI=>?_⟩
 .have aT:fH (dw h)=false:=by simpa using aT
  rw[aT]at av;exact ah _ _ ⟨go,z,aq.trans R,ac.ext R,P,by rw[ad,av];rfl,aL⟩
 have I:fH (dw h)=true:=by simpa using I
 rw[I,if_pos rfl]at av;refine⟨λaU am=>∃i:Nat,aU=Δ (i:Int)/\i<=z.length/\Ext C am/\∀p<i,∀x,z[p]?=σ x->dc x.sc<dc h.sc,λaU _=>z.length-(b0 aU).toNat,⟨0,rfl,X5 _,Ext.refl _,λp aZ=>Ω⟩,?_⟩;rintro _ am ⟨i,rfl,hi,cU,a1⟩;refine aW (λaO W=>Ext C W/\((aO= .bool true/\i<z.length/\∀x,z[i]?=σ x->dc x.sc<dc h.sc)\/(aO= .bool false/\∀x,z[i]?=σ x->¬dc x.sc<dc h.sc))) ?_ ?_
 rotate_left
 .intro dl a2;intro H cW _ _;have Y:=cU.trans cW;have a6:=ac.ext (R.trans Y);rw[e9 cV.u a6,aR,aj];refine⟨λa1=>?_,λdm=>a2 _ _ ⟨Y,.inr ⟨rfl,λx s=>absurd (x5.1 s).1 Ω⟩⟩⟩;obtain⟨x,s⟩:=aD (l:=z) (i:=i) Ω;have bz:=P x (x6 s);have cX:jn x.sc:=(bn (dw x) (by rw[<-aB];exact j0.2 ⟨x,bz,rfl⟩)).scope;have bA:=ae.ext (R.trans Y);rw[dE rfl cV.u aX.i a6 Ω,bF aX.p aX.i rfl (a6.range s),bF aX.p aX.i rfl (show H.rangeAt bq 0 (dr h)from(bx.ext Y).range)];refine(Oj (bA.2.1 x bz).1 (bA.2.1 h (x6 ap)).1 cX cE.scope).mono ?_;rintro _ bm _ ⟨rfl,bB⟩;by_cases ax:dc x.sc<dc h.sc
  .rw[decide_eq_true ax];exact a2 _ _ ⟨Y.trans bB,.inl ⟨rfl,Ω,λy E=>by rw[s]at E;cases E;exact ax⟩⟩
  .rw[decide_eq_false ax];exact a2 _ _ ⟨Y.trans bB,.inr ⟨rfl,λy E=>by rw[s]at E;cases E;exact ax⟩⟩
 rintro _ W ⟨bC,⟨rfl,dn,cY⟩|⟨rfl,cZ⟩⟩
 .rw[bQ,aM,wrap_i64 Ω Ω];refine⟨⟨i+1,rfl,Ω,bC,λp aZ x s=>?_⟩,by simp only[b0];omega⟩;by_cases c0:p=i
  .subst c0;exact cY x s
  .exact a1 p Ω x s
 .rw[aY];intro G c1 _ _;have ak:=bC.trans c1;have ay:=ac.ext (R.trans ak);have c2:=ae.ext (R.trans ak);have a7:∀x∈z,∀u∈dr x,u.oneCell'=true:=λx s=>(c2.2.1 x (P x s)).1.one;have c3:∀u∈dr h,u.oneCell'=true:=aN.one;rw[bF aX.p aX.i rfl (show G.rangeAt bq 0 (dr h)from(bx.ext ak).range)];refine Dw (h':=z.length) cV.u aX.i ay (nv i _ rfl) jE hi (o5 _) λdp bE=>?_;refine h2 (f:=dr) (k:=3) (a:=h) cV.u aX.i Ω rfl rfl λdq ds ab dt a8 bG=>?_;refine⟨.inl a8,?_⟩;have c4:(z.drop i).take (z.length-i)=z.drop i:=j9 (by rw[List.length_drop];omega);rw[c4]at bE;refine wF (M:=z.drop i) cV.u aX.i rfl bG (bE ab (ay.ext a8)) (λ_ _=>rfl) (λa K=>a7 a (List.mem_of_mem_drop K)) Θ Θ λdu dv aH ba dx c5=>?_;have bH:Ext G aH:=a8.then c5 λr A he=>by have:=(bG.leads he).1;omega
  refine Om (f:=dr) (k:=3) cV.u aX.i λdy dz an dA bb az=>?_;have bd:=bH.trans bb;refine Dw (h':=i) cV.u aX.i (ay.ext bd) jD (nw i _ rfl) (X5 _) hi λdC bI=>?_;rw[List.drop_zero,Nat.sub_zero]at bI;refine wF (M:=z.take i) cV.u aX.i rfl az (bI an (ay.ext bd)) (λ_ _=>rfl) (λa K=>a7 a (T9 K)) Θ Θ λc6 dD aI c7 c8 bK=>?_;have dF:=bH.size;have dG:=bb.size;have c9:=(ba.ext bb).aa bK λr A I=>by have:=(ba.leads A).1;have:=(ba.leads A).2;have:=(az.leads I).1;omega
  refine wF (M:=[h]++z.drop i) cV.u aX.i rfl c7 c9.sl (λ_ _=>rfl) (λa K=>?_) Θ Θ λdH da aK db dd de=>?_
  .rcases l9.1 K with K|K
   .rw[j4.1 K];exact c3
   .exact a7 a (List.mem_of_mem_drop K)
  have bL:Ext G aI:=bd.then bK λr A he=>by have:=(az.leads he).1;omega
  have bM:∀r,leadsTo c6 r->G.heap.size<=r:=λr A=>(c8 r A).elim (λh=>by have:=(az.leads h).1;omega) λh=>Ω
  have df:Ext G aK:=bL.then de λr A he=>by have:=bM r he;omega
  have dI:=(aq.trans (R.trans ak)).size;have dJ:=bL.size;refine ah _ _ ⟨da,_,(aq.trans (R.trans ak)).trans df,db,λx s=>?_,?_,λr A=>(dd r A).elim (λh=>by have:=bM r h;omega) λh=>Ω⟩
  .rcases l9.1 s with s|s
   .exact P x (T9 (by simpa using s))
   .rcases l9.1 s with s|s
    .rw[j4.1 s];exact x6 ap
    .exact P x (List.mem_of_mem_drop s)
  .rw[av,<-ad,Dy (i:=i) (λp aZ x s=>?_) (by simpa using hi) (λx s=>?_)]
   .simp
   .rw[v8]at s;cases E:z[p]? with
    |none=>rw[E]at s;cases s
    |some y=>rw[E]at s;cases s;exact a1 p aZ y E
   .rw[v8]at s;cases E:z[i]? with
    |none=>rw[E]at s;cases s
    |some y=>rw[E]at s;cases s;exact cZ y E
end Go.Proofs.YtikkpokkcdocoaaGreatDoor
