/- own texts, made small by a tool (wip/ holds them as they were written): no statement of the seat. -/
import Derived.Test.YtjjhhcfgfdepdaaGreatDoorYc
set_option linter.unusedVariables false
set_option linter.unusedSimpArgs false
set_option linter.unnecessarySimpa false
open Array renaming getElem?_eq_some_iff→j0,getElem?_toList→S5
open Bool renaming not_true→Y4,not_false→W5,eq_iff_iff→V3,and_eq_true→U4,or_eq_false_iff→S2
open Decidable renaming not_not→Y3
open Go renaming Value→x1,World→x3,TypeId→r9,IntKind→o6,Builtin→Z1,Program→W3
open Go.Addr renaming add_mid→T5
open Go.Builtin renaming append_→b8,len_→W7
open Go.Instr renaming loadAt→u5,fieldAt→u6,storeAt→o8,indexAt→c7,extract→Z7,buildSlice→Y1,sliceAt→V5,alloc→T7
open Go.IntKind renaming i64→X2
open Go.Proofs.Tryz renaming prog→x7
open Int renaming toNat_natCast→r8
open List renaming getElem?_eq_some_iff→x4,mem_of_getElem?→x5,getElem?_eq_getElem→x6,getElem?_map→x8,getD_eq_getElem?_getD→u4,length_map→u7,take_add_one→u9,length_append→p8,replicate→p9,take_length→o5,take_of_length_le→o9,mem_map→n9,mem_append→l7,mem_singleton→l9,getElem?_set_self→j4,length_take→j5,map_append→j6,append_assoc→c9,eq_nil_of_length_eq_zero→b9,length_cons→Z0,length_set→Z2,getElem?_eq_none→Z3,getElem?_append_left→Z8,getElem?_append_right→Z9,getElem?_set_ne→Y0,ext_getElem?→Y2,flatMap_cons→Y6,getElem?_take_of_lt→Y8,getElem?_set→X1,mem_iff_getElem?→X4,mem_or_eq_of_mem_set→X6,drop_eq_getElem_cons→X7,append_nil→X9,length_eq_one_iff→W8,range→V1,map_cons→V4,map_set→U3,length_singleton→U6,length→T1,set_append_right→T2,mem_of_mem_take→T3,getElem_mem→T8,map_map→S8
open Nat renaming le_refl→o4,le_trans→Y5,mul_le_mul_right→Y9,zero_le→X3,zero_add→X5,add_mul→V9,sub_self→U1,mul_one→U9,eq_zero_or_pos→S4,add_assoc→S9,add_sub_cancel_left→R2
open Option renaming toList_some→o7,map_some→Z4,isNone_some→Z5,map_eq_some_iff→Y7,getD_some→V6,map→V8,isSome_some→S6,isSome_none→S7
open Option.some renaming inj→c8,injEq→X0
open Prod.mk renaming injEq→T9
set_option maxHeartbeats 16000000
open Option renaming some→σ,none→ν
variable {B N a ac af gz j k n:Nat}{w w':x3}{sv v z:x1}{e t:r9}{y:Int}{K:x1->Prop}{all l pl sizes:Λ}{S:Nat->Prop}
namespace Go.Proofs.YtjjhhcfgfdepdaaGreatDoor
open Go Go.Vc Go.RowKit Go.Proofs Go.Proofs.Tryz
set_option maxRecDepth 100000
def Nb (w:x3) (f:b6) (v:x1) (w':x3):Prop:=Ext w w'/\((¬l0 f.funs<=16384/\ ∃e:Int,e≠0/\v= .tuple #[.pointer ν,Δ e])\/ ∃a,v= .tuple #[Γ a,Δ 0]/\CJ w.heap.size w' a (dt f))
theorem eO {cs:List x1} (h:bX w k v n cs):v.cells= #[v]/\v.oneCell'=true:=by
 obtain⟨_,_,_,_,_,rfl,_⟩:=h;exact⟨rfl,rfl⟩
theorem Nc {b0:Nat} {f:b6} (cw:k9 w b0 f) (S:e7 N f) (cz:N<=60000) (cA:f.name≠[]/\ ∀b∈f.name,bN b=true):
  ai x7 Gh [Γ b0] w (Nb w f):=by
 have hk:=S.k;refine aw func36 ?_;refine (M7 cw S cz cA).mono ?_;rintro _ J _ ⟨aC,⟨cB,e,he,rfl⟩|⟨aD,rfl,cE⟩⟩
 .rw[bx,bz,bL,aj];exact⟨λ_=>⟨aC,.inl ⟨cB,e,he,rfl⟩⟩,λh=>absurd he h⟩
 rw[bx,bz,bL,aj];refine⟨λh=>absurd rfl h,λ_=>?_⟩;obtain⟨szv,cF,gz,dA,M,be,bf,b1,aU,cG,cH,cI⟩:=id cE;have dC:M.length<=256:=by
  have h1:=(qx S).2.length_eq;have au:=(k7 S).2.2;have ax:=List.length_filter_le fB (fl f);have aV:=S.k0;have dD:M.length=(fC f).length:=by rw[<-aU,u7]
  omega
 have dE:=S.sizes.2.1;rw[dp (cs:=#[Γ aD,Δ 0,.slice ν 0 0,.slice ν 0 0]) Ψ];refine bm λG U dF bi bj=>?_;have bj:ab U G fu [Γ aD,Δ 0,.slice ν 0 0,.slice ν 0 0]:=bj;rw[aO cC.p 2 (be.ext bi) rfl,aX am.u (bf.ls.ext bi)];refine ch.range f.sizes.length (λi aE=>∃s H aS,Ext J aE/\ab aE G fu [Γ aD,Δ 0,s,.slice ν 0 0]/\hz aE H s aS/\aS.map (·.l)=(f.sizes.take i).map (λz=>p9 z.toNat 0)/\(∀r,leadsTo s r->J.heap.size<=r)/\ ∀h∈aS,∀r,leads h.v r->J.heap.size<=r) Ω
  ⟨_,0,[],bi,bj,⟨bg.nil _ _ _ _ _,λx aF=>(by cases aF)⟩,rfl,λr q=>(e8 q).elim,λx aF=>(by cases aF)⟩ ?_ ?_
 .rintro i aE cJ hi ⟨s,H,aS,ac,aW,bk,aG,aY,O⟩ cK;obtain⟨z,B⟩:=aI (l:=f.sizes) hi;have dG:=S.sizes.2.2 z (x5 B);have dH:aS.length=i:=by have:=congrArg T1 aG;simp only[u7,j5] at this;omega
  refine bH Ω ?_;rw[bd am.u ah.i Ψ (bf.ls.ext ac) B];intro dJ bl _ _;have cL:=aW.ext bl;rw[aO fu.p 2 cL rfl];obtain⟨ad,rfl⟩:∃n:Nat,z=n:=⟨z.toNat,Ω⟩;refine kh (k:=.i64) ao.u al.i Ω Ω λaZ cM dL bp cO=>?_;refine⟨.inl bp,?_⟩;have b2:ap .i64 al cM aZ (.slice (σ ⟨aZ,0,ν⟩) ad ad) (p9 ad 0):=ap.of (bQ.full (k:=1) (n:=ad) cO Ξ (by simp[maxLen];omega));let a:la:=⟨.slice (σ ⟨aZ,0,ν⟩) ad ad,p9 ad 0⟩;refine hW (f:=nQ) (a:=a) cN.u ao.i Ω rfl rfl λdM dN bq dO br cP=>?_;refine⟨.inl (bp.trans br),?_⟩;have a1:=(bl.trans bp).trans br;have a2:=bk.ext a1;refine ik (f:=nQ) (a:=a) cN.u ao.i rfl a2.1 (by simpa using cP.sl) (λu hu=>by rw[l9.1 (show u∈[a.v] from hu)];rfl) Ω Ω λbt bu dP P bw b4=>?_;have aH:∀ {r:Nat},leadsTo s r-> ∃c,ab bq r ao c:=λq=>by
   obtain⟨rfl,c,A⟩:=ei a2.1 q;exact⟨c,A⟩
  have bA:=aW.ext a1;have b5:=bA.V b4 λhe=>cR a2.1 bA Φ he;rw[bZ,aQ fu.p rfl];refine bo cN.i (eO P.sl).1 (eO P.sl).2 b5 Ξ λcQ b7 dQ cS=>?_;rw[aP];have bC:ae (λr=>leadsTo s r\/r=G) bq cQ:=(b4.mono λr _ h=>.inl h).trans (b7.mono λr _ h=>.inr h);have W:∀r,(leadsTo s r\/r=G)-> ∃e c,ab bq r e c/\e≠al:=λr q=>by
   rcases q with q|rfl
   .obtain⟨c,A⟩:=aH q;exact⟨_,c,A,Φ⟩
   .exact⟨_,_,bA,Φ⟩
  have b8:=aC.size;have z3:=ac.size;have dR:=a1.size;refine cK _ ⟨bt,bu,aS++[a],(ac.trans a1).then bC (λr q he=>?_),cS,⟨P.V b7 λr q he=>?_,λy C=>?_⟩,?_,λr q=>?_,λy C r q=>?_⟩
  .rcases he with he|rfl
   .have:=aY r he;omega
   .omega
  .have he:r=G:=he;subst he;exact cR P b5 Φ q
  .rcases l7.1 C with C|C
   .exact a2.qG bC W y C
   .rw[l9.1 C];have ca:=b2.ext br;exact⟨aZ,bn ca bC λr q I=>by
     obtain⟨e,c,A,cT⟩:=W r I;exact cc ca A (λhe=>cT he.symm) q rfl⟩
  .rw[j6,aG,u9,B,o7,j6];rfl
  .rcases bw r q with h|h
   .exact aY r h
   .omega
  .rcases l7.1 C with C|C
   .exact O y C r q
   .rw[l9.1 C] at q;have cU:=(bP b2 q).1;have:=bl.size;omega
 .rintro aE cJ ⟨s,H,aS,ac,aW,bk,aG,aY,O⟩;refine cd Ω ?_;rw[o5] at aG;have cV:=be.ext ac;have cW:=b1.ext ac;rw[aO cC.p 3 cV rfl,eD dK.u cW.1];refine ch.range M.length (λi af=>∃s E H gr aS L,Ext J af/\ab af G fu [Γ aD,Δ (dI f i).zero,s,E]/\hz af H s aS/\aS.map (·.l)=(dI f i).unary/\l1 af w.heap.size gr E f.k f.sizes L/\L.map dW=(dI f i).funs/\(∀r,leadsTo s r\/leadsTo E r->J.heap.size<=r)/\ ∀h∈aS,∀r,leads h.v r->J.heap.size<=r) Ω
   ⟨s,_,H,0,aS,[],ac,aW,bk,aG,⟨bg.nil _ _ _ _ _,λx aF=>(by cases aF)⟩,rfl,λr q=>q.elim (aY r) λh=>(e8 h).elim,O⟩ ?_ ?_
  rotate_left
  .rintro af cY ⟨s,E,H,gr,aS,L,Q,a6,bE,ag,bF,ak,X,O⟩;refine cd Ω ?_;have cZ:M.length=(fC f).length:=by rw[<-aU,u7]
   have aJ:=pd f M.length;rw[cZ,td] at a6 ag ak aJ;have b8:=aC.size;refine⟨aC.trans Q,.inr ⟨G,rfl,M8 (gr:=gr) (nm:=bU f.name) (szv:=szv) (gz:=gz) (fv2:=cF) a6 ?_ ?_ bE ag ?_ ak Ω cG cH (λr q=>by have:=X r q;omega) λh az r q=>by have:=O h az r q;omega⟩⟩
   .rw[aJ.1];exact be.ext Q
   .rw[aJ.2.1];exact bf.ext Q
   .rw[aJ.1,aJ.2.1];exact bF
  rintro i af cY hi ⟨s,E,H,gr,aS,L,Q,a6,bE,ag,bF,ak,X,O⟩ c0;obtain⟨y,C⟩:=aI (l:=M) hi;have c1:(fC f)[i]? =σ (dW y):=by rw[<-aU,x8,C];rfl
  have a7:fE f.sizes f.k (dW y):=sS S _ (wm aU C);have bG:=b1.ext Q;obtain⟨dS,dT,dU,dV⟩:=pd f i;refine bH Ω ?_;refine dm (λaK=>∃s E H gr aS L,Ext J aK/\ab aK G fu [Γ aD,Δ (dI f (i+1)).zero,s,E]/\hz aK H s aS/\aS.map (·.l)=(dI f (i+1)).unary/\l1 aK w.heap.size gr E f.k f.sizes L/\L.map dW=(dI f (i+1)).funs/\(∀r,leadsTo s r\/leadsTo E r->J.heap.size<=r)/\ ∀h∈aS,∀r,leads h.v r->J.heap.size<=r) ?_ ?_
  .rintro aK h;rw[aP];exact c0 _ h
  intro av bI;have c2:=bG.2 y (x5 C);obtain⟨⟨c3,bJ⟩,m,o,D,c4,dX,c5⟩:=c2;rw[de rfl dK.u cD.i bG.1 hi,bD cD.p cD.i rfl (bG.1.range C)];refine bB cD.i λan dY dZ c6 c7=>?_;refine b3 (vs:=eE y) cD.i rfl rfl (tc bJ) c7 λc8 c9 ea cb=>?_;have bK:Ext af c8:=c6.put c9 Ω;rw[aA cD.p 1 cb rfl];refine (Ce (c4.ext bK) Ω).mono ?_;rintro _ eb _ ⟨ce,_,ay⟩;obtain⟨g,da,db,dc,rfl,ec,dd,ay,df⟩:=ay a7.small;have dg:dB (bR f.sizes y.sc):=ay.2.2.1.2;have dh:dc=y.cs:=io.eq dg df c5;subst dh;have Y:=bK.trans ce;have bM:=cb.ext ce;have bO:=bJ.ext Y;rw[bx,bz,aA cD.p 0 bM rfl,aX am.u bO.ls];have b8:=aC.size;have z9:=Q.size;have ed:=Y.size;have bS:=a6.ext Y;have bT:=bE.ext Y;have bV:=bF.ext Y;have bW:=wn c1;rw[bh,aj];refine⟨λee=>?_,λef=>?_⟩
  .
   have aq:y.sc=[]:=b9 Ω;have K:dI f (i+1)={dI f i with zero:=y.cs.getD 0 0}:=by rw[bW];unfold iT;simp only[dW,aq]
   refine (mD ay).mono ?_;rintro cg di _ ⟨a8,eg,eh,dj⟩;have ej:y.cs.length=1:=by have:=a7.len;simpa[dW,aq,bR,aL] using this
   have dk:y.cs[0]? =σ (y.cs.getD 0 0):=by rw[u4,x6 Ω];rfl
   rw[fy (y:=0) (i:=0) rfl ao.u al.i Ψ dj.ls dk,bZ,aQ fu.p rfl];have ci:=bS.ext a8;refine bo al.i rfl rfl ci Ξ λek bX em dl=>?_;have W:∀r,r=G-> ∃e c,ab di r e c/\e≠hp/\e≠cX/\e≠ah/\e≠al/\e≠ao:=λr q=>by
    subst q;exact⟨_,_,ci,Φ,Φ,Φ,Φ,Φ⟩
   refine bI _ ⟨s,E,H,gr,aS,L,((Q.trans Y).trans a8).put bX Ω,?_,(bT.ext a8).V bX (λr q=>?_),by rw[K];exact ag,(bV.ext a8).V bX (λr q=>?_),by rw[K];exact ak,X,O⟩
   .rw[K];exact dl
   .obtain⟨e,c,A,_,_,_,h1,au⟩:=W r q;exact⟨e,c,A,h1,au⟩
   .obtain⟨e,c,A,h1,au,ax,aV,_⟩:=W r q;exact⟨e,c,A,h1,au,ax,aV⟩
  rw[bh,aj];refine⟨λh1=>?_,λen=>?_⟩
  .
   obtain⟨v,aq⟩:∃v,y.sc=[v]:=W8.1 Ω;have eo:=a7.scope.1 v (by show v∈y.sc;rw[aq];exact .head _);have ep:=a7.vars v (by show v∈y.sc;rw[aq];exact .head _);have K:dI f (i+1)={dI f i with unary:=(dI f i).unary.set v.toNat y.cs}:=by rw[bW];unfold iT;simp only[dW,aq]
   intro er Z _ _;have cj:=bS.ext Z;have dn:=bM.ext Z;rw[aO fu.p 2 cj rfl,aA cD.p 0 dn rfl];refine pZ (y:=0) (i:=0) rfl am.u ah.i (bO.ls.ext Z) (show y.sc[0]? =σ v by rw[aq];rfl) λb o dq=>?_;rw[aB Ψ dq];refine (mD (ay.ext Z)).mono ?_;rintro cg dr _ ⟨aM,dt,es,aN⟩;refine⟨.inl aM,?_⟩;have aR:=(bT.ext Z).ext aM;have et:aS.length=f.sizes.length:=by have:=congrArg T1 ag;rw[u7] at this;omega
   obtain⟨u,hu⟩:=aI (l:=aS) (i:=v.toNat) Ω;rw[de (i:=v.toNat) Ω cN.u ao.i aR.1 Ω];let a:la:=⟨cg,y.cs⟩;refine oZ (f:=nQ) (j:=0) (a:=u) (a':=a) ao.i aN.ls.cells.1 aN.ls.cells.2 aR.1 hu rfl Ω λeu aT ev du=>?_;have ck:=cj.ext aM;have aH:∀ {r:Nat},leadsTo s r-> ∃c,ab dr r ao c:=λq=>by
    obtain⟨rfl,c,A⟩:=ei aR.1 q;exact⟨c,A⟩
   refine bI _ ⟨s,E,H,gr,aS.set v.toNat a,L,(((Q.trans Y).trans Z).trans aM).then aT (λr q he=>by have:=X r (.inl he);omega),?_,⟨du,λz B=>?_⟩,?_,((bV.ext Z).ext aM).V aT (λr q=>?_),by rw[K];exact ak,X,λz B r q=>?_⟩
   .rw[K];exact ck.V aT λhe=>cR aR.1 ck Φ he
   .rcases X6 B with B|rfl
    .exact aR.qG aT (λr q=>by obtain⟨c,A⟩:=aH q;exact⟨_,c,A,Φ⟩) z B
    .exact⟨dt,bn aN aT λr q I=>by
      obtain⟨c,A⟩:=aH I;exact cc aN A Φ q rfl⟩
   .rw[K,U3,ag]
   .obtain⟨c,A⟩:=aH q;exact⟨_,c,A,Φ,Φ,Φ,Φ⟩
   .rcases X6 B with B|rfl
    .exact O z B r q
    .have cU:=(bP aN q).1;have:=Z.size;omega
  .
   have K:dI f (i+1)={dI f i with funs:=(dI f i).funs++[dW y]}:=by
    rw[bW];unfold iT;have cl:2<=(dW y).1.length:=by show 2<=y.sc.length;omega
    generalize dW y=g at cl ⊢;obtain⟨sc,cs⟩:=g
    match sc,cl with
    |_::_::_,_=>rfl
   intro ew aa _ _;have cm:=bS.ext aa;have dv:=bM.ext aa;have cn:=bO.ext aa;rw[aO fu.p 3 cm rfl,aA cD.p 0 dv rfl,dp (cs:=#[y.sv,Γ g]) (by obtain⟨_,_,_,e⟩:=ds bJ.ls;rw[e];kernel_rfl)];let a:cq:=⟨y.sv,g,y.sc,y.cs⟩;refine hW (f:=eE) (a:=a) kO.u hp.i Ω rfl rfl λey ez ba eA R dw=>?_;refine⟨.inl R,?_⟩;have bb:=(bV.ext aa).ext R;have dx:=(bT.ext aa).ext R;have bY:=cm.ext R;have eB:L.length<=256:=by have:=congrArg T1 ak;rw[u7] at this;omega
   refine ik (f:=eE) (a:=a) kO.u hp.i rfl bb.1 (by simpa using dw.sl) (tc (cn.ext R)) Ω Ω λbt bu eC P bw cp=>?_;have cr:=bY.V cp λhe=>cR bb.1 bY Φ he;rw[bZ,aQ fu.p rfl];refine bo kO.i (eO P.sl).1 (eO P.sl).2 cr Ξ λdy ct eF dz=>?_;have bc:ae (λr=>leadsTo E r\/r=G) ba dy:=(cp.mono λr _ h=>.inl h).trans (ct.mono λr _ h=>.inr h);have W:∀r,(leadsTo E r\/r=G)-> ∃e c,ab ba r e c/\e≠cX/\e≠ah/\e≠al/\e≠ao:=λr q=>by
    rcases q with q|rfl
    .obtain⟨rfl,c,A⟩:=ei bb.1 q;exact⟨_,c,A,Φ,Φ,Φ,Φ⟩
    .exact⟨_,_,bY,Φ,Φ,Φ,Φ⟩
   have eH:=(aa.trans R).size;refine bI _ ⟨s,bt,H,bu,aS,L++[a],(((Q.trans Y).trans aa).trans R).then bc (λr q he=>?_),?_,dx.V bc (λr q=>?_),by rw[K];exact ag,⟨P.V ct λr q he=>?_,λz B=>?_⟩,?_,λr q=>?_,O⟩
   .rcases he with he|rfl
    .have:=X r (.inr he);omega
    .omega
   .rw[K];exact dz
   .obtain⟨e,c,A,_,_,ax,aV⟩:=W r q;exact⟨e,c,A,ax,aV⟩
   .have he:r=G:=he;subst he;exact cR P cr Φ q
   .have cu:∀r,(leadsTo E r\/r=G)-> ∃e c,ab ba r e c/\e≠cX/\e≠ah/\e≠al:=λr q=>by
     obtain⟨e,c,A,h1,au,ax,_⟩:=W r q;exact⟨e,c,A,h1,au,ax⟩
    rcases l7.1 B with B|B
    .exact (bb.2 z B).V bc cu
    .rw[l9.1 B];have eI:=bK.size;refine qH.V (w:=ba) ⟨⟨c3,cn.ext R⟩,⟨da,db,?_,Ω,λr q=>by have:=dd.2 r q;omega⟩,by show w.heap.size<=g;omega,cI y (x5 C)⟩ bc cu;exact (ay.ext aa).ext R
   .rw[K,j6,ak];rfl
   .rcases q with q|q
    .exact X r (.inl q)
    .rcases bw r q with h|h
     .exact X r (.inr h)
     .omega
theorem wo {z:Array x1} (a:z.size=k):(Z1.zeroCells z n).toList=dR z (n*k):=by
 unfold Z1.zeroCells dR;rw[a]
theorem Nd {P:W3} {p A:r9} {B kn:o6} {b g m:Nat} {xs:List x1} {K:x1->x3->Prop} (Y:y=(m:Int)) (M:P.underlying t=σ (.slice e)) (N:P.underlying p=σ (.int kn)) (hi:aN P e k b z) (C:z.cells.size=k)
  (av:0<k) (h1:∀u∈dR z.cells (m*k),u.oneCell'=true) (h:bQ w g e k v n xs) (Z:0<m) (aa:(n+m)*b<=140737488355328) (ac:n+m<=9223372036854775807)
  (O:∀E ad w',bQ w' ad e k E (n+m) (xs++dR z.cells (m*k))->(∀r,leadsTo E r->leadsTo v r\/w.heap.size<=r)->ae (λr=>leadsTo v r) w w'->K E w'):ax P (b8 #[t,p] A #[v,.int B y]) w K:=by
 subst Y;obtain⟨i,hi,F,rfl,Q⟩:=hi;obtain⟨R,hm⟩:=h;have af:=oE z.cells (m*k);have ag:m*i.bytes<=281474976710656:=by
  have:m*i.bytes<=(n+m)*i.bytes:=Y9 _ Ω;omega
 have grow:∀ (base:Option Addr) (cap:Nat),v= .slice base n cap->(Z1.firstCells i.size n (.slice base n cap)).run P w.drew= .ok xs.toArray w.drew->cap<n+m->ax P (b8 #[t,p] A #[v,.int B (m:Int)]) w K:=λbase cap ah ai f=>by
  subst ah;have G:=Lib.run_append_grow_zeros (P:=P) w t p A e i z B kn M N hi Q base n cap xs ai m Z Ω f Ω ag (growslice_fits f aa);have S:n+m<=grownCap w (n+m) cap e:=grownCap_ge w _ _ _;have aj:grownCap w (n+m) cap e<=maxLen:=grownCap_le_maxLen w (n+m) cap e (by simpa[maxLen] using ac);have aw:=oE z.cells ((grownCap w (n+m) cap e-(n+m))*k);have ay:(n+m)*k<=grownCap w (n+m) cap e*k:=Y9 _ S;have ak:(n+m)*k=n*k+m*k:=V9 _ _ _;have az:(grownCap w (n+m) cap e-(n+m))*k=grownCap w (n+m) cap e*k-(n+m)*k:=Nat.sub_mul _ _ _;refine .of G ((pw w _ (Nat.le_succ _)).trans (py _ _)) (O _ w.heap.size _ ⟨by rw[p8];omega,.inr ⟨_,xs++dR z.cells (m*k)++dR z.cells ((grownCap w (n+m) cap e-(n+m))*k),rfl,?_,S,aj,?_,?_⟩⟩ (λr H=>?_) (((rh w _).trans (px _ _)).V _))
  .have:=heap_alloc_new w.drew (.cells (xs.toArray++Z1.zeroCells z.cells m++Z1.zeroCells z.cells (grownCap w (n+m) cap e-(n+m))) e);unfold ab;rw[show w.drew.heap.size=w.heap.size from rfl] at this;rw[this];congr 2;apply Array.toList_inj.1;rw[Array.toList_append,Array.toList_append,wo C,wo C]
  .rw[p8,p8];omega
  .rw[List.take_append_of_le_length (by rw[p8];omega),o9 (by rw[p8];omega)]
  .obtain⟨a,al,c,q,s⟩:=H;cases q;exact .inr (by simp at s;omega)
 rcases hm with⟨rfl,am⟩|⟨cap,cs,rfl,x,q,s,I,T⟩
 .subst am;have:xs=[]:=b9 (by simpa using R);subst this;exact grow ν 0 rfl (run_firstCells_none w.drew i.size 0 0 0) Ω
 .by_cases f:n+m<=cap
  .have U:(n+m)*k<=cs.length:=by rw[I];exact Y9 _ f
   have ak:(n+m)*k=n*k+m*k:=V9 _ _ _;have J:=run_storeCells_cells (P:=P) g (0+n*k) (dR z.cells (m*k)) 0 w (λj W=>by
    rw[af] at W;rw[Nat.add_zero,X5,x.cell (x6 (show n*k+j<cs.length by omega))];rfl) (λj _=>x.frozen _ _) h1
   simp only[Nat.add_zero] at J;have hw:X2.wrap (m:Int)=m:=by rw[o6.wrap_i64];omega
   have an:¬((m:Int)<0):=Ω
   have ao:¬(281474976710656<(m:Int)*(i.bytes:Int)):=by rw[<-Int.natCast_mul];omega
   have L:¬(m*i.size=0):=Nat.mul_ne_zero Ω Ω;have ap:(Z1.zeroCells z.cells m).toList=dR z.cells (m*k):=wo C;have G:(b8 #[t,p] A #[.slice (σ ⟨g,0,ν⟩) n cap,.int B (m:Int)]).run P w= .ok (.slice (σ ⟨g,0,ν⟩) (n+m) cap) (w.setCells g (0+n*k) (dR z.cells (m*k))):=by
    simp[b8,run_underlying M,run_underlying N,sizeOf,typeInfo,zeroValue,hi,Q,asInt,asIntOf,hw,f,an,L,ao,ap,Addr.add_lit,F];simp only[X5] at J;rw[J];simp;intro aq;exact absurd aq (by rw[F] at L;exact L)
   obtain⟨au,X⟩:=ns (dR z.cells (m*k)) cs (0+n*k) w x;refine .of G (X.ct x) (O _ g _ ⟨by rw[p8];omega,.inr ⟨cap,_,rfl,au,f,s,by rw[mr,I],?_⟩⟩ (λr H=>.inl ?_) (X.V.mono λr _ he=>⟨_,_,_,rfl,he.symm⟩))
   .rw[sI Ω U,mu (by rw[j5];omega),X5,List.take_take,List.drop_eq_nil_of_le (by rw[j5];omega),X9,Nat.min_eq_left Ω,T]
   .obtain⟨a,al,c,q,s⟩:=H;cases q;exact⟨_,_,_,rfl,s⟩
  .refine grow _ cap rfl ?_ Ω;have U:n*k<=cs.length:=by rw[I];exact Y9 _ q
   refine run_firstCells_some w.drew i.size n _ n cap xs (by rw[F];exact R) λj u hu=>?_;rw[T5,X5];have W:=(x4.1 hu).1;rw[<-T,Y8 Ω] at hu;exact x.cell hu
def ip (c:Cell):List x1:=[Δ c.v,.int .u64 (c.st:Int)]
def nT (o:kW):List x1:=[Δ (o.i:Int),Δ o.c.v,.int .u64 (o.c.st:Int)]
def nU (m:sf):List x1:=[Δ (m.olds:Int),Δ (m.cells:Int),.int .u64 (m.st:Int)]
def dx (w:x3) (af:Nat) (A:ag) (t:aC):Prop:=A af/\ ∃e go di aZ a dL,ab w af fv [aZ,a,dL,.int .u64 (t.iJ:Int)]/\bg ip 2 eK w e aZ t.cells/\bg nT 3 kP w go a t.olds/\bg nU 3 gf w di dL t.marks/\
 ∀r,leadsTo aZ r\/leadsTo a r\/leadsTo dL r->A r
theorem dx.V {S A:ag} {t:aC} (h:dx w af A t) (e:ae S w w') (f:∀r,A r->¬S r):dx w' af A t:=by
 obtain⟨p,q,go,di,aZ,s,dL,h1,x,y,z,j⟩:=h;exact⟨p,q,go,di,aZ,s,dL,h1.V e (f _ p),x.V e λr a=>f r (j r (.inl a)),y.V e λr a=>f r (j r (.inr (.inl a))),z.V e λr a=>f r (j r (.inr (.inr a))),j⟩
theorem dx.ext {A:ag} {t:aC} (h:dx w af A t) (a:Ext w w'):dx w' af A t:=h.V (a.V λ_=>False) λ_ _ h=>h
theorem dx.mono {A B:ag} {t:aC} (h:dx w af A t) (a:∀r,A r->B r):dx w af B t:=by
 obtain⟨e,f,go,di,aZ,j,dL,h1,p,q,s,x⟩:=h;exact⟨a _ e,f,go,di,aZ,j,dL,h1,p,q,s,λr y=>a r (x r y)⟩
def Grow (A:ag) (w:x3) (aK:ag) (w':x3):Prop:=ae A w w'/\(∀r,aK r->A r\/w.heap.size<=r)/\ ∀r,A r->aK r
theorem Grow.refl (A:ag) (w:x3):Grow A w A w:=⟨ae.refl _ _,λ_ h=>.inl h,λ_ h=>h⟩
theorem Grow.ext {A:ag} (h:Ext w w'):Grow A w A w':=⟨h.V _,λ_ h=>.inl h,λ_ h=>h⟩
theorem Grow.trans {A aK e:ag} {f:x3} (h:Grow A w aK w') (k:Grow aK w' e f):Grow A w e f:=
 ⟨⟨Y5 h.1.size k.1.size,λr o a I j=>k.1.aW r o (h.1.aW r o a I j) I λp=>(h.2.1 r p).elim j λq=>by
  have:=(j0.1 a).1;omega⟩,λr a=>by
  rcases k.2.1 r a with h1|h1
  .exact h.2.1 r h1
  .have:=h.1.size;exact .inr Ω,λr a=>k.2.2 r (h.2.2 r a)⟩
theorem CL {A:ag} {t:aC} (h:dx w af A t):ai x7 HY [Γ af] w λv w'=>v=Δ (t.cells.length:Int)/\Ext w w':=by
 obtain⟨e,f,go,di,aZ,j,dL,h1,a,q,r,s⟩:=h;refine aw func182 ?_;rw[dn pP.u];simp only[Z5,aY];rw[aO fv.p 0 h1 rfl,eD h4.u a];exact⟨rfl,Ext.refl _⟩
theorem CM {A:ag} {t:aC} {i:Int} (h:dx w af A t):ai x7 Hq [Γ af,Δ i] w λv w'=>v= .bool (decide (0<=i/\i<t.cells.length))/\Ext w w':=by
 refine aw func133 ?_;refine aU (λv J=>v= .bool (decide (0<=i/\i<t.cells.length))/\Ext w J) (λ_ _ h=>h) ?_;intro av a;rw[cY,aj];refine⟨λe=>?_,λe=>a _ _ ⟨by rw[decide_eq_false];omega,Ext.refl _⟩⟩;refine (CL h).mono ?_;rintro _ J _ ⟨rfl,f⟩;rw[aR];refine a _ _ ⟨?_,f⟩;congr 1;rw[V3,decide_eq_true_eq,decide_eq_true_eq];exact⟨λh=>⟨Ω,h⟩,λh=>h.2⟩
theorem Nf {A:ag} {t:aC} {i:Nat} {c:Cell} (h:dx w af A t) (j:y=(i:Int)) (a:t.cells[i]? =σ c):ai x7 yY [Γ af,Δ y] w λv w'=>v=Δ c.v/\Ext w w':=by
 have q:=(x4.1 a).1;refine aw func69 ?_;refine (CM h).mono ?_;rintro _ J _ ⟨rfl,e⟩;rw[decide_eq_true Ω,bG,Y4,aY];obtain⟨r,s,go,di,aZ,x,dL,h1,f,z,B,C⟩:=h.ext e;rw[aO fv.p 0 h1 rfl,de j h4.u eK.i f q,aQ eK.p rfl,aB Ψ (f.range a 0 _ rfl)];exact⟨rfl,e⟩
theorem mH {A:ag} {t:aC} {i:Nat} {x:Int} (h:dx w af A t) (e:y=(i:Int)) (a:t.bK[i]? =σ x):ai x7 yY [Γ af,Δ y] w λv w'=>v=Δ x/\Ext w w':=by
 unfold aC.bK at a;rw[x8] at a;obtain⟨c,f,rfl⟩:=Y7.1 a;exact Nf h e f
def mI (t:aC):Prop:=t.cells.length<=100000000/\t.olds.length<=100000000/\t.marks.length<=100000000
theorem te {q go di:Nat} {aZ a dL:x1} {t:aC} {x:x1} (h1:ab w af fv [aZ,a,dL,x]) (f:bg ip 2 eK w q aZ t.cells) (h:bg nT 3 kP w go a t.olds) (j:bg nU 3 gf w di dL t.marks):
  (¬leadsTo aZ af/\¬leadsTo a af/\¬leadsTo dL af)/\(∀r,leadsTo aZ r->¬leadsTo a r/\¬leadsTo dL r)/\ ∀r,leadsTo a r->¬leadsTo aZ r/\¬leadsTo dL r:=by
 refine⟨⟨cR f h1 Φ,cR h h1 Φ,cR j h1 Φ⟩,λr p=>?_,λr p=>?_⟩
 .obtain⟨rfl,c,e⟩:=ei f p;exact⟨cR h e Φ,cR j e Φ⟩
 .obtain⟨rfl,c,e⟩:=ei h p;exact⟨cR f e Φ,cR j e Φ⟩
theorem tf {A:ag} {t:aC} {i:Nat} {x:Int} (h:dx w af A t) (bm:y=(i:Int)) (P:i<t.cells.length) (au:mI t):ai x7 y4 [Γ af,Δ y,Δ x] w λv w'=>v=Δ 0/\ ∃aK,Grow A w aK w'/\dx w' af aK (t.set i x):=by
 subst bm;obtain⟨c,E⟩:=aI (l:=t.cells) P;refine aw func97 ?_;rw[dn pP.u];simp only[Z5,aY];refine (CM h).mono ?_;rintro _ J _ ⟨rfl,L⟩;rw[decide_eq_true Ω,bG,Y4,aY];obtain⟨aW,M,go,di,aZ,Q,dL,h1,aX,ay,ac,ad⟩:=id (h.ext L);have bn:∀ {U:x3} {aK:ag} {br:aC} {st:Nat} {K:x3->Prop},dx U af aK br->br.cells[i]? =σ ⟨c.v,st⟩->
   (∀q,ae aK U q->dx q af aK {br with cells:=br.cells.set i ⟨x,st⟩}->K q)->
   (aa x7 (bO (Γ af)) U λt77=>
   aa x7 (u6 fv t77 0) U λbp=>
   aa x7 (u5 h4 bp) U λbq=>
   aa x7 (c7 h4 bq (Δ (i:Int))) U λbt=>
   aa x7 (u6 eK bt 0) U λbu=>
   ax x7 (o8 al bu (Δ x)) U λ(_:Unit) q=>
   K q):=by
  intro U aK br st K az ah bw;obtain⟨aD,M,go,di,aZ,Q,dL,G,H,R,S,W⟩:=az;have bx:=(x4.1 ah).1;rw[aO fv.p 0 G rfl,de rfl h4.u eK.i H bx,aQ eK.p rfl];obtain⟨⟨X,aE,aF⟩,I,_⟩:=te G H R S;refine oZ (f:=ip) (j:=0) (a:=⟨c.v,st⟩) (a':=⟨x,st⟩) al.i rfl rfl H ah rfl Ω λq B bz bA=>?_;exact bw q (B.mono λr _ e=>W r (.inl e)) ⟨aD,M,go,di,aZ,Q,dL,G.V B X,bA,R.V B λr e he=>(I r he).1 e,S.V B λr e he=>(I r he).2 e,W⟩
 refine dm (λU=>∃aK br st,Grow A J aK U/\dx U af aK br/\br.cells[i]? =σ ⟨c.v,st⟩/\t.set i x={br with cells:=br.cells.set i ⟨x,st⟩}) ?_ ?_
 .rintro U ⟨aK,br,st,bC,az,ah,aG⟩;refine bn az ah λq B ay=>⟨by trivial,aK,?_,by rw[aG];exact ay⟩;exact (Grow.ext L).trans (bC.trans ⟨B,λ_ h=>.inl h,λ_ h=>h⟩)
 intro av aH;rw[aO fv.p 2 h1 rfl,eD rW.u ac,bT,aj];have a1:∀ (hm:t.marks.getLast? =ν\/ ∃m,t.marks.getLast? =σ m/\¬(c.st<m.st/\i<m.cells)),t.set i x={t with cells:=t.cells.set i ⟨x,c.st⟩}:=λhm=>by
  unfold aC.set;rw[E];rcases hm with hm|⟨m,hm,bE⟩
  .simp only[hm]
  .simp only[hm];rw[if_neg bE]
 refine⟨λb0=>?_,λb1=>aH _ ⟨A,t,c.st,Grow.refl _ _,h.ext L,E,a1 (.inl ?_)⟩⟩
 rotate_left
 .rw[List.getLast?_eq_none_iff];exact b9 Ω
 obtain⟨m,hm⟩:=aI (l:=t.marks) (i:=t.marks.length-1) Ω;have a2:t.marks.getLast? =σ m:=by rw[List.getLast?_eq_getElem?];exact hm
 have b2:=au.2.2;rw[aO fv.p 2 h1 rfl,dZ,wrap_i64 Ω Ω,de (i:=t.marks.length-1) Ω rW.u gf.i ac Ω,bD gf.p gf.i rfl (ac.range hm)];refine bB gf.i λan U b4 a6 bF=>?_;refine b3 (vs:=nU m) gf.i rfl rfl (by intro v Y;simp[nU] at Y;rcases Y with rfl|rfl|rfl<;>rfl) bF λq B bz bH=>?_;have a7:Ext J q:=a6.put B Ω;have ak:∀ {w':x3},Ext q w'->ab w' an gf (nU m):=λL=>bH.ext L;refine aU (λv aJ=>v= .bool (decide (c.st<m.st/\i<m.cells))/\Ext q aJ) ?_ ?_
 rotate_left
 .intro b5 a8;intro aJ s _ _;have N:=a7.trans s;have ba:=ak s;have O:=aX.ext N;rw[aO fv.p 0 (h1.ext N) rfl,de rfl h4.u eK.i O P,aQ eK.p rfl,aB Ψ (O.range E 1 _ rfl),aA gf.p 2 ba rfl,aR,aj];refine⟨λbb=>?_,λbc=>a8 _ _ ⟨by rw[decide_eq_false];omega,s⟩⟩;rw[aA gf.p 1 ba rfl,aR];refine a8 _ _ ⟨?_,s⟩;congr 1;rw[V3,decide_eq_true_eq,decide_eq_true_eq];exact⟨λh=>⟨Ω,Ω⟩,λh=>Ω⟩
 rintro _ aJ ⟨rfl,s⟩;have N:=a7.trans s;rw[aj];refine⟨λbb=>?_,λbc=>aH _ ⟨A,t,c.st,Grow.ext N,(h.ext L).ext N,E,a1 (.inr ⟨m,a2,bc⟩)⟩⟩;intro b6 am _ _;have Z:=N.trans am;have aL:=h1.ext Z;have O:=aX.ext Z;have bI:=ay.ext Z;have bJ:=ac.ext Z;rw[bZ,aQ fv.p rfl,aB Ψ (aL.cell (o:=0+1) rfl),bZ,aQ fv.p rfl,aB Ψ (aL.cell (o:=0+0) rfl),de rfl h4.u eK.i O P,bD eK.p eK.i rfl (O.range E)];rw[dp (cs:=#[Δ (i:Int),Δ c.v,.int .u64 (c.st:Int)]) Ψ];let a:kW:=⟨i,c⟩;have bK:∀u∈nT a,u.oneCell'=true:=by intro v Y;simp[nT] at Y;rcases Y with rfl|rfl|rfl<;>rfl
 refine hW (f:=nT) (a:=a) nn.u kP.i Ω rfl rfl λb7 b8 bd ca z bL=>?_;refine⟨.inl z,?_⟩;have be:=Z.trans z;have aM:=aL.ext z;have bf:=O.ext z;have aN:=bI.ext z;have bh:=bJ.ext z;obtain⟨⟨X,aE,aF⟩,I,bM⟩:=te aM bf aN bh;refine ik (f:=nT) (a:=a) nn.u kP.i rfl aN (by simpa using bL.sl) bK (by have:=au.2.1;omega) (by have:=au.2.1;omega) λaP bi cb ao bN bj=>?_;rw[bZ,aQ fv.p rfl];have bk:=aM.V bj aE;refine bo nn.i (eO ao.sl).1 (eO ao.sl).2 bk Ξ λC bl cc aS=>?_;have aS:ab C af fv [aZ,aP,dL,.int .u64 (t.iJ:Int)]:=aS;have ap:ae (λr=>leadsTo Q r\/r=af) bd C:=(bj.mono λr _ h=>.inl h).trans (bl.mono λr _ h=>.inr h);have bP:bg ip 2 eK C M aZ t.cells:=bf.V ap λr e he=>he.elim (λhe=>(I r e).1 he) λhe=>X (he▸e);have bQ:bg nU 3 gf C di dL t.marks:=bh.V ap λr e he=>he.elim (λhe=>(bM r he).2 e) λhe=>aF (he▸e);have bR:bg nT 3 kP C bi aP (t.olds++[a]):=ao.V bl λr e he=>by
  have he:r=af:=he;subst he;exact cR ao bk Φ e
 have cd:=be.size;have ce:=a6.size;let aT:ag:=λr=>A r\/bd.heap.size<=r;have bS:Grow A J aT C:=⟨(be.V A).trans (ap.mono λr _ he=>he.elim (λhe=>ad r (.inr (.inl he))) λhe=>he▸aW),λr e=>e.imp id λe=>Ω,λr e=>.inl e⟩;have bU:dx C af aT {t with olds:=t.olds++[a]}:=⟨.inl aW,M,bi,di,aZ,aP,dL,aS,bP,bR,bQ,λr e=>by
  rcases e with e|e|e
  .exact .inl (ad r (.inl e))
  .rcases bN r e with h|h
   .exact .inl (ad r (.inr (.inl h)))
   .exact .inr h
  .exact .inl (ad r (.inr (.inr e)))⟩
 have bV:ab C an gf (nU m):=(ak ((s.trans am).trans z)).V ap λhe=>by
  rcases he with he|he
  .obtain⟨rfl,cg,bW⟩:=ei aN he;exact absurd (ey bW (ak ((s.trans am).trans z))) Φ
  .subst he;exact absurd (ey aM (ak ((s.trans am).trans z))) Φ
 intro ch aV _ _;have bX:=bU.ext aV;obtain⟨aD,M,go,di,aZ,Q,dL,G,H,R,S,W⟩:=bX;rw[aO fv.p 0 G rfl,aA gf.p 2 (bV.ext aV) rfl,de rfl h4.u eK.i H P,aQ eK.p rfl];obtain⟨⟨X,aE,aF⟩,I,_⟩:=te G H R S;refine oZ (f:=ip) (j:=1) (a:=c) (a':=⟨c.v,m.st⟩) ft.i rfl rfl H E rfl Ω λci aq cj bY=>?_;have aG:t.set i x={t with olds:=t.olds++[a],cells:=t.cells.set i ⟨x,m.st⟩}:=by
  unfold aC.set;rw[E];simp only[a2];rw[if_pos bb]
 refine aH _ ⟨aT,{t with olds:=t.olds++[a],cells:=t.cells.set i ⟨c.v,m.st⟩},m.st,bS.trans ((Grow.ext aV).trans ⟨aq.mono λr _ e=>W r (.inl e),λ_ h=>.inl h,λ_ h=>h⟩),⟨aD,M,go,di,aZ,Q,dL,G.V aq X,bY,R.V aq λr e he=>(I r he).1 e,S.V aq λr e he=>(I r he).2 e,W⟩,?_,?_⟩
 .show (t.cells.set i _)[i]? =_;rw[j4 P]
 .rw[aG];simp only[List.set_set]
theorem CN (n:Nat):dR (#[Δ 0,.int .u64 0]:Array x1) (n*2)=(p9 n (⟨0,0⟩:Cell)).flatMap ip:=by
 have:∀n,dR (#[Δ 0,.int .u64 0]:Array x1) (n*2)=(p9 n (⟨0,0⟩:Cell)).flatMap ip:=by
  intro n;apply Y2;intro j;have r:((p9 n (⟨0,0⟩:Cell)).flatMap ip).length=n*2:=by simp[ip]
  by_cases p:j<n*2
  .have q:(dR (#[Δ 0,.int .u64 0]:Array x1) (n*2))[j]? =σ (if j % 2=0 then Δ 0 else .int .u64 0):=by
    unfold dR;rw[S5,Array.getElem?_map,Array.getElem?_range,if_pos p];rcases Nat.mod_two_eq_zero_or_one j with h|h<;>simp[h]
   have e:=oY (f:=ip) (k:=2) (L:=p9 n (⟨0,0⟩:Cell)) (i:=j / 2) (j:=j % 2) (a:=⟨0,0⟩) (v:=if j % 2=0 then Δ 0 else .int .u64 0) (λa _=>rfl) (by rw[List.getElem?_replicate,if_pos Ω]) (by rcases Nat.mod_two_eq_zero_or_one j with h|h<;>simp[h,ip]);rw[show j / 2*2+j % 2=j by omega] at e;rw[q,e]
  .rw[Z3 (by rw[oE];omega),Z3 Ω]
 exact this n
theorem Ng {A:ag} {t:aC} (h:dx w af A t) (S:mI t) (ac:n<=100000000):ai x7 HQ [Γ af,Δ (n:Int)] w λv w'=>v=Δ (t.cells.length:Int)/\ ∃aK,Grow A w aK w'/\dx w' af aK (t.grow n):=by
 refine aw func170 ?_;refine (CL h).mono ?_;rintro _ J _ ⟨rfl,f⟩;refine dm (λU=>∃aK,Grow A w aK U/\dx U af aK (t.grow n)) (λU h=>⟨rfl,h⟩) ?_;intro av B;refine aU (λv U=>v= .bool (decide (0<n))/\J=U) ?_ ?_
 rotate_left
 .intro ad W;rw[zt pP.u];simp only[Z5,W5,bS];rw[bT];refine W _ _ ⟨?_,rfl⟩;congr 1;rw[V3,decide_eq_true_eq,decide_eq_true_eq];omega
 rintro _ _ ⟨rfl,rfl⟩;rw[aj];refine⟨λC=>?_,λC=>B _ ⟨A,Grow.ext f,?_⟩⟩
 rotate_left
 .have:n=0:=Ω
  subst this;have e:t.grow 0=t:=by unfold aC.grow;simp
  rw[e];exact h.ext f
 obtain⟨E,ak,go,di,aZ,G,dL,h1,H,I,K,j⟩:=id (h.ext f);rw[aO fv.p 0 h1 rfl];obtain⟨⟨X,Y,Z⟩,L,al⟩:=te h1 H I K;have am:=S.1;refine Nd (k:=2) (m:=n) rfl h4.u ah.u eK.i rfl Ω (λu hu=>?_) H.1 C Ω Ω λs M U N aa O=>?_
 .exact Cv Φ Φ u hu
 rw[bZ,aQ fv.p rfl];have q:bg ip 2 eK U M s (t.cells++p9 n ⟨0,0⟩):=by
  refine⟨?_,λ_ _=>rfl⟩;have e:(x1.agg #[Δ 0,.int .u64 0]).cells= #[Δ 0,.int .u64 0]:=rfl;rw[e,CN] at N;rw[p8,List.length_replicate,List.flatMap_append];exact N
 have P:=h1.V O X;refine bo h4.i (eO q.sl).1 (eO q.sl).2 P Ξ λQ R an x=>?_;have x:ab Q af fv [s,G,dL,.int .u64 (t.iJ:Int)]:=x;have y:ae (λr=>leadsTo aZ r\/r=af) J Q:=(O.mono λr _ h=>.inl h).trans (R.mono λr _ h=>.inr h);have z:=f.size;refine B _ ⟨λr=>A r\/J.heap.size<=r,(Grow.ext f).trans ⟨y.mono λr _ he=>he.elim (λhe=>j r (.inl he)) λhe=>he▸E,λr a=>a,λr a=>.inl a⟩,.inl E,M,go,di,s,G,dL,x,q.V R λr a he=>?_,I.V y λr a he=>he.elim (λhe=>(L r he).1 a) λhe=>Y (he▸a),K.V y λr a he=>he.elim (λhe=>(L r he).2 a) λhe=>Z (he▸a),λr a=>?_⟩
 .have he:r=af:=he;subst he;exact cR q P Φ a
 .rcases a with a|a|a
  .exact (aa r a).imp (λh=>j r (.inl h)) id
  .exact .inl (j r (.inr (.inl a)))
  .exact .inl (j r (.inr (.inr a)))
theorem Nh (s:n<=1000):ai x7 GV [Δ (n:Int)] w λv w'=>Ext w w'/\ ∃af,v=Γ af/\dx w' af (eL w.heap.size) ⟨p9 n ⟨0,0⟩,[],[],0⟩:=by
 refine aw func96 ?_;rw[va,Int.max_eq_left Ω];refine zA (k:=2) h4.u eK.i Ω Ω λg J x h f=>?_;rw[dp (cs:=#[.slice (σ ⟨g,0,ν⟩) n n,.slice ν 0 0,.slice ν 0 0,.int .u64 0]) Ψ];refine bm λaf U y j q=>?_;have z:=h.size;have e:(x1.agg #[Δ 0,.int .u64 0]).cells= #[Δ 0,.int .u64 0]:=rfl;have f:ab J g eK ((p9 n (⟨0,0⟩:Cell)).flatMap ip):=by rw[<-CN,<-e];exact f
 have p:bg ip 2 eK J g (.slice (σ ⟨g,0,ν⟩) n n) (p9 n ⟨0,0⟩):=by
  refine⟨?_,λ_ _=>rfl⟩;rw[List.length_replicate];exact bQ.full f (by simp[ip]) (by simp[maxLen];omega)
 refine⟨h.trans j,af,rfl,by show w.heap.size<=af;omega,g,0,0,_,_,_,q,p.ext j,bg.nil _ _ _ _ _,bg.nil _ _ _ _ _,λr a=>?_⟩;rcases a with a|a|a
 .have:=(p.leads a).1;show w.heap.size<=r;omega
 .exact (e8 a).elim
 .exact (e8 a).elim
theorem nu {α β:Type} {f:α->List β}:∀ {L:List α} {i j:Nat} {a:α},L[i]? =σ a->j<(f a).length->(L.flatMap f)[((L.take i).flatMap f).length+j]? =(f a)[j]?
 |x::L,0,j,a,h,e=>by
  cases h;rw[List.take_zero,List.flatMap_nil,List.length_nil,X5,Y6,Z8 e]
 |x::L,i+1,j,a,h,e=>by
  have h:L[i]? =σ a:=by simpa using h
  rw[List.take_succ_cons,Y6,Y6,p8,S9,Z9 Ω,R2,nu h e]
theorem wp {α β:Type} {f:α->List β}:∀ {L:List α} {i j:Nat} {a b:α} {x:β},L[i]? =σ a->j<(f a).length->f b=(f a).set j x->(L.flatMap f).set (((L.take i).flatMap f).length+j) x=(L.set i b).flatMap f
 |y::L,0,j,a,b,x,h,e,p=>by
  cases h;rw[List.take_zero,List.flatMap_nil,List.length_nil,X5,Y6,List.set_cons_zero,Y6,p,List.set_append_left _ _ e]
 |y::L,i+1,j,a,b,x,h,e,p=>by
  have h:L[i]? =σ a:=by simpa using h
  rw[List.take_succ_cons,Y6,Y6,p8,S9,T2 _ _ Ω,R2,wp h e p,List.set_cons_succ,Y6]
theorem CO {α β:Type} {f:α->List β} {L:List α} {i:Nat} {a:α} (h:L[i]? =σ a) (e:j<(f a).length):((L.take i).flatMap f).length+j<(L.flatMap f).length:=by
 have h1:=nu (f:=f) h e;rw[x6 e] at h1;exact (x4.1 h1).1
structure bi where
 gone:Int
 mask:Int
 un:Λ
structure b0 where
 sc:Λ
 ad:Λ
 live:Int
 cs:Λ
structure pe where
 v:Int
 sc:Λ
 ha:Λ
structure au where
 zero:Int
 vars:List bi
 funs:List b0
 ce:List pe
def hA (x:bi):Λ:=x.gone::x.mask::x.un
def hX (x:b0):Λ:=x.live::x.cs
def iU (s:au):Λ:=[s.zero,(s.funs.length:Int),(s.ce.length:Int)]
def au.cells (s:au):Λ:=iU s++(s.vars.flatMap hA++s.funs.flatMap hX)
def e9 (s:au) (i:Nat):Nat:=3+((s.vars.take i).flatMap hA).length
def fa (s:au) (j:Nat):Nat:=3+((s.vars.flatMap hA).length+((s.funs.take j).flatMap hX).length)
theorem Ni (s:au):s.cells[0]? =σ s.zero:=rfl
theorem pf {s:au} {i:Nat} {x:bi} (h:s.vars[i]? =σ x) (e:j<x.un.length+2):s.cells[e9 s i+j]? =(hA x)[j]?:=by
 have a:j<(hA x).length:=e;unfold au.cells e9;rw[S9,Z9 (by simp[iU]),show (iU s).length=3 from rfl,R2,Z8 (CO h a),nu h a]
theorem wq {s:au} {i:Nat} {x:b0} (h:s.funs[i]? =σ x) (a:j<x.cs.length+1):s.cells[fa s i+j]? =(hX x)[j]?:=by
 have e:j<(hX x).length:=a;unfold au.cells fa;rw[S9,S9,Z9 (by simp[iU]),show (iU s).length=3 from rfl,R2,Z9 Ω,R2,nu h e]
theorem Nj (s:au) (c:Int):s.cells.set 0 c=({s with zero:=c}:au).cells:=rfl
theorem CP {s:au} {i:Nat} {x y:bi} {c:Int} (h:s.vars[i]? =σ x) (e:j<x.un.length+2) (f:hA y=(hA x).set j c):s.cells.set (e9 s i+j) c=({s with vars:=s.vars.set i y}:au).cells:=by
 have a:j<(hA x).length:=e;unfold au.cells e9;rw[S9,T2 _ _ (by simp[iU]),show (iU s).length=3 from rfl,R2,List.set_append_left _ _ (CO h a),wp h a f];rfl
theorem Nk {s:au} {i:Nat} {x y:b0} {c:Int} (h:s.funs[i]? =σ x) (a:j<x.cs.length+1) (e:hX y=(hX x).set j c):s.cells.set (fa s i+j) c=({s with funs:=s.funs.set i y}:au).cells:=by
 have f:j<(hX x).length:=a;unfold au.cells fa;rw[S9,S9,T2 _ _ (by simp[iU]),show (iU s).length=3 from rfl,R2,T2 _ _ Ω,R2,wp h f e];show _=iU {s with funs:=s.funs.set i y}++_;unfold iU;rw[Z2]
theorem Nl {s:au} (x:b0):(s.cells++hX x).set 1 ((s.funs.length+1:Nat):Int)=({s with funs:=s.funs++[x]}:au).cells:=by
 unfold au.cells;simp only[List.flatMap_append,List.flatMap_singleton,iU,p8,U6,c9];rfl
theorem wr (s:au):s.cells.length=3+((s.vars.flatMap hA).length+(s.funs.flatMap hX).length):=by
 unfold au.cells;rw[p8,p8];rfl
def qI (a sc:Λ):Λ:=sc.map λv=>a.getD v.toNat 0
def qJ (k:Int) (a:Int) (p:bi×Int):Int:=if p.1.gone≠0 then a else min (a+p.1.un.getD p.2.toNat 0) k
def qK (k:Int) (a:Λ) (e:Int) (f:b0):Int:=if f.live≠0 then min (e+a7 f.ad f.cs (qI a f.sc)) k else e
def dropped (mask:Int) (v:Int):Bool:=mask.toNat.testBit v.toNat
def iq (p:bi×Int):Bool:=decide (p.1.gone≠0)|| !dropped p.1.mask p.2
def hb (k:Int) (s:au) (a:Λ):Int:=if (s.vars.zip a).all iq then s.funs.foldl (qK k a) ((s.vars.zip a).foldl (qJ k) s.zero) else k
def lb (s:au) (a:Λ):Prop:=a.length=s.vars.length/\ ∀ (i:Nat) x v,s.vars[i]? =σ x->a[i]? =σ v->x.gone≠0\/(0<=v/\v<x.un.length)
structure bq (k:Int) (sizes:Λ) (s:au):Prop where
 fU:1<=k/\k<=2147483648
 fb:1<=sizes.length/\sizes.length<=64/\ ∀z∈sizes,1<=z/\z<=32
 zero:0<=s.zero/\s.zero<=k
 vars:s.vars.length=sizes.length
 var:∀ (i:Nat) x z,s.vars[i]? =σ x->sizes[i]? =σ z->x.un.length=z.toNat/\(∀c∈x.un,0<=c/\c<=k)/\0<=x.mask/\x.mask<4294967296
 funs:∀f∈s.funs,fE sizes k (f.sc,f.cs)/\f.ad=bR sizes f.sc/\2<=f.sc.length
def newVar (u:Λ):bi:=⟨0,0,u⟩
def kv (sizes:Λ) (g:cA):b0:=⟨g.1,bR sizes g.1,1,g.2⟩
def du (n:aT):au:=⟨n.zero,n.unary.map newVar,n.funs.map (kv n.sizes),[]⟩
theorem Nn {n:aT} (h:jO n):bq n.k n.sizes (du n):=by
 refine⟨h.k,h.sizes,h.zero,by simp[du,h.ku],λi x z a j=>?_,λf p=>?_⟩
 .have a:(n.unary.map newVar)[i]? =σ x:=a;rw[x8] at a;obtain⟨u,hu,rfl⟩:=Y7.1 a;obtain⟨h1,e⟩:=h.unary i z u j hu;exact⟨h1,e,Int.le_refl _,by show (0:Int)<_;omega⟩
 .obtain⟨g,q,rfl⟩:=n9.1 p;obtain⟨h1,e⟩:=h.funs g q;exact⟨h1,rfl,e⟩
theorem ws {n:aT} (h:fT w a n):ai x7 GX [Γ a] w λv w'=>v=Δ (n.sizes.length:Int)/\Ext w w':=by
 obtain⟨j,q,r,s,gr,aS,L,nm,szv,gz,fv2,h1,e,f,x,y,z,A⟩:=h;refine aw func99 ?_;rw[dn mn.u];simp only[Z5,aY];rw[aO fu.p 0 h1 rfl,aO cC.p 2 e rfl,aX am.u f.ls];exact⟨rfl,Ext.refl _⟩
theorem No {n:aT} (h:fT w a n):ai x7 Hm [Γ a] w λv w'=>v=Δ n.k/\Ext w w':=by
 obtain⟨f,j,q,r,gr,aS,L,nm,szv,gz,fv2,h1,e,s,x,y,z,A⟩:=h;refine aw func129 ?_;rw[dn mn.u];simp only[Z5,aY];rw[aO fu.p 0 h1 rfl,aO cC.p 1 e rfl];exact⟨rfl,Ext.refl _⟩
theorem Np {n:aT} (h:fT w a n):ai x7 GW [Γ a] w λv w'=>v=Δ n.zero/\Ext w w':=by
 obtain⟨e,f,j,q,gr,aS,L,nm,szv,gz,fv2,h1,r,s,x,y,z,A⟩:=h;refine aw func98 ?_;rw[dn mn.u];simp only[Z5,aY];rw[aO fu.p 1 h1 rfl];exact⟨rfl,Ext.refl _⟩
theorem CQ {n:aT} (h:fT w a n):ai x7 y6 [Γ a] w λv w'=>v=Δ (n.funs.length:Int)/\Ext w w':=by
 obtain⟨j,q,r,s,gr,aS,L,nm,szv,gz,fv2,h1,x,y,z,A,e,f⟩:=h;refine aw func102 ?_;rw[dn mn.u];simp only[Z5,aY];rw[aO fu.p 3 h1 rfl,eD kO.u e.1];exact⟨by rw[<-f,u7],Ext.refl _⟩
theorem CR {s:Nat} {n:aT} {i:Int} (h:fT w s n) (f:jO n):ai x7 GY [Γ s,Δ i] w λv w'=>Ext w w'/\(¬(0<=i/\i<n.sizes.length)->v= .slice ν 0 0)/\
  ∀u,0<=i->n.unary[i.toNat]? =σ u-> ∃g,w.heap.size<=g/\ap .i64 al w' g v u:=by
 refine aw func100 ?_;have K:=f.ku;refine aU (λv J=>v= .bool (decide (¬(0<=i/\i<n.sizes.length)))/\Ext w J) ?_ ?_
 .rintro _ J ⟨rfl,e⟩;rw[aj];refine⟨λC=>⟨e,λ_=>rfl,λu E hu=>?_⟩,λj=>?_⟩
  .have:=(x4.1 hu).1;exact absurd ⟨E,Ω⟩ C
  have j:0<=i/\i<n.sizes.length:=Y3.1 j;obtain⟨M,N,O,P,gr,aS,L,nm,szv,gz,fv2,h1,Q,R,q,x,S,V⟩:=h.ext e;have W:aS.length=n.unary.length:=by rw[<-x,u7]
  obtain⟨a,r⟩:=aI (l:=aS) (i:=i.toNat) Ω;obtain⟨X,hm⟩:=q.2 a (x5 r);rw[aO fu.p 2 h1 rfl,de (i:=i.toNat) Ω cN.u ao.i q.1 Ω,aB (o:=i.toNat*1) Ψ (q.1.range r 0 _ rfl)];have y:n.unary[i.toNat]? =σ a.l:=by rw[<-x,x8,r];rfl
  have Y:a.l.length<=32:=by
   obtain⟨z,A⟩:=aI (l:=n.sizes) (i:=i.toNat) Ω;have Z:=(f.unary i.toNat z a.l A y).1;have aa:=f.sizes.2.2 z (x5 A);omega
  refine (vg hm.ls Ω).mono ?_;rintro v U _ ⟨G,g,ab,H⟩;refine⟨e.trans G,λI=>absurd j I,λu _ hu=>⟨g,by have:=e.size;omega,?_⟩⟩;rw[y] at hu;cases hu;exact H
 .intro av B;rw[aR,aj];refine⟨λac=>B _ _ ⟨by rw[decide_eq_true];omega,Ext.refl _⟩,λad=>?_⟩;refine (ws h).mono ?_;rintro _ J _ ⟨rfl,e⟩;rw[cY];refine B _ _ ⟨?_,e⟩;congr 1;rw[V3,decide_eq_true_eq,decide_eq_true_eq];omega
theorem CS {n:aT} {i:Int} (h:fT w j n) (a:jO n):ai x7 Ha [Γ j,Δ i] w λv w'=>Ext w w'/\v=Δ (if 0<=i then n.sizes.getD i.toNat 0 else 0):=by
 refine aw func114 ?_;refine (CR h a).mono ?_;rintro v J _ ⟨p,r,s⟩;by_cases e:0<=i/\i<n.sizes.length
 .have x:=a.ku;obtain⟨u,hu⟩:=aI (l:=n.unary) (i:=i.toNat) Ω;obtain⟨z,f⟩:=aI (l:=n.sizes) (i:=i.toNat) Ω;obtain⟨g,_,hm⟩:=s u e.1 hu;rw[aX ao.u hm.ls];refine⟨p,?_⟩;have y:=(a.unary i.toNat z u f hu).1;have A:=a.sizes.2.2 z (x5 f);rw[if_pos e.1,u4,f];congr 1;simp only[V6];omega
 .rw[r e,h5 ao.u];refine⟨p,?_⟩;by_cases q:0<=i
  .rw[if_pos q,u4,Z3 Ω];rfl
  .rw[if_neg q];rfl
theorem CT {n:aT} {j:Int} (h:fT w a n) {K:x1->x3->Prop} (f:∀w',Ext w w'->K (.bool (decide (¬(0<=j/\j<n.funs.length)))) w'):
  aa x7 (aJ .lss ah false true (Δ j) (Δ 0)) w λq=>Split q (K (.bool true) w) (ai x7 y6 [Γ a] w λr p=>aa x7 (aJ .geq ah false false (Δ j) r) p λs=>K s p):=by
 rw[aR,aj];refine⟨λy=>?_,λz=>?_⟩
 .have:=f w (Ext.refl _);rw[decide_eq_true (show ¬(0<=j/\j<n.funs.length) by omega)] at this;exact this
 .refine (CQ h).mono ?_;rintro _ J _ ⟨rfl,x⟩;rw[cY];have:=f J x;have e:decide ((n.funs.length:Int)<=j)=decide (¬(0<=j/\j<n.funs.length)):=by
   rw[V3,decide_eq_true_eq,decide_eq_true_eq];omega
  rw[<-e] at this;exact this
theorem Nq {s:Nat} {n:aT} {g:cA} (h:fT w s n) (z:jO n) (e:n.funs[j]? =σ g):ai x7 G0 [Γ s,Δ (j:Int)] w λv w'=>Ext w w'/\ ∃gs,w.heap.size<=gs/\ap .i64 ah w' gs v g.1:=by
 refine aw func104 ?_;have G:=(x4.1 e).1;refine aU (λv J=>v= .bool (decide (¬(0<=(j:Int)/\(j:Int)<n.funs.length)))/\Ext w J) ?_ λav A=>CT h λw' B=>A _ _ ⟨rfl,B⟩;rintro _ J ⟨rfl,f⟩;rw[decide_eq_false Ω,aY];obtain⟨H,I,K,M,gr,aS,L,nm,szv,gz,fv2,h1,N,O,P,Q,q,x⟩:=h.ext f;have R:L.length=n.funs.length:=by rw[<-x,u7]
 obtain⟨a,r⟩:=aI (l:=L) (i:=j) Ω;have y:dW a=g:=by rw[<-x,x8,r] at e;exact c8 e
 obtain⟨⟨S,hm⟩,_⟩:=q.2 a (x5 r);rw[aO fu.p 3 h1 rfl,de rfl kO.u hp.i q.1 Ω,aQ hp.p rfl,aB Ψ (q.1.range r 0 _ rfl)];have V:a.sc.length<=6:=by
  have:=(z.funs g (x5 e)).1.scope.2;rw[<-y] at this;exact this
 refine (kV hm.ls Ω).mono ?_;rintro v U _ ⟨C,gs,W,E⟩;refine⟨f.trans C,gs,by have:=f.size;omega,?_⟩;rw[<-y];exact E
theorem Nr {g C:Nat} {ad:Λ} {k:Int} {cs:Λ} (h:dh w g C sv ad k cs):ai x7 HS [Γ g] w λv w'=>Ext w w'/\ ∃a e,v=Γ a/\w.heap.size<=a/\w.heap.size<=e/\dh w' a e sv ad k cs:=by
 obtain⟨⟨aZ,gs,E,hm,G⟩,⟨h1,M,H⟩,I,y⟩:=h;refine aw func172 ?_;rw[dn eS.u];simp only[Z5,aY];intro J f _ _;have r:=E.ext f;have N:=prod_bound I;rw[bZ,aQ cX.p rfl,bD (cs:=[sv]) bw.p bw.i rfl (nA r (by
  intro j v s
  match j,s with
  |0,s=>exact s)),aO cX.p 1 r rfl,aO cX.p 2 r rfl]
 refine (vg (G.ls.ext f) Ω).mono ?_;rintro z U _ ⟨x,e,O,q⟩;refine⟨.inl x,?_⟩;rw[dp (cs:=#[sv,Δ k,z]) (by obtain⟨_,_,_,rfl⟩:=ds hm.ls;obtain⟨_,_,_,rfl⟩:=ds q.ls;kernel_rfl)];refine bm λa P Q A K=>?_;have R:=f.size;have S:=x.size;have V:=q;have B:=(f.trans x).trans A;refine⟨B,a,e,rfl,Ω,Ω,⟨z,gs,K,hm.ext B,q.ext A⟩,⟨?_,?_,H⟩,I,y⟩
 .have:=sV q (by rw[y];omega);omega
 .intro L;obtain⟨W,X⟩:=bP hm L;omega
theorem Ns {w0:x3} {z:Nat} {n:aT} {g:cA} (A:fT w0 z n) (B:Ext w0 w) (f:n.funs[j]? =σ g):ai x7 G1 [Γ z,Δ (j:Int)] w λv w'=>Ext w w'/\ ∃gt q sv,v=Γ gt/\w.heap.size<=gt/\w.heap.size<=q/\dh w' gt q sv (bR n.sizes g.1) n.k g.2/\ ∀r,leads sv r-> ∃c,ab w0 r ah c:=by
 have h:=A.ext B;refine aw func105 ?_;have W:=(x4.1 f).1;refine aU (λv J=>v= .bool (decide (¬(0<=(j:Int)/\(j:Int)<n.funs.length)))/\Ext w J) ?_ λav I=>CT h λw' K=>I _ _ ⟨rfl,K⟩;rintro _ J ⟨rfl,s⟩;rw[decide_eq_false Ω,aY];have e:=B.trans s;obtain⟨X,Y,Z,aa,gr,aS,L,nm,szv,gz,fv2,h1,ac,ad,ae,af,x,C⟩:=A;have ag:L.length=n.funs.length:=by rw[<-C,u7]
 obtain⟨a,y⟩:=aI (l:=L) (i:=j) Ω;have M:dW a=g:=by rw[<-C,x8,y] at f;exact c8 f
 obtain⟨_,q,N,E⟩:=x.2 a (x5 y);rw[aO fu.p 3 (h1.ext e) rfl,de rfl kO.u hp.i (x.1.ext e) Ω,aQ hp.p rfl,aB Ψ ((x.1.ext e).range y 1 _ rfl)];refine (Nr (E.ext e)).mono ?_;rintro v U _ ⟨O,gt,P,rfl,aj,ak,Q⟩;have al:=s.size;refine⟨s.trans O,gt,P,N,rfl,Ω,Ω,?_,λr G=>?_⟩
 .rw[<-M];exact Q
 .obtain⟨⟨_,_,_,hm,_⟩,_⟩:=E;obtain⟨R,_⟩:=bP hm G;rcases hm.2 with⟨S,_⟩|⟨_,cs,_,V,_⟩
  .obtain⟨_,_,_,H,am⟩:=G;rw[S] at H;cases H
  .exact⟨cs,R▸V⟩
structure pg where
 aF:x1
 szv:x1
 at_:Nat
def l2 (x:pg):List x1:=[x.aF,x.szv,Δ (x.at_:Int)]
structure qL where
 v:Int
 aF:x1
 bv:x1
def wu (x:qL):List x1:=[Δ x.v,x.aF,x.bv]
def ir (s:au):Λ:=(V1 s.vars.length).map λi=>(e9 s i:Int)
def iV (R:ag) (w:x3) (v:x1) (l:Λ):Prop:=(∃g,ap .i64 ah w g v l)/\ ∀r,leads v r->R r
theorem iV.ls {R:ag} (h:iV R w v l):aH .i64 w v l:=by
 obtain⟨⟨g,h⟩,_⟩:=h;exact h.ls
theorem iV.V {R S:ag} (h:iV R w v l) (f:ae S w w') (j:∀r,r<w.heap.size->R r->¬S r):iV R w' v l:=by
 obtain⟨⟨g,h1⟩,a⟩:=h;exact⟨⟨g,bn h1 f λr e=>j r (by obtain⟨p,q⟩:=bP h1 e;omega) (a r e)⟩,a⟩
theorem iV.mono {R R':ag} (h:iV R w v l) (a:∀r,R r->R' r):iV R' w v l:=⟨h.1,λr e=>a r (h.2 r e)⟩
def ld (R:ag) (w:x3) (L:List pg) (s:au):Prop:=L.length=s.funs.length/\ ∀ (j:Nat) x f,L[j]? =σ x->s.funs[j]? =σ f->iV R w x.aF f.sc/\iV R w x.szv f.ad/\x.at_=fa s j
def l3 (R:ag) (w:x3) (E:List qL) (s:au):Prop:=E.length=s.ce.length/\ ∀ (j:Nat) x e,E[j]? =σ x->s.ce[j]? =σ e->x.v=e.v/\iV R w x.aF e.sc/\iV R w x.bv e.ha
theorem ld.V {R S:ag} {L:List pg} {s:au} (h:ld R w L s) (a:ae S w w') (e:∀r,r<w.heap.size->R r->¬S r):ld R w' L s:=⟨h.1,λj x f p q=>by
 obtain⟨h1,y,z⟩:=h.2 j x f p q;exact⟨h1.V a e,y.V a e,z⟩⟩
theorem l3.V {R S:ag} {E:List qL} {s:au} (h:l3 R w E s) (a:ae S w w') (e:∀r,r<w.heap.size->R r->¬S r):l3 R w' E s:=⟨h.1,λj x f p q=>by
 obtain⟨h1,y,z⟩:=h.2 j x f p q;exact⟨h1,y.V a e,z.V a e⟩⟩
theorem ld.mono {R R':ag} {L:List pg} {s:au} (h:ld R w L s) (a:∀r,R r->R' r):ld R' w L s:=⟨h.1,λj x f e p=>by
 obtain⟨h1,q,y⟩:=h.2 j x f e p;exact⟨h1.mono a,q.mono a,y⟩⟩
theorem l3.mono {R R':ag} {E:List qL} {s:au} (h:l3 R w E s) (a:∀r,R r->R' r):l3 R' w E s:=⟨h.1,λj x f e p=>by
 obtain⟨h1,q,y⟩:=h.2 j x f e p;exact⟨h1,q.mono a,y.mono a⟩⟩
theorem tg {a b c:x3} (h:Ext a b) (k:ae S b c) (f:∀r o,a.heap[r]? =σ o->fp o=true->¬S r):Ext a c:=
 ⟨Y5 h.size k.size,λr o e I=>k.aW r o (h.aW r o e I) I (f r o e I)⟩
theorem dx.cut {A:ag} {t:aC} (h:dx w af A t):dx w af (λr=>A r/\r<w.heap.size) t:=by
 obtain⟨s,x,go,di,aZ,y,dL,h1,e,f,j,z⟩:=h;refine⟨⟨s,h1.lt⟩,x,go,di,aZ,y,dL,h1,e,f,j,λr a=>⟨z r a,?_⟩⟩;rcases a with a|a|a
 .obtain⟨p,q⟩:=e.leads a;omega
 .obtain⟨p,q⟩:=f.leads a;omega
 .obtain⟨p,q⟩:=j.leads a;omega
def eP (w:x3) (ac af j:Nat) (e f h:x1) (A R:ag) (n:aT) (s:au) (t:aC):Prop:=
 (A ac/\(∀r,A r->¬R r)/\(∀r,R r->r<w.heap.size)/\ ∀r,A r->r<w.heap.size)/\ ∃a6 p ge,∃ (L:List pg) (E:List qL) (a:ag) (w0:x3),
  ab w ac cu [Γ j,Γ af,e,f,h]/\(fT w0 j n/\Ext w0 w/\ ∀r o,w0.heap[r]? =σ o->fp o=true->R r)/\
  (dx w af a t/\(∀r,a r->A r)/\¬a ac/\ ∀r,leads e r\/leadsTo f r\/leadsTo h r->A r/\¬a r)/\ap .i64 ah w a6 e (ir s)/\
  (bg l2 3 dQ w p f L/\ld R w L s)/\bg wu 3 fZ w ge h E/\l3 R w E s
theorem eP.V {S:ag} {y:Nat} {B C F:x1} {A R:ag} {n:aT} {s:au} {t:aC} (h:eP w ac af y B C F A R n s t) (e:ae S w w') (f:∀r,r<w.heap.size->A r\/R r->¬S r):eP w' ac af y B C F A R n s t:=by
 obtain⟨⟨h1,j,W,X⟩,a6,Y,ge,L,E,Z,w0,G,⟨aa,H,J⟩,⟨ab,p,ad,q⟩,K,⟨M,ah⟩,N,ai⟩:=h;have z:=e.size;refine⟨⟨h1,j,λr a=>by have:=W r a;omega,λr a=>by have:=X r a;omega⟩,a6,Y,ge,L,E,Z,w0,G.V e (f _ G.lt (.inl h1)),⟨aa,tg H e λr o a aj I=>f r (by have:=H.size;have:=(j0.1 a).1;omega) (.inr (J r o a aj)) I,J⟩,
  ⟨?_,p,ad,q⟩,bn K e λr a I=>f r ?_ (.inl (q r (.inl a)).1) I,⟨M.V e λr a I=>f r ?_ (.inl (q r (.inr (.inl a))).1) I,ah.V e λr a h=>f r a (.inr h)⟩,N.V e λr a I=>f r ?_ (.inl (q r (.inr (.inr a))).1) I,ai.V e λr a h=>f r a (.inr h)⟩
 .obtain⟨O,ak,go,di,aZ,al,dL,P,Q,T,U,x⟩:=ab;refine⟨O,ak,go,di,aZ,al,dL,P.V e (f _ P.lt (.inl (p _ O))),Q.V e λr a I=>?_,T.V e λr a I=>?_,U.V e λr a I=>?_,x⟩
  .exact f r (by obtain⟨h1,j⟩:=Q.leads a;omega) (.inl (p _ (x r (.inl a)))) I
  .exact f r (by obtain⟨h1,j⟩:=T.leads a;omega) (.inl (p _ (x r (.inr (.inl a))))) I
  .exact f r (by obtain⟨h1,j⟩:=U.leads a;omega) (.inl (p _ (x r (.inr (.inr a))))) I
 .obtain⟨h1,j⟩:=bP K a;omega
 .obtain⟨h1,j⟩:=M.leads a;omega
 .obtain⟨h1,j⟩:=N.leads a;omega
theorem eP.ext {e f j:x1} {A R:ag} {n:aT} {s:au} {t:aC} (h:eP w ac af a e f j A R n s t) (p:Ext w w'):eP w' ac af a e f j A R n s t:=h.V (p.V λ_=>False) λ_ _ _ h=>h
theorem eP.qM {C:Nat} {F G H:x1} {A R:ag} {n:aT} {s:au} {t:aC} (h:eP w ac af C F G H A R n s t):∃q,dx w af q t/\ ∀p w' br,Grow q w p w'->dx w' af p br-> ∃aK,Grow A w aK w'/\eP w' ac af C F G H aK R n s br:=by
 obtain⟨⟨h1,f,J,K⟩,a6,X,ge,L,E,q,w0,M,⟨Y,Z,N⟩,⟨aa,j,O,x⟩,P,⟨Q,ab⟩,S,ad⟩:=h;refine⟨q,aa,λT w' br y ae=>?_⟩;have U:=ae.cut;have e:Grow q w (λr=>T r/\r<w'.heap.size) w':=⟨y.1,λr a=>y.2.1 r a.1,λr a=>⟨y.2.2 r a,by have:=K r (j r a);have:=y.1.size;omega⟩⟩;obtain⟨p,W⟩:∃B:ag,B=λr=>T r/\r<w'.heap.size:=⟨_,rfl⟩;rw[<-W] at U e;have ah:∀r,p r->r<w'.heap.size:=λr h=>by rw[W] at h;exact h.2
 refine⟨λr=>A r\/p r,⟨e.1.mono λr _ a=>j r a,λr a=>?_,λr a=>.inl a⟩,⟨.inl h1,λr a z=>?_,λr a=>?_,λr a=>?_⟩,a6,X,ge,L,E,p,w0,M.V e.1 O,⟨Y,tg Z e.1 λr o a ai I=>f r (j r I) (N r o a ai),N⟩,
  ⟨U,λr a=>.inr a,λa=>?_,λr a=>⟨.inl (x r a).1,λaj=>?_⟩⟩,bn P e.1 λr a I=>(x r (.inl a)).2 I,⟨Q.V e.1 λr a I=>(x r (.inr (.inl a))).2 I,ab.V e.1 λr _ a I=>f r (j r I) a⟩,S.V e.1 λr a I=>(x r (.inr (.inr a))).2 I,ad.V e.1 λr _ a I=>f r (j r I) a⟩
 .rcases a with a|a
  .exact .inl a
  .exact (e.2.1 r a).imp (j r) id
 .have:=J r z;rcases a with a|a
  .exact f r a z
  .rcases e.2.1 r a with h|h
   .exact f r (j r h) z
   .omega
 .have:=J r a;have:=e.1.size;omega
 .rcases a with a|a
  .have:=K r a;have:=e.1.size;omega
  .exact ah r a
 .rcases e.2.1 _ a with h|h
  .exact O h
  .have:=M.lt;omega
 .rcases e.2.1 r aj with h|h
  .exact (x r a).2 h
  .rcases a with a|a|a
   .obtain⟨h1,f⟩:=bP P a;omega
   .obtain⟨h1,f⟩:=Q.leads a;omega
   .obtain⟨h1,f⟩:=S.leads a;omega
def StateM (w:x3) (ac af:Nat) (A R:ag) (n:aT) (s:au) (t:aC):Prop:=∃a e f h,eP w ac af a e f h A R n s t
theorem StateM.V {S:ag} {A R:ag} {n:aT} {s:au} {t:aC} (h:StateM w ac af A R n s t) (a:ae S w w') (e:∀r,r<w.heap.size->A r\/R r->¬S r):StateM w' ac af A R n s t:=by
 obtain⟨f,j,p,q,h⟩:=h;exact⟨f,j,p,q,h.V a e⟩
theorem StateM.ext {A R:ag} {n:aT} {s:au} {t:aC} (h:StateM w ac af A R n s t) (a:Ext w w'):StateM w' ac af A R n s t:=h.V (a.V λ_=>False) λ_ _ _ h=>h
theorem StateM.qM {A R:ag} {n:aT} {s:au} {t:aC} (h:StateM w ac af A R n s t):∃a,dx w af a t/\ ∀e w' br,Grow a w e w'->dx w' af e br-> ∃aK,Grow A w aK w'/\StateM w' ac af aK R n s br:=by
 obtain⟨f,j,p,q,h⟩:=h;obtain⟨a,h1,r⟩:=h.qM;exact⟨a,h1,λe w' br x y=>by
  obtain⟨aK,z,B⟩:=r e w' br x y;exact⟨aK,z,f,j,p,q,B⟩⟩
def nV (s s':au):Prop:=ir s'=ir s/\s'.funs.length=s.funs.length/\(∀ (j:Nat) a,s'.funs[j]? =σ a-> ∃f,s.funs[j]? =σ f/\a.sc=f.sc/\a.ad=f.ad/\fa s' j=fa s j)/\s'.ce=s.ce
theorem eP.same {e p q:x1} {A R:ag} {n:aT} {s s':au} {t:aC} (h:eP w ac af a e p q A R n s t) (I:nV s s'):eP w ac af a e p q A R n s' t:=by
 obtain⟨az,a6,y,ge,L,E,z,w0,B,C,F,G,⟨H,r⟩,J,K⟩:=h;obtain⟨M,N,O,P⟩:=I;refine⟨az,a6,y,ge,L,E,z,w0,B,C,F,by rw[M];exact G,⟨H,r.1.trans N.symm,λj x Q S T=>?_⟩,J,?_⟩
 .obtain⟨f,U,V,W,X⟩:=O j Q T;rw[V,W,X];exact r.2 j x f S U
 .unfold l3;rw[P];exact K
theorem StateM.same {A R:ag} {n:aT} {s s':au} {t:aC} (h:StateM w ac af A R n s t) (I:nV s s'):StateM w ac af A R n s' t:=by
 obtain⟨a,e,f,j,h⟩:=h;exact⟨a,e,f,j,h.same I⟩
theorem th {α β:Type} {f:α->List β}:∀ {L:List α} {i j:Nat} {a b:α},L[i]? =σ a->(f b).length=(f a).length->(((L.set i b).take j).flatMap f).length=((L.take j).flatMap f).length
 |[],_,_,_,_,h,_=>by simp at h
 |x::L,0,j,a,b,h,e=>by
  cases h;cases j with
  |zero=>rfl
  |succ j=>simp[e]
 |x::L,i+1,j,a,b,h,e=>by
  have h:L[i]? =σ a:=by simpa using h
  cases j with
  |zero=>rfl
  |succ j=>
   rw[List.set_cons_succ,List.take_succ_cons,List.take_succ_cons,Y6,Y6,p8,p8,th h e]
theorem CU (s:au) (c:Int):nV s {s with zero:=c}:=⟨rfl,rfl,λj f h=>⟨f,h,rfl,rfl,rfl⟩,rfl⟩
theorem CV {s:au} {i:Nat} {x y:bi} (a:s.vars[i]? =σ x) (p:y.un.length=x.un.length):nV s {s with vars:=s.vars.set i y}:=by
 have e:(hA y).length=(hA x).length:=by simp[hA,p]
 refine⟨?_,rfl,λj f h=>⟨f,h,rfl,rfl,?_⟩,rfl⟩
 .unfold ir;rw[show ({s with vars:=s.vars.set i y}:au).vars.length=s.vars.length from Z2];apply List.map_congr_left;intro j _;unfold e9;rw[th a e]
 .unfold fa;have:=th (j:=s.vars.length) a e;rw[o9 Ξ,o9 (o4 _)] at this;show 3+(((s.vars.set i y).flatMap hA).length+_)=_;rw[this]
theorem Nt {s:au} {i:Nat} {x y:b0} (a:s.funs[i]? =σ x) (q:y.cs.length=x.cs.length) (h1:y.sc=x.sc) (r:y.ad=x.ad):nV s {s with funs:=s.funs.set i y}:=by
 have w:(hX y).length=(hX x).length:=by simp[hX,q]
 refine⟨rfl,Z2,λj f h=>?_,rfl⟩;have h:(s.funs.set i y)[j]? =σ f:=h;have e:fa {s with funs:=s.funs.set i y} j=fa s j:=by
  unfold fa;show 3+(_+(((s.funs.set i y).take j).flatMap hX).length)=_;rw[th a w]
 by_cases p:i=j
 .subst p;rw[j4 (x4.1 a).1] at h;cases h;exact⟨x,a,h1,r,e⟩
 .rw[Y0 p] at h;exact⟨f,h,rfl,rfl,e⟩
theorem aC.wv (t:aC) (i:Nat) (x:Int):(t.set i x).marks=t.marks:=by
 unfold aC.set;cases t.cells[i]? with
 |none=>rfl
 |some c=>
  simp only;cases t.marks.getLast? with
  |none=>rfl
  |some m=>simp only;split<;>rfl
theorem aC.CW (t:aC) (i:Nat) (x:Int):(t.set i x).iJ=t.iJ:=by
 unfold aC.set;cases t.cells[i]? with
 |none=>rfl
 |some c=>
  simp only;cases t.marks.getLast? with
  |none=>rfl
  |some m=>simp only;split<;>rfl
theorem aC.CX (t:aC) (i:Nat) (x:Int):(t.set i x).cells.length=t.cells.length:=by
 have h:=congrArg T1 (aC.pX (t:=t) (i:=i) (x:=x));rw[Z2] at h;unfold aC.bK at h;rwa [u7,u7] at h
theorem aC.CY (t:aC) (i:Nat) (x:Int):(t.set i x).olds.length<=t.olds.length+1:=by
 unfold aC.set;cases t.cells[i]? with
 |none=>exact Nat.le_succ _
 |some c=>
  simp only;cases t.marks.getLast? with
  |none=>exact Nat.le_succ _
  |some m=>simp only;split<;>simp
theorem aC.wx {t:aC} (h:t.marks=[]) (i:Nat) (x:Int):(t.set i x).olds=t.olds:=by
 unfold aC.set;cases t.cells[i]? with
 |none=>rfl
 |some c=>simp only[h,List.getLast?_nil]
def fG (t:aC) (l:Λ):Nat->aC
 |0=>t.grow l.length
 |i+1=>(fG t l i).set (t.cells.length+i) (l.getD i 0)
def mJ (t:aC) (l:Λ):aC:=fG t l l.length
theorem qN (t:aC) (l:Λ):∀i,(fG t l i).marks=t.marks
 |0=>rfl
 |i+1=>(aC.wv _ _ _).trans (qN t l i)
theorem CZ (t:aC) (l:Λ):∀i,(fG t l i).iJ=t.iJ
 |0=>rfl
 |i+1=>(aC.CW _ _ _).trans (CZ t l i)
theorem wy (t:aC) (l:Λ):∀i,(fG t l i).cells.length=t.cells.length+l.length
 |0=>by simp[fG,aC.grow]
 |i+1=>(aC.CX _ _ _).trans (wy t l i)
theorem wz (t:aC) (l:Λ):∀i,(fG t l i).olds.length<=t.olds.length+i
 |0=>o4 _
 |i+1=>by have:=aC.CY (fG t l i) (t.cells.length+i) (l.getD i 0);have:=wz t l i;show (aC.set _ _ _).olds.length<=_;omega
theorem C0 {t:aC} (h:t.marks=[]) (l:Λ):∀i,(fG t l i).olds=t.olds
 |0=>rfl
 |i+1=>(aC.wx ((qN t l i).trans h) _ _).trans (C0 h l i)
theorem C1 (t:aC) (l:Λ):∀i,i<=l.length->(fG t l i).bK=t.bK++(l.take i++p9 (l.length-i) 0)
 |0,_=>by rw[List.take_zero,List.nil_append];exact aC.Je
 |i+1,h=>by
  have a:=C1 t l i Ω;show (aC.set _ _ _).bK=_;have e:t.bK.length=t.cells.length:=by simp[aC.bK]
  rw[aC.pX,a,T2 _ _ Ω,e,R2,T2 _ _ (by rw[j5];omega),j5,Nat.min_eq_left Ω,U1,show l.length-i=(l.length-(i+1))+1 by omega,List.replicate_succ,List.set_cons_zero,u9,u4,x6 (show i<l.length by omega)];simp only[o7,V6,c9,List.singleton_append]
theorem C2 (t:aC) (l:Λ):(mJ t l).bK=t.bK++l:=by
 unfold mJ;rw[C1 t l _ (o4 _),o5,U1,List.replicate_zero,X9]
theorem er.fG {h:List aC} {t:aC} (hk:er t h) (l:Λ):∀i,er (fG t l i) h
 |0=>hk.grow
 |i+1=>(er.fG hk l i).set
theorem k4 {s:Go.Sem x1} {x:x1} (h:aa x7 s w (λv=>v=x)):ci x7 s x w:=by
 obtain⟨v,h,rfl⟩:=h;exact h
theorem ti {off:Nat} {z:Nat} {a:r9} {cs:List x1} {x:x1} (f:ab w ac e cs) (h:∀ (K:x1->Prop),aa x7 (u6 cu (Γ ac) z) w K=K (.pointer (σ ⟨ac,0+off,ν⟩))) (j:jD x7 a=true) (p:cs[0+off]? =σ x):
  ci x7 (u5 a (.pointer (σ ⟨ac,0+off,ν⟩))) x w/\ci x7 (u6 cu (Γ ac) z) (.pointer (σ ⟨ac,0+off,ν⟩)) w/\ci x7 (bO (Γ ac)) (Γ ac) w/\True:=
 ⟨nC j (f.cell p),k4 (by rw[h]),k4 (by rw[bZ]),trivial⟩
def C3 (w:x3) (r:Nat):Prop:=∃e c,ab w r e c/\(e=fv\/e=eK\/e=kP\/e=gf\/e=cu\/e=dQ\/e=fZ)
def eQ (w:x3) (r:Nat):Prop:=C3 w r\/ ∀o,w.heap[r]? =σ o->fp o≠true
theorem mK {J:x3} {r:Nat} (hk:∀o,w.heap[r]? =σ o->fp o=true->¬eQ w r->J.heap[r]? =σ o) (h:eQ J r):eQ w r:=by
 by_cases a:eQ w r
 .exact a
 .refine absurd (.inr λo j I=>?_) a;have h1:=hk o j I a;rcases h with⟨e,c,f,he⟩|p
  .refine a (.inl ⟨e,c,?_,he⟩);unfold ab at f ⊢;rw[h1] at f;rw[j];exact f
  .exact p o h1 I
theorem jQ {J U:x3} (a:Ext w J) (e:ae (eQ J) J U):ae (eQ w) w U:=(a.V _).trans (e.mono λr _ h=>mK (λo f I _=>a.aW r o f I) h)
theorem wA {J U:x3} (h:ae (eQ w) w J) (a:ae (eQ J) J U):ae (eQ w) w U:=h.trans (a.mono λr _ e=>mK (λo f I j=>h.aW r o f I j) e)
theorem dx.min {A:ag} {t:aC} (h:dx w af A t):dx w af (λr=>A r/\C3 w r) t:=by
 obtain⟨q,s,go,di,aZ,x,dL,h1,f,j,p,y⟩:=h;refine⟨⟨q,_,_,h1,.inl rfl⟩,s,go,di,aZ,x,dL,h1,f,j,p,λr a=>⟨y r a,?_⟩⟩;rcases a with a|a|a
 .obtain⟨rfl,c,e⟩:=ei f a;exact⟨_,c,e,.inr (.inl rfl)⟩
 .obtain⟨rfl,c,e⟩:=ei j a;exact⟨_,c,e,.inr (.inr (.inl rfl))⟩
 .obtain⟨rfl,c,e⟩:=ei p a;exact⟨_,c,e,.inr (.inr (.inr (.inl rfl)))⟩
theorem eP.wB {p q x:x1} {A R:ag} {n:aT} {s:au} {t:aC} (h:eP w ac af j p q x A R n s t):∃a,dx w af a t/\ ∀y w' br,Grow a w y w'->dx w' af y br->ae (eQ w) w w'/\ ∃aK,Grow A w aK w'/\eP w' ac af j p q x aK R n s br:=by
 obtain⟨a,z,B⟩:=h.qM;refine⟨_,z.min,λC J br e E=>⟨e.1.mono λr _ h=>.inl h.2,?_⟩⟩;exact B (λr=>a r\/C r) J _ ⟨e.1.mono λr _ h=>h.1,λr f=>f.elim .inl λh=>(e.2.1 r h).imp (λh=>h.1) id,λr f=>.inl f⟩ (E.mono λr h=>.inr h)
theorem C4 {z:Nat} {B C G:x1} {A R:ag} {n:aT} {s:au} {t:aC} {j:x1} (h:eP w ac af z B C G A R n s t) (H:aH .i64 w j l) (S:∀r,leads j r->¬A r) (aG:t.cells.length+l.length<=100000000) (aJ:t.olds.length+l.length<=100000000) (hm:t.marks.length<=100000000):
  ai x7 y5 [Γ ac,j] w λv w'=>v=Δ (t.cells.length:Int)/\ae (eQ w) w w'/\ ∃aK,Grow A w aK w'/\eP w' ac af z B C G aK R n s (mJ t l):=by
 refine aw func101 ?_;obtain⟨_,a6,V,ge,L,E,_,w0,I,_⟩:=id h;obtain⟨W,K,M⟩:=h.wB;rw[aO cu.p 1 I rfl,aX ao.u H];refine (Ng (n:=l.length) K ⟨Ω,Ω,hm⟩ Ω).mono ?_;rintro _ J _ ⟨rfl,X,Y,Z⟩;obtain⟨aa,ab,O,ad⟩:=M X J _ Y Z;have P:∀ {aK:ag} {w':x3},Grow A w aK w'->aH .i64 w' j l:=λah=>hS H ah.1 λr ak a am c an ap=>S r ⟨a,am,c,an,ap⟩ ak;rw[aX ao.u (P O)];have aq:=H.le;refine ch.range l.length (λi U=>ae (eQ w) w U/\ ∃f,Grow A w f U/\eP U ac af z B C G f R n s (fG t l i)) aq ⟨aa,ab,O,ad⟩ ?_ ?_
 .rintro i U k hi ⟨N,f,q,y⟩ hk;refine bH Ω ?_;obtain⟨x,Q⟩:=aI (l:=l) hi;rw[bd ao.u al.i Ψ (P q) Q];obtain⟨_,a6,V,ge,L,E,_,w0,I,_⟩:=id y;obtain⟨W,K,M⟩:=y.wB;have aL:=wy t l i;have aM:=wz t l i;have av:=qN t l i;rw[aO cu.p 1 I rfl,aP,wrap_i64 Ω Ω];refine (tf (i:=t.cells.length+i) K Ω Ω ⟨Ω,Ω,by rw[av];exact hm⟩).mono ?_;rintro _ ax _ ⟨rfl,ay,az,aA⟩;obtain⟨aB,aD,aE,aF⟩:=M ay ax _ az aA;rw[aP];refine hk _ ⟨wA N aB,aD,q.trans aE,?_⟩;have e:fG t l (i+1)=(fG t l i).set (t.cells.length+i) x:=by
   show (fG t l i).set _ (l.getD i 0)=_;rw[u4,Q];rfl
  rw[e];exact aF
 .rintro U k ⟨N,f,q,y⟩;rw[aR,aj];exact⟨λh=>Ω,λ_=>⟨rfl,N,f,q,y⟩⟩
def iW (s:au) (sc ad cs:Λ):au:={s with funs:=s.funs++[⟨sc,ad,1,cs⟩]}
def nW (s:au) (t:aC) (cs:Λ):aC:=(mJ t (1::cs)).set 1 ((s.funs.length+1:Nat):Int)
theorem Nu {s:au} {t:aC} {sc ad cs:Λ} (h:t.bK=s.cells):(nW s t cs).bK=(iW s sc ad cs).cells:=by
 unfold nW iW;rw[aC.pX,C2,h,<-Nl];rfl
theorem Nv {bf:Nat} {bg aP bh:x1} {A R:ag} {n:aT} {s:au} {t:aC} {aF:x1} {sc ad cs:Λ} {g bS:Nat} {W:x1} {k:Int}
  (h:eP w ac af bf bg aP bh A R n s t) (ck:t.bK=s.cells) (cl:aH .i64 w aF sc) (dq:∀r,leads aF r->¬A r) (bi:dh w g bS W ad k cs) (bT:¬A g/\¬A bS/\ ∀r,leads W r->¬A r) (dr:sc.length<=1000)
  (aX:t.cells.length+cs.length+1<=100000000) (bj:t.olds.length+cs.length+1<=100000000) (hm:t.marks.length<=100000000) (dt:s.funs.length<=1000000):
  ai x7 GZ [Γ ac,aF,Γ g] w λv w'=>v=Δ (s.funs.length:Int)/\ae (eQ w) w w'/\ ∃aK R' bx,Grow A w aK w'/\eP w' ac af bf bg bx bh aK R' n (iW s sc ad cs) (nW s t cs)/\(∀r,R r->R' r)/\ ∀r,R' r->R r\/leads W r\/w.heap.size<=r:=by
 have du:t.cells.length=s.cells.length:=by rw[<-ck];simp[aC.bK]
 have dv:=wr s;have cm:fa (iW s sc ad cs) s.funs.length=t.cells.length:=by
  unfold fa iW;simp only[List.take_left];omega
 have cn:∀j,j<s.funs.length->fa (iW s sc ad cs) j=fa s j:=λj bz=>by
  unfold fa iW;simp only[List.take_append_of_le_length (show j<=s.funs.length by omega)]
 have cp:ir (iW s sc ad cs)=ir s:=rfl;refine aw func103 ?_;refine dm (λJ=>ae (eQ w) w J/\ ∃aK R' bx,Grow A w aK J/\eP J ac af bf bg bx bh aK R' n (iW s sc ad cs) (mJ t (1::cs))/\(∀r,R r->R' r)/\ ∀r,R' r->R r\/leads W r\/w.heap.size<=r) ?_ ?_
 .rintro J ⟨cq,dw,cr,ct,cw,cz,cA,cB⟩;intro U bA _ _;have bU:=cz.ext bA;obtain⟨_,a6,bB,ge,L,E,_,w0,aq,_,_,_,⟨a7,bk⟩,_⟩:=id bU;have bl:L.length=s.funs.length+1:=by rw[bk.1];simp[iW]
  rw[aO cu.p 1 aq rfl,aO cu.p 3 aq rfl,eD fh.u a7];obtain⟨bV,cC,cD⟩:=bU.wB;have cE:=wy t (1::cs) (1::cs).length;have cF:=wz t (1::cs) (1::cs).length;have cG:=qN t (1::cs) (1::cs).length;simp only[Z0] at cE cF;refine (tf (i:=1) (y:=1) cC rfl (by show 1<(fG _ _ _).cells.length;simp only[Z0];omega) ⟨by show (fG _ _ _).cells.length<=_;simp only[Z0];omega,by show (fG _ _ _).olds.length<=_;simp only[Z0];omega,by show (fG _ _ _).marks.length<=_;rw[cG];exact hm⟩).mono ?_;rintro _ cH _ ⟨rfl,cI,cJ,cK⟩;obtain⟨cL,cM,cN,bW⟩:=cD cI cH _ cJ cK;obtain⟨_,a6,bB,ge,cO,E,_,w0,aq,_,_,_,⟨a7,cP⟩,_⟩:=id bW;have dx:cO.length=s.funs.length+1:=by rw[cP.1];simp[iW]
  rw[aO cu.p 3 aq rfl,eD fh.u a7,dZ,wrap_i64 Ω Ω];refine⟨by congr 1;omega,wA cq (jQ bA cL),cM,cr,ct,cw.trans ((Grow.ext bA).trans cN),?_,cA,cB⟩;have e:nW s t cs=(mJ t (1::cs)).set 1 (L.length:Int):=by unfold nW;rw[bl]
  rw[e];exact bW
 intro av cQ;intro aJ aR _ _;have bX:=h.ext aR;obtain⟨_,a6,bB,ge,L,E,_,w0,aq,_⟩:=id bX;rw[aO cu.p 3 aq rfl];have z4:=aR.size;have bm:∀ {G:x3} {aj X:x1} {aY ak:Nat},Ext aJ G->w.heap.size<=aY->w.heap.size<=ak->ap .i64 ah G aY aj sc->ap .i64 al G ak X (1::cs)->(∀r,leads aj r\/leads X r->¬A r)->
   ai x7 y5 [Γ ac,X] G λcS ay=>
    (Ext aJ ay\/ci x7 (u5 fh (.pointer (σ ⟨ac,0+3,ν⟩))) aP ay/\ci x7 (u6 cu (Γ ac) 3) (.pointer (σ ⟨ac,0+3,ν⟩)) ay/\ci x7 (bO (Γ ac)) (Γ ac) ay/\True)/\
    aa x7 (Instr.build dQ #[(0,aj),(1,.agg #[W]),(2,cS)]) ay λt22=>
    ax x7 (Y1 fh 1 #[(0,t22)]) ay λcT az=>
     (Ext aJ az\/ci x7 (u5 fh (.pointer (σ ⟨ac,0+3,ν⟩))) aP az/\ci x7 (u6 cu (Γ ac) 3) (.pointer (σ ⟨ac,0+3,ν⟩)) az/\ci x7 (bO (Γ ac)) (Γ ac) az/\True)/\
    ax x7 (b8 #[fh,fh] fh #[aP,cT]) az λcU bp=>
     aa x7 (bO (Γ ac)) bp λt25=>
     aa x7 (u6 cu t25 3) bp λcV=>
     ax x7 (o8 fh cV cU) bp λ(_:Unit) aS=>
      av aS:=by
  intro G aj X aY ak H bY Y M O bC;have cW:=bX.ext H;refine (C4 cW O.ls (λr B=>bC r (.inr B)) (by simp only[Z0];omega) (by simp only[Z0];omega) hm).mono ?_;rintro _ ay _ ⟨rfl,cX,a8,aZ,cY⟩;obtain⟨⟨b0,b1,cZ,b2⟩,a6,bB,ge,L,E,bV,w0,aq,⟨c0,c1,b3⟩,⟨c2,b4,b5,aL⟩,bD,⟨a7,bk⟩,bE,c3⟩:=id cY;have aG:ap .i64 ah ay aY aj sc:=bn M aZ.1 λr B=>bC r (.inl B);have bq:ap .i64 ah G (Classical.choose (show ∃gs,ap .i64 ah w gs W ad from by obtain⟨⟨_,gs,_,q,_⟩,_⟩:=bi;exact⟨gs,q⟩)) W ad:=((Classical.choose_spec (show ∃gs,ap .i64 ah w gs W ad from by obtain⟨⟨_,gs,_,q,_⟩,_⟩:=bi;exact⟨gs,q⟩)).ext aR).ext H;have c4:=bn bq aZ.1 bT.2.2;refine⟨.inr (ti (off:=3) (z:=3) aq (λK=>by rw[aQ cu.p rfl]) Ψ rfl),?_⟩;rw[dp (cs:=#[aj,W,Δ (t.cells.length:Int)]) (by obtain⟨_,_,_,rfl⟩:=ds M.ls;obtain⟨_,_,_,rfl⟩:=ds bq.ls;kernel_rfl)];let a:pg:=⟨aj,W,t.cells.length⟩;have c5:∀u∈l2 a,u.oneCell'=true:=by
   intro u hu;simp[l2] at hu;rcases hu with rfl|rfl|rfl
   .exact M.ls.cells.2
   .exact bq.ls.cells.2
   .rfl
  refine hW (f:=l2) (a:=a) fh.u dQ.i Ω rfl rfl λdy dz az dA N c6=>?_;refine⟨.inr (ti (off:=3) (z:=3) (aq.ext N) (λK=>by rw[aQ cu.p rfl]) Ψ rfl),?_⟩;have ba:=a7.ext N;have bl:L.length=s.funs.length:=bk.1;refine ik (f:=l2) (a:=a) fh.u dQ.i rfl ba (by simpa using c6.sl) c5 Ω Ω λb6 c7 bp bb c8 b7=>?_;have bc:=aq.ext N;have b9:=bc.V b7 λhe=>cR ba bc Φ he;rw[bZ,aQ cu.p rfl];refine bo fh.i (eO bb.sl).1 (eO bb.sl).2 b9 Ξ λaS bF dC bG=>?_;have bG:ab aS ac cu [Γ bf,Γ af,bg,b6,bh]:=bG;have aA:ae (λr=>leadsTo aP r\/r=ac) az aS:=(b7.mono λr _ h=>.inl h).trans (bF.mono λr _ h=>.inr h);have z9:=H.size;have dD:=aZ.1.size;have dE:=N.size;have dF:=aA.size;have bH:∀r,(leadsTo aP r\/r=ac)->a8 r:=λr B=>B.elim (λB=>(aL r (.inr (.inl B))).1) λB=>B▸b0;have bI:∀r,(leadsTo aP r\/r=ac)->¬R r:=λr B=>b1 r (bH r B);have c9:ae (eQ w) w aS:=wA (jQ (aR.trans H) cX) (jQ N (aA.mono λr _ B=>by
   rcases B with B|rfl
   .obtain⟨_,c,aX⟩:=ei ba B;exact .inl ⟨_,c,‹r=_› ▸aX,Φ⟩
   .exact .inl ⟨_,_,bc,Φ⟩))
  let dX:ag:=λr=>a8 r\/(az.heap.size<=r/\r<aS.heap.size);let bJ:ag:=λr=>R r\/(leads W r/\r<ay.heap.size)\/(leads aj r/\r<ay.heap.size);have dG:∀r,r<w.heap.size->a8 r->A r:=λr B h=>(aZ.2.1 r h).elim id λh=>Ω
  have bL:∀r,leads aj r->w.heap.size<=r/\r<G.heap.size:=λr B=>by obtain⟨h1,a1⟩:=bP M B;omega
  have ca:∀r,leads W r->r<G.heap.size:=λr B=>by obtain⟨h1,a1⟩:=bP bq B;omega
  have br:∀r,leads aj r\/leads W r->¬a8 r:=λr B da=>by
   rcases aZ.2.1 r da with h|h
   .rcases B with B|B
    .exact bC r (.inl B) h
    .exact bT.2.2 r B h
   .rcases B with B|B
    .have:=bL r B;omega
    .have:=ca r B;omega
  refine cQ _ ⟨c9,dX,bJ,b6,(Grow.ext (aR.trans H)).trans (aZ.trans ((Grow.ext N).trans ⟨aA.mono λr _ B=>bH r B,λr B=>B.imp id And.left,λr B=>.inl B⟩)),?_,λr B=>.inl B,λr B=>?_⟩
  rotate_left
  .rcases B with B|B|B
   .exact .inl B
   .exact .inr (.inl B.1)
   .exact .inr (.inr (bL r B.1).1)
  have cb:∀ {v:x1} {bd:Nat} {l:Λ},ap .i64 ah az bd v l->(∀r,leads v r->¬a8 r)->ap .i64 ah aS bd v l:=λhm db=>bn hm aA λr B I=>db r B (bH r I);have cd:∀r,bJ r->r<az.heap.size:=λr B=>by
   rcases B with B|B|B
   .have:=cZ r B;omega
   .omega
   .omega
  refine⟨⟨.inl b0,λr B aM=>?_,λr B=>by have:=cd r B;omega,λr B=>B.elim (λB=>by have:=b2 r B;omega) And.right⟩,a6,c7,ge,L++[a],E,bV,w0,bG,⟨c0,tg (c1.trans N) aA λr o B bj I=>bI r I (b3 r o B bj),λr o B bj=>.inl (b3 r o B bj)⟩,⟨(c2.ext N).V aA λr B I=>?_,λr B=>.inl (b4 r B),b5,λr B=>?_⟩,?_,⟨bb.V bF λr B he=>?_,?_⟩,(bE.ext N).V aA λr B I=>?_,?_⟩
  .have:=cd r aM;rcases B with B|B
   .rcases aM with aM|aM|aM
    .exact b1 r B aM
    .exact br r (.inr aM.1) B
    .exact br r (.inl aM.1) B
   .omega
  .rcases I with I|rfl
   .exact (aL r (.inr (.inl I))).2 B
   .exact b5 B
  .rcases B with B|B|B
   .exact⟨.inl (aL r (.inl B)).1,(aL r (.inl B)).2⟩
   .obtain⟨h1,a1⟩:=bb.leads B;rcases c8 r B with h|h
    .exact⟨.inl (aL r (.inr (.inl h))).1,(aL r (.inr (.inl h))).2⟩
    .refine⟨.inr ⟨h,by have:=bF.size;omega⟩,λdc=>?_⟩;have:=b2 r (b4 r dc);omega
   .exact⟨.inl (aL r (.inr (.inr B))).1,(aL r (.inr (.inr B))).2⟩
  .rw[cp];exact bn (bD.ext N) aA λr B I=>by
    rcases I with I|rfl
    .obtain⟨rfl,c,aX⟩:=ei ba I;exact cc (bD.ext N) aX Φ B rfl
    .exact cc (bD.ext N) bc Φ B rfl
  .have he:r=ac:=he;subst he;exact cR bb b9 Φ B
  .refine⟨by rw[p8,bl];simp[iW],λj x f bt aU=>?_⟩;have aU:(s.funs++[⟨sc,ad,1,cs⟩])[j]? =σ f:=aU;by_cases bz:j<s.funs.length
   .rw[Z8 Ω] at bt;rw[Z8 bz] at aU;obtain⟨dd,de,df⟩:=((((ld.V bk (N.V λ_=>False) λ_ _ _ h=>h).V aA λr _ B I=>bI r I B).mono (R':=bJ) λr B=>.inl B)).2 j x f bt aU;exact⟨dd,de,by rw[cn j bz];exact df⟩
   .have bM:j=s.funs.length:=by have:=(x4.1 aU).1;simp at this;omega
    rw[Z9 Ω,bl,bM,U1] at bt;rw[Z9 Ω,bM,U1] at aU;cases bt;cases aU;refine⟨⟨⟨_,cb (aG.ext N) λr B=>br r (.inl B)⟩,λr B=>.inr (.inr ⟨B,?_⟩)⟩,⟨⟨_,cb (c4.ext N) λr B=>br r (.inr B)⟩,λr B=>.inr (.inl ⟨B,?_⟩)⟩,?_⟩
    .have:=bL r B;omega
    .have:=ca r B;omega
    .rw[bM,cm]
  .rcases I with I|rfl
   .obtain⟨rfl,c,aX⟩:=ei ba I;exact cR (bE.ext N) aX Φ B
   .exact cR (bE.ext N) bc Φ B
  .exact ((l3.V c3 (N.V λ_=>False) λ_ _ _ h=>h).V aA λr _ B I=>bI r I B).mono λr B=>.inl B
 have a2:=bi.ext aR;have ce:=cl.ext aR;have dg:∀r,A r->r<w.heap.size:=h.1.2.2.2;obtain⟨_,⟨_,_,dH⟩,dI,dJ⟩:=id bi;have dK:cs.length<=4096:=Ω
 have bu:∀ {aB:x3} {aV aW:x1} {Z:Nat} {K:x1->x3->Prop},Ext aJ aB->aJ.heap.size<=Z->ap .i64 al aB Z aV [1]->aH .i64 aB aW cs->
   (∀X ak G,Ext aJ G->ae (λr=>r=Z) aB G->w.heap.size<=ak->ap .i64 al G ak X (1::cs)->(Ext aJ G->K X G))->ax x7 (b8 #[ao,ao] ao #[aV,aW]) aB K:=by
  intro aB aV aW Z K C bw aD aI di;refine jk ao.u al.i rfl aD aI Θ Θ λX ak G Y O aE=>?_;have H:Ext aJ G:=C.put aE Ω;have dj:=C.size;exact di X ak G H aE Ω O H
 have aN:∀ {v:x1} {bd:Nat} {dk:o6} {e:r9} {dl:x3} {l:Λ},ap dk e dl bd v l->w.heap.size<=bd-> ∀r,leads v r->¬A r:=λhm dL r B dn=>by
  obtain⟨h1,_⟩:=bP hm B;have:=dg r dn;omega
 refine⟨?_,?_⟩
 .refine (kV ce Ω).mono ?_;rintro aj cg _ ⟨P,aY,bY,M⟩;have z5:=P.size;refine⟨.inl P,?_,?_⟩
  .refine (oW (a2.ext P)).mono ?_;rintro _ ch _ ⟨rfl,Q⟩;have am:=P.trans Q;have dM:=am.size;have dN:=Q.size;have cj:=(a2.ext P).ext Q;refine⟨.inl am,?_,?_⟩
   .refine ep ao.u al.i rfl λaV Z aB bw C aD=>?_;refine⟨.inl (am.trans C),?_⟩;refine (mD (cj.ext C)).mono ?_;rintro aW bN _ ⟨S,bQ,bR,aI⟩;have an:=(am.trans C).trans S;refine⟨.inl an,?_⟩;refine bu an Ω (aD.ext S) aI.ls λX ak G H aE Y O _=>⟨.inl H,?_⟩;have aG:=bn (((M.ext Q).ext C).ext S) aE λr B he=>by have he:r=Z:=he;obtain⟨h1,a1⟩:=bP M B;omega
    exact bm H Ω Y aG O λr B=>B.elim (aN M Ω r) (aN O Y r)
   .refine (mD cj).mono ?_;rintro aW aB _ ⟨C,bQ,bR,aI⟩;refine⟨.inl (am.trans C),?_⟩;have dj:=C.size;refine ep ao.u al.i rfl λaV Z bN bw S aD=>?_;have an:=(am.trans C).trans S;refine⟨.inl an,?_⟩;refine bu an Ω aD (aI.ls.ext S) λX ak G H aE Y O _=>⟨.inl H,?_⟩;have aG:=bn (((M.ext Q).ext C).ext S) aE λr B he=>by have he:r=Z:=he;obtain⟨h1,a1⟩:=bP M B;omega
    exact bm H Ω Y aG O λr B=>B.elim (aN M Ω r) (aN O Y r)
  .refine ep ao.u al.i rfl λaV Z ch bw Q aD=>?_;have am:=P.trans Q;refine⟨.inl am,?_⟩;refine (oW ((a2.ext P).ext Q)).mono ?_;rintro _ aB _ ⟨rfl,C⟩;have be:=am.trans C;refine⟨.inl be,?_⟩;refine (mD (((a2.ext P).ext Q).ext C)).mono ?_;rintro aW bN _ ⟨S,bQ,bR,aI⟩;have an:=be.trans S;refine⟨.inl an,?_⟩;refine bu an Ω ((aD.ext C).ext S) aI.ls λX ak G H aE Y O _=>⟨.inl H,?_⟩;have aG:=bn (((M.ext Q).ext C).ext S) aE λr B he=>by have he:r=Z:=he;obtain⟨h1,a1⟩:=bP M B;omega
   exact bm H Ω Y aG O λr B=>B.elim (aN M Ω r) (aN O Y r)
 .refine ep ao.u al.i rfl λaV Z cg bw P aD=>?_;refine⟨.inl P,?_⟩;have z5:=P.size;have dO:Z<cg.heap.size:=sV aD Ξ;refine (kV (ce.ext P) Ω).mono ?_;rintro aj ch _ ⟨Q,aY,bY,M⟩;have am:=P.trans Q;refine⟨.inl am,?_⟩;refine (oW ((a2.ext P).ext Q)).mono ?_;rintro _ aB _ ⟨rfl,C⟩;have be:=am.trans C;refine⟨.inl be,?_⟩;refine (mD (((a2.ext P).ext Q).ext C)).mono ?_;rintro aW bN _ ⟨S,bQ,bR,aI⟩;have an:=be.trans S;refine⟨.inl an,?_⟩;refine bu an Ω (((aD.ext Q).ext C).ext S) aI.ls λX ak G H aE Y O _=>⟨.inl H,?_⟩;have aG:=bn ((M.ext C).ext S) aE λr B he=>by have he:r=Z:=he;obtain⟨h1,a1⟩:=bP M B;omega
  exact bm H Ω Y aG O λr B=>B.elim (aN M Ω r) (aN O Y r)
theorem gO {P:W3} {G:r9} {k:o6} {b g:Nat} {x:x1} {m:Λ} {K:x1->x3->Prop} (y:P.underlying t=σ (.slice e)) (hi:aN P e 1 b z) (A:z.cells.size=1)
  (h:ap k e w g v l) (B:aH k w x m) (C:(l.length+m.length)*b<=140737488355328) (E:l.length+m.length<=9223372036854775807)
  (F:∀a f w',ap k e w' f a (l++m)->(∀r,leads a r->leads v r\/w.heap.size<=r)->ae (λr=>leads v r) w w'->K a w'):ax P (b8 #[t,t] G #[v,x]) w K:=by
 rcases h.2 with⟨p,H⟩|⟨cap,cs,p,L,M⟩
 .have I:l=[]:=b9 H;subst I;have h':ap k e w w.heap.size v []:=by rw[p];exact ap.nil _ _ _ _
  refine jk y hi A h' B C E λa f w' q hm s=>F a f w' hm (λr j=>.inr ?_) (s.mono λr j he=>by have he:r=w.heap.size:=he;omega);obtain⟨J,_⟩:=bP hm j;omega
 .refine jk y hi A h B C E λa f w' q hm s=>F a f w' hm (λr j=>?_) (s.mono λr j he=>⟨_,_,_,p,he.symm⟩);obtain⟨J,_⟩:=bP hm j;rcases q with q|q
  .exact .inl ⟨_,_,_,p,by show g=r;omega⟩
  .exact .inr Ω
def addVar (s:au) (u:Λ):au:={s with vars:=s.vars++[newVar u]}
theorem Nw (s:au) (u:Λ):ir (addVar s u)=ir s++[((3+(s.vars.flatMap hA).length:Nat):Int)]:=by
 unfold ir addVar;rw[p8,U6,List.range_succ,j6];congr 1
 .apply List.map_congr_left;intro i hi;have:=List.mem_range.1 hi;unfold e9;simp only[List.take_append_of_le_length (show i<=s.vars.length by omega)]
 .simp[e9]
theorem Nx {s:au} {u:Λ} (a:s.funs=[]):(addVar s u).cells=s.cells++(0::0::u):=by
 unfold au.cells addVar iU;simp only[a,List.flatMap_nil,X9,List.flatMap_append,List.flatMap_singleton,c9];rfl
def eT (n:aT) (i j:Nat):au:=⟨n.zero,(n.unary.take i).map newVar,(n.funs.take j).map (kv n.sizes),[]⟩
theorem C5 {n:aT} {i:Nat} {u:Λ} (h:n.unary[i]? =σ u):eT n (i+1) 0=addVar (eT n i 0) u:=by
 unfold eT addVar;simp only[u9,h,o7,j6,List.map_singleton]
theorem Ny {n:aT} {i:Nat} {g:cA} (h:n.funs[j]? =σ g):eT n i (j+1)=iW (eT n i j) g.1 (bR n.sizes g.1) g.2:=by
 unfold eT iW;simp only[u9,h,o7,j6,List.map_singleton];rfl
theorem wC (n:aT):eT n n.unary.length n.funs.length=du n:=by
 unfold eT du;rw[o5,o5]
theorem wD {α β:Type} {f:α->List β} {b:Nat}:∀ {L:List α},(∀x∈L,(f x).length<=b)->(L.flatMap f).length<=L.length*b
 |[],_=>Ξ
 |x::L,h=>by
  rw[Y6,p8,Z0,V9];have:=wD (L:=L) λy a=>h y (.tail _ a);have:=h x (.head _);omega
theorem tj {n:aT} (a:jO n) (B:n.funs.length<=256) (i j:Nat):(eT n i j).cells.length<=2000000:=by
 rw[wr];have h1:=wD (f:=hA) (b:=34) (L:=(eT n i j).vars) λx h=>by
  obtain⟨u,hu,rfl⟩:=n9.1 (show x∈(n.unary.take i).map newVar from h);obtain⟨p,q⟩:=X4.1 (T3 hu);have C:=a.ku;have E:=(x4.1 q).1;obtain⟨z,r⟩:=aI (l:=n.sizes) (i:=p) Ω;have w:=(a.unary p z u r q).1;have e:=a.sizes.2.2 z (x5 r);show u.length+2<=34;omega
 have w:=wD (f:=hX) (b:=4097) (L:=(eT n i j).funs) λx h=>by
  obtain⟨g,y,rfl⟩:=n9.1 (show x∈(n.funs.take j).map (kv n.sizes) from h);have e:=(a.funs g (T3 y)).1;have s:=e.len;have A:=e.small;show g.2.length+1<=4097;omega
 have e:(eT n i j).vars.length<=64:=by
  show ((n.unary.take i).map newVar).length<=64;rw[u7,j5];have:=a.ku;have:=a.sizes.2.1;omega
 have s:(eT n i j).funs.length<=256:=by
  show ((n.funs.take j).map (kv n.sizes)).length<=256;rw[u7,j5];omega
 have A:=Y9 34 e;have F:=Y9 4097 s;omega
def Plain (t:aC):Prop:=t.marks=[]/\t.olds=[]/\er t []/\t.iJ=0
theorem Plain.set {t:aC} (h:Plain t) (i:Nat) (x:Int):Plain (t.set i x):=⟨(aC.wv _ _ _).trans h.1,(aC.wx h.1 _ _).trans h.2.1,h.2.2.1.set,(aC.CW _ _ _).trans h.2.2.2⟩
theorem Plain.lay {t:aC} (h:Plain t) (l:Λ):Plain (mJ t l):=⟨(qN _ _ _).trans h.1,(C0 h.1 _ _).trans h.2.1,h.2.2.1.fG l _,(CZ _ _ _).trans h.2.2.2⟩
theorem Plain.put {s:au} {t:aC} (h:Plain t) (cs:Λ):Plain (nW s t cs):=(h.lay _).set _ _
def Nz (w:x3) (R0:ag) (n:aT) (v:x1) (w':x3):Prop:=Ext w w'/\ ∃ac af A R t,v=Γ ac/\StateM w' ac af A R n (du n) t/\t.bK=(du n).cells/\Plain t/\(∀r,A r->w.heap.size<=r)/\ ∀r,R r->R0 r\/w.heap.size<=r
theorem NA {w0:x3} {R0:ag} {n:aT} (aN:fT w0 B n) (ay:Ext w0 w) (bh:∀r o,w0.heap[r]? =σ o->fp o=true->R0 r) (aR:∀r,R0 r->r<w.heap.size) (C:jO n) (bi:n.funs.length<=256):ai x7 yU [Γ B] w (Nz w R0 n):=by
 have h:=aN.ext ay;have bW:=C.ku;have c0:=C.sizes.2.1;refine aw func37 ?_;rw[dn mn.u];simp only[Z5,aY];refine (Nh (n:=3) Ω).mono ?_;rintro _ J _ ⟨az,af,rfl,bX⟩;rw[dp (cs:=#[Γ B,Γ af,.slice ν 0 0,.slice ν 0 0,.slice ν 0 0]) Ψ];refine bm λac U c1 S W=>?_;have W:ab U ac cu [Γ B,Γ af,.slice ν 0 0,.slice ν 0 0,.slice ν 0 0]:=W;have c2:=az.size;have c3:=S.size;have c4:=W.lt;have bY:eP U ac af B (.slice ν 0 0) (.slice ν 0 0) (.slice ν 0 0) (λr=>r=ac\/(w.heap.size<=r/\r<J.heap.size)) R0 n ⟨0,[],[],[]⟩ ⟨p9 3 ⟨0,0⟩,[],[],0⟩:=by
  refine⟨⟨.inl rfl,λr q O=>?_,λr q=>?_,λr q=>?_⟩,0,0,0,[],[],λr=>w.heap.size<=r/\r<J.heap.size,w0,W,⟨aN,ay.trans (az.trans S),bh⟩,⟨(bX.cut).ext S,λr q=>.inr q,λq=>?_,λr q=>?_⟩,ap.nil _ _ _ _,⟨bg.nil _ _ _ _ _,rfl,λj x f X=>by simp at X⟩,bg.nil _ _ _ _ _,rfl,λj x f X=>by simp at X⟩
  .have O:=aR r O;rcases q with q|q<;>omega
  .have q:=aR r q;omega
  .rcases q with q|q<;>omega
  .omega
  .rcases q with q|q|q
   .obtain⟨a,c5,c,aS,c6⟩:=q;cases aS
   .exact (e8 q).elim
   .exact (e8 q).elim
 intro c7 Y _ _;have b0:=bY.ext Y;rw[aO cu.p 1 (W.ext Y) rfl];refine (Np (h.ext ((az.trans S).trans Y))).mono ?_;rintro _ c8 _ ⟨rfl,aA⟩;refine⟨.inl aA,?_⟩;have b1:=b0.ext aA;obtain⟨aU,b2,b3⟩:=b1.qM;refine (tf (i:=0) (y:=0) b2 rfl Φ ⟨Ξ,Ξ,Ξ⟩).mono ?_;rintro _ bj _ ⟨_,b4,b5,b6⟩;obtain⟨b7,bk,aV⟩:=b3 b4 bj _ b5 b6;have aV:=aV.same (CU ⟨0,[],[],[]⟩ n.zero);have z3:=Y.size;have z4:=aA.size;have b8:=((az.trans S).trans Y).trans aA;have bl:Ext w bj:=b8.then bk.1 λr q he=>by rcases he with he|he<;>omega
 refine (ws (h.ext bl)).mono ?_;rintro _ c9 _ ⟨rfl,bp⟩;refine ch.range n.sizes.length (λi aB=>∃A M t,Ext w aB/\eP aB ac af B M (.slice ν 0 0) (.slice ν 0 0) A R0 n (eT n i 0) t/\t.bK=(eT n i 0).cells/\Plain t/\ ∀r,A r->w.heap.size<=r) Ω
  ⟨b7,_,_,bl.trans bp,aV.ext bp,?_,?_,λr q=>?_⟩ ?_ ?_
 .rw[aC.pX];rfl
 .exact Plain.set (t:=⟨p9 3 ⟨0,0⟩,[],[],0⟩) ⟨rfl,rfl,⟨rfl,rfl,λc G=>by rw[(List.mem_replicate.1 G).2];exact o4 _⟩,rfl⟩ _ _
 .rcases bk.2.1 r q with he|he
  .rcases he with he|he<;>omega
  .omega
 .rintro i aB b9 hi ⟨A,M,t,P,aW,Z,aa,aD⟩ ca;obtain⟨u,hu⟩:=aI (l:=n.unary) (i:=i) Ω;obtain⟨bq,br⟩:=aI (l:=n.sizes) (i:=i) Ω;have da:u.length<=32:=by
   have db:=(C.unary i bq u br hu).1;have dc:=C.sizes.2.2 bq (x5 br);omega
  refine bH Ω ?_;refine (CR (h.ext P) C).mono ?_;rintro dd de _ ⟨cb,_,ce⟩;obtain⟨df,dg,cg⟩:=ce u Ω (by rw[r8];exact hu);intro aX bt _ _;have aZ:=cb.trans bt;have bu:=aW.ext aZ;obtain⟨⟨_,_,_,ad⟩,a6,bw,ge,L,E,aU,w0,aE,_⟩:=id bu;have dh:=aZ.size;have di:=P.size;rw[aO cu.p 2 aE rfl];refine pY (l:=[0,0]) ao.u al.i Ω rfl Ψ λci dj dk dl aG bx=>?_;refine⟨.inl aG,?_⟩;refine gO ao.u al.i rfl bx ((cg.ext bt).ls.ext aG) Θ Θ λcj dm ck cl cm cn=>?_;have bz:∀r,leads ci r->aX.heap.size<=r:=λr q=>by obtain⟨aS,_⟩:=bP bx q;omega
  have aH:Ext aX ck:=aG.then cn λr q he=>by have:=bz r he;omega
  refine⟨.inl aH,?_⟩;have cp:=bu.ext aH;have cq:∀r,leads cj r->aX.heap.size<=r:=λr q=>by
   rcases cm r q with h|h
   .exact bz r h
   .have:=aG.size;omega
  have cr:t.cells.length<=2000000:=by
   have h1:=tj C bi i 0;rw[<-Z] at h1;unfold aC.bK at h1;rwa [u7] at h1
  have ct:t.olds.length=0:=by rw[aa.2.1];rfl
  have cw:t.marks.length=0:=by rw[aa.1];rfl
  refine (C4 cp cl.ls (λr q s=>by have:=ad r s;have:=cq r q;omega) Θ Θ Ω).mono ?_;rintro _ dq _ ⟨rfl,_,a1,a2,cz⟩;obtain⟨⟨bA,bB,cA,bC⟩,a6,bw,ge,L,E,aU,w0,aE,⟨cB,cC,bD⟩,⟨cD,bE,bF,aJ⟩,cE,⟨cF,cG⟩,cH,cI⟩:=id cz;refine⟨.inr (ti (off:=2) (z:=2) aE (λK=>by rw[aQ cu.p rfl]) Ψ rfl),?_⟩;refine ep (k:=.i64) am.u ah.i rfl λdr ds bG dt H cJ=>?_;have a7:=aE.ext H;refine⟨.inr (ti (off:=2) (z:=2) a7 (λK=>by rw[aQ cu.p rfl]) Ψ rfl),?_⟩;have bI:(ir (eT n i 0)).length=i:=by
   unfold ir eT;simp only[u7,List.length_range,j5];omega
  have bJ:=cE.ext H;refine gO am.u ah.i rfl bJ cJ.ls (by rw[bI];simp;omega) (by rw[bI];simp;omega) λbL cK dv aj cL bM=>?_;have bN:=a7.V bM λhe=>cc bJ a7 Φ he rfl;rw[bZ,aQ cu.p rfl];refine bo am.i aj.ls.cells.1 aj.ls.cells.2 bN Ξ λa8 ba dw bb=>?_;have bb:ab a8 ac cu [Γ B,Γ af,bL,.slice ν 0 0,.slice ν 0 0]:=bb;rw[aP];have G:ae (λr=>leads M r\/r=ac) bG a8:=(bM.mono λr _ h=>.inl h).trans (ba.mono λr _ h=>.inr h);have dx:=aH.size;have z12:=a2.1.size;have dy:=H.size;have dz:=G.size;have bO:∀r,a1 r->w.heap.size<=r:=λr q=>(a2.2.1 r q).elim (aD r) λh=>Ω
  have bQ:∀r,(leads M r\/r=ac)->a1 r:=λr q=>q.elim (λq=>(aJ r (.inl q)).1) λq=>q▸bA;have cM:(eT n (i+1) 0).cells=(eT n i 0).cells++(0::0::u):=by rw[C5 hu];exact Nx rfl
  have cN:t.cells.length=3+((eT n i 0).vars.flatMap hA).length:=by
   have h1:=congrArg T1 Z;rw[wr] at h1;unfold aC.bK at h1;rw[u7] at h1;have:((eT n i 0).funs.flatMap hX).length=0:=by simp[eT]
   omega
  refine ca _ ⟨λr=>a1 r\/(bG.heap.size<=r/\r<a8.heap.size),bL,mJ t ([0,0]++u),?_,⟨⟨.inl bA,λr q O=>?_,λr q=>by have:=cA r q;omega,λr q=>?_⟩,cK,bw,ge,L,E,aU,w0,bb,⟨cB,tg (cC.trans H) G λr o q cO I=>bB r (bQ r I) (bD r o q cO),bD⟩,⟨(cD.ext H).V G λr q I=>?_,λr q=>.inl (bE r q),bF,λr q=>?_⟩,?_,⟨(cF.ext H).V G λr q I=>?_,?_⟩,(cH.ext H).V G λr q I=>?_,?_⟩,?_,aa.lay _,λr q=>?_⟩
  .exact ((P.trans (aZ.trans aH)).then a2.1 λr q he=>by have:=aD r he;omega).trans H |>.then G λr q I=>by have:=bO r (bQ r I);omega
  .rcases q with q|q
   .exact bB r q O
   .have O:=aR r O;omega
  .rcases q with q|q
   .have:=bC r q;omega
   .exact q.2
  .rcases I with I|rfl
   .exact (aJ r (.inl I)).2 q
   .exact bF q
  .rcases q with q|q|q
   .have dA:=(bP aj q);rcases cL r q with h|h
    .exact⟨.inl (aJ r (.inl h)).1,(aJ r (.inl h)).2⟩
    .refine⟨.inr ⟨h,by have:=ba.size;omega⟩,λcP=>by have:=bC r (bE r cP);omega⟩
   .exact (e8 q).elim
   .exact (e8 q).elim
  .rw[C5 hu,Nw,<-cN];exact bn aj ba λr q he=>by
    have he:r=ac:=he;subst he;exact cc aj bN Φ q rfl
  .exact (e8 q).elim
  .refine⟨cG.1,λj x f X bc=>?_⟩;have bc:((n.funs.take 0).map (kv n.sizes))[j]? =σ f:=bc;simp at bc
  .exact (e8 q).elim
  .refine⟨cI.1,λj x e X he=>?_⟩;have he:([]:List pe)[j]? =σ e:=he;simp at he
  .rw[C2,cM,Z];rfl
  .rcases q with q|q
   .exact bO r q
   .omega
 .rintro aB b9 ⟨A,M,t,P,aW,Z,aa,aD⟩;refine cd Ω ?_;refine (CQ (h.ext P)).mono ?_;rintro _ dC _ ⟨rfl,bR⟩;refine ch.range n.funs.length (λj ak=>∃A R aL t,Ext w ak/\eP ak ac af B M aL (.slice ν 0 0) A R n (eT n n.sizes.length j) t/\t.bK=(eT n n.sizes.length j).cells/\Plain t/\(∀r,A r->w.heap.size<=r)/\ ∀r,R r->R0 r\/w.heap.size<=r) Ω
   ⟨A,_,_,t,P.trans bR,aW.ext bR,Z,aa,aD,λ_ h=>.inl h⟩ ?_ ?_
  .rintro j ak cQ cR ⟨A,R,aL,t,N,an,Q,aq,au,bd⟩ cS;obtain⟨g,aM⟩:=aI (l:=n.funs) cR;have be:=(C.funs g (x5 aM)).1;refine bH Ω ?_;refine (Nq (h.ext N) C aM).mono ?_;rintro aF dD _ ⟨av,gs,dE,bS⟩;refine (Ns aN (ay.trans (N.trans av)) aM).mono ?_;rintro _ dF _ ⟨ax,gt,dG,cT,rfl,dH,dI,cU,bT⟩;have z0:=ay.size;have cV:∀r,leads cT r->r<w.heap.size:=λr q=>by obtain⟨c,bf⟩:=bT r q;have:=bf.lt;omega
   have cW:=(an.ext av).ext ax;have ad:∀r,A r->r<ak.heap.size:=an.1.2.2.2;have dJ:=av.size;have cr:t.cells.length<=2000000:=by
    have h1:=tj C bi n.sizes.length j;rw[<-Q] at h1;unfold aC.bK at h1;rwa [u7] at h1
   have ct:t.olds.length=0:=by rw[aq.2.1];rfl
   have cw:t.marks.length=0:=by rw[aq.1];rfl
   have dK:g.2.length<=4096:=by have:=be.len;have:=be.small;omega
   have dL:g.1.length<=6:=be.scope.2;refine (Nv (sc:=g.1) cW Q (bS.ls.ext ax) (λr q s=>by have:=ad r s;obtain⟨aS,_⟩:=bP bS q;omega) cU ⟨λs=>by have:=ad _ s;omega,λs=>by have:=ad _ s;omega,λr q s=>by have:=au r s;have:=cV r q;omega⟩ Ω Ω Ω Ω ?_).mono ?_
   .show ((n.funs.take j).map (kv n.sizes)).length<=_;rw[u7,j5];omega
   rintro _ dM _ ⟨rfl,_,aK,R',cX,bU,cY,dN,cZ⟩;rw[aP];have bV:=Ny (i:=n.sizes.length) aM;refine cS _ ⟨aK,R',cX,nW (eT n n.sizes.length j) t g.2,((N.trans av).trans ax).then bU.1 (λr q s=>by have:=au r s;omega),?_,?_,aq.put _,λr q=>?_,λr q=>?_⟩
   .rw[bV];exact cY
   .rw[bV];exact Nu Q
   .rcases bU.2.1 r q with h|h
    .exact au r h
    .have:=N.size;have:=ax.size;omega
   .rcases cZ r q with h|h|h
    .exact bd r h
    .exact .inl (by obtain⟨c,bf⟩:=bT r h;exact bh r _ bf rfl)
    .exact .inr (by have:=N.size;have:=av.size;have:=ax.size;omega)
  .rintro ak cQ ⟨A,R,aL,t,N,an,Q,aq,au,bd⟩;refine cd Ω ?_;have e:eT n n.sizes.length n.funs.length=du n:=by rw[<-bW];exact wC n
   rw[e] at an Q;exact⟨N,ac,af,A,R,t,rfl,⟨B,M,aL,_,an⟩,Q,aq,au,bd⟩
theorem NB (L:Bytes l) (V:l.length<=100000):ai x7 HC [bU l] w λv w'=>v=km l/\Ext w w':=by
 refine aw func148 ?_;refine iB (λac ad J=>Ext w J/\ ∃ (m:Λ) (s:Int),ac=bU m/\ad=Δ s/\Bytes m/\m.length<=100000/\oQ l m s) ?_ ?_
 .rintro _ _ J ⟨M,m,s,rfl,rfl,H,ay,I⟩;rw[nD c3.u,bh,aj];refine⟨λN=>?_,λN=>?_⟩
  .have O:m=[]:=b9 Ω;exact⟨by rw[sq I (by rw[O];rfl)],M⟩
  have O:m≠[]:=λh=>N (by rw[h];rfl);refine pD.range m.length (λi _ _ P Q f=>Ext J f/\ ∃ (n:Int) (a:Bool),P= .int .u64 n/\Q= .bool a/\my n a ((m.take i).foldl eZ 0)/\(m.take i).all gi=true) Ω ⟨Ext.refl _,0,false,rfl,rfl,Jb,rfl⟩ ?_ ?_
  .rintro i ae t3 _ _ f af hi ⟨B,n,a,rfl,rfl,p,C⟩ ag;obtain⟨b,q⟩:=aI (l:=m) hi;have az:=H b (x5 q);rw[nD c3.u];refine bH Ω ?_;refine z6 (λ_ _ P Q j=>Ext J j/\ ∃ (n:Int) (a:Bool),P= .int .u64 n/\Q= .bool a/\my n a ((m.take (i+1)).foldl eZ 0)/\(m.take (i+1)).all gi=true) ?_ ?_
   .rintro aA aB a3 a4 j ah;rw[aP];exact ag _ _ _ _ _ ah
   intro av z;refine aU (λv j=>f=j/\v= .bool (!gi b)) ?_ ?_
   rotate_left
   .intro R e;rw[p0 rfl c3.u H q,aR,aj];refine⟨λh=>e _ _ ⟨rfl,by unfold gi;rw[decide_eq_false Ω];rfl⟩,λh=>?_⟩;rw[p0 rfl c3.u H q,bT];refine e _ _ ⟨rfl,?_⟩;unfold gi;congr 1;by_cases W:57<b
    .rw[decide_eq_true W,decide_eq_false Ω];rfl
    .rw[decide_eq_false W,decide_eq_true Ω];rfl
   rintro _ _ ⟨rfl,rfl⟩;cases S:gi b with
   |false=>
    rw[W5,bS];exact⟨by rw[sq I (AW q S)],M.trans B⟩
   |true=>
    rw[Y4,aY];have ak:=of_decide_eq_true S;have K:=Ja p ak;rw[AU q,AT q,C,S] at z;have am:=p.1;have an:=p.2.1;refine aU (λv j=>f=j/\v= .bool (a||decide (461168601842738790<n))) ?_ ?_
    rotate_left
    .intro R e;rw[bT,aj];refine⟨λh=>e _ _ ⟨rfl,by rw[decide_eq_true h,Bool.or_true]⟩,λh=>e _ _ ⟨rfl,by rw[decide_eq_false h,Bool.or_false]⟩⟩
    rintro _ _ ⟨rfl,rfl⟩;by_cases E:a=true\/461168601842738790<n
    .have r:(a||decide (461168601842738790<n))=true:=by rcases E with h|h<;>simp[h]
     rw[if_pos E,r] at K;rw[r,bG,Y4,aY];exact z _ _ _ _ _ ⟨B,n,true,rfl,rfl,K,rfl⟩
    .have r:(a||decide (461168601842738790<n))=false:=by
      cases a with
      |true=>exact absurd (.inl rfl) E
      |false=>simp;omega
     rw[if_neg E,r] at K;have aC:¬461168601842738790<n:=λh=>E (.inr h);rw[r,bG,W5,bS,hP,p0 rfl c3.u H q,dZ,wrap_u8 Ω Ω,fj cI.u ft.u,wrap_u64 Ω Ω,wrap_u64 Ω Ω,aP,wrap_u64 Ω Ω];exact z _ _ _ _ _ ⟨B,_,false,rfl,rfl,K,rfl⟩
  .rintro ae t3 _ _ f af ⟨B,n,a,rfl,rfl,p,C⟩;rw[o5] at C p;rw[nD c3.u];refine cd Ω ?_;have X:=Jc p;have am:=p.1;have an:=p.2.1;have ao:∀ {x:Int},x=m.foldl eZ 0->0<=x->x<=4611686018427387904->(aa x7 (convert ft al (.int .u64 x)) f λap=>
     aa x7 (aJ .mul al false false (Δ s) ap) f λaq=>(λv w'=>v=km l/\Ext w w') (.tuple #[aq,(Δ 0)]) f):=by
    intro x au N h1;rw[fj ft.u al.u,wrap_i64 Ω Ω,hP];have hw:X2.wrap (s*x)=s*x:=by
     rcases I.1 with rfl|rfl<;>exact wrap_i64 Ω Ω
    rw[hw];refine⟨?_,M.trans B⟩;rw[AZ I (AV O C),au]
   refine aU (λv j=>f=j/\v= .int .u64 (m.foldl eZ 0)) ?_ ?_
   .rintro _ _ ⟨rfl,rfl⟩;have Y:=se (l:=m) (n:=0) C ⟨Int.le_refl _,Φ⟩;exact ao rfl Y.1 Y.2
   intro R e;refine aU (λv j=>f=j/\v= .bool (a||decide (4611686018427387904<n))) ?_ ?_
   .rintro _ _ ⟨rfl,rfl⟩;rw[bY];refine⟨λh=>e _ _ ⟨rfl,?_⟩,λh=>e _ _ ⟨rfl,?_⟩⟩
    .have h':a=true\/4611686018427387904<n:=by simpa using h
     rw[X,if_pos h']
    .have h':¬(a=true\/4611686018427387904<n):=by
      intro G;rcases G with G|G
      .simp[G] at h
      .simp[G] at h
     rw[X,if_neg h']
   .intro aD Z;cases a with
    |true=>rw[bS];exact Z _ _ ⟨rfl,rfl⟩
    |false=>rw[aY,bT];exact Z _ _ ⟨rfl,by rw[Bool.false_or]⟩
 .intro av z;refine aU (λv U=>w=U/\ ∃c:Bool,v= .bool c/\(c=true↔l[0]? =σ 45)) ?_ ?_
  .rintro _ _ ⟨rfl,c,rfl,ab⟩;rw[bY];refine⟨λax=>?_,λr=>?_⟩
   .obtain⟨m,rfl⟩:∃m,l=45::m:=by
     have:=ab.1 ax;cases l with
     |nil=>simp at this
     |cons x m=>exact⟨m,by simp at this;rw[this]⟩
    rw[Ab (y:=1) (i:=1) rfl c3.u Ξ];exact z _ _ _ ⟨Ext.refl _,m,-1,rfl,rfl,λb A=>L b (.tail _ A),by simp at V;omega,AX⟩
   .refine z _ _ _ ⟨Ext.refl _,l,1,rfl,rfl,L,V,AY λb A he=>?_⟩;subst he;have:=ab.2 A;rw[r] at this;cases this
  .intro R e;rw[nD c3.u,bT,aj];refine⟨λh=>?_,λh=>e _ _ ⟨rfl,false,rfl,?_⟩⟩
   .obtain⟨b,A⟩:=aI (l:=l) (i:=0) Ω;rw[p0 (y:=0) (i:=0) rfl c3.u L A,bh];refine e _ _ ⟨rfl,_,rfl,?_⟩;rw[decide_eq_true_eq,A];exact⟨λh=>by rw[h],λh=>c8 h⟩
   .have:l=[]:=b9 Ω;subst this;simp
theorem NC {s:Go.Sem x1} (h:aa x7 s w λu=>u=v) (hk:K v):aa x7 s w K:=by
 obtain⟨u,h1,rfl⟩:=h;exact⟨u,h1,hk⟩
abbrev hc:Type:=Λ×Int
def fH (x:hc):List x1:=[bU x.1,Δ x.2]
theorem wE (x:hc):∀u∈fH x,u.oneCell'=true:=by
 intro u hu;simp[fH] at hu;rcases hu with rfl|rfl<;>rfl
def iX (w:x3) (v:x1) (L:List hc):Prop:=bX w 2 v L.length (L.flatMap fH)
theorem wF {g:Nat} {L:List hc} (h:bg fH 2 cp w g v L):iX w v L:=h.sl
theorem C6 {L:List hc} {a:r9} (h:iX w v L):aa x7 (W7 #[fi] a #[v]) w K=K (Δ (L.length:Int)):=by
 obtain⟨_,_,_,_,_,rfl,_⟩:=h;exact h5 fi.u
theorem ND {cs:List x1} (h:bX w k v n cs) (f:ae S w w') (p:∀r,leadsTo v r->¬S r):bX w' k v n cs:=by
 obtain⟨h1,b,o,base,cap,rfl,q,s,e,x⟩:=h;refine⟨h1,b,o,base,cap,rfl,q,s,e,?_⟩;rcases S4 n with a|a
 .have:cs=[]:=b9 (by rw[h1,a,Nat.zero_mul]);subst this;intro j v y;simp at y
 .have z:=e a;exact jC f (p b ⟨⟨b,o,ν⟩,n,cap,by rw[z],rfl⟩) x
theorem iX.V {L:List hc} (h:iX w v L) (a:ae S w w') (e:∀r,leadsTo v r->¬S r):iX w' v L:=ND h a e
theorem C7 {x:hc} {L:List hc} (h:iX w v (x::L)) (a:∀b o,w.rangeAt b o (fH x)->K (.pointer (σ ⟨b,o,ν⟩))):aa x7 (c7 fi v (Δ 0)) w K:=by
 obtain⟨_,b,o,base,cap,rfl,_,_,e,f⟩:=h;have:=fx (P:=x7) (w:=w) (K:=K) (k:=.i64) (c:=cap) fi.u cp.i (show 0<(x::L).length by simp) e;rw[show ((0:Nat):Int)=0 from rfl] at this;rw[this];refine a _ _ λj u hu=>?_;have p:=(x4.1 hu).1;rw[Nat.zero_mul,Nat.add_zero];exact f j u (by rw[Y6,Z8 p];exact hu)
theorem NE {x:hc} {L:List hc} (h:iX w v (x::L)) (s:∀j,(∀w',iX w' v (x::L)->iX w' j L)->(∀r,leadsTo j r->leadsTo v r)->K j):aa x7 (V5 fi v (σ (Δ 1)) ν ν) w K:=by
 have B:=h;obtain⟨_,b,o,base,cap,rfl,C,_⟩:=h;rw[iG fi.u cp.i (nq 1 1 rfl) kg gg Ξ Ω (o4 _)];refine s _ (λw' y=>?_) λr z=>?_
 .have:=bX.part (l:=1) (h:=(x::L).length) (m:=cap) y Ξ (o4 _) Ω (o4 _);have e:(((x::L).flatMap fH).drop (1*2)).take (((x::L).length-1)*2)=L.flatMap fH:=by
   rw[Y6];have A:(L.flatMap fH).length=L.length*2:=ij (k:=2) λ_ _=>rfl;show (L.flatMap fH).take _=_;rw[o9 (by rw[A,Z0,Nat.add_sub_cancel];exact o4 _)]
  rw[e] at this;exact this
 .obtain⟨a,n,c,f,p⟩:=z;split at f
  .cases f;exact⟨_,_,_,rfl,p⟩
  .cases base with
   |none=>cases f
   |some q=>cases f;exact⟨_,_,_,rfl,p⟩
theorem NF {g:Nat} {L:List hc} (x:y=(n:Int)) (h:bg fH 2 cp w g v L) (z:n<=L.length) (A:∀p,iX w p (L.take n)->(∀r,leadsTo p r->leadsTo v r)->K p):aa x7 (V5 fi v ν (σ (Δ y)) ν) w K:=by
 have B:=wF h;obtain⟨_,b,o,base,cap,rfl,F,_⟩:=h.sl;rw[iG fi.u cp.i kf (nr n y x) gg (X3 _) Ω (o4 _)];refine A _ ?_ λr C=>?_
 .have:=bX.part (l:=0) (h:=n) (m:=cap) B (X3 _) z Ω (o4 _);have e:((L.flatMap fH).drop (0*2)).take ((n-0)*2)=(L.take n).flatMap fH:=by
   rw[Nat.zero_mul,List.drop_zero,Nat.sub_zero,qo (f:=fH) (k:=2) n λ_ _=>rfl]
  rw[e] at this;have E:(L.take n).length=n-0:=by rw[j5];omega
  unfold iX;rw[E];exact this
 .obtain⟨a,n,c,j,s⟩:=C;split at j
  .cases j;exact⟨_,_,_,rfl,s⟩
  .cases base with
   |none=>cases j
   |some q=>cases j;exact⟨_,_,_,rfl,s⟩
def NG (w:x3) (pl:Λ) (v:x1) (w':x3):Prop:=Ext w w'/\ ∃a L,∃bad:Int,v= .tuple #[a,Δ bad]/\iX w' a L/\L.map (·.1)=(lex pl).1/\(0<=bad↔(lex pl).2=false)/\(∀r,leadsTo a r->w.heap.size<=r)/\ ∀r,leadsTo a r-> ∃c,ab w' r cp c
theorem NH {p:x1} (S:aH .u8 w p pl) (aA:Bytes pl) (bb:pl.length<=65536):ai x7 GP [p] w (NG w pl):=by
 refine aw func87 ?_;rw[aX cP.u S];refine pD.range pl.length (λi _ _ A N J=>Ext w J/\ ∃g L,∃ (q:List (Λ)) (B:Λ) (op:Bool),N= .bool op/\bg fH 2 cp J g A L/\L.map (·.1)=(if op then q++[B] else q)/\(op=true->B.length<=i)/\L.length<=i/\ie (pl.drop i) q B op=lex pl/\ ∀r,leadsTo A r->w.heap.size<=r) S.le
  ⟨Ext.refl _,0,[],[],[],false,rfl,bg.nil _ _ _ _ _,rfl,(λh=>by cases h),o4 _,Ju pl,λr C=>(e8 C).elim⟩ ?_ ?_
 rotate_left
 .rintro aC t3 A N J aD ⟨G,g,L,q,B,op,rfl,E,z,_,_,s,H⟩;refine cd Ω ?_;rw[List.drop_length] at s;have s:(if op then q++[B] else q,true)=lex pl:=s;exact⟨G,A,L,-1,rfl,wF E,by rw[z,<-s],by rw[<-s];simp,H,λr C=>by obtain⟨rfl,c,X⟩:=ei E C;exact⟨c,X⟩⟩
 rintro i aC t3 A N J aD hi ⟨G,g,L,q,B,op,rfl,E,z,am,bc,s,H⟩ aE;obtain⟨b,Y⟩:=aI (l:=pl) hi;have be:=aA b (x5 Y);have an:pl.drop i=b::pl.drop (i+1):=by rw[X7 hi,(x4.1 Y).2]
 rw[an] at s;unfold ie at s;refine bH Ω ?_;refine z6 (λ_ _ A N Z=>Ext w Z/\ ∃g L,∃ (q:List (Λ)) (B:Λ) (op:Bool),N= .bool op/\bg fH 2 cp Z g A L/\L.map (·.1)=(if op then q++[B] else q)/\(op=true->B.length<=i+1)/\L.length<=i+1/\ie (pl.drop (i+1)) q B op=lex pl/\ ∀r,leadsTo A r->w.heap.size<=r) ?_ ?_
 .rintro bf bi a3 a4 Z aF;rw[aP];exact aE _ _ _ _ _ aF
 intro av ao;rw[bd cP.u cI.i Ψ (S.ext G) Y];refine aU (λv O=>J=O/\v= .bool (cz b)) ?_ ?_
 rotate_left
 .intro ab y;unfold cz at y;rw[bh,aj];refine⟨λh=>y _ _ ⟨rfl,by rw[decide_eq_true (.inl h)]⟩,λh1=>?_⟩;rw[bh,aj];refine⟨λh=>y _ _ ⟨rfl,by rw[decide_eq_true (.inr (.inl h))]⟩,λU=>?_⟩;rw[bh,aj];refine⟨λh=>y _ _ ⟨rfl,by rw[decide_eq_true (.inr (.inr (.inl h)))]⟩,λaG=>?_⟩;rw[bh];refine y _ _ ⟨rfl,?_⟩;congr 1;rw[V3,decide_eq_true_eq,decide_eq_true_eq];exact⟨λh=>.inr (.inr (.inr h)),λh=>by rcases h with h|h|h|h;exact absurd h h1;exact absurd h U;exact absurd h aG;exact h⟩
 rintro _ _ ⟨rfl,rfl⟩;cases I:cz b with
 |true=>
  rw[bS];rw[if_pos I] at s;exact ao _ _ _ _ _ ⟨G,g,L,_,[],false,rfl,E,z,(λh=>by cases h),Ω,s,H⟩
 |false=>
  rw[aY];rw[if_neg (by rw[I];simp)] at s;refine aU (λv O=>J=O/\v= .bool (!bN b)) ?_ ?_
  rotate_left
  .intro ab y;unfold bN at y;rw[aR,aj];refine⟨λh=>y _ _ ⟨rfl,by rw[decide_eq_false Ω];rfl⟩,λh=>?_⟩;rw[bT];refine y _ _ ⟨rfl,?_⟩;by_cases U:126<b
   .rw[decide_eq_true U,decide_eq_false Ω];rfl
   .rw[decide_eq_false U,decide_eq_true Ω];rfl
  rintro _ _ ⟨rfl,rfl⟩;cases hw:bN b with
  |false=>
   rw[W5,bS];rw[if_neg (by rw[hw];simp)] at s;refine aU (λv O=>J=O/\ ∃V,iX J v V/\V.map (·.1)=q/\(∀r,leadsTo v r->w.heap.size<=r)/\ ∀r,leadsTo v r->leadsTo A r) ?_ ?_
   .rintro v _ ⟨rfl,V,ac,aJ,W,aK⟩;exact⟨G,v,V,(i:Int),rfl,ac,by rw[aJ,<-s],by rw[<-s];simp,W,λr C=>by obtain⟨rfl,c,X⟩:=ei E (aK r C);exact⟨c,X⟩⟩
   .intro ab y;cases op with
    |false=>
     rw[aY];rw[if_neg Ξ] at z;exact y _ _ ⟨rfl,L,wF E,z,H,λ_ h=>h⟩
    |true=>
     rw[bS];rw[if_pos rfl] at z;have ad:L.length=q.length+1:=by have:=congrArg T1 z;simpa using this
     rw[eD fi.u E,dZ,wrap_i64 Ω Ω];refine NF (n:=q.length) Ω E Ω λQ ac W=>y _ _ ⟨rfl,_,ac,?_,λr C=>H r (W r C),W⟩;rw[List.map_take,z,List.take_left]
  |true=>
   rw[Y4,aY];rw[if_pos hw] at s;refine aU (λA ae=>Ext w ae/\ ∃g M,∃x:hc,bg fH 2 cp ae g A (M++[x])/\M.map (·.1)=q/\x.1=(if op then B else[])/\(M++[x]).length<=i+1/\ ∀r,leadsTo A r->w.heap.size<=r) ?_ ?_
   .rintro bj ae ⟨ap,aL,M,x,aM,aN,af,aO,aq⟩;intro ag ah _ _;have R:=aM.ext ah;have au:(M++[x])[M.length]? =σ x:=Ξ
    have bk:(M++[x]).length=M.length+1:=Ξ
    rw[eD fi.u R,dZ,wrap_i64 Ω Ω,de (i:=M.length) Ω fi.u cp.i R Ω,aQ cp.p rfl,aB (o:=M.length*2+0) Ψ (R.range au 0 _ rfl),aP,wrap_i64 Ω Ω];obtain⟨bl,ax⟩:∃Q,aH .u8 ag Q [b]/\aa x7 (V5 cP p (σ (Δ (i:Int))) (σ (Δ ((i:Int)+1))) ν) ag (λv=>v=Q):=by
     have aS:=S.ext (ap.trans ah);have:=sg (P:=x7) (low:=σ (Δ (i:Int))) (high:=σ (Δ ((i:Int)+1))) (K:=λv=>aH .u8 ag v [b]) cP.u cI.i aS (nq i _ rfl) (nr (i+1) ((i:Int)+1) Ω) Ω Ω λQ ay=>by
      have e:((ints .u8 pl).drop (i*1)).take ((i+1-i)*1)=ints .u8 [b]:=by
       simp only[U9,show i+1-i=1 by omega];rw[ints,<-List.map_drop,<-List.map_take,an];rfl
      rw[e] at ay;exact aH.of (n:=i+1-i) ay
     obtain⟨v,aT,aV⟩:=this;exact⟨v,aV,v,aT,rfl⟩
    refine NC ax.2 ?_;have bm:x.1.length<=65536:=by
     rw[af];cases op with
     |true=>rw[if_pos rfl];have:=am rfl;omega
     |false=>simp
    rw[vm cP.u cI.u c3.u ax.1,vl Θ,de (i:=M.length) Ω fi.u cp.i R Ω,aQ cp.p rfl];refine oZ (f:=fH) (j:=0) (a:=x) (a':=(x.1++[b],x.2)) c3.i rfl rfl R au rfl Ω λbn aW bo az=>?_;have e:(M++[x]).set M.length (x.1++[b],x.2)=M++[(x.1++[b],x.2)]:=by
     rw[T2 _ _ (o4 _),U1];rfl
    rw[e] at az;refine ao _ _ _ _ _ ⟨(ap.trans ah).then aW (λr C he=>by have:=aq r he;omega),aL,_,q,x.1++[b],true,rfl,az,by rw[j6,aN];rfl,λ_=>?_,by simp at aO ⊢;omega,?_,aq⟩
    .rw[p8,af];cases op with
     |true=>rw[if_pos rfl];have:=am rfl;simp;omega
     |false=>simp
    .rw[<-s,af];cases op with
     |true=>rfl
     |false=>rfl
   .intro ab y;cases op with
    |true=>
     rw[bG,Y4,aY];rw[if_pos rfl] at z;have ad:L.length=q.length+1:=by have:=congrArg T1 z;simpa using this
     obtain⟨M,x,rfl⟩:∃M x,L=M++[x]:=by
      have:L≠[]:=λh=>by rw[h] at ad;simp at ad
      exact⟨L.dropLast,L.getLast this,(List.dropLast_concat_getLast this).symm⟩
     rw[j6] at z;obtain⟨aZ,ak⟩:=List.append_inj' z Ξ;refine y _ _ ⟨G,g,M,x,E,aZ,?_,Ω,H⟩;rw[if_pos rfl];have ak:[x.1]=[B]:=ak;exact (List.cons.inj ak).1
    |false=>
     rw[bG,W5,bS];rw[if_neg Ξ] at z;rw[dp (cs:=#[bU [],Δ (i:Int)]) Ψ];refine hW (f:=fH) (a:=(([],(i:Int)):hc)) fi.u cp.i Ω rfl rfl λv9 bp bq br al a1=>?_;have a2:=E.ext al;refine ik (f:=fH) (a:=(([],(i:Int)):hc)) fi.u cp.i rfl a2 (by simpa using a1.sl) (wE _) Ω Ω λQ a6 bt a7 a8 ba=>?_;have bu:=G.size;have z9:=al.size;refine y _ _ ⟨(G.trans al).then ba (λr C he=>by have:=H r he;omega),a6,L,_,a7,z,rfl,Θ,λr C=>?_⟩;rcases a8 r C with h|h
     .exact H r h
     .omega
structure wG where
 v:x1
 t:Λ
 c:Int
def nX (y:wG):List x1:=[y.v,Δ y.c]
def kw (w:x3) (g:Nat) (v:x1) (l:List (Λ×Int)):Prop:=∃L:List wG,bg nX 2 cb w g v L/\(∀y∈L,∃gy,ap .i64 al w gy y.v y.t)/\L.map (λy=>(y.t,y.c))=l
structure iY where
 aF:x1
 szv:x1
 o:Int
 b7:x1
def eU (h:iY):List x1:=[h.aF,h.szv,Δ h.o,h.b7]
def gP (w:x3) (h:iY) (x:cv):Prop:=(∃g,ap .i64 al w g h.aF x.scope)/\(∃g,ap .i64 al w g h.szv x.sizes)/\h.o=x.other/\ ∃g,kw w g h.b7 x.lines
def hd (w:x3) (r:Nat):Prop:=∃e c,ab w r e c/\e≠al/\e≠cb
theorem eF {g:Nat} (h:ap .i64 al w g v l) (f:ae S w w') (j:∀r,S r->hd w r\/w.heap.size<=r):ap .i64 al w' g v l:=bn h f λr a I=>by
 rcases j r I with⟨e,c,p,q,_⟩|s
 .exact cc h p (λhe=>q he.symm) a rfl
 .obtain⟨x,y⟩:=bP h a;omega
theorem wH {α:Type} {f:α->List x1} {g:Nat} {L:List α} (h:bg f k e w g v L) (p:ae S w w') (q:∀r,S r->(∃a c,ab w r a c/\a≠e)\/w.heap.size<=r):bg f k e w' g v L:=h.V p λr j I=>by
 rcases q r I with⟨a,c,s,x⟩|y
 .exact cR h s (λhe=>x he.symm) j
 .obtain⟨z,A⟩:=h.leads j;omega
theorem kw.dM {g:Nat} {l:List (Λ×Int)} (h:kw w g v l) (a:ae S w w') (f:∀r,S r->hd w r\/w.heap.size<=r):kw w' g v l:=by
 obtain⟨L,h1,j,p⟩:=h;refine⟨L,wH h1 a λr q=>(f r q).imp (λ⟨e,c,s,_,x⟩=>⟨e,c,s,x⟩) id,λy z=>?_,p⟩;obtain⟨gy,hm⟩:=j y z;exact⟨gy,eF hm a f⟩
theorem gP.dM {h:iY} {x:cv} (az:gP w h x) (a:ae S w w') (e:∀r,S r->hd w r\/w.heap.size<=r):gP w' h x:=by
 obtain⟨⟨g1,h1⟩,⟨f,j⟩,p,q,s⟩:=az;exact⟨⟨g1,eF h1 a e⟩,⟨f,eF j a e⟩,p,q,s.dM a e⟩
theorem gP.ext {h:iY} {x:cv} (az:gP w h x) (a:Ext w w'):gP w' h x:=az.dM (a.V λ_=>False) λ_ h=>h.elim
theorem gP.one {h:iY} {x:cv} (az:gP w h x):∀u∈eU h,u.oneCell'=true:=by
 obtain⟨⟨g1,h1⟩,⟨f,a⟩,j,p,L,e,_⟩:=az;intro u hu;simp[eU] at hu;rcases hu with rfl|rfl|rfl|rfl
 .exact h1.ls.cells.2
 .exact a.ls.cells.2
 .rfl
 .exact (eO e.sl).2
def l4 (w:x3) (a:x1) (f:List hc) (gs:Nat) (sv:x1) (L:List iY) (e:List cv):Prop:=(iX w a f/\ ∀r,leadsTo a r-> ∃c,ab w r cp c)/\bg eU 4 a1 w gs sv L/\e.length=L.length/\ ∀ (i:Nat) h x,L[i]? =σ h->e[i]? =σ x->gP w h x
theorem l4.dM {p:x1} {y:List hc} {gs:Nat} {L:List iY} {z:List cv} (h:l4 w p y gs sv L z) (j:ae S w w') (q:∀r,S r->(∃e c,ab w r e c/\e≠al/\e≠cb/\e≠cp/\¬leadsTo sv r)\/w.heap.size<=r):l4 w' p y gs sv L z:=by
 obtain⟨⟨h1,A⟩,B,E,F⟩:=h;have hw:∀r,leadsTo p r->¬S r:=λr a I=>by
  obtain⟨c,f⟩:=A r a;rcases q r I with⟨e,G,C,_,_,s,_⟩|H
  .exact s (ey C f)
  .have:=f.lt;omega
 refine⟨⟨h1.V j hw,λr a=>?_⟩,B.V j λr a I=>?_,E,λi az x hi J=>(F i az x hi J).dM j λr a=>(q r a).imp (λ⟨e,c,f,K,M,_⟩=>⟨e,c,f,K,M⟩) id⟩
 .obtain⟨c,f⟩:=A r a;exact⟨c,f.V j (hw r a)⟩
 .rcases q r I with⟨e,G,C,_,_,_,s⟩|H
  .exact s a
  .obtain⟨N,O⟩:=B.leads a;omega
def gq (a:x1) (e f bad h big j told:Int) (sv:x1):List x1:=[a,Δ e,Δ f,Δ bad,Δ h,Δ big,Δ j,Δ told,sv]
def NI (N:Nat) (so:Option aD) (a:List hc) (e bad big told:Int) (L:List iY) (f:List cv):Prop:=match so with
 |some s=>bad=0/\e≠0/\(big≠0↔s.big=true)/\(s.big=false->told=s.told)/\True/\a.map (·.1)=s.toks/\(∀t∈s.toks,Bytes t/\t.length<=65536)/\f.map (λx=>(x.sizes,x.lines))=s.shared/\L.length+a.length<=100000
 |none=>bad≠0/\L.length<=N
def bM (w:x3) (g B:Nat) (H:ag) (N:Nat) (so:Option aD):Prop:=100000<=N/\ ∃w0 a e gs sv L f,∃ (j h bad p big q told:Int),w0.heap.size=B/\ae (λr=>r=g) w0 w/\(∃c,ab w0 g bA c)/\ab w g bA (gq a j h bad p big q told sv)/\l4 w0 a e gs sv L f/\(∀r,leadsTo sv r->H r)/\NI N so e h bad big told L f
theorem l4.g {g:Nat} {e:x1} {f:List hc} {gs:Nat} {L:List iY} {j:List cv} (h:l4 w e f gs sv L j) (q:ae (λr=>r=g) w w') (s:∃c,ab w g bA c):l4 w' e f gs sv L j:=
 h.dM q λr a=>.inl (by
  have a:r=g:=a;subst a;obtain⟨c,p⟩:=s;exact⟨_,c,p,Φ,Φ,Φ,λx=>cR h.2.1 p Φ x⟩)
theorem bM.new {g:Nat} {H:ag} {so:Option aD} (h:bM w g B H N so) (a:ae S w w') (e:∀r,S r->B<=r):bM w' g B H N so:=by
 obtain⟨s,w0,x,y,gs,sv,L,z,A,C,bad,E,big,F,told,h1,f,j,G,J,K,M⟩:=h;have p:g<w0.heap.size:=by obtain⟨c,O⟩:=j;exact O.lt
 exact⟨s,w0,x,y,gs,sv,L,z,A,C,bad,E,big,F,told,h1,⟨Y5 f.size a.size,λr o q I p=>a.aW r o (f.aW r o q I p) I λP=>by
  have:=e r P;have:=(j0.1 q).1;omega⟩,j,G.V a λI=>by have:=e g I;omega,J,K,M⟩
theorem bM.ext {g:Nat} {H:ag} {so:Option aD} (h:bM w g B H N so) (a:Ext w w'):bM w' g B H N so:=h.new (a.V λ_=>False) λ_ h=>h.elim
theorem bM.base {g:Nat} {H:ag} {so:Option aD} (h:bM w g B H N so):bM w g w.heap.size H N so:=by
 obtain⟨e,w0,f,j,gs,sv,L,p,q,r,bad,s,big,x,told,h1,y,z,a,A,C,E⟩:=h;exact⟨e,w,f,j,gs,sv,L,p,q,r,bad,s,big,x,told,rfl,ae.refl _ _,⟨_,a⟩,a,A.g y z,C,E⟩
theorem bM.dM {g:Nat} {H:ag} {so:Option aD} (h:bM w g B H N so) (j:ae S w w') (p:∀r,S r->(∃e c,ab w r e c/\e≠al/\e≠cb/\e≠cp/\e≠bA/\¬H r)\/w.heap.size<=r):bM w' g w'.heap.size H N so:=by
 obtain⟨z,w0,q,s,gs,sv,L,x,A,C,bad,E,big,F,told,h1,G,J,f,K,y,M⟩:=h.base;have O:l4 w q s gs sv L x:=K.g G J;have a:=f.V j λI=>by
  rcases p g I with⟨e,c,a,_,_,_,P,_⟩|Z
  .exact P (ey a f)
  .have:=f.lt;omega
 refine⟨z,w',q,s,gs,sv,L,x,A,C,bad,E,big,F,told,rfl,ae.refl _ _,⟨_,a⟩,a,O.dM j λr Q=>(p r Q).imp (λ⟨e,c,a,R,U,W,_,X⟩=>⟨e,c,a,R,U,W,λY=>X (y r Y)⟩) id,y,M⟩
theorem bM.lt {g:Nat} {H:ag} {so:Option aD} (h:bM w g B H N so):g<B/\B<=w.heap.size:=by
 obtain⟨f,w0,j,p,gs,sv,L,q,r,s,bad,x,big,y,told,h1,a,⟨c,e⟩,_⟩:=h;have:=e.lt;have:=a.size;omega
theorem hY {g:Nat} {H:ag} {so:Option aD} (h:bM w g B H N so):∃a,∃ (e f bad j big p told:Int),∃sv,ab w g bA (gq a e f bad j big p told sv)/\(so.isSome=true↔bad=0):=by
 obtain⟨x,w0,a,y,gs,sv,L,z,e,f,bad,j,big,p,told,h1,A,C,r,E,F,q⟩:=h;refine⟨a,e,f,bad,j,big,p,told,sv,r,?_⟩;cases so with
 |none=>exact⟨(λh=>by cases h),λh=>absurd h q.1⟩
 |some s=>exact⟨λ_=>q.1,λ_=>rfl⟩
theorem lf {g:Nat} {H:ag} {so:Option aD} (h:bM w g B H N so):aa x7 (bO (Γ g)) w (λa=>aa x7 (u6 bA a 3) w λt45=>aa x7 (u5 ah t45) w λt46=>aa x7 (aJ .eql ah false true t46 (Δ 0)) w K)=K (.bool so.isSome):=by
 obtain⟨f,j,q,bad,r,big,s,told,sv,e,hi⟩:=hY h;rw[aO bA.p 3 e rfl,bh];congr 2;rw[V3,decide_eq_true_eq];exact hi.symm
theorem qO {g:Nat} {H:ag} {so:Option aD} (h:bM w g B H N so):aa x7 (bO (Γ g)) w (λf=>aa x7 (u6 bA f 3) w λt45=>aa x7 (u5 ah t45) w λt46=>aa x7 (aJ .neq ah false true t46 (Δ 0)) w K)=K (.bool (!so.isSome)):=by
 obtain⟨q,r,s,bad,x,big,y,told,sv,j,hi⟩:=hY h;rw[aO bA.p 3 j rfl,bL];congr 2;cases e:so.isSome with
 |true=>have a:=hi.1 e;simp[a]
 |false=>
  have a:bad≠0:=λa=>by rw[hi.2 a] at e;cases e
  simp[a]
def ph (w:x3) (g B:Nat) (H:ag) (N:Nat) (so:Option aD) (w':x3):Prop:=ae (λr=>r=g) w w'/\bM w' g B H N so
theorem nY {g:Nat} {H:ag} {so:Option aD} {e at_:Int} (h:bM w g B H N so) (he:e≠0):ai x7 nk [Γ g,Δ e,Δ at_] w λ_ w'=>ph w g B H N ν w':=by
 refine aw func92 ?_;rw[lf h];cases so with
 |none=>rw[S7,aY];exact⟨ae.refl _ _,h⟩
 |some s=>
  rw[S6,bS];obtain⟨y,w0,f,z,gs,sv,L,A,j,q,bad,R,big,r,told,h1,C,E,G,I,K,M⟩:=h;rw[bZ,aQ bA.p rfl];refine bo (g:=g) (o:=3) ah.i rfl rfl G (by simp[gq]) λJ O S P=>?_;rw[bZ,aQ bA.p rfl];refine bo (g:=g) (o:=4) ah.i rfl rfl P (by simp[gq]) λU Q V a=>?_;have a:ab U g bA (gq f j q e at_ big r told sv):=a;have x:=O.trans Q;obtain⟨_,_,_,_,_,_,_,_,W⟩:=M;exact⟨x,y,w0,f,z,gs,sv,L,A,j,q,e,at_,big,r,told,h1,C.trans x,E,a,I,K,he,Ω⟩
theorem mL {g:Nat} {H:ag} {so:Option aD} {b:Bool} {at_:Int} (h:bM w g B H N so):ai x7 rO [Γ g,.bool b,Δ at_] w λ_ w'=>ph w g B H N (so.map (bb b)) w':=by
 refine aw func89 ?_;obtain⟨I,w0,e,K,gs,sv,L,M,f,j,bad,q,big,X,told,h1,O,P,r,Q,R,x⟩:=id h;refine aU (λv J=>w=J/\v= .bool (b&&decide (big=0)&&so.isSome)) ?_ ?_
 .rintro _ _ ⟨rfl,rfl⟩;rw[bY];refine⟨λS=>?_,λY=>⟨ae.refl _ _,I,w0,e,K,gs,sv,L,M,f,j,bad,q,big,X,told,h1,O,P,r,Q,R,?_⟩⟩
  .rw[U4,U4] at S;obtain⟨⟨Z,ak⟩,aa⟩:=S;rw[bZ,aQ bA.p rfl];refine bo (g:=g) (o:=5) ah.i rfl rfl r (by simp[gq]) λJ ac al ad=>?_;rw[bZ,aQ bA.p rfl];refine bo (g:=g) (o:=6) ah.i rfl rfl ad (by simp[gq]) λU af am y=>?_;have y:ab U g bA (gq e f j bad q 5 at_ told sv):=y;have V:=ac.trans af;refine⟨V,I,w0,e,K,gs,sv,L,M,f,j,bad,q,5,at_,told,h1,O.trans V,P,y,Q,R,?_⟩;cases so with
   |none=>cases aa
   |some s=>
    obtain⟨z,A,W,C,E⟩:=x;exact⟨z,A,⟨λ_=>by show (s.big||b)=true;rw[Z,Bool.or_true],λ_=>Ω⟩,λaz=>C (S2.1 az).1,E⟩
  .cases so with
   |none=>exact x
   |some s=>
    obtain⟨z,A,W,C,E⟩:=x;refine⟨z,A,?_,λaz=>C (S2.1 az).1,E⟩;show big≠0↔(s.big||b)=true;cases b with
    |false=>rw[Bool.or_false];exact W
    |true=>
     have a:big≠0:=by simpa using Y
     simp[a]
 .intro av G;cases b with
  |false=>rw[aY];exact G _ _ ⟨rfl,Ξ⟩
  |true=>
   rw[bS,aO bA.p 5 r rfl,bh,aj];refine⟨λa=>?_,λa=>G _ _ ⟨rfl,by rw[decide_eq_false a];simp⟩⟩;rw[lf h];exact G _ _ ⟨rfl,by rw[decide_eq_true a];simp⟩
def jq (so:Option aD):Option (Λ×aD):=so.bind dS
theorem C8 {g:Nat} {H:ag} {so:Option aD} (h:bM w g B H N so):ai x7 GQ [Γ g] w λv w'=>ph w g B H N ((jq so).map (·.2)) w'/\ ∃ (t:Λ) (n:Int),v= .agg #[bU t,Δ n]/\Bytes t/\t.length<=65536/\ ∀q,jq so=σ q->t=q.1:=by
 have aG:=h.lt;refine aw func88 ?_;refine bB cp.i λa J bl y z=>?_;have h1:=h.ext y;have zero:∀ {f:x3},ph J g B H N ν f->ab f a cp [.string ⟨#[]⟩,Δ 0]->jq so=ν->(aa x7 (Instr.build cp #[]) f λt9=>
   ax x7 (o8 cp (Γ a) t9) f λ(_:Unit) U=>
   aa x7 (do loadVar cp (<-asAddr (Γ a))) U λaH=>(λv w'=>ph w g B H N ((jq so).map (·.2)) w'/\ ∃ (t:Λ) (n:Int),v= .agg #[bU t,Δ n]/\Bytes t/\t.length<=65536/\ ∀q,jq so=σ q->t=q.1) aH U):=by
  intro f j I Q;rw[dp (cs:=#[.string ⟨#[]⟩,Δ 0]) Ψ];refine b3 (vs:=[.string ⟨#[]⟩,Δ 0]) cp.i rfl rfl (by intro v Z;simp at Z;rcases Z with rfl|rfl<;>rfl) I λaI ac bm aJ=>?_;rw[fz cp.p cp.i rfl aJ.range,Q];have aK:=y.size;have bn:=aG;refine⟨⟨hr ((y.V _).trans j.1) ac λr e he=>?_,j.2.new ac λr e=>?_⟩,[],0,rfl,(λb aL=>by cases aL),Ξ,λq R=>by cases R⟩
  .have he:r=a:=he;omega
  .have e:r=a:=e;omega
 rw[qO h1];cases so with
 |none=>
  rw[S7,W5,bS];exact zero ⟨ae.refl _ _,h1⟩ z rfl
 |some s=>
 rw[S6,Y4,aY];obtain⟨aM,w0,bp,S,gs,sv,L,ad,af,ah,bad,ak,big,al,told,aN,am,an,A,K,aP,aR⟩:=id h1;have aS:=K.g am an;obtain⟨⟨M,bq⟩,_⟩:=id aS;obtain⟨aT,ao,aU,aV,aW,ap,aq,aX,aZ⟩:=id aR;rw[aO bA.p 0 A rfl,C6 M,bh,aj];refine⟨λau=>?_,λau=>?_⟩
 .have a1:S=[]:=b9 Ω;have C:s.toks=[]:=by rw[<-ap,a1];rfl
  have Q:jq (σ s)=ν:=by show dS s=ν;unfold dS;rw[C]
  intro f O _ _;have I:=A.ext O;rw[aO bA.p 2 I rfl,aO bA.p 1 I rfl];refine (nY (h1.ext O) ao).mono ?_;rintro _ aI _ j;have a2:=z.lt;exact zero ⟨(O.V _).trans j.1,j.2⟩ ((z.ext O).V j.1 λhe=>by have he:a=g:=he;omega) Q
 .obtain⟨x,E,rfl⟩:∃x l,S=x::l:=by
   cases S with
   |nil=>exact absurd rfl au
   |cons x l=>exact⟨x,l,rfl⟩
  have C:s.toks=x.1::E.map (·.1):=by rw[<-ap];rfl
  have a6:jq (σ s)=σ (x.1,{s with toks:=E.map (·.1)}):=by show dS s=_;unfold dS;rw[C]
  have av:=aq x.1 (by rw[C];exact .head _);rw[aO bA.p 0 A rfl];refine C7 M λb o a7=>?_;rw[bD cp.p cp.i rfl a7];refine bB cp.i λay br bt a8 ba=>?_;refine b3 (vs:=fH x) cp.i rfl rfl (wE x) ba λbb bc bu az=>?_;have P:Ext J bb:=a8.put bc Ω;have aA:=A.ext P;rw[aO bA.p 0 aA rfl];refine NE (M.V (P.V λ_=>False) λ_ _ h=>h) λW aB bd=>?_;have aC:=aB J M;rw[bZ,aQ bA.p rfl];refine bo (g:=g) (o:=0) fi.i (eO aC).1 (eO aC).2 aA (by simp[gq]) λG X bw Y=>?_;have Y:ab G g bA (gq W af ah bad ak big al told sv):=Y;have a2:=A.lt;have bx:=az.lt;have bz:=z.lt;have aK:=y.size;have be:ab G ay cp (fH x):=az.V X λhe=>by have he:ay=g:=he;omega
  rw[bD cp.p cp.i rfl be.range];have bf:ab G a cp [.string ⟨#[]⟩,Δ 0]:=(ab.ext z P).V X λhe=>by have he:a=g:=he;omega
  refine b3 (vs:=fH x) cp.i rfl rfl (wE x) bf λbC aE bE bg=>?_;rw[fz cp.p cp.i rfl bg.range];have aF:ae (λr=>r=g) J G:=(P.V _).trans X;rw[a6];refine⟨⟨hr ((y.V _).trans aF) aE λr e he=>?_,?_⟩,x.1,x.2,rfl,av.1,av.2,λq R=>by cases R;rfl⟩
  .have he:r=a:=he;omega
  .have bi:l4 w0 W E gs sv L ad:=⟨⟨aB w0 K.1.1,λr e=>K.1.2 r (bd r e)⟩,K.2⟩;have bj:bM G g B H N (σ {s with toks:=E.map (·.1)}):=⟨aM,w0,W,E,gs,sv,L,ad,af,ah,bad,ak,big,al,told,aN,am.trans aF,an,Y,bi,aP,aT,ao,aU,aV,aW,rfl,λt bk=>aq t (by rw[C];exact .tail _ bk),aX,by simp at aZ;omega⟩;refine bj.new aE λr e=>?_;have e:r=a:=e;omega
theorem NJ {lo hi:Int} {so:Option aD}:a8 lo hi so=match jq so with
  |none=>ν
  |some (w,s)=>match gj w with
   |none=>ν
   |some n=>if lo<=n/\n<=hi then σ (n,s) else ν:=by
 cases so with
 |none=>rfl
 |some s=>rfl
theorem kx {g:Nat} {H:ag} {so:Option aD} {lo hi:Int} (h:bM w g B H N so):ai x7 lJ [Γ g,Δ lo,Δ hi] w λv w'=>ph w g B H N ((a8 lo hi so).map (·.2)) w'/\ ∃n at_:Int,v= .tuple #[Δ n,Δ at_]/\(∀q,a8 lo hi so=σ q->n=q.1)/\(a8 lo hi so=ν->n=0):=by
 have aB:=h.lt;refine aw func90 ?_;refine (C8 h).mono ?_;rintro _ J _ ⟨⟨O,h1⟩,t,at_,rfl,Z,aC,P⟩;have aE:=h1.lt;refine bB cp.i λaa U aF ab ac=>?_;refine b3 (vs:=[bU t,Δ at_]) cp.i rfl rfl (by intro v Q;simp at Q;rcases Q with rfl|rfl<;>rfl) ac λad af aG R=>?_;have S:Ext J ad:=ab.put af Ω;have ah:=h1.ext S;rw[aA cp.p 0 R rfl];refine (NB Z Ω).mono ?_;rintro _ C _ ⟨rfl,E⟩;have G:=ah.ext E;have W:=R.ext E;have ak:=S.trans E;have aH:=O.size;obtain⟨n,e,al,I,am⟩:∃n e:Int,km t= .tuple #[Δ n,Δ e]/\(∀m,gj t=σ m->n=m/\e=0)/\(gj t=ν->e≠0):=by
  unfold km;cases gj t with
  |none=>exact⟨0,4,rfl,(λm hm=>by cases hm),λ_=>Ω⟩
  |some m=>exact⟨m,0,rfl,(λm hm=>by cases hm;exact⟨rfl,rfl⟩),λh=>by cases h⟩
 rw[al,bx,bz];have a:=NJ (lo:=lo) (hi:=hi) (so:=so);have X:ae (λr=>r=g) w C:=O.trans (ak.V _);refine dm (λx=>ae (λr=>r=g) C x/\bM x g B H N ((a8 lo hi so).map (·.2))) ?_ ?_
 .rintro x ⟨y,s⟩;rw[qO s];cases z:a8 lo hi so with
  |none=>
   rw[z] at s;rw[Option.map_none,S7,W5,bS];exact⟨⟨X.trans y,s⟩,0,0,rfl,(λq z=>by cases z),λ_=>rfl⟩
  |some q=>
   rw[z] at s a;rw[Z4,S6,Y4,aY];intro aI K _ _;have an:=(W.V y λhe=>by have he:aa=g:=he;omega).ext K;rw[aA cp.p 1 an rfl];refine⟨⟨(X.trans y).trans (K.V _),s.ext K⟩,n,at_,rfl,λaJ ao=>?_,λh=>by cases h⟩;cases ao;cases j:jq so with
   |none=>rw[j] at a;cases a
   |some p=>
    obtain⟨br,L⟩:=p;have M:=P (br,L) j;subst M;rw[j] at a;simp only at a;cases f:gj t with
    |none=>rw[f] at a;cases a
    |some m=>
     rw[f] at a;simp only at a;split at a
     .cases a;exact (I m f).1
     .cases a
 .intro av Y;refine aU (λv x=>C=x/\ ∃c:Bool,v= .bool c/\(c=true->a8 lo hi so=ν)/\(c=false->(a8 lo hi so).map (·.2)=(jq so).map (·.2))) ?_ ?_
  .rintro _ _ ⟨rfl,c,rfl,ap,aq⟩;rw[bY];refine⟨λh=>?_,λh=>Y _ ⟨ae.refl _ _,by rw[aq h];exact G⟩⟩;rw[aA cp.p 1 W rfl];refine (nY G Ω).mono ?_;rintro _ x _ ⟨y,s⟩;exact Y _ ⟨y,by rw[ap h];exact s⟩
  .intro aK A;rw[lf G];cases j:jq so with
   |none=>
    rw[j] at a;simp only at a;rw[Option.map_none,S7,aY];exact A _ _ ⟨rfl,false,rfl,(λh=>by cases h),λ_=>by rw[a,j];rfl⟩
   |some p=>
    obtain⟨br,L⟩:=p;have M:=P (br,L) j;subst M;rw[j] at a;simp only at a;rw[Z4,S6,bS,bL,aj];refine⟨λhe=>?_,λhe=>?_⟩
    .refine A _ _ ⟨rfl,true,rfl,λ_=>?_,λh=>by cases h⟩;cases f:gj t with
     |none=>rw[a,f]
     |some m=>exact absurd (I m f).2 he
    .have au:e=0:=Y3.1 he;cases f:gj t with
     |none=>exact absurd au (am f)
     |some m=>
      rw[f] at a;simp only at a;have ax:=(I m f).1;subst ax;rw[aR,aj];refine⟨λay=>A _ _ ⟨rfl,true,rfl,λ_=>by rw[a,if_neg Ω],λh=>by cases h⟩,λay=>?_⟩;rw[bT];refine A _ _ ⟨rfl,_,rfl,λaz=>?_,λaz=>?_⟩
      .rw[a,if_neg (by have:=of_decide_eq_true az;omega)]
      .rw[a,if_pos (by have:=of_decide_eq_false az;omega),j];rfl
theorem wI {be bv:x1} {a b:Λ} (e:aH .i64 w be a) (s:aH .i64 w bv b):ai x7 rQ [be,bv] w λv w'=>v= .bool (decide (a=b))/\Ext w w':=by
 refine aw func149 ?_;rw[aX ao.u e,aX ao.u s,bL,aj];refine⟨λh=>⟨by rw[decide_eq_false];intro he;rw[he] at h;exact h rfl,Ext.refl _⟩,λh=>?_⟩;have z:a.length=b.length:=by have:=Y3.1 h;omega
 rw[aX ao.u e];refine b1.range a.length (λi _ J=>Ext w J/\a.take i=b.take i) e.le ⟨Ext.refl _,rfl⟩ ?_ ?_
 .rintro i _ J k hi ⟨q,f⟩ hk;obtain⟨x,j⟩:=aI (l:=a) hi;obtain⟨y,r⟩:=aI (l:=b) (i:=i) Ω;refine bH Ω ?_;intro U A _ _;have p:=q.trans A;rw[bd ao.u al.i Ψ (e.ext p) j,bd ao.u al.i Ψ (s.ext p) r,bL,aj];refine⟨λB=>⟨by rw[decide_eq_false];intro he;rw[he,r] at j;exact B (c8 j).symm,p⟩,λhe=>?_⟩;rw[aP];refine hk _ _ ⟨p,?_⟩;rw[u9,u9,f,j,r,Y3.1 he]
 .rintro _ J k ⟨q,f⟩;rw[aR,aj];refine⟨λh=>Ω,λ_=>⟨?_,q⟩⟩;rw[o5,z,o5] at f;rw[decide_eq_true f]
def hf (w:x3) (B a:Nat) (x:cv):Prop:=∃aF szv b7 g1 e f,ab w a a1 [aF,szv,Δ x.other,b7]/\ap .i64 al w g1 aF x.scope/\ap .i64 al w e szv x.sizes/\kw w f b7 x.lines/\(∀r,leads aF r\/leads szv r->B<=r)/\(∀r,leads aF r->¬leads szv r)/\B<=a
def C9 (w:x3) (r:Nat):Prop:=(∃e c,ab w r e c/\e≠al/\e≠cb/\e≠a1)\/w.heap.size<=r
theorem hf.dM {f:Nat} {x:cv} (h:hf w B f x) (a:ae S w w') (q:∀r,S r->C9 w r):hf w' B f x:=by
 obtain⟨aF,szv,b7,g1,s,y,h1,z,A,C,E,F,G⟩:=h;have j:∀r,S r->hd w r\/w.heap.size<=r:=λr H=>(q r H).imp (λ⟨e,c,p,J,K,_⟩=>⟨e,c,p,J,K⟩) id;refine⟨aF,szv,b7,g1,s,y,h1.V a λI=>?_,eF z a j,eF A a j,C.dM a j,E,F,G⟩;rcases q f I with⟨e,c,p,_,_,L⟩|M
 .exact L (ey p h1)
 .have:=h1.lt;omega
theorem hf.ext {x:cv} (h:hf w B a x) (e:Ext w w'):hf w' B a x:=h.dM (e.V λ_=>False) λ_ h=>h.elim
theorem ky {g:Nat} {H:ag} {so:Option aD} (h:bM w g B H N so):∀r,r=g->C9 w r:=λr a=>by
 subst a;obtain⟨f,j,p,bad,q,big,s,told,sv,e,_⟩:=hY h;exact .inl ⟨_,_,e,Φ,Φ,Φ⟩
def gQ (g B:Nat):ag:=λr=>r=g\/B<=r
theorem NK {n:Int} {acc:Λ} {s:aD}:cQ (λacc s=>match bf 0 (n-1) s with
 |none=>ν
 |some (v,s)=>if v∈acc then ν else σ (v,s)) (k+1) acc s=match bf 0 (n-1) s with
  |none=>ν
  |some (v,s')=>if v∈acc then ν else cQ (λacc s=>match bf 0 (n-1) s with
 |none=>ν
 |some (v,s)=>if v∈acc then ν else σ (v,s)) k (acc++[v]) s':=by
 rw[cQ];cases bf 0 (n-1) s with
 |none=>rfl
 |some q=>
  obtain⟨v,s'⟩:=q;simp only;by_cases a:v∈acc
  .rw[if_pos a,if_pos a]
  .rw[if_neg a,if_neg a]
def Da (n:Int) (k:Nat) (acc:Λ) (s:aD):Option (Λ×aD):=cQ (λacc s=>match bf 0 (n-1) s with
 |none=>ν
 |some (v,s)=>if v∈acc then ν else σ (v,s)) k acc s
theorem Db {g f ar:Nat} {H:ag} {s:aD} {so:Option aD} {ad:x1} {aO aS:x3->Prop} (az:bM w g B H N so) (b3:so=σ s\/(so=ν/\ar=0)) (b4:hf w B f ⟨[],[],0,[]⟩) (b5:∀c,ab w f a1 c->c[3]? =σ (.slice ν 0 0)) (bF:ap .i64 al w gz ad all) (b6:∀r,leads ad r->r<B) (dn:all.length<=100001) (dp:ar<=4611686018427387904) (aT:so=σ s->s.toks.length<=100000)
  (aw:so=σ s-> ∀w' x,ae (gQ g B) w w'->e0 all.length ar s=ν->bM w' g B H N ν->hf w' B f x->aO w')
  (b9:so=ν->aS w)
  (aV:so=σ s-> ∀w' scope s',ae (gQ g B) w w'->e0 all.length ar s=σ (scope,s')->bM w' g B H N (σ s')->hf w' B f ⟨scope,scope.map λv=>all.getD v.toNat 0,0,[]⟩->(∀c,ab w' f a1 c->c[3]? =σ (.slice ν 0 0))->aS w'):
  ch (Δ 0) w λi z k=>
   cm (α:=x1->x3->Prop) (λ(ca:x1) (O:x3)=>
    Split ca (aa x7 (W7 #[ao] ah #[ad]) O λt53=>
   aa x7 (aJ .sub al false true t53 (Δ 1)) O λcb=>
   ai x7 lJ [Γ g,(Δ 0),cb] O λt55 A=>
   aa x7 (Z7 t55 0) A λaW=>
   aa x7 (Z7 t55 1) A λcd=>
   aa x7 (bO (Γ g)) A λce=>
   aa x7 (u6 bA ce 3) A λcg=>
   aa x7 (u5 ah cg) A λcj=>
   aa x7 (aJ .neq ah false true cj (Δ 0)) A λck=>
   Split ck (aO A)
    (aa x7 (u6 a1 (Γ f) 0) A λcl=>
   aa x7 (u5 ao cl) A λbG=>
   aa x7 (W7 #[ao] ah #[bG]) A λt66=>
   ch (Δ 0) A λaZ E cn=>
    aa x7 (aJ .lss ah false false aZ t66) E λcp=>
    Split cp (aa x7 (c7 ao bG aZ) E λcq=>
    aa x7 (u5 al cq) E λt70=>
    aa x7 (aJ .eql al false false t70 aW) E λcr=>
    Split cr (ai x7 nk [Γ g,(Δ 4),cd] E λt76 a2=>aO a2)
     (aa x7 (aJ .add ah false true aZ (Δ 1)) E λct=>
    cn ct E))
     (aa x7 (u6 a1 (Γ f) 0) E λcu=>
   aa x7 (u5 ao cu) E λcw=>
   ax x7 (Y1 ao 1 #[(0,aW)]) E λcz af=>
   ax x7 (b8 #[ao,ao] ao #[cw,cz]) af λcA a6=>
   aa x7 (u6 a1 (Γ f) 0) a6 λcB=>
   ax x7 (o8 ao cB cA) a6 λ(_:Unit) R=>
   eo R λU=>
   aa x7 (u6 a1 (Γ f) 1) U λa7=>
   aa x7 (u5 ao a7) U λbI=>
   aa x7 (c7 ao ad aW) U λcC=>
   aa x7 (u5 al cC) U λcD=>
   ax x7 (Y1 ao 1 #[(0,cD)]) U λcE ac=>
    (Ext U ac\/ci x7 (u5 ao a7) bI ac/\ci x7 (u6 a1 (Γ f) 1) a7 ac/\True)/\
   ax x7 (b8 #[ao,ao] ao #[bI,cE]) ac λcF ba=>
    aa x7 (u6 a1 (Γ f) 1) ba λcG=>
    ax x7 (o8 ao cG cF) ba λ(_:Unit) W=>
     aa x7 (aJ .add al false true i (Δ 1)) W λcH=>
   k cH W)))
     (aS O)) λbJ=>
   aa x7 (aJ .lss al false false i (Δ (ar:Int))) z λcI=>
   Split cI (aa x7 (bO (Γ g)) z λcJ=>
   aa x7 (u6 bA cJ 3) z λcK=>
   aa x7 (u5 ah cK) z λt45=>
   aa x7 (aJ .eql ah false true t45 (Δ 0)) z λt46=>
   bJ t46 z)
    (bJ (.bool false) z):=by
 have dq:=az.lt;rcases b3 with rfl|⟨rfl,rfl⟩
 rotate_left
 .refine ch.range 0 (λ_ J=>w=J) Ω rfl (λi J k hi=>Ω) ?_;rintro _ k rfl;refine aU (λv O=>w=O/\v= .bool false) ?_ ?_
  .rintro _ _ ⟨rfl,rfl⟩;rw[aY];exact b9 rfl
  .intro av ak;rw[aR,aj];exact⟨λh=>Ω,λ_=>ak _ _ ⟨rfl,rfl⟩⟩
 have h:=az;have aT:=aT rfl;have aw:=aw rfl;have aV:=aV rfl;refine ch.range ar (λi z=>∃scope P,ae (gQ g B) w z/\bM z g B H N (σ P)/\hf z B f ⟨scope,scope.map λv=>all.getD v.toNat 0,0,[]⟩/\scope.length=i/\scope.length+P.toks.length<=100000/\e0 all.length ar s=Da all.length (ar-i) scope P/\ ∀c,ab z f a1 c->c[3]? =σ (.slice ν 0 0)) Ω ⟨[],s,ae.refl _ _,h,b4,rfl,by simpa using aT,rfl,b5⟩ ?_ ?_
 rotate_left
 .rintro z k ⟨scope,P,ay,S,aB,bK,cL,C,bb⟩;refine aU (λv O=>z=O/\v= .bool false) ?_ ?_
  .rintro _ _ ⟨rfl,rfl⟩;rw[aY];rw[U1] at C;exact aV z scope P ay C S aB bb
  .intro av ak;rw[aR,aj];exact⟨λh=>Ω,λ_=>ak _ _ ⟨rfl,rfl⟩⟩
 rintro i z k hi ⟨scope,P,ay,S,aB,bK,cL,C,bb⟩ hk;refine aU (λv O=>z=O/\v= .bool true) ?_ ?_
 rotate_left
 .intro av ak;refine bH Ω ?_;rw[lf S];exact ak _ _ ⟨rfl,rfl⟩
 rintro _ _ ⟨rfl,rfl⟩;rw[bS];have bL:∀ {w':x3},ae (gQ g B) w w'->ap .i64 al w' gz ad all:=λcM=>bn bF cM λr e I=>by
  rcases I with rfl|I
  .obtain⟨cN,G,am,bad,cO,big,cP,told,sv,K,_⟩:=hY h;exact cc bF K Φ e rfl
  .have:=b6 r e;omega
 rw[aX ao.u (bL ay).ls,dZ,wrap_i64 Ω Ω];refine (kx S).mono ?_;rintro _ A _ ⟨⟨bc,M⟩,n,at_,rfl,be,cQ⟩;rw[bx,bz,qO M];have bg:=aB.dM bc (ky S);have bi:ae (gQ g B) w A:=ay.trans (bc.mono λr _ h=>.inl h);have cS:=NK (n:=(all.length:Int)) (k:=ar-(i+1)) (acc:=scope) (s:=P);have cT:ar-i=(ar-(i+1))+1:=Ω
 rw[cT] at C;unfold Da at C;rw[cS] at C;have cU:a8 0 ((all.length:Int)-1) (σ P)=bf 0 ((all.length:Int)-1) P:=rfl;rw[cU] at M be cQ ⊢;cases aC:bf 0 ((all.length:Int)-1) P with
 |none=>
  rw[aC] at M C;rw[Option.map_none,S7,W5,bS];exact aw A _ bi C M bg
 |some q=>
  obtain⟨v,bj⟩:=q;rw[aC] at M C be;have cV:n=v:=be _ rfl;subst cV;have dr:=(hT aC).1;have ds:=(dH aC).1;simp only at C;rw[Z4,S6,Y4,aY];have M:bM A g B H N (σ bj):=M;obtain⟨aF,szv,b7,g1,cW,bk,f1,f2,f3,f4,f5,f6,f7⟩:=id bg;rw[aA a1.p 0 f1 rfl,aX ao.u f2.ls];have dt:scope.length<=100000:=Ω
  refine ch.range scope.length (λj E=>A=E/\n∉scope.take j) Ω ⟨rfl,Ξ⟩ ?_ ?_
  .rintro j _ cX cY ⟨rfl,aE⟩ cZ;obtain⟨u,hu⟩:=aI (l:=scope) cY;rw[aR,aj];refine⟨λ_=>?_,λh=>by simp only at h;omega⟩;rw[bd ao.u al.i Ψ f2.ls hu,bh,aj];refine⟨λhe=>?_,λc0=>?_⟩
   .refine (nY M Ω).mono ?_;rintro _ a2 _ ⟨bN,c1⟩;rw[if_pos (by rw[<-he];exact x5 hu)] at C;exact aw a2 _ (bi.trans (bN.mono λr _ h=>.inl h)) C c1 (bg.dM bN (ky M))
   .rw[aP];refine cZ _ ⟨rfl,?_⟩;rw[u9,hu];intro hm;rcases l7.1 hm with hm|hm
    .exact aE hm
    .simp at hm;exact c0 hm.symm
  .rintro _ cX ⟨rfl,aE⟩;rw[o5] at aE;rw[aR,aj];refine⟨λh=>by simp only at h;omega,λ_=>?_⟩;rw[if_neg aE] at C;rw[aA a1.p 0 f1 rfl];refine ep ao.u al.i rfl λdu dv af dw Q c2=>?_;have dx:=M.lt;refine gO ao.u al.i rfl (f2.ext Q) c2.ls Θ Θ λX bl a6 aG c3 bQ=>?_;have aH:=f1.ext Q;have f113:=aH.V bQ λhe=>cc (f2.ext Q) aH Φ he rfl;rw[aQ a1.p rfl];refine bo (g:=f) (o:=0) ao.i aG.ls.cells.1 aG.ls.cells.2 f113 Ξ λR bR dy aK=>?_;have aK:ab R f a1 [X,szv,Δ 0,b7]:=aK;intro U bm _ _;have an:ae (λr=>leads aF r\/r=f) af R:=(bQ.mono λr _ h=>.inl h).trans (bR.mono λr _ h=>.inr h);have bT:∀r,(leads aF r\/r=f)->gQ g B r:=λr e=>.inr (e.elim (λe=>f5 r (.inl e)) λe=>e▸f7);have bU:ae (gQ g B) w R:=(bi.trans (Q.V _)).trans (an.mono λr _ e=>bT r e);have c4:ae (gQ g B) w U:=bU.trans (bm.V _);have c5:ap .i64 al R cW szv _:=bn (f3.ext Q) an λr e I=>by
    rcases I with I|rfl
    .exact f6 r I e
    .exact cc (f3.ext Q) aH Φ e rfl
   have c6:ap .i64 al R bl X (scope++[n]):=bn aG bR λr e he=>by
    have he:r=f:=he;subst he;exact cc aG f113 Φ e rfl
   have c9:∀r,(leads aF r\/r=f)->(∃c,ab af r al c)\/ ∃c,ab af r a1 c:=λr e=>by
    rcases e with e|rfl
    .obtain⟨G,_⟩:=bP f2 e;obtain⟨_,⟨aq,_⟩|⟨_,cs,aq,K,_⟩⟩:=f2.ext Q
     .rw[aq] at e;obtain⟨a,da,c,G,am⟩:=e;cases G
     .exact .inl ⟨cs,G▸K⟩
    .exact .inr ⟨_,aH⟩
   have db:kw R bk b7 []:=by
    obtain⟨L,Y,dc,bp⟩:=f4.dM (Q.V λ_=>False) λ_ h=>h.elim;have bq:L=[]:=List.map_eq_nil_iff.1 bp;subst bq;refine⟨[],Y.V an λr e I=>?_,λy br=>(by cases br),rfl⟩;rcases c9 r I with⟨c,K⟩|⟨c,K⟩
    .exact cR Y K Φ e
    .exact cR Y K Φ e
   have dd:bM R g B H N (σ bj):=(M.ext Q).new an λr e=>by
    rcases bT r e with rfl|h
    .rcases e with e|e
     .exact f5 _ (.inl e)
     .exact e▸f7
    .exact h
   rw[aA a1.p 1 (aK.ext bm) rfl];have de:all[n.toNat]? =σ (all.getD n.toNat 0):=by rw[u4,x6 Ω];rfl
   rw[fy (y:=n) (i:=n.toNat) Ω ao.u al.i Ψ (bL c4).ls de];refine ep ao.u al.i rfl λdz dA ac dC bV df=>?_;refine⟨.inl bV,?_⟩;have Z:=bm.trans bV;have f316:=c5.ext Z;have bW:(scope.map λv=>all.getD v.toNat 0).length=scope.length:=u7 _;refine gO ao.u al.i rfl f316 df.ls (by simp at bW ⊢;omega) (by simp at bW ⊢;omega) λbt dg ba aL bX bY=>?_;have aM:=aK.ext Z;have bZ:=aM.V bY λhe=>cc f316 aM Φ he rfl;rw[aQ a1.p rfl];refine bo (g:=f) (o:=1) ao.i aL.ls.cells.1 aL.ls.cells.2 bZ Ξ λW b0 dD au=>?_;have au:ab W f a1 [X,bt,Δ 0,b7]:=au;rw[aP];have aN:ae (λr=>leads szv r\/r=f) ac W:=(bY.mono λr _ h=>.inl h).trans (b0.mono λr _ h=>.inr h);have b1:∀r,(leads szv r\/r=f)->B<=r:=λr e=>e.elim (λe=>f5 r (.inr e)) λe=>e▸f7;have bu:=c6.ext Z;have dE:=Q.size;have dF:=an.size;have bw:∀r,leads X r->B<=r/\¬leads szv r:=λr e=>by
    rcases c3 r e with h|h
    .exact⟨f5 r (.inl h),f6 r h⟩
    .exact⟨Ω,λbB=>by obtain⟨G,am⟩:=bP f3 bB;omega⟩
   have dh:ap .i64 al W bl X (scope++[n]):=bn bu aN λr e I=>by
    rcases I with I|rfl
    .exact (bw r e).2 I
    .exact cc bu aM Φ e rfl
   have di:=bn aL b0 λr e he=>by
    have he:r=f:=he;subst he;exact cc aL bZ Φ e rfl
   have dj:kw W bk b7 []:=by
    obtain⟨L,Y,dc,bp⟩:=db.dM (Z.V λ_=>False) λ_ h=>h.elim;have bq:L=[]:=List.map_eq_nil_iff.1 bp;subst bq;refine⟨[],Y.V aN λr e I=>?_,λy br=>(by cases br),rfl⟩;rcases I with I|rfl
    .obtain⟨G,_⟩:=bP f316 I;obtain⟨_,⟨aq,_⟩|⟨_,cs,aq,K,_⟩⟩:=f316
     .rw[aq] at I;obtain⟨a,da,c,G,am⟩:=I;cases G
     .exact cR Y (G▸K) Φ e
    .exact cR Y aM Φ e
   refine hk _ ⟨scope++[n],bj,((bU.trans (Z.V _)).trans (aN.mono λr _ e=>.inr (b1 r e))),(dd.ext Z).new aN b1,⟨X,bt,b7,bl,dg,bk,au,dh,by rw[j6];exact di,dj,λr e=>?_,λr e bB=>?_,f7⟩,by rw[p8,bK];rfl,by rw[p8];simp;omega,C,λc bC=>?_⟩
   .rcases e with e|e
    .exact (bw r e).1
    .rcases bX r e with h|h
     .exact f5 r (.inr h)
     .have:=Z.size;omega
   .rcases bX r bB with h|h
    .exact (bw r e).2 h
    .obtain⟨G,am⟩:=bP bu e;omega
   .have dk:c=[X,bt,Δ 0,b7]:=by
     unfold ab at bC au;rw[au] at bC;have:=(Obj.cells.inj (c8 bC)).1;exact (Array.toList_inj.2 this).symm
    have dl:b7= .slice ν 0 0:=by
     obtain⟨dG,dI,dJ,_,_,_,bD,_⟩:=aB;have b2:=bb _ bD;have bE:=bD.V bc λhe=>by
      have he:f=g:=he;obtain⟨cN,G,am,bad,cO,big,cP,told,sv,K,_⟩:=hY S;subst he;exact absurd (ey K bD) Φ
     unfold ab at bE f1;rw[f1] at bE;have dm:=Array.toList_inj.2 (Obj.cells.inj (c8 bE)).1;have S:=congrArg (λl=>l[3]?) dm;simp at S;simp at b2;rw[S,b2]
    rw[dk,dl];rfl
theorem NL {x:x1->x3->Prop} (h:aH .i64 w sv l) (h1:∀z∈l,1<=z) (I:∀c:Int,(4096<c↔dv l=true)->x (Δ c) w):
  b1 (Δ 1) (Δ 0) w λy q a K=>
   aa x7 (aJ .lss ah false false q (Δ (l.length:Int))) a λL=>
   Split L (cm (α:=x1->x3->Prop) (λ(M:x1) (A:x3)=>
    aa x7 (aJ .add ah false true q (Δ 1)) A λN=>
    K M N A) λB=>
   aa x7 (c7 ao sv q) a λO=>
   aa x7 (u5 al O) a λC=>
   cm (α:=x1->x3->Prop) (λ(P:x1) (f:x3)=>
    aa x7 (aJ .mul al false false y P) f λE=>
    aa x7 (aJ .gtr al false true E (Δ 4096)) f λQ=>
    Split Q (B (Δ 4097) f)
     (B E f)) λF=>
   aa x7 (aJ .gtr al false true C (Δ 4096)) a λR=>
   Split R (F (Δ 4097) a)
    (F C a))
    (x y a):=by
 refine b1.range l.length (λi c J=>w=J/\ ∃p:Int,p=aL ((l.take i).map λk=>min k 4097)/\1<=p/\c=Δ (if 4096<p then 4097 else p)) h.le ⟨rfl,1,by simp[aL],Ω,by rw[if_neg Ω]⟩ ?_ ?_
 .rintro i _ _ S hi ⟨rfl,p,j,V,rfl⟩ W;obtain⟨z,r⟩:=aI (l:=l) hi;have Y:=h1 z (x5 r);have e:aL ((l.take (i+1)).map λk=>min k 4097)=p*min z 4097:=by
   rw[j,u9,r,o7,j6,V4,List.map_nil,A5]
  have Z:p*1<=p*min z 4097:=Int.mul_le_mul_of_nonneg_left Ω Ω;refine bH Ω ?_;refine aU (λv U=>w=U/\v=Δ (if 4096<p*min z 4097 then 4097 else p*min z 4097)) ?_ ?_
  .rintro _ _ ⟨rfl,rfl⟩;rw[aP];exact W _ _ ⟨rfl,_,e.symm,Ω,rfl⟩
  intro av s;rw[bd ao.u al.i Ψ h r];refine aU (λv U=>w=U/\v=Δ (min z 4097)) ?_ ?_
  .rintro _ _ ⟨rfl,rfl⟩;rw[hP];by_cases G:4096<p
   .rw[if_pos G];have X:(4097:Int)*1<=4097*min z 4097:=Int.mul_le_mul_of_nonneg_left Ω Ω;rw[wrap_i64 Ω Ω,bT,aj];refine⟨λ_=>s _ _ ⟨rfl,by rw[if_pos Ω]⟩,λab=>Ω⟩
   .rw[if_neg G];have X:p*min z 4097<=4096*4097:=by
     have ac:=Int.mul_le_mul_of_nonneg_right (show p<=4096 by omega) (show 0<=min z 4097 by omega);have ad:=Int.mul_le_mul_of_nonneg_left (show min z 4097<=4097 by omega) (show (0:Int)<=4096 by omega);omega
    rw[wrap_i64 Ω Ω,bT,aj];exact⟨λaz=>s _ _ ⟨rfl,by rw[if_pos az]⟩,λaz=>s _ _ ⟨rfl,by rw[if_neg az]⟩⟩
  .intro ae H;rw[bT,aj];exact⟨λaz=>H _ _ ⟨rfl,by congr 1;omega⟩,λaz=>H _ _ ⟨rfl,by congr 1;omega⟩⟩
 .rintro _ _ S ⟨rfl,p,j,V,rfl⟩;rw[o5] at j;rw[aR,aj];refine⟨λh=>Ω,λ_=>I _ ?_⟩;unfold dv;rw[<-j,decide_eq_true_eq];split
  .exact⟨λ_=>Ω,λ_=>Ω⟩
  .exact Iff.rfl
theorem NM {g an:Nat} {H:ag} {so:Option aD} {szv:x1} {ad:x3->Prop} (h:bM w g B H N so) (E:ap .i64 al w gz szv sizes) (aH:∀z∈sizes,1<=z/\z<=aq) (bq:sizes.length<=100001)
  (W:ab w an cb [.slice ν 0 0,Δ 0]) (aK:B<=an)
  (af:∀t w' aM gt,t.length=sizes.length->ae (λr=>r=g\/r=an\/w.heap.size<=r) w w'->ab w' an cb [aM,Δ 0]->ap .i64 al w' gt aM t->(∀r,leads aM r->w.heap.size<=r)->bM w' g B H N ((e2 sizes [] so).map (·.2))->(∀q,e2 sizes [] so=σ q->t=q.1)->ad w'):
  ch (Δ 0) w λX x aL=>
      aa x7 (aJ .lss ah false false X (Δ (sizes.length:Int))) x λaN=>
      Split aN (aa x7 (c7 ao szv X) x λaO=>
      aa x7 (u5 al aO) x λaR=>
      aa x7 (aJ .sub al false true aR (Δ 1)) x λaS=>
      ai x7 lJ [Γ g,(Δ 0),aS] x λaj G=>
      aa x7 (Z7 aj 0) G λaT=>
      aa x7 (Z7 aj 1) G λbr=>
      aa x7 (u6 cb (Γ an) 0) G λaU=>
      aa x7 (u5 ao aU) G λaV=>
      ax x7 (Y1 ao 1 #[(0,aT)]) G λaW aX=>
      ax x7 (b8 #[ao,ao] ao #[aV,aW]) aX λaY ak=>
      aa x7 (u6 cb (Γ an) 0) ak λaZ=>
      ax x7 (o8 ao aZ aY) ak λ(_:Unit) am=>
      aa x7 (aJ .add ah false true X (Δ 1)) am λa1=>
      aL a1 am)
       (ad x):=by
 have bt:=W.lt;have bu:=h.lt;refine ch.range sizes.length (λj J=>∃t aM gt f,t.length=j/\ae (λr=>r=g\/r=an\/w.heap.size<=r) w J/\ab J an cb [aM,Δ 0]/\ap .i64 al J gt aM t/\(∀r,leads aM r->w.heap.size<=r)/\bM J g B H N f/\e2 sizes [] so=e2 (sizes.drop j) t f) E.ls.le
  ⟨[],_,0,so,rfl,ae.refl _ _,W,ap.nil _ _ _ _,(λr e=>by obtain⟨a,n,c,O,Y⟩:=e;cases O),h,rfl⟩ ?_ ?_
 rotate_left
 .rintro J a2 ⟨t,aM,gt,f,P,y,Q,K,A,L,he⟩;refine cd Ω ?_;rw[List.drop_length] at he;cases f with
  |none=>
   have he:e2 sizes [] so=ν:=he;exact af t J aM gt P y Q K A (by rw[he];exact L) (λq s=>by rw[he] at s;cases s)
  |some f=>
   have he:e2 sizes [] so=σ (t,f):=he;exact af t J aM gt P y Q K A (by rw[he];exact L) (λq s=>by rw[he] at s;cases s;rfl)
 rintro j J a2 au ⟨t,aM,gt,f,P,y,Q,K,A,L,he⟩ a6;obtain⟨z,Z⟩:=aI (l:=sizes) au;have a7:=aH z (x5 Z);have bw:z<=4611686018427387904:=a7.2;have ba:ap .i64 al J gz szv sizes:=bn E y λr e I=>by
  rcases I with rfl|rfl|I
  .obtain⟨bb,O,Y,bad,bc,big,be,told,sv,M,_⟩:=hY h;exact cc E M Φ e rfl
  .exact cc E W Φ e rfl
  .obtain⟨O,Y⟩:=bP E e;omega
 refine bH Ω ?_;rw[bd ao.u al.i Ψ ba.ls Z,dZ,wrap_i64 Ω Ω];refine (kx L).mono ?_;rintro _ U _ ⟨⟨R,bf⟩,n,at_,rfl,bg,bB⟩;rw[bx,bz];have bh:an≠g:=Ω
 have av:=Q.V R λhe=>bh he;have bi:∃c,ab J g bA c:=by obtain⟨bb,O,Y,bad,bc,big,be,told,sv,M,_⟩:=hY L;exact⟨_,M⟩
 have aw:ap .i64 al U gt aM t:=bn K R λr e he=>by
  have he:r=g:=he;obtain⟨c,M⟩:=bi;exact cc K M Φ e he
 rw[aA cb.p 0 av rfl];refine ep ao.u al.i rfl λa3 bC bj bD C bk=>?_;refine gO ao.u al.i rfl (aw.ext C) bk.ls Θ Θ λay bl bE S bm az=>?_;have aB:=av.ext C;have aC:=aB.V az λhe=>cc (aw.ext C) aB Φ he rfl;rw[aQ cb.p rfl];refine bo (g:=an) (o:=0) ao.i S.ls.cells.1 S.ls.cells.2 aC Ξ λaE aF bF ac=>?_;have ac:ab aE an cb [ay,Δ 0]:=ac;rw[aP];have aG:ae (λr=>leads aM r\/r=an) bj aE:=(az.mono λr _ h=>.inl h).trans (aF.mono λr _ h=>.inr h);have bG:=y.size;have bI:=R.size;have z3:=C.size;refine a6 _ ⟨t++[n],ay,bl,(a8 0 (z-1) f).map (·.2),by simp[P],?_,ac,bn S aF λr e he=>?_,λr e=>?_,?_,?_⟩
 .refine (y.trans (R.mono λr _ h=>.inl h)).trans ((C.V _).trans (aG.mono λr _ h=>?_));exact h.elim (λh=>.inr (.inr (A r h))) λh=>.inr (.inl h)
 .have he:r=an:=he;subst he;exact cc S aC Φ e rfl
 .rcases bm r e with h|h
  .exact A r h
  .omega
 .refine (bf.ext C).new aG λr e=>?_;rcases e with e|rfl
  .have:=A r e;omega
  .exact aK
 .rw[he];have bp:sizes.drop j=z::sizes.drop (j+1):=by rw[X7 au,(x4.1 Z).2]
  rw[bp,BI];cases s:a8 0 (z-1) f with
  |none=>rfl
  |some q=>
   obtain⟨v,bJ⟩:=q;have:=bg _ s;subst this;rfl
theorem wJ {g:Nat} {t:Λ} {c:Int} (h:ap .i64 al w g v t):∀u∈nX ⟨v,t,c⟩,u.oneCell'=true:=by
 intro u hu;simp[nX] at hu;rcases hu with rfl|rfl
 .exact h.ls.cells.2
 .rfl
def NN (sizes:Λ) (cnt i:Nat) (s0:aD) (A:List (Λ×Int)) (so:Option aD):Prop:=(∃s,so=σ s/\cQ (dT sizes) cnt [] s0=cQ (dT sizes) (cnt-i) A s/\A.length+s.toks.length<=100000)\/(so=ν/\cQ (dT sizes) cnt [] s0=ν)
theorem NO {g K g1 ba Y:Nat} {H:ag} {s0:aD} {aF szv b7:x1} {scope:Λ} {o n:Int} {aG:List (Λ×Int)} {bZ:x3->Prop} (h:bM w g B H N (σ s0)) (f1:ab w K a1 [aF,szv,Δ o,b7]) (f2:ap .i64 al w g1 aF scope) (f3:ap .i64 al w ba szv sizes) (f4:kw w Y b7 aG)
  (f5:∀r,leads aF r\/leads szv r->B<=r) (f6:∀r,leads aF r->¬leads szv r) (f7:B<=K) (cX:∀z∈sizes,1<=z/\z<=aq) (cY:sizes.length<=100001) (eY:n<=4611686018427387904) (bq:0<n->aG=[]/\ ∀r,¬leadsTo b7 r) (cZ:s0.toks.length<=100000)
  (b0:∀w' A bt,ae (gQ g B) w w'->hf w' B K ⟨scope,sizes,o,A⟩->bM w' g B H N bt->(n<=0->A=aG/\bt=σ s0)->(0<n->bt=(cQ (dT sizes) n.toNat [] s0).map (·.2)/\ ∀q,cQ (dT sizes) n.toNat [] s0=σ q->A=q.1)->bZ w'):
  ch (Δ 0) w λb1 af c0=>
     cm (α:=x1->x3->Prop) (λ(c1:x1) (b2:x3)=>
      Split c1 (ax x7 (T7 cb true (.tuple #[])) b2 λx Z=>
     aa x7 (u6 a1 (Γ K) 1) Z λc2=>
     aa x7 (u5 ao c2) Z λb4=>
     aa x7 (W7 #[ao] ah #[b4]) Z λc3=>
     ch (Δ 0) Z λbu ak c4=>
      aa x7 (aJ .lss ah false false bu c3) ak λc5=>
      Split c5 (aa x7 (c7 ao b4 bu) ak λc6=>
      aa x7 (u5 al c6) ak λc8=>
      aa x7 (aJ .sub al false true c8 (Δ 1)) ak λc9=>
      ai x7 lJ [Γ g,(Δ 0),c9] ak λb5 aH=>
      aa x7 (Z7 b5 0) aH λda=>
      aa x7 (Z7 b5 1) aH λeZ=>
      aa x7 (u6 cb x 0) aH λdb=>
      aa x7 (u5 ao db) aH λdc=>
      ax x7 (Y1 ao 1 #[(0,da)]) aH λdd df=>
      ax x7 (b8 #[ao,ao] ao #[dc,dd]) df λdg b6=>
      aa x7 (u6 cb x 0) b6 λdh=>
      ax x7 (o8 ao dh dg) b6 λ(_:Unit) b9=>
      aa x7 (aJ .add ah false true bu (Δ 1)) b9 λdi=>
      c4 di b9)
       (ai x7 lJ [Γ g,(Δ 0),(Δ 4611686018427387904)] ak λca E=>
     aa x7 (Z7 ca 0) E λdj=>
     aa x7 (Z7 ca 1) E λdk=>
     aa x7 (u6 a1 (Γ K) 3) E λdl=>
     aa x7 (u5 ed dl) E λce=>
     aa x7 (W7 #[ed] ah #[ce]) E λdn=>
     ch (Δ 0) E λbw M dp=>
      aa x7 (aJ .lss ah false false bw dn) M λdq=>
      Split dq (cm (α:=x3->Prop) (λ(az:x3)=>
       aa x7 (aJ .add ah false true bw (Δ 1)) az λdr=>
       dp dr az) λcg=>
      aa x7 (c7 ed ce bw) M λds=>
      aa x7 (u5 cb ds) M λdt=>
      ax x7 (T7 cb true (.tuple #[])) M λy ci=>
      ax x7 (o8 cb y dt) ci λ(_:Unit) O=>
      cm (α:=x1->x3->Prop) (λ(du:x1) (aK:x3)=>
       Split du (ai x7 nk [Γ g,(Δ 4),dk] aK λe0 cj=>
        cg cj)
        (cg aK)) λck=>
      aa x7 (bO (Γ g)) O λdv=>
      aa x7 (u6 bA dv 3) O λdw=>
      aa x7 (u5 ah dw) O λdx=>
      aa x7 (aJ .eql ah false true dx (Δ 0)) O λdy=>
      Split dy (aa x7 (u6 cb x 0) O λdz=>
       aa x7 (u5 ao dz) O λdA=>
      aa x7 (u6 cb y 0) O λdC=>
      aa x7 (u5 ao dC) O λdD=>
      ai x7 rQ [dA,dD] O λdE cl=>
      ck dE cl)
       (ck (.bool false) O))
       (aa x7 (u6 cb x 1) M λdF=>
     ax x7 (o8 al dF dj) M λ(_:Unit) ac=>
     aa x7 (u6 a1 (Γ K) 3) ac λdG=>
     aa x7 (u5 ed dG) ac λdI=>
     aa x7 (u5 cb x) ac λdJ=>
     ax x7 (Y1 ed 1 #[(0,dJ)]) ac λdK bb=>
     ax x7 (b8 #[ed,ed] ed #[dI,dK]) bb λdL bC=>
     aa x7 (u6 a1 (Γ K) 3) bC λdN=>
     ax x7 (o8 ed dN dL) bC λ(_:Unit) ad=>
     aa x7 (aJ .add al false true b1 (Δ 1)) ad λdO=>
     c0 dO ad)))
       (bZ b2)) λcn=>
     aa x7 (aJ .lss al false false b1 (Δ n)) af λdP=>
     Split dP (aa x7 (bO (Γ g)) af λdQ=>
     aa x7 (u6 bA dQ 3) af λdR=>
     aa x7 (u5 ah dR) af λdS=>
     aa x7 (aJ .eql ah false true dS (Δ 0)) af λdU=>
     cn dU af)
      (cn (.bool false) af):=by
 have dV:=h.lt;refine ch.range n.toNat (λi J=>∃A so b7 Y,ae (gQ g B) w J/\ab J K a1 [aF,szv,Δ o,b7]/\ap .i64 al J g1 aF scope/\ap .i64 al J ba szv sizes/\kw J Y b7 A/\(0<n-> ∀r,leadsTo b7 r->B<=r)/\bM J g B H N so/\(n<=0->A=aG/\so=σ s0)/\(0<n->NN sizes n.toNat i s0 A so)) Ω
  ⟨aG,σ s0,b7,Y,ae.refl _ _,f1,f2,f3,f4,λW r C=>absurd C ((bq W).2 r),h,λ_=>⟨rfl,rfl⟩,λW=>.inl ⟨s0,rfl,by rw[(bq W).1];rfl,by rw[(bq W).1];simpa using cZ⟩⟩ ?_ ?_
 rotate_left
 .rintro J k ⟨A,so,b7,Y,aL,aC,bc,aN,aO,bE,am,cp,G⟩;refine aU (λv U=>J=U/\v= .bool false) ?_ ?_
  .rintro _ _ ⟨rfl,rfl⟩;rw[aY];refine b0 J A so aL ⟨aF,szv,b7,g1,ba,Y,aC,bc,aN,aO,f5,f6,f7⟩ am cp λW=>?_;rcases G W with⟨s,rfl,he,_⟩|⟨rfl,he⟩
   .rw[U1] at he;rw[he];exact⟨rfl,λq P=>by cases P;rfl⟩
   .rw[he];exact⟨rfl,λq P=>by cases P⟩
  .intro av bF;rw[aR,aj];exact⟨λh=>Ω,λ_=>bF _ _ ⟨rfl,rfl⟩⟩
 rintro i J k hi ⟨A,so,b7,Y,aL,aC,bc,aN,aO,bE,am,cp,G⟩ hk;have W:0<n:=Ω
 refine aU (λv U=>J=U/\v= .bool so.isSome) ?_ ?_
 rotate_left
 .intro av bF;refine bH Ω ?_;rw[lf am];exact bF _ _ ⟨rfl,rfl⟩
 rintro _ _ ⟨rfl,rfl⟩;rcases G W with⟨eV,rfl,he,e1⟩|⟨rfl,he⟩
 rotate_left
 .rw[S7,aY];refine b0 J A ν aL ⟨aF,szv,b7,g1,ba,Y,aC,bc,aN,aO,f5,f6,f7⟩ am (λh=>Ω) λ_=>?_;rw[he];exact⟨rfl,λq P=>by cases P⟩
 rw[S6,bS];have e3:=am.lt;refine bB cb.i λan Z e4 aS bG=>?_;have bG:ab Z an cb [.slice ν 0 0,Δ 0]:=bG;have dW:=aC.ext aS;have cq:=aN.ext aS;have e5:=aS.size;have e6:=aC.lt;rw[aQ a1.p rfl,aB Ψ (dW.cell (o:=0+1) rfl),aX ao.u cq.ls];refine NM (am.ext aS) cq cX cY bG Ω λt ak aM gt e7 dX dY dZ ea eb ec=>?_;refine (kx eb).mono ?_;rintro _ E _ ⟨⟨bI,bd⟩,c,at_,rfl,ee,e8⟩;rw[bx,bz];have bJ:an≠g:=Ω
 have cr:K≠g:=by have:=h.lt;omega
 have ef:ae (λr=>r=g\/r=an\/Z.heap.size<=r) Z E:=dX.trans (bI.mono λr _ h=>.inl h);have ct:∀ {S:Nat->Prop},(∀r,S r->r=g\/J.heap.size<=r)-> ∀r,S r->hd J r\/J.heap.size<=r:=λeg r C=>(eg r C).imp (λhe=>by
  subst he;obtain⟨cu,aT,aV,bad,cw,big,cz,told,sv,G,_⟩:=hY am;exact⟨_,_,G,Φ,Φ⟩) id
 have be:ae (λr=>r=g\/J.heap.size<=r) J E:=(aS.V _).trans (ef.mono λr _ h=>h.elim .inl λh=>h.elim (λh=>.inr Ω) λh=>.inr Ω);have cA:ab E K a1 [aF,szv,Δ o,b7]:=aC.V be λh=>h.elim cr λh=>Ω
 obtain⟨L,bg,cB,bK⟩:=aO.dM be (ct λr C=>C);have cC:ab E an cb [aM,Δ 0]:=dY.V bI λhe=>bJ he;have cD:ap .i64 al E gt aM t:=bn dZ bI λr C he=>by
  have he:r=g:=he;have:=ea r C;omega
 have e9:L.length=A.length:=by rw[<-bK,u7]
 rw[aA a1.p 3 cA rfl,eD ed.u bg];generalize cE:(a8 0 4611686018427387904 (V8 (λx=>x.snd) (e2 sizes [] (σ eV)))).map (·.2)=au at bd;have fa:=be.size;refine ch.range L.length (λj M=>ae (λr=>r=g) E M/\bM M g B H N (if t∈(L.take j).map (·.t) then ν else au)) bg.le ⟨ae.refl _ _,by simpa using bd⟩ ?_ ?_
 .rintro j M eh cF ⟨Q,aW⟩ ej;obtain⟨y,R⟩:=aI (l:=L) cF;have bL:∃c,ab E g bA c:=by obtain⟨cu,aT,aV,bad,cw,big,cz,told,sv,G,_⟩:=hY bd;exact⟨_,G⟩
  have aw:∀r,r=g->hd E r\/E.heap.size<=r:=λr C=>by
   subst C;obtain⟨c,G⟩:=bL;exact .inl ⟨_,c,G,Φ,Φ⟩
  have bh:=wH bg Q λr C=>(aw r C).imp (λ⟨e,c,G,_,aZ⟩=>⟨e,c,G,aZ⟩) id;obtain⟨fb,ek⟩:=cB y (x5 R);have cG:=eF ek Q aw;have bN:=eF cD Q aw;have bi:=cC.V Q λhe=>bJ he;refine bH Ω ?_;have bP:t∈(L.take (j+1)).map (·.t)↔t∈(L.take j).map (·.t)\/t=y.t:=by
   rw[u9,R,o7,j6,l7];simp
  refine dm (λaz=>ae (λr=>r=g) E az/\bM az g B H N (if t∈(L.take (j+1)).map (·.t) then ν else au)) ?_ ?_
  .rintro az em;rw[aP];exact ej _ em
  intro fc cH;rw[de rfl ed.u cb.i bh cF,bD cb.p cb.i rfl (bh.range R)];refine bB cb.i λgy ci fd en eo=>?_;refine b3 (vs:=nX y) cb.i rfl rfl (wJ cG) eo λO ep fe er=>?_;have a2:Ext M O:=en.put ep Ω;have cI:=aW.ext a2;have cJ:ae (λr=>r=g) E O:=Q.trans (a2.V _);refine aU (λv aK=>∃b:Bool,v= .bool b/\Ext O aK/\(b=true->t=y.t)/\(b=false->t≠y.t\/(if t∈(L.take j).map (·.t) then ν else au)=ν)) ?_ ?_
  .rintro _ aK ⟨b,rfl,bQ,es,et⟩;have ay:=cI.ext bQ;cases b with
   |true=>
    rw[bS];refine (nY ay Ω).mono ?_;rintro _ cj _ ⟨eu,ev⟩;refine cH _ ⟨(cJ.trans (bQ.V _)).trans eu,?_⟩;rw[if_pos (bP.2 (.inr (es rfl)))];exact ev
   |false=>
    rw[aY];refine cH _ ⟨cJ.trans (bQ.V _),?_⟩;by_cases hm:t∈(L.take j).map (·.t)
    .rw[if_pos (bP.2 (.inl hm))];rw[if_pos hm] at ay;exact ay
    .rw[if_neg hm] at ay;rcases et rfl with aZ|cK
     .rw[if_neg (λh=>(bP.1 h).elim hm aZ)];exact ay
     .rw[if_neg hm] at cK;rw[cK] at ay ⊢;split<;>exact ay
  .intro ff cL;rw[lf cI];cases a6:(if t∈(L.take j).map (·.t) then ν else au) with
   |none=>
    rw[S7,aY];exact cL _ _ ⟨false,rfl,Ext.refl _,(λh=>by cases h),λ_=>.inr a6⟩
   |some fg=>
    rw[S6,bS];have ew:=bi.ext a2;rw[aA cb.p 0 ew rfl,aA cb.p 0 er rfl];refine (wI (bN.ls.ext a2) (cG.ls.ext a2)).mono ?_;rintro _ cl _ ⟨rfl,ey⟩;exact cL _ _ ⟨_,rfl,ey,λh=>of_decide_eq_true h,λh=>.inl (of_decide_eq_false h)⟩
 .rintro M eh ⟨Q,aW⟩;rw[o5] at aW;have ez:L.map (·.t)=A.map (·.1):=by rw[<-bK,S8];rfl
  rw[ez] at aW;have bL:∃c,ab E g bA c:=by obtain⟨cu,aT,aV,bad,cw,big,cz,told,sv,G,_⟩:=hY bd;exact⟨_,G⟩
  have aw:∀r,r=g->hd E r\/E.heap.size<=r:=λr C=>by
   subst C;obtain⟨c,G⟩:=bL;exact .inl ⟨_,c,G,Φ,Φ⟩
  have cM:∀r,(r=g\/J.heap.size<=r)->hd J r\/J.heap.size<=r:=ct λr C=>C;have bj:ae (λr=>r=g\/J.heap.size<=r) J M:=be.trans (Q.mono λr _ h=>.inl h);have eA:=cA.V Q λhe=>cr he;have eB:=eF bc bj cM;have eC:=eF aN bj cM;have bh:=wH bg Q λr C=>(aw r C).imp (λ⟨e,c,G,_,aZ⟩=>⟨e,c,G,aZ⟩) id;have eE:∀y∈L,∃gy,ap .i64 al M gy y.v y.t:=λy R=>by
   obtain⟨gy,hm⟩:=cB y R;exact⟨gy,eF hm Q aw⟩
  have bN:=eF cD Q aw;have bi:=cC.V Q λhe=>bJ he;refine cd Ω ?_;rw[aQ cb.p rfl];refine bo (g:=an) (o:=1) al.i rfl rfl bi Ξ λac aE fh bR=>?_;have bR:ab ac an cb [aM,Δ c]:=bR;have eH:K≠an:=Ω
  have cN:=eA.V aE λhe=>eH he;have fi:J.heap.size<=an:=Ω
  have eI:∀r,leadsTo b7 r->r≠an:=λr C=>by obtain⟨aT,aV⟩:=aO.choose_spec.1.leads C;omega
  have eJ:=bh.V aE λr C he=>eI r C he;rw[aA a1.p 3 cN rfl,bD cb.p cb.i rfl bR.range];let a:wG:=⟨aM,t,c⟩;have bk:∀ {v:x1} {a7:Nat} {l:Λ},ap .i64 al M a7 v l->ap .i64 al ac a7 v l:=λhm=>bn hm aE λr C he=>by
   have he:r=an:=he;exact cc hm bi Φ C he
  have cO:=bk bN;refine hW (f:=nX) (a:=a) ed.u cb.i Ω rfl rfl λv45 fj bb fk X eK=>?_;have bT:=eJ.ext X;refine ik (f:=nX) (a:=a) ed.u cb.i rfl bT (by simpa using eK.sl) (wJ (cO.ext X)) Ω Ω λbU cP bC bl eL cS=>?_;have bV:=cN.ext X;have cT:=bV.V cS λhe=>cR bT bV Φ he;rw[aQ a1.p rfl];refine bo (g:=K) (o:=3) ed.i (eO bl.sl).1 (eO bl.sl).2 cT Ξ λad cU fm bW=>?_;have bW:ab ad K a1 [aF,szv,Δ o,bU]:=bW;rw[aP];have bX:ae (λr=>leadsTo b7 r\/r=K) bb ad:=(cS.mono λr _ h=>.inl h).trans (cU.mono λr _ h=>.inr h);have bm:∀ {v:x1} {a7:Nat} {l:Λ},ap .i64 al bb a7 v l->ap .i64 al ad a7 v l:=λhm=>bn hm bX λr C I=>by
   rcases I with I|rfl
   .obtain⟨rfl,fo,G⟩:=ei bT I;exact cc hm G Φ C rfl
   .exact cc hm bV Φ C rfl
  have cV:∀r,(leadsTo b7 r\/r=K)->B<=r:=λr C=>C.elim (λC=>bE W r C) λC=>C▸f7;have eM:bM ac g B H N (if t∈A.map (·.1) then ν else au):=aW.new aE λr C=>by
   have C:r=an:=C;omega
  have eN:=(eM.ext X).new bX cV;have eP:ae (gQ g B) J ad:=((bj.mono λr _ h=>h.elim .inl λh=>.inr Ω).trans (aE.mono λr _ h=>.inr (by have h:r=an:=h;omega))).trans ((X.V _).trans (bX.mono λr _ h=>.inr (cV r h)));have eQ:kw ad cP bU (A++[(t,c)]):=⟨L++[a],bl.V cU λr C he=>by
   have he:r=K:=he;subst he;exact cR bl cT Φ C,λy R=>by
   rcases l7.1 R with R|R
   .obtain⟨gy,hm⟩:=eE y R;exact⟨gy,bm ((bk hm).ext X)⟩
   .rw[l9.1 R];exact⟨gt,bm (cO.ext X)⟩,by rw[j6,bK];rfl⟩
  refine hk _ ⟨A++[(t,c)],_,bU,cP,aL.trans eP,bW,bm ((bk eB).ext X),bm ((bk eC).ext X),eQ,λ_ r C=>?_,eN,λh=>Ω,λ_=>?_⟩
  .rcases eL r C with h|h
   .exact bE W r h
   .have:=aL.size;have:=bj.size;have:=aE.size;have:=X.size;have:=dV.2;omega
  .have eR:n.toNat-i=(n.toNat-(i+1))+1:=Ω
   rw[eR] at he;obtain⟨eS,eU⟩:=BM (sizes:=sizes) (acc:=A) (st:=eV) (t:=t) (c:=c) ec ee;cases P:a8 0 aq ((e2 sizes [] (σ eV)).map (·.2)) with
   |none=>
    have a6:au=ν:=by rw[<-cE];show (a8 0 aq _).map _=ν;rw[P];rfl
    rw[oU (eS P)] at he;refine .inr ⟨?_,he⟩;rw[a6];split<;>rfl
   |some q=>
    have a6:au=σ q.2:=by rw[<-cE];show (a8 0 aq _).map _=_;rw[P];rfl
    have bp:=eU q P;by_cases hm:t∈A.map (·.1)
    .rw[if_pos hm] at bp;rw[oU bp] at he;exact .inr ⟨by rw[if_pos hm],he⟩
    .rw[if_neg hm] at bp;rw[sA bp] at he;refine .inl ⟨q.2,by rw[if_neg hm,a6],he,?_⟩;cases bY:e2 sizes [] (σ eV) with
     |none=>rw[bY] at P;cases P
     |some p=>
      rw[bY] at P;obtain⟨br,cW⟩:=p;have aT:iI sizes [] eV=σ (br,cW):=bY;obtain⟨u,_,_,eW⟩:=vD aT;have aV:bf 0 aq cW=σ q:=P;obtain⟨fp,fq⟩:=q;have eX:=dH aV;have:=eW.1;have:=eX.1;rw[p8];simp only[U6];omega
def jR (s:aD):Prop:=s.big=false->0<=s.told/\s.told<=16384
def jS (neg:Bool) (ar:Nat) (scope sizes:Λ) (e:Option aD):Option (cv×aD):=match a8 0 aq (e.map (bb (decide (6<ar)||dv sizes))) with
 |none=>ν
 |some (other,f)=>match dU sizes f with
  |none=>ν
  |some (lines,a)=>σ (⟨scope,sizes,other,lines⟩,if neg=true then {a with shared:=a.shared++[(sizes,lines)]} else a)
theorem Dc {s s':aD} {l:List (Λ×Int)} (h:dU sizes s=σ (l,s')):s'.toks.length+1<=s.toks.length/\s'.shared=s.shared:=by
 unfold dU at h;cases j:bf (-aq) aq s with
 |none=>rw[j] at h;cases h
 |some q=>
  obtain⟨n,e⟩:=q;have r:=dH j;have A:=r.1;have w:=r.eqs.2.2;rw[j] at h;simp only at h;split at h
  .split at h
   .cases h
   .split at h
    .cases h;exact⟨Ω,w⟩
    .cases h
  .have h':cQ (dT sizes) n.toNat [] (bb (decide (16384<min (e.told+n) aq)) {e with told:=min (e.told+n) aq})=σ (l,s'):=h;have:=ko (f:=dT sizes) (λ_ t=>t.toks.length<=e.toks.length/\t.shared=e.shared) (λacc t a br x z=>by
    obtain⟨_,_,_,y⟩:=oR z;have h1:=y.1;have p:=y.eqs.2.2;exact⟨by have:=x.1;omega,p.trans x.2⟩) n.toNat [] (bb (decide (16384<min (e.told+n) aq)) {e with told:=min (e.told+n) aq}) l s' ⟨o4 _,rfl⟩ h'
   obtain⟨⟨h1,p⟩,_⟩:=this;exact⟨Ω,p.trans w⟩
theorem tk {g:Nat} {H:ag} {s:aD} (h:bM w g B H N (σ s)):s.toks.length<=100000/\s.shared.length+s.toks.length<=100000:=by
 obtain⟨j,w0,p,q,gs,sv,L,r,x,y,bad,z,big,A,told,h1,C,E,F,e,G,I,J,K,M,O,a,P,f,Q⟩:=h;have R:=e.2.2.1;refine⟨by rw[<-a,u7];omega,by rw[<-a,<-f,u7,u7];omega⟩
def Dd (w:x3) (g h B:Nat) (H:ag) (e:Option (cv×aD)) (v:x1) (w':x3):Prop:=∃f x a,ae (λr=>r=g\/H r\/r=h\/B<=r) w w'/\v= .agg (eU f).toArray/\gP w' f x/\bM w' g w'.heap.size a 100001 (e.map (·.2))/\(∀q,e=σ q->x=q.1)/\(∀r,H r->a r)/\(∀r,a r->H r\/B<=r)/\ ∀r,a r->r<w'.heap.size
theorem De {g E ar:Nat} {H:ag} {R:Option aD} {neg:Bool} {dz:Int} {scope:Λ} {Q:x1->x3->Prop}
  (h:bM w g B H 100000 R) (dC:hf w B E ⟨scope,sizes,0,[]⟩) (fp:∀c,ab w E a1 c->c[3]? =σ (.slice ν 0 0)) (dD:∀z∈sizes,1<=z/\z<=aq) (fq:sizes.length<=100001) (dE:ab w N a1 [.slice ν 0 0,.slice ν 0 0,Δ 0,.slice ν 0 0]) (jy:N<B) (cF:¬H N) (cG:∀r,H r->r<B) (fs:∀au,R=σ au->jR au)
  (ft:∀v w',Dd w g N B H (jS neg ar scope sizes R) v w'->Q v w'):
  aa x7 (u6 a1 (Γ E) 1) w λfu=>
  aa x7 (u5 ao fu) w λdF=>
  aa x7 (W7 #[ao] ah #[dF]) w λfv=>
  b1 (Δ 1) (Δ 0) w λdG cY aG fw=>
   aa x7 (aJ .lss ah false false cY fv) aG λfx=>
   Split fx (cm (α:=x1->x3->Prop) (λ(fy:x1) (dI:x3)=>
    aa x7 (aJ .add ah false true cY (Δ 1)) dI λfA=>
    fw fy fA dI) λdJ=>
   aa x7 (c7 ao dF cY) aG λfB=>
   aa x7 (u5 al fB) aG λdK=>
   cm (α:=x1->x3->Prop) (λ(fD:x1) (cH:x3)=>
    aa x7 (aJ .mul al false false dG fD) cH λdL=>
    aa x7 (aJ .gtr al false true dL (Δ 4096)) cH λfE=>
    Split fE (dJ (Δ 4097) cH)
     (dJ dL cH)) λdN=>
   aa x7 (aJ .gtr al false true dK (Δ 4096)) aG λfF=>
   Split fF (dN (Δ 4097) aG)
    (dN dK aG))
    (cm (α:=x3->Prop) (λ(bV:x3)=>
   ai x7 lJ [(Γ g),(Δ 0),(Δ 4611686018427387904)] bV λdO bB=>
   aa x7 (Z7 dO 0) bB λfG=>
   aa x7 (Z7 dO 1) bB λjz=>
   aa x7 (u6 a1 (Γ E) 2) bB λfH=>
   ax x7 (o8 al fH fG) bB λ(_:Unit) be=>
   ai x7 lJ [(Γ g),(Δ (-4611686018427387904)),(Δ 4611686018427387904)] be λdP O=>
   aa x7 (Z7 dP 0) O λbC=>
   aa x7 (Z7 dP 1) O λdQ=>
   aa x7 (bO (Γ g)) O λfI=>
   aa x7 (u6 bA fI 3) O λfJ=>
   aa x7 (u5 ah fJ) O λfK=>
   aa x7 (aJ .neq ah false true fK (Δ 0)) O λfL=>
   Split fL (aa x7 (u5 a1 (Γ E)) O λbW=>
    ax x7 (o8 a1 (Γ N) bW) O λ(_:Unit) bg=>
    aa x7 (do loadVar a1 (<-asAddr (Γ N))) bg λbX=>
 Q bX bg)
    (cm (α:=x3->Prop) (λ(aT:x3)=>
    ch (Δ 0) aT λdR bm fM=>
     cm (α:=x1->x3->Prop) (λ(fN:x1) (bY:x3)=>
      Split fN (ax x7 (T7 cb true (.tuple #[])) bY λx cI=>
     aa x7 (u6 a1 (Γ E) 1) cI λfO=>
     aa x7 (u5 ao fO) cI λdS=>
     aa x7 (W7 #[ao] ah #[dS]) cI λfP=>
     ch (Δ 0) cI λcZ bE fQ=>
      aa x7 (aJ .lss ah false false cZ fP) bE λfR=>
      Split fR (aa x7 (c7 ao dS cZ) bE λfS=>
      aa x7 (u5 al fS) bE λfU=>
      aa x7 (aJ .sub al false true fU (Δ 1)) bE λfV=>
      ai x7 lJ [(Γ g),(Δ 0),fV] bE λdV b0=>
      aa x7 (Z7 dV 0) b0 λfW=>
      aa x7 (Z7 dV 1) b0 λjA=>
      aa x7 (u6 cb x 0) b0 λfX=>
      aa x7 (u5 ao fX) b0 λfY=>
      ax x7 (Y1 ao 1 #[(0,fW)]) b0 λfZ gb=>
      ax x7 (b8 #[ao,ao] ao #[fY,fZ]) gb λgc dW=>
      aa x7 (u6 cb x 0) dW λgd=>
      ax x7 (o8 ao gd gc) dW λ(_:Unit) dX=>
      aa x7 (aJ .add ah false true cZ (Δ 1)) dX λgf=>
      fQ gf dX)
       (ai x7 lJ [(Γ g),(Δ 0),(Δ 4611686018427387904)] bE λdY bF=>
     aa x7 (Z7 dY 0) bF λgg=>
     aa x7 (Z7 dY 1) bF λgh=>
     aa x7 (u6 a1 (Γ E) 3) bF λgi=>
     aa x7 (u5 ed gi) bF λea=>
     aa x7 (W7 #[ed] ah #[ea]) bF λgj=>
     ch (Δ 0) bF λc0 bH gk=>
      aa x7 (aJ .lss ah false false c0 gj) bH λgl=>
      Split gl (cm (α:=x3->Prop) (λ(eb:x3)=>
       aa x7 (aJ .add ah false true c0 (Δ 1)) eb λgm=>
       gk gm eb) λec=>
      aa x7 (c7 ed ea c0) bH λgn=>
      aa x7 (u5 cb gn) bH λgp=>
      ax x7 (T7 cb true (.tuple #[])) bH λy gu=>
      ax x7 (o8 cb y gp) gu λ(_:Unit) aH=>
      cm (α:=x1->x3->Prop) (λ(gv:x1) (ee:x3)=>
       Split gv (ai x7 nk [(Γ g),(Δ 4),gh] ee λjB gw=>
        ec gw)
        (ec ee)) λef=>
      aa x7 (bO (Γ g)) aH λgx=>
      aa x7 (u6 bA gx 3) aH λgA=>
      aa x7 (u5 ah gA) aH λgB=>
      aa x7 (aJ .eql ah false true gB (Δ 0)) aH λgC=>
      Split gC (aa x7 (u6 cb x 0) aH λgD=>
       aa x7 (u5 ao gD) aH λgE=>
      aa x7 (u6 cb y 0) aH λgF=>
      aa x7 (u5 ao gF) aH λgH=>
      ai x7 rQ [gE,gH] aH λgI gJ=>
      ef gI gJ)
       (ef (.bool false) aH))
       (aa x7 (u6 cb x 1) bH λgK=>
     ax x7 (o8 al gK gg) bH λ(_:Unit) cJ=>
     aa x7 (u6 a1 (Γ E) 3) cJ λgL=>
     aa x7 (u5 ed gL) cJ λgM=>
     aa x7 (u5 cb x) cJ λgN=>
     ax x7 (Y1 ed 1 #[(0,gN)]) cJ λgO gR=>
     ax x7 (b8 #[ed,ed] ed #[gM,gO]) gR λgS eg=>
     aa x7 (u6 a1 (Γ E) 3) eg λgT=>
     ax x7 (o8 ed gT gS) eg λ(_:Unit) eh=>
     aa x7 (aJ .add al false true dR (Δ 1)) eh λgU=>
     fM gU eh)))
       (cm (α:=x3->Prop) (λ(af:x3)=>
     aa x7 (u5 a1 (Γ E)) af λgV=>
     ax x7 (o8 a1 (Γ N) gV) af λ(_:Unit) ej=>
     aa x7 (do loadVar a1 (<-asAddr (Γ N))) ej λgW=>
 Q gW ej) λek=>
    Split (.bool neg) (eo bY λaw=>
     aa x7 (bO (Γ g)) aw λc1=>
     aa x7 (u6 bA c1 8) aw λc2=>
     aa x7 (u5 dA c2) aw λem=>
     aa x7 (u5 a1 (Γ E)) aw λgX=>
     ax x7 (Y1 dA 1 #[(0,gX)]) aw λgY aV=>
     (Ext aw aV\/ci x7 (u5 dA c2) em aV/\ci x7 (u6 bA c1 8) c2 aV/\ci x7 (bO (Γ g)) c1 aV/\True)/\
     ax x7 (b8 #[dA,dA] dA #[em,gY]) aV λgZ cK=>
      aa x7 (bO (Γ g)) cK λg0=>
      aa x7 (u6 bA g0 8) cK λg2=>
      ax x7 (o8 dA g2 gZ) cK λ(_:Unit) bn=>
      ek bn)
     (ek bY))) λen=>
     aa x7 (aJ .lss al false false dR bC) bm λg3=>
     Split g3 (aa x7 (bO (Γ g)) bm λg4=>
     aa x7 (u6 bA g4 3) bm λg5=>
     aa x7 (u5 ah g5) bm λg6=>
     aa x7 (aJ .eql ah false true g6 (Δ 0)) bm λg7=>
     en g7 bm)
      (en (.bool false) bm)) λep=>
   aa x7 (aJ .lss al false true bC (Δ 0)) O λg8=>
   Split g8 (cm (α:=x1->x3->Prop) (λ(g9:x1) (X:x3)=>
     Split g9 (ai x7 nk [(Γ g),(Δ 4),dQ] X λjC c3=>
     aa x7 (u5 a1 (Γ E)) c3 λha=>
     ax x7 (o8 a1 (Γ N) ha) c3 λ(_:Unit) er=>
     aa x7 (do loadVar a1 (<-asAddr (Γ N))) er λhb=>
 Q hb er)
     (aa x7 (bO (Γ g)) X λhc=>
    aa x7 (u6 bA hc 8) X λhg=>
    aa x7 (u5 dA hg) X λhh=>
    aa x7 (Op.unary .neg bC) X λhj=>
    aa x7 (aJ .sub al false true hj (Δ 1)) X λhl=>
    aa x7 (c7 dA hh hl) X λhn=>
    aa x7 (u6 a1 hn 3) X λho=>
    aa x7 (u5 ed ho) X λhp=>
    aa x7 (u6 a1 (Γ E) 3) X λhq=>
    ax x7 (o8 ed hq hp) X λ(_:Unit) es=>
    ep es)) λet=>
    eo O λP=>
    aa x7 (Op.unary .neg bC) P λhr=>
    aa x7 (bO (Γ g)) P λhs=>
    aa x7 (u6 bA hs 8) P λht=>
    aa x7 (u5 dA ht) P λhv=>
    aa x7 (W7 #[dA] ah #[hv]) P λhx=>
    aa x7 (aJ .gtr al false false hr hx) P λhy=>
    Split hy (et (.bool true) P)
    (aa x7 (bO (Γ g)) P λhz=>
    aa x7 (u6 bA hz 8) P λhA=>
    aa x7 (u5 dA hA) P λhB=>
    aa x7 (Op.unary .neg bC) P λhC=>
    aa x7 (aJ .sub al false true hC (Δ 1)) P λhD=>
    aa x7 (c7 dA hB hD) P λhE=>
    aa x7 (u6 a1 hE 1) P λhF=>
    aa x7 (u5 ao hF) P λhG=>
    aa x7 (u6 a1 (Γ E) 1) P λhH=>
    aa x7 (u5 ao hH) P λhI=>
    ai x7 rQ [hG,hI] P λhJ c4=>
    aa x7 (Op.unary .not hJ) c4 λhK=>
    et hK c4))
    (aa x7 (bO (Γ g)) O λhL=>
    aa x7 (u6 bA hL 7) O λhM=>
    aa x7 (u5 al hM) O λhN=>
    aa x7 (aJ .add al false false hN bC) O λhO=>
    aa x7 (bO (Γ g)) O λhP=>
    aa x7 (u6 bA hP 7) O λhQ=>
    ax x7 (o8 al hQ hO) O λ(_:Unit) aK=>
    cm (α:=x3->Prop) (λ(aL:x3)=>
     aa x7 (bO (Γ g)) aL λhR=>
     aa x7 (u6 bA hR 7) aL λhS=>
     aa x7 (u5 al hS) aL λhU=>
     aa x7 (aJ .gtr al false true hU (Δ 16384)) aL λhV=>
     ai x7 rO [(Γ g),hV,dQ] aL λjD c5=>
     ep c5) λeu=>
    aa x7 (bO (Γ g)) aK λhX=>
    aa x7 (u6 bA hX 7) aK λhZ=>
    aa x7 (u5 al hZ) aK λh0=>
    aa x7 (aJ .gtr al false true h0 (Δ 4611686018427387904)) aK λh2=>
    Split h2 (aa x7 (bO (Γ g)) aK λh3=>
    aa x7 (u6 bA h3 7) aK λh4=>
    ax x7 (o8 al h4 (Δ 4611686018427387904)) aK λ(_:Unit) ev=>
    eu ev)
    (eu aK)))) λew=>
  aa x7 (aJ .gtr al false true (Δ (ar:Int)) (Δ 6)) aG λh5=>
  Split h5 (ai x7 rO [(Γ g),(.bool true),(Δ dz)] aG λjE h6=>
  ew h6)
   (aa x7 (aJ .gtr al false true dG (Δ 4096)) aG λh7=>
  ai x7 rO [(Γ g),h7,(Δ dz)] aG λjF h8=>
  ew h8)):=by
 have h9:=h.lt;have ez:N≠g:=λhe=>by
  obtain⟨ay,Z,ac,bad,az,big,aC,told,sv,C,_⟩:=hY h;subst he;exact absurd (ey C dE) Φ
 obtain⟨aF,szv,b7,g1,cL,cM,f1,f2,f3,f4,f5,f6,f7⟩:=id dC;have b2:E≠g:=Ω
 have ret:∀ {G:x3} {x:cv} {S:ag},hf G B E x->ab G N a1 [.slice ν 0 0,.slice ν 0 0,Δ 0,.slice ν 0 0]->ae (λr=>r=g\/H r\/B<=r) w G->bM G g G.heap.size S 100001 ((jS neg ar scope sizes R).map (·.2))->(∀q,jS neg ar scope sizes R=σ q->x=q.1)->¬S N->(∀r,H r->S r)->(∀r,S r->H r\/B<=r)->(∀r,S r->r<G.heap.size)->
   (aa x7 (u5 a1 (Γ E)) G λbW=>
    ax x7 (o8 a1 (Γ N) bW) G λ(_:Unit) bg=>
    aa x7 (do loadVar a1 (<-asAddr (Γ N))) bg λbX=>Q bX bg):=by
  intro G x S c6 c9 ia ib ic ie da ig ih;obtain⟨aF,szv,b7,g1,cL,cM,db,dc,dd,df,dg,eA,eB⟩:=c6;let ad:iY:=⟨aF,szv,x.other,b7⟩;have b4:gP G ad x:=⟨⟨g1,dc⟩,⟨cL,dd⟩,rfl,cM,df⟩;rw[bD a1.p a1.i rfl (show G.rangeAt E 0 (eU ad) from db.range)];refine b3 (vs:=eU ad) a1.i rfl rfl b4.one c9 λjG dh ii ij=>?_;rw[fz a1.p a1.i rfl ij.range];have il:∀r,r=N->hd G r\/G.heap.size<=r:=λr j=>by subst j;exact .inl ⟨_,_,c9,Φ,Φ⟩
  refine ft _ _ ⟨ad,x,S,(ia.mono λr _ h=>?_).trans (dh.mono λr _ h=>.inr (.inr (.inl h))),rfl,b4.dM dh il,ib.dM dh λr j=>.inl ?_,ic,da,ig,λr j=>by rw[ii];exact ih r j⟩
  .exact h.elim .inl λh=>h.elim (λh=>.inr (.inl h)) λh=>.inr (.inr (.inr h))
  .have j:r=N:=j;subst j;exact⟨_,_,c9,Φ,Φ,Φ,Φ,ie⟩
 have di:∀ {G:x3},ae (gQ g B) w G->ab G N a1 [.slice ν 0 0,.slice ν 0 0,Δ 0,.slice ν 0 0]:=λaW=>dE.V aW λI=>I.elim ez λh=>Ω
 have dj:∀ {G:x3},ae (gQ g B) w G->ae (λr=>r=g\/H r\/B<=r) w G:=λaW=>aW.mono λr _ h=>h.elim .inl λh=>.inr (.inr h);have eC:∀ {G:x3} {eE:Nat} {S:ag} {so:Option aD},bM G g eE S 100000 so->bM G g eE S 100001 so:=λj=>by
  obtain⟨b5,w0,ay,bh,gs,sv,L,aE,Z,ac,bad,az,big,aC,told,h1,im,io,ip,iq,dk,dl⟩:=j;refine⟨Ω,w0,ay,bh,gs,sv,L,aE,Z,ac,bad,az,big,aC,told,h1,im,io,ip,iq,dk,?_⟩;rename_i so;cases so with
  |none=>exact⟨dl.1,by have:=dl.2;omega⟩
  |some s=>exact dl
 have eH:∀ {G:x3} {x:cv},hf G B E x->ae (gQ g B) w G->bM G g B H 100000 ν->jS neg ar scope sizes R=ν->(aa x7 (u5 a1 (Γ E)) G λbW=>
    ax x7 (o8 a1 (Γ N) bW) G λ(_:Unit) bg=>
    aa x7 (do loadVar a1 (<-asAddr (Γ N))) bg λbX=>Q bX bg):=λc6 aW j eI=>
  ret c6 (di aW) (dj aW) (by rw[eI];exact eC j.base) (λq U=>by rw[eI] at U;cases U) cF (λ_ h=>h) (λ_ h=>.inl h) λr j=>by have:=cG r j;have:=aW.size;omega
 rw[aA a1.p 1 f1 rfl,aX ao.u f3.ls];refine NL f3.ls (λz ir=>(dD z ir).1) λc aW=>?_;refine dm (λbV=>ae (λr=>r=g) w bV/\bM bV g B H 100000 (R.map (bb (decide (6<ar)||dv sizes)))) ?_ ?_
 rotate_left
 .intro av aZ;rw[bT,aj];refine⟨λdk=>?_,λdk=>?_⟩
  .refine (mL h).mono ?_;rintro _ J _ a2;refine aZ _ ⟨a2.1,?_⟩;rw[decide_eq_true (show 6<ar by omega),Bool.true_or];exact a2.2
  .rw[bT];refine (mL h).mono ?_;rintro _ J _ a2;refine aZ _ ⟨a2.1,?_⟩;have e:dv sizes=decide (4096<c):=by rw[V3,decide_eq_true_eq];exact aW.symm
   rw[decide_eq_false (show ¬6<ar by omega),Bool.false_or,e];exact a2.2
 rintro bV ⟨it,iu⟩;refine (kx iu).mono ?_;rintro _ bB _ ⟨⟨iv,iw⟩,o,jH,rfl,ix,jI⟩;rw[bx,bz];have bI:ae (λr=>r=g) w bB:=it.trans iv;have jJ:=dC.dM bI (ky h);have f123:=f1.V bI λhe=>b2 he;rw[aQ a1.p rfl];refine bo (g:=E) (o:=2) al.i rfl rfl f123 Ξ λbe b6 jK bJ=>?_;have bJ:ab be E a1 [aF,szv,Δ o,b7]:=bJ;have dn:∀r,r=g->hd w r\/w.heap.size<=r:=λr j=>(ky h r j).imp (λ⟨e,c,C,a6,a7,_⟩=>⟨e,c,C,a6,a7⟩) id;have bK:∀ {G:x3} {c:List x1},ab G E a1 c-> ∀r,r=E->hd G r\/G.heap.size<=r:=λC r j=>by subst j;exact .inl ⟨_,_,C,Φ,Φ⟩
 have f224:=eF (eF f2 bI dn) b6 (bK f123);have cN:=eF (eF f3 bI dn) b6 (bK f123);have eJ:=(f4.dM bI dn).dM b6 (bK f123);have bL:=iw.new b6 λr j=>by have j:r=E:=j;omega
 have eK:ae (gQ g B) w be:=(bI.mono λr _ h=>.inl h).trans (b6.mono λr _ h=>.inr (by have h:r=E:=h;omega));refine (kx bL).mono ?_;rintro _ O _ ⟨⟨bi,ba⟩,n,jL,rfl,iy,eL⟩;rw[bx,bz,qO ba];have eM:ae (gQ g B) w O:=eK.trans (bi.mono λr _ h=>.inl h);have iz:hf be B E ⟨scope,sizes,o,[]⟩:=⟨aF,szv,b7,g1,cL,cM,bJ,f224,cN,eJ,f5,f6,f7⟩;have eN:=iz.dM bi (ky bL);cases bc:a8 (-4611686018427387904) 4611686018427387904 (V8 (λx=>x.snd) (a8 0 4611686018427387904 (R.map (bb (decide (6<ar)||dv sizes))))) with
 |none=>
  rw[bc] at ba;rw[Option.map_none,S7,W5,bS];refine eH eN eM ba ?_;unfold jS;cases W:a8 0 aq (R.map (bb (decide (6<ar)||dv sizes))) with
  |none=>rfl
  |some p=>
   obtain⟨o',M⟩:=p;have iA:a8 0 4611686018427387904 (R.map (bb (decide (6<ar)||dv sizes)))=σ (o',M):=W;rw[iA] at bc;have e:bf (-aq) aq M=ν:=bc;simp only;unfold dU;rw[e]
 |some q=>
 obtain⟨jM,K⟩:=q;have iB:=iy _ bc;subst iB;rw[bc] at ba;have ba:bM O g B H 100000 (σ K):=ba;rw[Z4,S6,Y4,aY];obtain⟨M,W,dp⟩:∃M,a8 0 aq (R.map (bb (decide (6<ar)||dv sizes)))=σ (o,M)/\bf (-aq) aq M=σ (n,K):=by
  cases W:a8 0 4611686018427387904 (R.map (bb (decide (6<ar)||dv sizes))) with
  |none=>rw[W] at bc;cases bc
  |some p=>
   obtain⟨o',M⟩:=p;have:=ix _ W;subst this;rw[W] at bc;exact⟨M,W,bc⟩
 have b9:jS neg ar scope sizes R=match dU sizes M with
   |none=>ν
   |some (lines,K)=>σ (⟨scope,sizes,o,lines⟩,if neg=true then {K with shared:=K.shared++[(sizes,lines)]} else K):=by
  unfold jS;rw[W]
 have iC:=(hT dp).1;have iD: -4611686018427387904<=n/\n<=4611686018427387904:=iC;have eP:dU sizes M=(if n<0 then match K.shared[(-n-1).toNat]? with
   |none=>ν
   |some (z,l)=>if z=sizes then σ (l,K) else ν
  else cQ (dT sizes) n.toNat [] (bb (decide (16384<min (K.told+n) aq)) {K with told:=min (K.told+n) aq})):=by
  unfold dU;rw[dp];rfl
 have iE:jR K:=by
  cases bN:R with
  |none=>rw[bN] at W;cases W
  |some au=>
   rw[bN] at W;have dq:bf 0 aq (bb (decide (6<ar)||dv sizes) au)=σ (o,M):=W;have cO:=(dH dq).eqs;have ca:=(dH dp).eqs;intro C;rw[ca.2.1,cO.2.1] at C;rw[ca.1,cO.1];exact fs au bN (S2.1 C).1
 refine dm (λaT=>ae (gQ g B) w aT/\ ∃bp cc cP bj,ab aT E a1 [aF,szv,Δ o,bp]/\ap .i64 al aT g1 aF scope/\ap .i64 al aT cL szv sizes/\kw aT cc bp cP/\bM aT g B H 100000 (σ bj)/\(0<n->cP=[]/\ ∀r,¬leadsTo bp r)/\dU sizes M=(if n<=0 then σ (cP,bj) else cQ (dT sizes) n.toNat [] bj)) ?_ ?_
 .rintro aT ⟨iF,bp,cc,cP,bj,db,dc,dd,df,dg,eA,eB⟩;refine NO dg db dc dd df f5 f6 f7 dD fq iD.2 eA (tk dg).1 λbY A dr iG eQ eR iH cd=>?_;have bP:=iF.trans iG;have bq:dr=(dU sizes M).map (·.2)/\ ∀q,dU sizes M=σ q->A=q.1:=by
   rw[eB];by_cases ds:n<=0
   .obtain⟨Z,ac⟩:=iH ds;rw[if_pos ds];exact⟨ac,λq U=>by cases U;exact Z⟩
   .rw[if_neg ds];exact cd Ω
  obtain⟨bq,a2⟩:=bq;cases neg with
  |false=>
   refine dm (λaf=>bY=af) ?_ ?_
   .rintro _ rfl;refine ret eQ (di bP) (dj bP) ?_ ?_ cF (λ_ h=>h) (λ_ h=>.inl h) λr j=>by have:=cG r j;have:=bP.size;omega
    .have:(jS false ar scope sizes R).map (·.2)=dr:=by
      rw[b9,bq];cases dU sizes M with
      |none=>rfl
      |some p=>rfl
     rw[this];exact eC eR.base
    .intro q U;rw[b9] at U;cases ak:dU sizes M with
     |none=>rw[ak] at U;cases U
     |some p=>
      rw[ak] at U;have:=a2 p ak;cases U;rw[this]
   .intro av aZ;rw[aY];exact aZ _ rfl
  |true=>
   refine dm (λaf=>∃S,ae (λr=>r=g\/H r\/B<=r) w af/\hf af B E ⟨scope,sizes,o,A⟩/\ab af N a1 [.slice ν 0 0,.slice ν 0 0,Δ 0,.slice ν 0 0]/\bM af g af.heap.size S 100001 ((jS true ar scope sizes R).map (·.2))/\¬S N/\(∀r,H r->S r)/\(∀r,S r->H r\/B<=r)/\ ∀r,S r->r<af.heap.size) ?_ ?_
   .rintro af ⟨S,iI,iJ,a3,a4,a5,iK,iL,iM⟩;refine ret iJ a3 iI a4 ?_ a5 iK iL iM;intro q U;rw[b9] at U;cases ak:dU sizes M with
    |none=>rw[ak] at U;cases U
    |some p=>
     rw[ak] at U;have:=a2 p ak;cases U;rw[this]
   .intro av aZ;rw[bS];intro aw ce _ _;have iN:=eR.ext ce;have iO:=eQ.ext ce;have iP:=(di bP).ext ce;obtain⟨b5,w0,ay,bh,gs,sv,L,aE,Z,ac,bad,az,big,aC,told,cS,br,bt,am,bu,bk,bw⟩:=id iN;have iQ:=bu.g br bt;obtain⟨⟨iR,eS⟩,aM,cg,cj⟩:=id iQ;have iS:∀r,leadsTo sv r->r<B:=λr j=>cG r (bk r j);rw[aO bA.p 8 am rfl];obtain⟨eV,eW,bp,eX,eY,cc,eZ,e0,e1,e2,iT,iU,iV⟩:=id iO;let ad:iY:=⟨eV,eW,o,bp⟩;let x:cv:=⟨scope,sizes,o,A⟩;have b4:gP aw ad x:=⟨⟨eX,e0⟩,⟨eY,e1⟩,rfl,cc,e2⟩;rw[bD a1.p a1.i rfl (show aw.rangeAt E 0 (eU ad) from eZ.range)];refine hW (f:=eU) (a:=ad) dA.u a1.i Ω rfl rfl λjN jO aV jP Y iW=>?_;refine⟨.inl Y,?_⟩;have jQ:L.length<=100000:=by
     cases dr with
     |none=>exact bw.2
     |some s=>have:=bw.2.2.2.2.2.2.2.2;omega
    have dt:=aM.ext Y;refine ik (f:=eU) (a:=ad) dA.u a1.i rfl dt (by simpa using iW.sl) (b4.ext Y).one Ω Ω λe3 iX cK ck iZ e4=>?_;have du:=am.ext Y;have e5:=du.V e4 λhe=>cR dt du Φ he;rw[bZ,aQ bA.p rfl];refine bo (g:=g) (o:=8) dA.i (eO ck.sl).1 (eO ck.sl).2 e5 (by simp[gq]) λbn dw jT cT=>?_;have cT:ab bn g bA (gq ay Z ac bad az big aC told e3):=cT;have aN:ae (λr=>leadsTo sv r\/r=g) aV bn:=(e4.mono λr _ h=>.inl h).trans (dw.mono λr _ h=>.inr h);have cU:∀r,(leadsTo sv r\/r=g)->hd aV r\/aV.heap.size<=r:=λr j=>by
     rcases j with j|rfl
     .obtain⟨rfl,c,C⟩:=ei dt j;exact .inl ⟨_,c,C,Φ,Φ⟩
     .exact .inl ⟨_,_,du,Φ,Φ⟩
    have e6:∀ {ad x},gP aw ad x->gP bn ad x:=λhe=>(he.ext Y).dM aN cU;have z50:=ce.size;have jU:=Y.size;have z53:=aN.size;have jV:=bP.size;have jW:=h9.2;refine aZ _ ⟨λr=>H r\/(aw.heap.size<=r/\r<bn.heap.size),?_,?_,?_,?_,?_,λr j=>.inl j,λr j=>j.imp id λj=>Ω,λr j=>?_⟩
    .refine (((dj bP).trans (ce.V _)).trans (Y.V _)).trans (aN.mono λr _ j=>?_);exact j.elim (λj=>.inr (.inl (bk r j))) .inl
    .have i0:=eZ.ext Y;refine⟨eV,eW,bp,eX,eY,cc,i0.V aN λj=>?_,eF (e0.ext Y) aN cU,eF (e1.ext Y) aN cU,(e2.dM (Y.V λ_=>False) λ_ h=>h.elim).dM aN cU,iT,iU,iV⟩;rcases j with j|j
     .have:=iS _ j;omega
     .exact b2 j
    .exact (iP.ext Y).V aN λj=>j.elim (λj=>cF (bk _ j)) ez
    .refine⟨Ω,bn,ay,bh,iX,e3,L++[ad],aE++[x],Z,ac,bad,az,big,aC,told,rfl,ae.refl _ _,⟨_,cT⟩,cT,⟨⟨?_,λr j=>?_⟩,ck.V dw λr j he=>?_,by rw[p8,p8,cg];rfl,λi i1 i2 hi cl=>?_⟩,λr j=>?_,?_⟩
     .refine (iR.V (Y.V λ_=>False) λ_ _ h=>h).V aN λr j I=>?_;obtain⟨c,C⟩:=eS r j;rcases I with I|rfl
      .obtain⟨rfl,i3,dx⟩:=ei aM I;exact absurd (ey C dx) Φ
      .exact absurd (ey C am) Φ
     .obtain⟨c,C⟩:=eS r j;refine⟨c,(C.ext Y).V aN λI=>?_⟩;rcases I with I|rfl
      .obtain⟨rfl,i3,dx⟩:=ei aM I;exact absurd (ey C dx) Φ
      .exact absurd (ey C am) Φ
     .have he:r=g:=he;subst he;exact cR ck e5 Φ j
     .by_cases i4:i<L.length
      .rw[Z8 i4] at hi;rw[Z8 Ω] at cl;exact e6 (cj i i1 i2 hi cl)
      .rw[Z9 Ω] at hi;rw[Z9 Ω] at cl;have i5:i-L.length=0:=by have:=(x4.1 hi).1;simp at this;omega
       have da:i-aE.length=0:=Ω
       rw[i5] at hi;rw[da] at cl;cases hi;cases cl;exact e6 b4
     .rcases iZ r j with h|h
      .exact .inl (bk r h)
      .have:=(ck.leads j);have:=dw.size;exact .inr ⟨Ω,Ω⟩
     .rw[b9];cases ak:dU sizes M with
      |none=>
       rw[ak] at bq;rw[bq] at bw;exact⟨bw.1,by rw[p8];simp;have:=bw.2;omega⟩
      |some p=>
       obtain⟨lines,bj⟩:=p;rw[ak] at bq;rw[bq] at bw;have i6:=a2 _ ak;obtain⟨cn,cp,cq,cr,ct,bQ,cu,aS,cV⟩:=id bw;have e7:=Dc ak;refine⟨cn,cp,cq,cr,ct,bQ,cu,?_,?_⟩
       .show (aE++[x]).map _=bj.shared++[(sizes,lines)];rw[j6,aS];simp only[x,V4,List.map_nil];rw[i6]
       .have jX:M.shared.length+M.toks.length<=100000:=by
         cases bN:R with
         |none=>rw[bN] at W;cases W
         |some au=>
          rw[bN] at W h;have dq:bf 0 aq (bb (decide (6<ar)||dv sizes) au)=σ (o,M):=W;have t9:=dH dq;have cO:=t9.1;have ca:=t9.eqs.2.2;have t3:=(tk h).2;have e9:(bb (decide (6<ar)||dv sizes) au).toks=au.toks:=rfl;have fa:(bb (decide (6<ar)||dv sizes) au).shared=au.shared:=rfl;rw[e9] at cO;rw[fa] at ca;rw[ca];omega
        have fb:L.length=bj.shared.length:=by rw[<-aS,u7,cg]
        have i7:bh.length=bj.toks.length:=by rw[<-bQ,u7]
        rw[e7.2] at fb;rw[p8,fb,i7];simp only[U6];have:=e7.1;omega
    .rintro (j|j)
     .exact cF j
     .omega
    .rcases j with j|j
     .have:=cG r j;omega
     .exact j.2
 .intro av aZ;rw[aR,aj];refine⟨λi8=>?_,λi9=>?_⟩
  .
   refine aU (λv X=>Ext O X/\ ∃b:Bool,v= .bool b/\(b=true->dU sizes M=ν)/\(b=false-> ∃lines,dU sizes M=σ (lines,K)/\K.shared[(-n-1).toNat]? =σ (sizes,lines))) ?_ ?_
   .rintro _ X ⟨bR,b,rfl,ja,jb⟩;have cW:=ba.ext bR;have jc:=eN.ext bR;have fc:=eM.trans (bR.V _);cases b with
    |true=>
     rw[bS];refine (nY cW Ω).mono ?_;rintro _ c3 _ ⟨fd,jd⟩;exact eH (jc.dM fd (ky cW)) (fc.trans (fd.mono λr _ h=>.inl h)) jd (by rw[b9,ja rfl])
    |false=>
     rw[aY];obtain⟨lines,je,bU⟩:=jb rfl;obtain⟨b5,w0,ay,bh,gs,sv,L,aE,Z,ac,bad,az,big,aC,told,cS,br,bt,am,bu,bk,cn,cp,cq,cr,ct,bQ,cu,aS,cV⟩:=id cW;obtain⟨_,aM,cg,cj⟩:=bu.g br bt;have cw:(-n-1).toNat<L.length:=by
      have h1:=(x4.1 bU).1;rw[<-aS,u7] at h1;omega
     obtain⟨hk,cz⟩:∃h,L[(-n-1).toNat]? =σ h:=⟨_,x6 cw⟩;obtain⟨bd,cA⟩:=aI (l:=aE) (i:=(-n-1).toNat) Ω;obtain⟨_,_,_,jf,an⟩:=cj _ hk bd cz cA;have jg:bd.lines=lines:=by
      rw[<-aS,x8,cA] at bU;have:=c8 bU;exact (Prod.mk.inj this).2
     rw[aO bA.p 8 am rfl,lO,wrap_i64 Ω Ω,dZ,wrap_i64 Ω Ω,de (i:=(-n-1).toNat) Ω dA.u a1.i aM cw,aQ a1.p rfl,aB Ψ (aM.range cz 3 _ rfl)];obtain⟨jY,fe,jZ,j0⟩:=id an;have cX:ab X E a1 [aF,szv,Δ o,b7]:=(bJ.V bi λhe=>b2 he).ext bR;have jh:=(eF f224 bi λr j=>(ky bL r j).imp (λ⟨e,c,C,a6,a7,_⟩=>⟨e,c,C,a6,a7⟩) id).ext bR;have ji:=(eF cN bi λr j=>(ky bL r j).imp (λ⟨e,c,C,a6,a7,_⟩=>⟨e,c,C,a6,a7⟩) id).ext bR;rw[aQ a1.p rfl];refine bo (g:=E) (o:=3) ed.i (eO fe.sl).1 (eO fe.sl).2 cX Ξ λes cB j1 jj=>?_;refine aZ _ ⟨fc.trans (cB.mono λr _ h=>.inr (by have h:r=E:=h;omega)),hk.b7,jf,lines,K,jj,eF jh cB (bK cX),eF ji cB (bK cX),?_,cW.new cB λr j=>by have j:r=E:=j;omega,λh=>Ω,by rw[je,if_pos Ω]⟩;rw[<-jg];exact an.dM cB (bK cX)
   .intro j2 ff;intro P cC _ _;have jk:=ba.ext cC;obtain⟨b5,w0,ay,bh,gs,sv,L,aE,Z,ac,bad,az,big,aC,told,cS,br,bt,am,bu,bk,cn,cp,cq,cr,ct,bQ,cu,aS,cV⟩:=id jk;obtain⟨_,aM,cg,cj⟩:=bu.g br bt;have j3:K.shared.length=L.length:=by rw[<-aS,u7,cg]
    have an:=eP;rw[if_pos i8] at an;rw[lO,wrap_i64 Ω Ω,aO bA.p 8 am rfl,eD dA.u aM,bT,aj];refine⟨λcd=>ff _ _ ⟨cC,true,rfl,λ_=>?_,λh=>by cases h⟩,λcd=>?_⟩
    .rw[an,Z3 Ω]
    have cw:(-n-1).toNat<L.length:=Ω
    obtain⟨hk,cz⟩:∃h,L[(-n-1).toNat]? =σ h:=⟨_,x6 cw⟩;obtain⟨bd,cA⟩:=aI (l:=aE) (i:=(-n-1).toNat) Ω;obtain⟨_,⟨gz,jl⟩,_,_⟩:=cj _ hk bd cz cA;have bU:K.shared[(-n-1).toNat]? =σ (bd.sizes,bd.lines):=by rw[<-aS,x8,cA];rfl
    rw[bU] at an;simp only at an;rw[aO bA.p 8 am rfl,lO,wrap_i64 Ω Ω,dZ,wrap_i64 Ω Ω,de (i:=(-n-1).toNat) Ω dA.u a1.i aM cw,aQ a1.p rfl,aB Ψ (aM.range cz 1 _ rfl)];have jm:ab P E a1 [aF,szv,Δ o,b7]:=(bJ.V bi λhe=>b2 he).ext cC;have jn:=(eF cN bi λr j=>(ky bL r j).imp (λ⟨e,c,C,a6,a7,_⟩=>⟨e,c,C,a6,a7⟩) id).ext cC;rw[aA a1.p 1 jm rfl];refine (wI jl.ls jn.ls).mono ?_;rintro _ c4 _ ⟨rfl,jo⟩;rw[bG];refine ff _ _ ⟨cC.trans jo,_,rfl,λC=>?_,λC=>?_⟩
    .have jp:bd.sizes≠sizes:=by simpa using C
     rw[an,if_neg jp]
    .have fg:bd.sizes=sizes:=by simpa using C
     exact⟨bd.lines,by rw[an,if_pos fg],by rw[bU,fg]⟩
  .
   have an:=eP;rw[if_neg i9] at an;obtain⟨b5,w0,ay,bh,gs,sv,L,aE,Z,ac,bad,az,big,aC,told,cS,br,bt,am,bu,bk,cn,cp,cq,cr,ct,bQ,cu,aS,cV⟩:=id ba;rw[aO bA.p 7 am rfl,aP];generalize jq:X2.wrap (told+n)=bl;have fh:K.big=false->bl=K.told+n/\0<=bl:=λC=>by
    obtain⟨e9,fa⟩:=iE C;have jr:=cr C;rw[<-jq,jr,wrap_i64 Ω Ω];exact⟨rfl,Ω⟩
   rw[bZ,aQ bA.p rfl];refine bo (g:=g) (o:=7) al.i rfl rfl am (by simp[gq]) λaK fi j4 cD=>?_;have cD:ab aK g bA (gq ay Z ac bad az big aC bl sv):=cD;refine dm (λaL=>ae (λr=>r=g) O aL/\ab aL g bA (gq ay Z ac bad az big aC (min bl aq) sv)) ?_ ?_
   rotate_left
   .intro j5 fj;rw[aO bA.p 7 cD rfl,bT,aj];refine⟨λcd=>?_,λcd=>fj _ ⟨fi,?_⟩⟩
    .rw[bZ,aQ bA.p rfl];refine bo (g:=g) (o:=7) al.i rfl rfl cD (by simp[gq]) λev js j7 jt=>?_;refine fj _ ⟨fi.trans js,?_⟩;have e:min bl aq=4611686018427387904:=by unfold aq;omega
     rw[e];exact jt
    .have e:min bl aq=bl:=by unfold aq;omega
     rw[e];exact cD
   rintro aL ⟨fk,fm⟩;have ju:bM aL g B H 100000 (σ {K with told:=min (K.told+n) aq}):=⟨b5,w0,ay,bh,gs,sv,L,aE,Z,ac,bad,az,big,aC,_,cS,br.trans fk,bt,fm,bu,bk,cn,cp,cq,λC=>by
    have C:K.big=false:=C;rw[(fh C).1],ct,bQ,cu,aS,cV⟩
   rw[aO bA.p 7 fm rfl,bT];refine (mL ju).mono ?_;rintro _ c5 _ ⟨jv,fo⟩;have jw:(σ {K with told:=min (K.told+n) aq}).map (bb (decide (16384<min bl aq)))=σ (bb (decide (16384<min (K.told+n) aq)) {K with told:=min (K.told+n) aq}):=by
    show σ (bb _ _)=_;congr 1;unfold bb;cases C:K.big with
    |true=>simp
    |false=>rw[(fh C).1]
   rw[jw] at fo;have cE:ae (λr=>r=g) be c5:=(bi.trans fk).trans jv;have dy:∀r,r=g->hd be r\/be.heap.size<=r:=λr j=>(ky bL r j).imp (λ⟨e,c,C,a6,a7,_⟩=>⟨e,c,C,a6,a7⟩) id;have jx:b7= .slice ν 0 0:=by
    have:=fp _ f1;simpa using this
   refine aZ _ ⟨eK.trans (cE.mono λr _ h=>.inl h),b7,cM,[],_,bJ.V cE λhe=>b2 he,eF f224 cE dy,eF cN cE dy,eJ.dM cE dy,fo,λ_=>⟨rfl,λr j=>by rw[jx] at j;exact e8 j⟩,?_⟩;rw[an];by_cases eL:n<=0
   .have:n=0:=Ω
    subst this;rw[if_pos (Int.le_refl _)];rfl
   .rw[if_neg eL]
theorem Df {s:aD}:dc all s=match bf (-aq) aq s with
  |none=>ν
  |some (a,f)=>match e0 all.length a.natAbs f with
   |none=>ν
   |some (scope,e)=>jS (decide (a<0)) a.natAbs scope (scope.map λv=>all.getD v.toNat 0) (σ e):=by
 unfold dc;cases bf (-aq) aq s with
 |none=>rfl
 |some q=>
  obtain⟨a,f⟩:=q;simp only;cases e0 all.length a.natAbs f with
  |none=>rfl
  |some p=>
   obtain⟨scope,e⟩:=p;simp only;unfold jS;show _=match bf 0 aq (bb (decide (6<a.natAbs)||dv (scope.map λv=>all.getD v.toNat 0)) e) with
    |none=>ν
    |some (other,h)=>_
   cases bf 0 aq (bb (decide (6<a.natAbs)||dv (scope.map λv=>all.getD v.toNat 0)) e) with
   |none=>rfl
   |some r=>
    obtain⟨o,h⟩:=r;simp only;cases dU (scope.map λv=>all.getD v.toNat 0) h with
    |none=>rfl
    |some w=>
     obtain⟨ls,x⟩:=w;by_cases j:a<0
     .simp[j]
     .simp[j]
def wK (w:x3) (g:Nat) (H:ag) (e:Option (cv×aD)) (v:x1) (w':x3):Prop:=∃f x a,ae (λr=>r=g\/H r) w w'/\v= .agg (eU f).toArray/\gP w' f x/\bM w' g w'.heap.size a 100001 (e.map (·.2))/\(∀q,e=σ q->x=q.1)/\(∀r,H r->a r)/\(∀r,a r->H r\/w.heap.size<=r)/\ ∀r,a r->r<w'.heap.size
theorem Dg {n:Int} {s s':aD} (h:e0 n k s=σ (l,s')):s'.toks.length+l.length<=s.toks.length/\s'.told=s.told/\s'.big=s.big/\s'.shared=s.shared/\ ∀v∈l,0<=v/\v<n:=by
 have:=ko (f:=kp n) (λ(acc:Λ) t=>t.toks.length+acc.length<=s.toks.length/\t.told=s.told/\t.big=s.big/\t.shared=s.shared/\ ∀v∈acc,0<=v/\v<n) (λacc t a br j e=>by
  unfold kp at e;cases r:bf 0 (n-1) t with
  |none=>rw[r] at e;cases e
  |some q=>
   obtain⟨v,C⟩:=q;rw[r] at e;simp only at e;split at e
   .cases e
   .cases e;have w:=dH r;have E:=(hT r).1;obtain⟨x,z,A⟩:=w.eqs;have t0:=w.1;refine⟨by have:=j.1;rw[p8];simp only[U6];omega,x.trans j.2.1,z.trans j.2.2.1,A.trans j.2.2.2.1,λy p=>?_⟩;rcases l7.1 p with p|p
    .exact j.2.2.2.2 y p
    .rw[l9.1 p];omega) k [] s l s' ⟨Ξ,rfl,rfl,rfl,λv B=>by cases B⟩ h
 exact this.1
theorem NP {g B0:Nat} {H:ag} {s:aD} {P:x1} (h:bM w g B0 H 100000 (σ s)) (ad:ap .i64 al w gz P all) (af:∀z∈all,1<=z/\z<=aq) (aQ:all.length<=100001) (Q:∀r,H r->r<w.heap.size) (bk:jR s):
  ai x7 y3 [Γ g,P] w (wK w g H (dc all s)):=by
 have bX:=h.lt;refine aw func91 ?_;refine bB a1.i λG J bY R S=>?_;have S:ab J G a1 [.slice ν 0 0,.slice ν 0 0,Δ 0,.slice ν 0 0]:=S;refine bB a1.i λM U bZ W X=>?_;have X:ab U M a1 [.slice ν 0 0,.slice ν 0 0,Δ 0,.slice ν 0 0]:=X;have h1:=(h.ext R).base;have ah:=h1.ext W;have b0:=R.size;have aS:=S.lt;have b1:=X.lt;refine (kx ah).mono ?_;rintro _ E _ ⟨⟨Y,j⟩,a,b2,rfl,ak,am⟩;rw[bx,bz,aR];have bl:M≠g:=Ω
 have an:G≠g:=Ω
 have ao:=X.V Y λhe=>bl he;have au:=(S.ext W).V Y λhe=>an he;have aT:ap .i64 al E gz P all:=bn ((ad.ext R).ext W) Y λr e he=>by
  have he:r=g:=he;obtain⟨aV,B,K,bad,aW,big,aX,told,sv,Z,_⟩:=hY h;subst he;exact cc ad Z Φ e rfl
 have aY:∀r,leads P r->r<J.heap.size:=λr e=>by obtain⟨B,K⟩:=bP ad e;omega
 have ay:hf E J.heap.size M ⟨[],[],0,[]⟩:=⟨_,_,_,0,0,0,ao,ap.nil _ _ _ _,ap.nil _ _ _ _,⟨[],bg.nil _ _ _ _ _,λy bm=>(by cases bm),rfl⟩,(λr e=>by rcases e with⟨a,n,c,B,K⟩|⟨a,n,c,B,K⟩<;>cases B),(λr e=>by obtain⟨a,n,c,B,K⟩:=e;cases B),Ω⟩;have aA:∀c,ab E M a1 c->c[3]? =σ (.slice ν 0 0):=λc aB=>by
  unfold ab at aB ao;rw[ao] at aB;have:=Array.toList_inj.2 (Obj.cells.inj (c8 aB)).1;simp at this;rw[<-this];rfl
 have aZ:ae (λr=>r=g) J E:=(W.V _).trans Y;have b4:J.heap.size<=E.heap.size:=aZ.size;have aC:∀ {f:x3} {aE:Option (cv×aD)} {v:x1} {w':x3},ae (gQ g J.heap.size) E f->aE=dc all s->Dd f g G J.heap.size H aE v w'->wK w g H (dc all s) v w':=by
  rintro f aE v w' C rfl ⟨O,x,bo,aG,aH,aI,aJ,a2,a6,a7,bp⟩;refine⟨O,x,bo,?_,aH,aI,aJ,a2,a6,λr e=>(a7 r e).imp id λh=>Ω,bp⟩;refine hr (hr ((R.V _).trans (aZ.mono λr _ h=>.inl h)) C λr e he=>?_) aG λr e he=>?_
  .exact he.elim .inl λhe=>Ω
  .rcases he with he|he|he|he
   .exact .inl he
   .exact .inr he
   .omega
   .omega
 have bq:∀ {f:x3} {x:cv},ae (gQ g J.heap.size) E f->dc all s=ν->bM f g J.heap.size H 100000 ν->hf f J.heap.size M x->
   (aa x7 (u5 a1 (Γ M)) f λbr=>
    ax x7 (o8 a1 (Γ G) br) f λ(_:Unit) ba=>
    aa x7 (do loadVar a1 (<-asAddr (Γ G))) ba λbt=>wK w g H (dc all s) bt ba):=by
  intro f x C bb aK bu;obtain⟨aF,szv,b7,g1,bw,bA,aG,aH,aI,aJ,a2,a6,a7⟩:=bu;let O:iY:=⟨aF,szv,x.other,b7⟩;have bc:gP f O x:=⟨⟨g1,aH⟩,⟨bw,aI⟩,rfl,bA,aJ⟩;have aL:=au.V C λI=>I.elim an λh=>Ω
  rw[bD a1.p a1.i rfl (show f.rangeAt M 0 (eU O) from aG.range)];refine b3 (vs:=eU O) a1.i rfl rfl bc.one aL λb5 aM b6 bC=>?_;rw[fz a1.p a1.i rfl bC.range];have bE:∀r,r=G->hd f r\/f.heap.size<=r:=λr e=>by subst e;exact .inl ⟨_,_,aL,Φ,Φ⟩
  have b8:=C.size;refine aC C rfl ⟨O,x,H,aM.mono λr _ h=>.inr (.inr (.inl h)),rfl,bc.dM aM bE,?_,(λq A=>by rw[bb] at A;cases A),λ_ h=>h,λ_ h=>.inl h,λr e=>by have:=Q r e;omega⟩;rw[bb];have bF:bM f g J.heap.size H 100001 ν:=by
   obtain⟨b9,w0,aV,bG,gs,sv,L,bH,B,K,bad,aW,big,aX,told,h1,ah,j,bI,bJ,aN,bd⟩:=aK;exact⟨Ω,w0,aV,bG,gs,sv,L,bH,B,K,bad,aW,big,aX,told,h1,ah,j,bI,bJ,aN,bd.1,by have:=bd.2;omega⟩
  refine bF.dM aM λr e=>.inl ?_;have e:r=G:=e;subst e;exact⟨_,_,aL,Φ,Φ,Φ,Φ,λaz=>by have:=Q _ az;omega⟩
 have N:=Df (all:=all) (s:=s);have bK:a8 (-4611686018427387904) 4611686018427387904 (σ s)=bf (-aq) aq s:=rfl;rw[bK] at j ak am;have ca: -4611686018427387904<=a/\a<=4611686018427387904:=by
  cases A:bf (-aq) aq s with
  |none=>have:=am A;omega
  |some q=>have:=ak q A;rw[this];exact (hT (n:=q.1) (s':=q.2) A).1
 refine aU (λv bL=>E=bL/\v=Δ (a.natAbs:Int)) ?_ ?_
 rotate_left
 .intro av be;rw[aj];refine⟨λcb=>?_,λcd=>be _ _ ⟨rfl,by congr 1;omega⟩⟩;rw[lO,wrap_i64 Ω Ω];exact be _ _ ⟨rfl,by congr 1;omega⟩
 rintro _ _ ⟨rfl,rfl⟩;have bh:∀r,H r->r<J.heap.size:=λr e=>by have:=Q r e;omega
 have bi:¬H G:=λaz=>by have:=Q _ az;omega
 have bN:∀ {scope:Λ},(∀v∈scope,0<=v/\v<(all.length:Int))-> ∀z∈scope.map (λv=>all.getD v.toNat 0),1<=z/\z<=aq:=λbO z bQ=>by
  obtain⟨v,bR,rfl⟩:=n9.1 bQ;have:=bO v bR;refine af _ ?_;rw[u4,x6 Ω];exact T8 _
 cases A:bf (-aq) aq s with
 |none=>
  rw[A] at j N;have bS:=am A;subst bS;refine Db (s:=s) (ar:=(0:Int).natAbs) j (.inr ⟨rfl,rfl⟩) ay aA aT aY aQ Φ (λh=>by cases h) ?_ ?_ ?_
  .intro h;cases h
  .intro _;exact De (neg:=decide ((0:Int)<0)) j ay aA (λz af=>by cases af) Ξ au aS bi bh (λbT I=>by cases I) λv w' aO=>aC (ae.refl _ _) (by rw[N];rfl) aO
  .intro h;cases h
 |some q=>
  obtain⟨a',bj⟩:=q;rw[A] at j N;have:=ak _ A;subst this;simp only at N;have j:bM E g J.heap.size H 100000 (σ bj):=j;have bU:=dH A;refine Db (s:=bj) (ar:=a.natAbs) j (.inl rfl) ay aA aT aY aQ Ω (λ_=>(tk j).1) ?_ ?_ ?_
  .intro _ f x C ac aK aP;exact bq C (by rw[N,ac]) aK aP
  .intro h;cases h
  .intro _ f scope s' C ac aN aP bV;obtain⟨ce,bW,t3,t4,t5⟩:=Dg ac;rw[ac] at N;obtain⟨B,K,cg⟩:=bU.eqs;refine De (neg:=decide (a<0)) aN aP bV (bN t5) ?_ (au.V C λI=>I.elim an λh=>Ω) aS bi bh (λbT I=>?_) λv w' aO=>aC C N.symm aO
   .rw[u7];have:=(tk j).1;omega
   .cases I;intro Z;rw[t3,K] at Z;rw[bW,B];exact bk Z
theorem NQ {s s':aD} {l:List (Λ×Int)} (h:dU sizes s=σ (l,s')) (w:jR s):jR s':=by
 unfold dU at h;cases p:bf (-aq) aq s with
 |none=>rw[p] at h;cases h
 |some q=>
  obtain⟨n,e⟩:=q;obtain⟨x,y,t3⟩:=(dH p).eqs;have r:jR e:=λj=>by rw[x];exact w (by rw[<-y];exact j)
  rw[p] at h;simp only at h;split at h
  .split at h
   .cases h
   .split at h
    .cases h;exact r
    .cases h
  .rename_i H;have h':cQ (dT sizes) n.toNat [] (bb (decide (16384<min (e.told+n) aq)) {e with told:=min (e.told+n) aq})=σ (l,s'):=h;have:=ko (f:=dT sizes) (λ_ t=>jR t) (λacc t a br z A=>by
    obtain⟨_,_,_,B⟩:=oR A;obtain⟨C,E,I⟩:=B.eqs;intro j;rw[C];exact z (by rw[<-E];exact j)) n.toNat [] (bb (decide (16384<min (e.told+n) aq)) {e with told:=min (e.told+n) aq}) l s' (λj=>by
     obtain⟨F,G⟩:=S2.1 j;have J:=r F;have K:=of_decide_eq_false G;show 0<=min (e.told+n) aq/\min (e.told+n) aq<=16384;unfold aq at*;omega) h'
   exact this.1
theorem NR {s s':aD} {x:cv} (h:dc all s=σ (x,s')):s'.toks.length+1<=s.toks.length/\(jR s->jR s'):=by
 rw[Df] at h;cases r:bf (-aq) aq s with
 |none=>rw[r] at h;cases h
 |some q=>
  obtain⟨a,F⟩:=q;rw[r] at h;simp only at h;have A:=dH r;cases I:e0 all.length a.natAbs F with
  |none=>rw[I] at h;cases h
  |some p=>
   obtain⟨scope,f⟩:=p;rw[I] at h;simp only at h;obtain⟨U,G,t3,_⟩:=Dg I;unfold jS at h;have e:a8 0 aq ((σ f).map (bb (decide (6<a.natAbs)||dv (scope.map λv=>all.getD v.toNat 0))))=bf 0 aq (bb (decide (6<a.natAbs)||dv (scope.map λv=>all.getD v.toNat 0)) f):=rfl;rw[e] at h;cases w:bf 0 aq (bb (decide (6<a.natAbs)||dv (scope.map λv=>all.getD v.toNat 0)) f) with
   |none=>rw[w] at h;cases h
   |some H=>
    obtain⟨o,B⟩:=H;rw[w] at h;simp only at h;have C:=dH w;cases j:dU (scope.map λv=>all.getD v.toNat 0) B with
    |none=>rw[j] at h;cases h
    |some J=>
     obtain⟨ls,y⟩:=J;rw[j] at h;simp only[X0,T9] at h;obtain⟨_,K⟩:=h;have V:=Dc j;have L:(bb (decide (6<a.natAbs)||dv (scope.map λv=>all.getD v.toNat 0)) f).toks=f.toks:=rfl;have M:=C.1;rw[L] at M;have W:=A.1;obtain⟨N,O,_⟩:=A.eqs;obtain⟨f1,f2,_⟩:=C.eqs;have z:s'.toks=y.toks/\s'.told=y.told/\s'.big=y.big:=by
      rw[<-K];split<;>exact⟨rfl,rfl,rfl⟩
     refine⟨by rw[z.1];omega,λP=>?_⟩;have Q:jR B:=λE=>by
      rw[f2] at E;rw[f1];have R:f.big=false:=(S2.1 E).1;show 0<=f.told/\f.told<=16384;rw[G,N];exact P (by rw[<-O,<-t3];exact R)
     have S:=NQ j Q;intro T;rw[z.2.1];exact S (by rw[<-z.2.2];exact T)
theorem bM.shrink {g:Nat} {H:ag} {so:Option aD} (h:bM w g B H N so):∃a,bM w g B a N so/\(∀r,a r->H r)/\ ∀r,a r-> ∃c,ab w r a1 c:=by
 obtain⟨s,w0,x,y,gs,sv,L,z,A,C,bad,E,big,F,told,h1,f,j,G,p,I,J⟩:=h;refine⟨λr=>leadsTo sv r,⟨s,w0,x,y,gs,sv,L,z,A,C,bad,E,big,F,told,h1,f,j,G,p,λr e=>e,J⟩,I,λr e=>?_⟩;obtain⟨rfl,c,q⟩:=ei p.2.1 e;refine⟨c,q.V f λhe=>?_⟩;obtain⟨M,K⟩:=j;subst he;exact absurd (ey q K) Φ
theorem bM.low {g:Nat} {H:ag} {s:aD} (h:bM w g B H N (σ s)):bM w g B H 100000 (σ s):=by
 obtain⟨F,w0,a,e,gs,sv,L,f,j,p,bad,q,big,r,told,h1,x,y,z,A,C,E⟩:=h;exact⟨o4 _,w0,a,e,gs,sv,L,f,j,p,bad,q,big,r,told,h1,x,y,z,A,C,E⟩
theorem bM.up {g M:Nat} {H:ag} {so:Option aD} (h:bM w g B H N so) (F:N<=M):bM w g B H M so:=by
 obtain⟨G,w0,e,f,gs,sv,L,j,p,q,bad,r,big,x,told,h1,y,z,A,C,E,a⟩:=h;refine⟨Ω,w0,e,f,gs,sv,L,j,p,q,bad,r,big,x,told,h1,y,z,A,C,E,?_⟩;cases so with
 |none=>exact⟨a.1,by have:=a.2;omega⟩
 |some s=>exact a
def lg {α:Type} (f:List α->aD->Option (α×aD)) (cnt i:Nat) (a:Option aD) (A:List α) (so:Option aD):Prop:=a.bind (cQ f cnt [])=(match so with
 |none=>ν
 |some s=>cQ f (cnt-i) A s)
theorem lg.step {α:Type} {f:List α->aD->Option (α×aD)} {cnt i:Nat} {j:Option aD} {A:List α} {s:aD} {a:α} {p:Option aD} (h:lg f cnt i j A (σ s)) (hi:i<cnt) (h1:p=(f A s).map (·.2)) (r:∀q,f A s=σ q->a=q.1):lg f cnt (i+1) j (A++[a]) p:=by
 unfold lg at*;rw[h,show cnt-i=(cnt-(i+1))+1 by omega];simp only;cases e:f A s with
 |none=>rw[oU e,h1,e];rfl
 |some q=>
  obtain⟨a',s'⟩:=q;have:=r _ e;subst this;rw[sA e,h1,e];rfl
theorem NS {s0:aD} {t acc:Λ} {n most p k:Int} {G:List cv} {x y z A H so6 e:Option aD} (h1:x=((dS s0).map (·.2)).map (bb (decide (64<t.length)))) (Q:∀q,dS s0=σ q->t=q.1)
  (r:y=((a8 1 aq x).map (·.2)).map (bb (decide (64<n)))) (N:∀q,a8 1 aq x=σ q->n=q.1) (h:z=(a8 1 aq y).map (·.2)) (hm:∀q,a8 1 aq y=σ q->most=q.1)
  (f:A=((a8 0 aq z).map (·.2)).map (bb (decide (256<p)))) (O:∀q,a8 0 aq z=σ q->p=q.1) (a:H=((a8 1 aq A).map (·.2)).map (bb (decide (2147483648<k)))) (hk:∀q,a8 1 aq A=σ q->k=q.1)
  (w:H.bind (cQ (fO most) n.toNat [])=so6.map λs=>(acc,s)) (j:so6.bind (cQ (λ_ s=>dc acc s) p.toNat [])=e.map λs=>(G,s)):hR s0=e.map λs=>(⟨t,k,acc,G⟩,s):=by
 unfold hR;cases I:dS s0 with
 |none=>
  rw[I] at h1;subst h1;subst r;subst h;subst f;subst a;have:so6=ν:=by cases so6 with|none=>rfl|some s=>cases w
  subst this;cases e with|none=>rfl|some s=>cases j
 |some R=>
 obtain⟨br,B⟩:=R;have:=Q _ I;subst this;rw[I] at h1;have h1:x=σ (bb (decide (64<t.length)) B):=h1;subst h1;simp only;have S:a8 1 aq (σ (bb (decide (64<t.length)) B))=bf 1 aq (bb (decide (64<t.length)) B):=rfl;rw[S] at r N;cases J:bf 1 aq (bb (decide (64<t.length)) B) with
 |none=>
  rw[J] at r;subst r;subst h;subst f;subst a;have:so6=ν:=by cases so6 with|none=>rfl|some s=>cases w
  subst this;cases e with|none=>rfl|some s=>cases j
 |some T=>
 obtain⟨ab,C⟩:=T;have:=N _ J;subst this;rw[J] at r;have r:y=σ (bb (decide (64<n)) C):=r;subst r;simp only;have U:a8 1 aq (σ (bb (decide (64<n)) C))=bf 1 aq (bb (decide (64<n)) C):=rfl;rw[U] at h hm;cases K:bf 1 aq (bb (decide (64<n)) C) with
 |none=>
  rw[K] at h;subst h;subst f;subst a;have:so6=ν:=by cases so6 with|none=>rfl|some s=>cases w
  subst this;cases e with|none=>rfl|some s=>cases j
 |some V=>
 obtain⟨cn,E⟩:=V;have:=hm _ K;subst this;rw[K] at h;have h:z=σ E:=h;subst h;simp only;have W:a8 0 aq (σ E)=bf 0 aq E:=rfl;rw[W] at f O;cases L:bf 0 aq E with
 |none=>
  rw[L] at f;subst f;subst a;have:so6=ν:=by cases so6 with|none=>rfl|some s=>cases w
  subst this;cases e with|none=>rfl|some s=>cases j
 |some X=>
 obtain⟨ac,F⟩:=X;have:=O _ L;subst this;rw[L] at f;have f:A=σ (bb (decide (256<p)) F):=f;subst f;simp only;have Y:a8 1 aq (σ (bb (decide (256<p)) F))=bf 1 aq (bb (decide (256<p)) F):=rfl;rw[Y] at a hk;cases M:bf 1 aq (bb (decide (256<p)) F) with
 |none=>
  rw[M] at a;subst a;have:so6=ν:=by cases so6 with|none=>rfl|some s=>cases w
  subst this;cases e with|none=>rfl|some s=>cases j
 |some Z=>
 obtain⟨ad,P⟩:=Z;have:=hk _ M;subst this;rw[M] at a;have a:H=σ (bb (decide (2147483648<k)) P):=a;subst a;simp only;have w:cQ (fO most) n.toNat [] (bb (decide (2147483648<k)) P)=so6.map λs=>(acc,s):=w;rw[w];cases so6 with
 |none=>cases e with|none=>rfl|some s=>cases j
 |some aa=>
  simp only[Z4];have j:cQ (λ_ s=>dc acc s) p.toNat [] aa=e.map λs=>(G,s):=j;rw[j];cases e<;>rfl
def pi (w:x3) (gr:Nat) (e:x1) (a:List cv):Prop:=∃L,bg eU 4 a1 w gr e L/\a.length=L.length/\ ∀ (i:Nat) h x,L[i]? =σ h->a[i]? =σ x->gP w h x
def nZ (w:x3) (e:Nat) (f:b6):Prop:=∃szv gz a gr,ab w e dG [bU f.name,Δ f.k,szv,a]/\ap .i64 al w gz szv f.sizes/\pi w gr a f.funs
theorem pi.ext {gr:Nat} {a:x1} {e:List cv} (h:pi w gr a e) (f:Ext w w'):pi w' gr a e:=by
 obtain⟨L,h1,j,p⟩:=h;exact⟨L,h1.ext f,j,λi az x hi q=>(p i az x hi q).ext f⟩
theorem nZ.ext {e:Nat} {f:b6} (h:nZ w e f) (a:Ext w w'):nZ w' e f:=by
 obtain⟨szv,gz,j,gr,h1,p,q⟩:=h;exact⟨szv,gz,j,gr,h1.ext a,p.ext a,q.ext a⟩
def NT (w:x3) (pl:Λ) (v:x1) (w':x3):Prop:=Ext w w'/\ ∃n e:Int,(gk pl=ν->v= .tuple #[.pointer ν,Δ n,Δ e])/\ ∀f,gk pl=σ f-> ∃a,v= .tuple #[Γ a,Δ n,Δ e]/\nZ w' a f
theorem NU {w0:x3} {g A:Nat} {so6:Option aD} {t acc:Λ} {k R bad:Int} {szv p:x1} {Q:x1->x3->Prop} (dd:ae (λr=>w0.heap.size<=r) w0 w) (bY:ab w A dG [bU t,Δ k,szv,.slice ν 0 0]) (de:ap .i64 al w gz szv acc)
  (h:bM w g B bC 100000 so6) (df:∀s,so6=σ s->jR s/\s.toks.length<=100000/\(∀z∈acc,1<=z/\z<=aq)/\acc.length<=100001) (ff:w0.heap.size<=g) (fg:w0.heap.size<=A) (dg:aH .u8 w0 p pl) (fh:0<=R/\R<=4611686018427387904)
  (bj:∀v w' M bk,Ext w0 w'->so6.bind (cQ (λ_ s=>dc acc s) R.toNat [])=bk.map (λs=>(M,s))->
   (∀s,bk=σ s->s.toks=[]/\¬0<=bad/\s.big=false->v= .tuple #[Γ A,Δ (pl.length:Int),Δ 0]/\nZ w' A ⟨t,k,acc,M⟩)->
   ((∀s,bk=σ s->¬(s.toks=[]/\¬0<=bad/\s.big=false))-> ∃n e:Int,v= .tuple #[.pointer ν,Δ n,Δ e])->Q v w'):
  ch (Δ 0) w λb0 E dh=>
   cm (α:=x1->x3->Prop) (λ(di:x1) (N:x3)=>
    Split di (eo N λJ=>
   aa x7 (bO (Γ A)) J λaG=>
   aa x7 (u6 dG aG 3) J λaI=>
   aa x7 (u5 dA aI) J λbl=>
   aa x7 (bO (Γ A)) J λdj=>
   aa x7 (u6 dG dj 2) J λdk=>
   aa x7 (u5 ao dk) J λdl=>
   ai x7 y3 [(Γ g),dl] J λdn ak=>
    (Ext J ak\/ci x7 (u5 dA aI) bl ak/\ci x7 (u6 dG aG 3) aI ak/\ci x7 (bO (Γ A)) aG ak/\True)/\
   ax x7 (Y1 dA 1 #[(0,dn)]) ak λdp S=>
    (Ext J S\/ci x7 (u5 dA aI) bl S/\ci x7 (u6 dG aG 3) aI S/\ci x7 (bO (Γ A)) aG S/\True)/\
    ax x7 (b8 #[dA,dA] dA #[bl,dp]) S λdq aZ=>
     aa x7 (bO (Γ A)) aZ λdr=>
     aa x7 (u6 dG dr 3) aZ λds=>
     ax x7 (o8 dA ds dq) aZ λ(_:Unit) aK=>
     aa x7 (aJ .add al false true b0 (Δ 1)) aK λdt=>
   dh dt aK)
     (cm (α:=x3->Prop) (λ(P:x3)=>
   cm (α:=x3->Prop) (λ(G:x3)=>
    aa x7 (bO (Γ g)) G λdu=>
    aa x7 (u6 bA du 3) G λdv=>
    aa x7 (u5 ah dv) G λdw=>
    aa x7 (aJ .neq ah false true dw (Δ 0)) G λdx=>
    Split dx (eo G λZ=>
     aa x7 (bO (Γ g)) Z λdy=>
     aa x7 (u6 bA dy 4) Z λdz=>
     aa x7 (u5 ah dz) Z λdC=>
     aa x7 (bO (Γ g)) Z λdD=>
     aa x7 (u6 bA dD 3) Z λdE=>
     aa x7 (u5 ah dE) Z λdF=>
     Q (.tuple #[(.pointer ν),dC,dF]) Z)
     (aa x7 (bO (Γ g)) G λdH=>
    aa x7 (u6 bA dH 5) G λdI=>
    aa x7 (u5 ah dI) G λdJ=>
    aa x7 (aJ .neq ah false true dJ (Δ 0)) G λdK=>
    Split dK (eo G λac=>
     aa x7 (bO (Γ g)) ac λdL=>
     aa x7 (u6 bA dL 6) ac λdN=>
     aa x7 (u5 ah dN) ac λdO=>
     aa x7 (bO (Γ g)) ac λdP=>
     aa x7 (u6 bA dP 5) ac λdQ=>
     aa x7 (u5 ah dQ) ac λdR=>
     Q (.tuple #[(.pointer ν),dO,dR]) ac)
     (aa x7 (W7 #[cP] ah #[p]) G λdS=>
    Q (.tuple #[(Γ A),dS,(Δ 0)]) G))) λb1=>
   cm (α:=x1->x3->Prop) (λ(dT:x1) (a2:x3)=>
    Split dT (ai x7 nk [(Γ g),(Δ 11),(Δ bad)] a2 λfj b3=>
     b1 b3)
     (b1 a2)) λb4=>
   aa x7 (bO (Γ g)) P λdU=>
   aa x7 (u6 bA dU 3) P λdV=>
   aa x7 (u5 ah dV) P λdW=>
   aa x7 (aJ .eql ah false true dW (Δ 0)) P λdX=>
   Split dX (aa x7 (aJ .geq ah false true (Δ bad) (Δ 0)) P λdY=>
   b4 dY P)
    (b4 (.bool false) P)) λb5=>
  cm (α:=x1->x3->Prop) (λ(dZ:x1) (U:x3)=>
   Split dZ (aa x7 (bO (Γ g)) U λea=>
    aa x7 (u6 bA ea 0) U λeb=>
    aa x7 (u5 fi eb) U λec=>
    aa x7 (c7 fi ec (Δ 0)) U λed=>
    aa x7 (u6 cp ed 1) U λee=>
    aa x7 (u5 ah ee) U λef=>
    ai x7 nk [(Γ g),(Δ 4),ef] U λfk bm=>
    b5 bm)
    (b5 U)) λb6=>
  aa x7 (bO (Γ g)) N λeg=>
  aa x7 (u6 bA eg 3) N λeh=>
  aa x7 (u5 ah eh) N λej=>
  aa x7 (aJ .eql ah false true ej (Δ 0)) N λek=>
  Split ek (aa x7 (bO (Γ g)) N λem=>
  aa x7 (u6 bA em 0) N λen=>
  aa x7 (u5 fi en) N λep=>
  aa x7 (W7 #[fi] ah #[ep]) N λer=>
  aa x7 (aJ .gtr ah false true er (Δ 0)) N λes=>
  b6 es N)
   (b6 (.bool false) N))) λb7=>
   aa x7 (aJ .lss al false false b0 (Δ R)) E λet=>
   Split et (aa x7 (bO (Γ g)) E λeu=>
   aa x7 (u6 bA eu 3) E λev=>
   aa x7 (u5 ah ev) E λew=>
   aa x7 (aJ .eql ah false true ew (Δ 0)) E λez=>
   b7 ez E)
    (b7 (.bool false) E):=by
 have ca:A≠g:=λhe=>by
  obtain⟨am,ad,af,bad,an,big,au,told,sv,C,_⟩:=hY h;subst he;exact absurd (ey C bY) Φ
 refine⟨λbn E=>∃i:Nat,bn=Δ (i:Int)/\i<=R.toNat/\ae (λr=>w0.heap.size<=r) w0 E/\ ∃O gr M so,∃H:ag,ab E A dG [bU t,Δ k,szv,O]/\ap .i64 al E gz szv acc/\pi E gr O M/\(∀r,leadsTo O r->w0.heap.size<=r/\¬H r)/\¬H A/\(∀r,leads szv r->¬H r)/\(∀r,H r->w0.heap.size<=r)/\bM E g E.heap.size H 100001 so/\lg (λ_ s=>dc acc s) R.toNat i so6 M so/\
   ∀s,so=σ s->jR s/\M.length+s.toks.length<=100000/\(∀z∈acc,1<=z/\z<=aq)/\acc.length<=100001,λbn _=>R.toNat-(b2 bn).toNat,
  ⟨0,rfl,X3 _,dd,_,0,[],so6,bC,bY,de,⟨[],bg.nil _ _ _ _ _,rfl,λi h x hi=>by simp at hi⟩,λr y=>(e8 y).elim,id,λr _ h=>h,λr h=>h.elim,h.base.up Ω,?_,λs I=>?_⟩,?_⟩
 .unfold lg;cases so6<;>rfl
 .obtain⟨eA,eB,a3,a4⟩:=df s I;exact⟨eA,by simpa using eB,a3,a4⟩
 rintro _ E ⟨i,rfl,hi,a6,O,gr,M,so,H,cc,cd,ce,aL,bp,eC,cg,Y,bq,eD⟩;refine aU (λv N=>E=N/\((v= .bool true/\i<R.toNat/\ ∃s,so=σ s)\/(v= .bool false/\(so=ν\/i=R.toNat)))) ?_ ?_
 rotate_left
 .intro av br;rw[aR,aj];refine⟨λcj=>?_,λfm=>br _ _ ⟨rfl,.inr ⟨rfl,.inr Ω⟩⟩⟩;rw[lf Y];cases so with
  |none=>exact br _ _ ⟨rfl,.inr ⟨rfl,.inl rfl⟩⟩
  |some s=>exact br _ _ ⟨rfl,.inl ⟨rfl,Ω,s,rfl⟩⟩
 rintro _ _ ⟨rfl,⟨rfl,cj,s,rfl⟩|⟨rfl,eE⟩⟩
 .
  rw[bS];intro J aw _ _;obtain⟨ck,fo,cl,cn⟩:=eD s rfl;have aM:=cc.ext aw;obtain⟨eH,cq,aN,cr⟩:=(Y.ext aw).low.shrink;have bt:=cd.ext aw;have eI:=ce.ext aw;rw[aO dG.p 3 aM rfl,aO dG.p 2 aM rfl];refine (NP cq bt cl cn (λr y=>by obtain⟨c,C⟩:=cr r y;exact C.lt) ck).mono ?_;rintro _ ak _ ⟨bu,x,ct,ay,rfl,cu,eJ,eK,fp,cw,eL⟩;have cz:∃c,ab J g bA c:=by obtain⟨am,ad,af,bad,an,big,au,told,sv,C,_⟩:=hY cq;exact⟨_,C⟩
  have cA:∀r,(r=g\/eH r)->hd J r\/J.heap.size<=r:=λr y=>by
   rcases y with rfl|y
   .obtain⟨c,C⟩:=cz;exact .inl ⟨_,c,C,Φ,Φ⟩
   .obtain⟨c,C⟩:=cr r y;exact .inl ⟨_,c,C,Φ,Φ⟩
  have bw:=aM.V ay λy=>y.elim (λhe=>ca he) λy=>bp (aN _ y);have st:∀ {w':x3},ab w' A dG [bU t,Δ k,szv,O]->ci x7 (u5 dA (.pointer (σ ⟨A,0+3,ν⟩))) O w'/\ci x7 (u6 dG (Γ A) 3) (.pointer (σ ⟨A,0+3,ν⟩)) w'/\ci x7 (bO (Γ A)) (Γ A) w'/\True:=λC=>
   ⟨nC Ψ (C.cell (o:=0+3) rfl),k4 (by rw[aQ dG.p rfl]),k4 (by rw[bZ]),trivial⟩
  refine⟨.inr (st bw),?_⟩;refine hW (f:=eU) (a:=bu) dA.u a1.i Ω rfl rfl λfq fs S ft W eM=>?_;refine⟨.inr (st (bw.ext W)),?_⟩;obtain⟨L,aA,bx,bz⟩:=id eI;have eN:bg eU 4 a1 ak gr O L:=aA.V ay λr y I=>I.elim (λhe=>by
   obtain⟨c,C⟩:=cz;subst he;exact cR aA C Φ y) λI=>(aL r y).2 (aN r I)
  have bB:=eN.ext W;refine ik (f:=eU) (a:=bu) dA.u a1.i rfl bB (by simpa using eM.sl) (cu.ext W).one Ω Ω λcB eP aZ a7 eQ cC=>?_;have bD:=bw.ext W;have cD:=bD.V cC λhe=>cR bB bD Φ he;rw[bZ,aQ dG.p rfl];refine bo (g:=A) (o:=3) dA.i (eO a7.sl).1 (eO a7.sl).2 cD Ξ λaK cE fu bE=>?_;have bE:ab aK A dG [bU t,Δ k,szv,cB]:=bE;have fv:i<=4611686018427387904:=Ω
  rw[aP,wrap_i64 Ω Ω];have aC:ae (λr=>leadsTo O r\/r=A) S aK:=(cC.mono λr _ h=>.inl h).trans (cE.mono λr _ h=>.inr h);have cF:∀r,(leadsTo O r\/r=A)-> ∃e c,ab S r e c/\e≠al/\e≠cb/\e≠cp/\e≠bA:=λr y=>by
   rcases y with y|rfl
   .obtain⟨rfl,c,C⟩:=ei bB y;exact⟨_,c,C,Φ,Φ,Φ,Φ⟩
   .exact⟨_,_,bD,Φ,Φ,Φ,Φ⟩
  have bF:∀r,(leadsTo O r\/r=A)->hd S r\/S.heap.size<=r:=λr y=>by
   obtain⟨e,c,C,bG,bH,_⟩:=cF r y;exact .inl ⟨e,c,C,bG,bH⟩
  have fw:=aw.size;have fx:=ay.size;have fy:=W.size;have fz:=aC.size;have cG:∀r,leadsTo O r->r<J.heap.size:=λr y=>by obtain⟨ad,af⟩:=aA.leads y;omega
  have aS:∀r,r<J.heap.size->¬H r->¬ct r:=λr y eR bI=>(cw r bI).elim (λh=>eR (aN r h)) λh=>Ω
  have eS:∀r,leads szv r->r<J.heap.size:=λr y=>by obtain⟨ad,af⟩:=bP bt y;omega
  refine⟨⟨i+1,rfl,Ω,?_,cB,eP,M++[x],_,ct,bE,eF ((eF bt ay cA).ext W) aC bF,⟨L++[bu],a7.V cE λr y he=>?_,by rw[p8,p8,bx];rfl,λj cH eV aE aT=>?_⟩,λr y=>?_,aS A aM.lt bp,λr y=>aS r (eS r y) (eC r y),λr y=>?_,?_,bq.step cj rfl λq K=>eK q K,λs' X=>?_⟩,by simp only[b2];omega⟩
  .refine (((a6.trans (aw.V _)).trans (ay.mono λr _ h=>?_)).trans (W.V _)).trans (aC.mono λr _ h=>?_)
   .exact h.elim (λh=>Ω) λh=>cg r (aN r h)
   .exact h.elim (λh=>(aL r h).1) λh=>Ω
  .have he:r=A:=he;subst he;exact cR a7 cD Φ y
  .by_cases eW:j<L.length
   .rw[Z8 eW] at aE;rw[Z8 Ω] at aT;exact (((bz j cH eV aE aT).dM ay cA).ext W).dM aC bF
   .rw[Z9 Ω] at aE;rw[Z9 Ω] at aT;have eX:j-L.length=0:=by have:=(x4.1 aE).1;simp at this;omega
    have eY:j-M.length=0:=Ω
    rw[eX] at aE;rw[eY] at aT;cases aE;cases aT;exact (cu.ext W).dM aC bF
  .rcases eQ r y with h|h
   .exact⟨(aL r h).1,aS r (cG r h) (aL r h).2⟩
   .exact⟨by have:=a6.size;omega,λbI=>by have:=eL r bI;omega⟩
  .rcases cw r y with h|h
   .exact cg r (aN r h)
   .have:=a6.size;omega
  .refine (eJ.ext W).dM aC λr y=>.inl ?_;obtain⟨e,c,C,bG,bH,eZ,e0⟩:=cF r y;refine⟨e,c,C,bG,bH,eZ,e0,?_⟩;rcases y with y|rfl
   .exact aS r (cG r y) (aL r y).2
   .exact aS _ aM.lt bp
  .cases bJ:dc acc s with
   |none=>rw[bJ] at X;cases X
   |some q=>
    obtain⟨fA,cI⟩:=q;rw[bJ] at X;cases X;obtain⟨fB,e1⟩:=NR bJ;refine⟨e1 ck,?_,cl,cn⟩;rw[p8];simp only[U6];omega
 .
  rw[aY];have bK:so6.bind (cQ (λ_ s=>dc acc s) R.toNat [])=so.map λs=>(M,s):=by
   unfold lg at bq;rw[bq];cases so with
   |none=>rfl
   |some s=>
    rcases eE with h|rfl
    .cases h
    .simp only[U1];rfl
  have row:∀ {w':x3},ae (λr=>r=g) E w'->pi w' gr O M/\ab w' A dG [bU t,Δ k,szv,O]/\ap .i64 al w' gz szv acc:=λa8=>by
   obtain⟨am,ad,af,bad,an,big,au,told,sv,C,_⟩:=hY Y;have cJ:∀r,r=g->hd E r\/E.heap.size<=r:=λr y=>by subst y;exact .inl ⟨_,_,C,Φ,Φ⟩
   obtain⟨L,aA,bx,bz⟩:=id ce;refine⟨⟨L,aA.V a8 λr y he=>?_,bx,λi h x hi e2=>(bz i h x hi e2).dM a8 cJ⟩,cc.V a8 λhe=>ca he,eF cd a8 cJ⟩;have he:r=g:=he;subst he;exact cR aA C Φ y
  refine dm (λP=>ae (λr=>r=g) E P/\bM P g E.heap.size H 100001 (so.bind λs=>if s.toks=[] then σ s else ν)) ?_ ?_
  rotate_left
  .intro fD cK;refine aU (λv U=>E=U/\ ∃b:Bool,v= .bool b/\(b=true-> ∃s,so=σ s/\s.toks≠[])/\(b=false-> ∀s,so=σ s->s.toks=[])) ?_ ?_
   .rintro _ _ ⟨rfl,b,rfl,bN,bQ⟩;cases b with
    |true=>
     obtain⟨s,rfl,ba⟩:=bN rfl;rw[bS];obtain⟨cL,cM,am,aV,gs,sv,L,cN,ad,af,bR,an,big,au,told,cO,bb,bc,aF,bd,cS,cT,cU,be,cV,cW,bf,cX,cZ,c0⟩:=id Y;obtain⟨⟨bV,e3⟩,_⟩:=bd.g bb bc;obtain⟨x,fE,rfl⟩:∃x l,aV=x::l:=by
      cases aV with
      |nil=>exact absurd bf.symm (by simpa using ba)
      |cons x l=>exact⟨x,l,rfl⟩
     rw[aO bA.p 0 aF rfl];refine C7 bV λb o e4=>?_;rw[aQ cp.p rfl,aB Ψ (e4 1 _ rfl)];refine (nY Y Ω).mono ?_;rintro _ bm _ ⟨e5,e6⟩;refine cK _ ⟨e5,?_⟩;show bM bm g _ H 100001 (if s.toks=[] then σ s else ν);rw[if_neg ba];exact e6
    |false=>
     rw[aY];refine cK _ ⟨ae.refl _ _,?_⟩;cases so with
     |none=>exact Y
     |some s=>
      show bM _ g _ H 100001 (if s.toks=[] then σ s else ν);rw[if_pos (bQ rfl s rfl)];exact Y
   .intro fF c1;rw[lf Y];cases so with
    |none=>
     rw[S7,aY];exact c1 _ _ ⟨rfl,false,rfl,(λh=>by cases h),λ_ s I=>by cases I⟩
    |some s=>
     rw[S6,bS];obtain⟨cL,cM,am,aV,gs,sv,L,cN,ad,af,bR,an,big,au,told,cO,bb,bc,aF,bd,cS,cT,cU,be,cV,cW,bf,cX,cZ,c0⟩:=id Y;obtain⟨⟨bV,e3⟩,_⟩:=bd.g bb bc;rw[aO bA.p 0 aF rfl,C6 bV,bT];have fG:aV.length=s.toks.length:=by rw[<-bf,u7]
     refine c1 _ _ ⟨rfl,_,rfl,λh=>⟨s,rfl,λaW=>?_⟩,λh s' X=>?_⟩
     .have:=of_decide_eq_true h;have cH:s.toks.length=0:=by rw[aW];rfl
      omega
     .cases X;have:=of_decide_eq_false h;exact b9 Ω
  rintro P ⟨c2,bW⟩;refine dm (λG=>ae (λr=>r=g) E G/\bM G g E.heap.size H 100001 (so.bind λs=>if s.toks=[]/\¬0<=bad then σ s else ν)) ?_ ?_
  rotate_left
  .intro fH c3;refine aU (λv a2=>P=a2/\ ∃b:Bool,v= .bool b/\(b=true->(so.bind λs=>if s.toks=[]/\¬0<=bad then σ s else ν)=ν)/\(b=false->(so.bind λs=>if s.toks=[]/\¬0<=bad then σ s else ν)=so.bind λs=>if s.toks=[] then σ s else ν)) ?_ ?_
   .rintro _ _ ⟨rfl,b,rfl,bN,bQ⟩;cases b with
    |true=>
     rw[bS];refine (nY bW Ω).mono ?_;rintro _ b3 _ ⟨e7,e9⟩;exact c3 _ ⟨c2.trans e7,by rw[bN rfl];exact e9⟩
    |false=>
     rw[aY];exact c3 _ ⟨c2,by rw[bQ rfl];exact bW⟩
   .intro fI c4;rw[lf bW];cases K:(so.bind λs=>if s.toks=[] then σ s else ν) with
    |none=>
     rw[S7,aY];refine c4 _ _ ⟨rfl,false,rfl,(λh=>by cases h),λ_=>?_⟩;cases so with
     |none=>rfl
     |some s=>
      have K:(if s.toks=[] then σ s else ν)=ν:=K;show (if s.toks=[]/\¬0<=bad then σ s else ν)=(if s.toks=[] then σ s else ν);rw[K];split at K
      .cases K
      .rename_i ba;rw[if_neg (λh=>ba h.1)]
    |some s=>
     rw[S6,bS,cY];refine c4 _ _ ⟨rfl,_,rfl,λh=>?_,λh=>?_⟩
     .have aW:=of_decide_eq_true h;cases so with
      |none=>rfl
      |some s=>exact if_neg λh=>h.2 aW
     .have aW:=of_decide_eq_false h;cases so with
      |none=>rfl
      |some s=>
       show (if s.toks=[]/\¬0<=bad then σ s else ν)=(if s.toks=[] then σ s else ν);by_cases I:s.toks=[]
       .rw[if_pos I,if_pos ⟨I,aW⟩]
       .rw[if_neg I,if_neg λh=>I h.1]
  rintro G ⟨c5,bh⟩;obtain⟨fa,fb,fc⟩:=row c5;have fd:ae (λr=>w0.heap.size<=r) w0 G:=a6.trans (c5.mono λr _ h=>by have h:r=g:=h;omega);have bi:Ext w0 G:=fd.ext λr y he=>Ω
  rw[qO bh];cases K:(so.bind λs=>if s.toks=[]/\¬0<=bad then σ s else ν) with
  |none=>
   rw[S7,W5,bS];intro Z c6 _ _;obtain⟨am,ad,af,bR,an,big,au,told,sv,C,_⟩:=hY (bh.ext c6);rw[aO bA.p 4 C rfl,aO bA.p 3 C rfl];refine bj _ _ M so (bi.trans c6) bK (λs I az=>?_) λ_=>⟨_,_,rfl⟩;subst I;have K:(if s.toks=[]/\¬0<=bad then σ s else ν)=ν:=K;rw[if_pos ⟨az.1,az.2.1⟩] at K;cases K
  |some s=>
   rw[K] at bh;rw[S6,Y4,aY];obtain⟨s',rfl,X⟩:∃s',so=σ s'/\(if s'.toks=[]/\¬0<=bad then σ s' else ν)=σ s:=by
    cases so with
    |none=>cases K
    |some s'=>exact⟨s',rfl,K⟩
   split at X
   .rename_i c8;cases X;obtain⟨cL,cM,am,aV,gs,sv,L,cN,ad,af,bR,an,big,au,told,cO,bb,bc,aF,bd,cS,cT,cU,be,cV,cW,bf,cX,cZ,c0⟩:=id bh;rw[aO bA.p 5 aF rfl,bL,aj];refine⟨λbX=>?_,λbX=>?_⟩
    .intro ac c9 _ _;have da:=aF.ext c9;rw[aO bA.p 6 da rfl,aO bA.p 5 da rfl];refine bj _ _ M _ (bi.trans c9) bK (λcI db az=>?_) λ_=>⟨_,_,rfl⟩;cases db;rw[be.1 bX] at az;cases az.2.2
    .rw[aX cP.u (dg.ext bi)];refine bj _ _ M _ bi bK (λcI db az=>⟨rfl,szv,gz,O,gr,fb,fc,fa⟩) λfe=>?_;refine absurd ⟨c8.1,c8.2,?_⟩ (fe s rfl);cases C:s.big with
     |false=>rfl
     |true=>exact absurd (be.2 C) bX
   .cases X
def Zero (so:Option aD):Prop:=∀s,so=σ s->s.told=0/\s.toks.length<=100000
theorem Zero.big {so:Option aD} (h:Zero so) (b:Bool):Zero (so.map (bb b)):=λs I=>by
 cases so with
 |none=>cases I
 |some s0=>cases I;exact h s0 rfl
theorem zero_num {lo hi:Int} {so:Option aD} (h:Zero so):Zero ((a8 lo hi so).map (·.2)):=λs I=>by
 cases so with
 |none=>cases I
 |some s0=>
  have I:V8 (λx=>x.2) (bf lo hi s0)=σ s:=I;cases a:bf lo hi s0 with
  |none=>rw[a] at I;cases I
  |some q=>
   obtain⟨n,f⟩:=q;rw[a] at I;cases I;have e:=dH a;have:=e.1;obtain⟨h1,j⟩:=h s0 rfl;exact⟨e.eqs.1.trans h1,by show f.toks.length<=100000;omega⟩
theorem NV {so:Option aD} (h:Zero so):Zero ((jq so).map (·.2)):=λs I=>by
 cases so with
 |none=>cases I
 |some s0=>
  have I:V8 (λx=>x.2) (dS s0)=σ s:=I;cases a:dS s0 with
  |none=>rw[a] at I;cases I
  |some q=>
   obtain⟨n,e⟩:=q;rw[a] at I;cases I;obtain⟨J,U⟩:=sr a;obtain⟨h1,f⟩:=h s0 rfl;have:s0.toks.length=e.toks.length+1:=by rw[J];rfl
   exact⟨by show e.told=0;rw[U];exact h1,by show e.toks.length<=100000;omega⟩
theorem NW {so:Option aD} {f:b6} (h:hR ⟨(lex pl).1,0,false,[]⟩=so.map λs=>(f,s)) (a:¬65536<pl.length):gk pl=so.bind λs=>if s.toks=[]/\(lex pl).2=true/\s.big=false then σ f else ν:=by
 unfold gk;rw[if_neg a,h];cases so<;>rfl
theorem NX (a:pl.length<=60000):(∀t∈(lex pl).1,Bytes t/\t.length<=65536)/\(lex pl).1.length<=60000:=by
 refine⟨λt e=>?_,Y5 (pV pl.length pl (o4 _)) a⟩;obtain⟨_,f,j⟩:=sd pl.length pl (o4 _) t e;refine⟨λb h=>?_,Ω⟩;have:=of_decide_eq_true (f b h);omega
theorem Dh {p:x1} (an:aH .u8 w p pl) (cz:Bytes pl) (cA:pl.length<=60000):ai x7 Gg [p] w (NT w pl):=by
 obtain⟨cB,dP⟩:=NX cA;refine aw func35 ?_;rw[aX cP.u an,bT,aj];refine⟨λh=>Ω,λ_=>?_⟩;refine (NH an cz Ω).mono ?_;rintro _ J _ ⟨aI,au,bh,bad,rfl,bi,bj,cC,dQ,bk⟩;rw[bx,bz,aX cP.u (an.ext aI),dp (cs:=#[au,Δ (pl.length:Int),Δ 4,Δ 0,Δ 0,Δ 0,Δ 0,Δ 0,.slice ν 0 0]) (by obtain⟨_,_,_,_,_,rfl,_⟩:=bi;kernel_rfl)];refine bm λg U dR ax X=>?_;have X:ab U g bA (gq au (pl.length:Int) 4 0 0 0 0 0 (.slice ν 0 0)):=X;have dS:=aI.size;have dT:=ax.size;have dU:=X.lt;refine dm (λC=>Ext w C/\ae (λr=>r=g) U C/\ ∃Y Z:Int,Z≠0/\ab C g bA (gq au Y Z 0 0 0 0 0 (.slice ν 0 0))) ?_ ?_
 rotate_left
 .intro av S;have bl:=aI.trans ax;rw[cY,aj];refine⟨λ_=>?_,λ_=>S _ ⟨bl,ae.refl _ _,_,_,Ω,X⟩⟩;rw[bZ,aQ bA.p rfl];refine bo (g:=g) (o:=1) ah.i rfl rfl X (by simp[gq]) λdV cD dW cE=>?_;rw[bZ,aQ bA.p rfl];refine bo (g:=g) (o:=2) ah.i rfl rfl cE (by simp[gq]) λdX cF dY cG=>?_;have E:=cD.trans cF;exact S _ ⟨bl.then E λr j he=>by have he:r=g:=he;omega,E,bad,11,Ω,cG⟩
 rintro C ⟨bp,aJ,Y,Z,cH,bq⟩;have z3:=aJ.size;have cI:bM C g C.heap.size bC 100000 (σ ⟨(lex pl).1,0,false,[]⟩):=by
  refine⟨o4 _,C,au,bh,0,_,[],[],Y,Z,0,0,0,0,0,rfl,ae.refl _ _,⟨_,bq⟩,bq,⟨⟨?_,λr j=>?_⟩,bg.nil _ _ _ _ _,rfl,λi h x hi=>by simp at hi⟩,λr j=>e8 j,rfl,cH,Ξ,λ_=>rfl,trivial,bj,cB,rfl,?_⟩
  .refine (bi.V (ax.V λ_=>False) λ_ _ h=>h).V aJ λr j he=>?_;have he:r=g:=he;obtain⟨c,O⟩:=bk r j;have:=O.lt;omega
  .obtain⟨c,O⟩:=bk r j;exact⟨c,(O.ext ax).V aJ λhe=>by have he:r=g:=he;have:=O.lt;omega⟩
  .have:bh.length=(lex pl).1.length:=by rw[<-bj,u7]
   simp only[List.length_nil];omega
 have dZ:∀ {R:x3} {cJ N:Nat} {H:ag} {so:Option aD},bM R g cJ H N so->True:=λ_=>trivial;rw[dp (cs:=#[bU [],Δ 0,.slice ν 0 0,.slice ν 0 0]) Ψ];refine bm λA cK ea aK ay=>?_;have ay:ab cK A dG [bU [],Δ 0,.slice ν 0 0,.slice ν 0 0]:=ay;have eb:C.heap.size<=A:=Ω
 have ec:=ay.lt;have cL:A≠g:=Ω
 have K:∀ {R aa:x3} {c:List x1},ab R A dG c->ae (λr=>r=g) R aa->ab aa A dG c:=λO E=>O.V E λhe=>cL he;refine (C8 (cI.ext aK)).mono ?_;rintro _ cM _ ⟨⟨aL,cN⟩,t,br,rfl,ed,ee,cO⟩;refine bB cp.i λbt ef eg cR cS=>?_;refine b3 (vs:=[bU t,Δ br]) cp.i rfl rfl (by intro v bu;simp at bu;rcases bu with rfl|rfl<;>rfl) cS λcT cU eh bw=>?_;have aB:Ext cM cT:=cR.put cU Ω;have cV:=(K ay aL).ext aB;rw[aA cp.p 0 bw rfl,bZ,aQ dG.p rfl];refine bo (g:=A) (o:=0) c3.i rfl rfl cV Ξ λaM aN ei aS=>?_;have aS:ab aM A dG [bU t,Δ 0,.slice ν 0 0,.slice ν 0 0]:=aS;have cW:=(cN.ext aB).new aN λr j=>by have j:r=A:=j;omega
 have z4:=aK.size;have z5:=aL.size;have ej:=aB.size;have bD:ab aM bt cp [bU t,Δ br]:=bw.V aN λhe=>by have he:bt=A:=he;omega
 rw[aA cp.p 0 bD rfl,nD c3.u,bT,aA cp.p 1 bD rfl];have cX:ae (λr=>w.heap.size<=r) w aM:=((((bp.V _).trans (aK.V _)).trans (aL.mono λr _ h=>by have h:r=g:=h;omega)).trans (aB.V _)).trans (aN.mono λr _ h=>by have h:r=A:=h;omega);have up:∀ {R aa:x3},ae (λr=>w.heap.size<=r) w R->ae (λr=>r=g) R aa->ae (λr=>w.heap.size<=r) w aa:=λh k=>h.trans (k.mono λr _ h=>by have h:r=g:=h;omega);refine (mL cW).mono ?_;rintro _ ek _ ⟨bE,ac⟩;have cZ:=up cX bE;have c0:=K aS bE;generalize aT:(((jq (σ ⟨(lex pl).1,0,false,[]⟩)).map (·.2)).map (bb (decide ((64:Int)<(t.length:Int)))))=aV at ac;refine (kx ac).mono ?_;rintro _ em _ ⟨⟨bF,c1⟩,n,en,rfl,bG,c2⟩;rw[bx,bz,bT];refine (mL c1).mono ?_;rintro _ eo _ ⟨bH,bI⟩;have c4:=up (up cZ bF) bH;have c5:=K (K c0 bF) bH;generalize bJ:((a8 1 4611686018427387904 aV).map (·.2)).map (bb (decide (64<n)))=aW at bI;refine (kx bI).mono ?_;rintro _ er _ ⟨⟨bK,bL⟩,most,es,rfl,hm,c6⟩;rw[bx,bz];generalize bN:(a8 1 4611686018427387904 aW).map (·.2)=aZ at bL;refine (kx bL).mono ?_;rintro _ et _ ⟨⟨bO,c7⟩,a1,eu,rfl,bP,c8⟩;rw[bx,bz,bT];refine (mL c7).mono ?_;rintro _ ev _ ⟨bQ,bR⟩;generalize bV:((a8 0 4611686018427387904 aZ).map (·.2)).map (bb (decide (256<a1)))=bW at bR;refine (kx bR).mono ?_;rintro _ ew _ ⟨⟨bX,c9⟩,k,ey,rfl,hk,ez⟩;rw[bx,bz,bT];refine (mL c9).mono ?_;rintro _ eA _ ⟨bY,b0⟩;generalize b1:((a8 1 4611686018427387904 bW).map (·.2)).map (bb (decide (2147483648<k)))=ad at b0;have da:=up (up (up (up (up c4 bK) bO) bQ) bX) bY;have db:=K (K (K (K (K c5 bK) bO) bQ) bX) bY;rw[bZ,aQ dG.p rfl];refine bo (g:=A) (o:=1) al.i rfl rfl db Ξ λb4 b5 eB a2=>?_;have a2:ab b4 A dG [bU t,Δ k,.slice ν 0 0,.slice ν 0 0]:=a2;have dc:=b0.new b5 λr j=>by have j:r=A:=j;omega
 have b6:ae (λr=>w.heap.size<=r) w b4:=da.trans (b5.mono λr _ h=>by have h:r=A:=h;omega);have eC:0<=n/\n<=4611686018427387904:=by
  cases B:a8 1 4611686018427387904 aV with
  |none=>have:=c2 B;omega
  |some q=>have ac:=bG q B;have:=mF (n:=q.1) (s':=q.2) B;omega
 have eD:0<=most/\most<=4611686018427387904:=by
  cases B:a8 1 4611686018427387904 aW with
  |none=>have:=c6 B;omega
  |some q=>have ac:=hm q B;have:=mF (n:=q.1) (s':=q.2) B;omega
 have dd:0<=a1/\a1<=4611686018427387904:=by
  cases B:a8 0 4611686018427387904 aZ with
  |none=>have:=c8 B;omega
  |some q=>have ac:=bP q B;have:=mF (n:=q.1) (s':=q.2) B;omega
 have de:Zero (σ (⟨(lex pl).1,0,false,[]⟩:aD)):=λs I=>by cases I;exact⟨rfl,by simp only;omega⟩
 have df:Zero aV:=by rw[<-aT];exact (NV de).big _
 have dg:Zero aW:=by rw[<-bJ];exact (zero_num df).big _
 have dh:Zero aZ:=by rw[<-bN];exact zero_num dg
 have di:Zero bW:=by rw[<-bV];exact (zero_num dh).big _
 have b7:Zero ad:=by rw[<-b1];exact (zero_num di).big _
 have eE:=b6.size;refine⟨λa6 P=>∃i:Nat,a6=Δ (i:Int)/\i<=n.toNat/\ae (λr=>w.heap.size<=r) w P/\ ∃szv gz acc so,ab P A dG [bU t,Δ k,szv,.slice ν 0 0]/\ap .i64 al P gz szv acc/\(∀r,leads szv r->C.heap.size<=r)/\bM P g C.heap.size bC 100000 so/\lg (fO most) n.toNat i ad acc so/\ ∀s,so=σ s->s.told=0/\acc.length+s.toks.length<=100000/\ ∀z∈acc,1<=z/\z<=aq,λa6 _=>n.toNat-(b2 a6).toNat,
  ⟨0,rfl,X3 _,b6,_,0,[],ad,a2,ap.nil _ _ _ _,(λr j=>by obtain⟨a,aC,c,Y,Z⟩:=j;cases Y),dc,?_,λs I=>⟨(b7 s I).1,by simpa using (b7 s I).2,λz dj=>by cases dj⟩⟩,?_⟩
 .unfold lg;cases ad<;>rfl
 rintro _ P ⟨i,rfl,hi,a7,szv,gz,acc,so,b8,b9,ca,af,ba,cb⟩;refine aU (λv dk=>P=dk/\((v= .bool true/\i<n.toNat/\ ∃s,so=σ s)\/(v= .bool false/\(so=ν\/i=n.toNat)))) ?_ ?_
 rotate_left
 .intro av S;rw[aR,aj];refine⟨λcd=>?_,λeH=>S _ _ ⟨rfl,.inr ⟨rfl,.inr Ω⟩⟩⟩;rw[lf af];cases so with
  |none=>exact S _ _ ⟨rfl,.inr ⟨rfl,.inl rfl⟩⟩
  |some s=>exact S _ _ ⟨rfl,.inl ⟨rfl,Ω,s,rfl⟩⟩
 rintro _ _ ⟨rfl,⟨rfl,cd,s,rfl⟩|⟨rfl,dl⟩⟩
 .rw[bS];obtain⟨dn,eI,dq⟩:=cb s rfl;refine (kx af).mono ?_;rintro _ eJ _ ⟨⟨dr,ds⟩,z,eK,rfl,bc,eL⟩;rw[bx,bz,bT];refine (mL ds).mono ?_;rintro _ eM _ ⟨dt,du⟩;have aE:=dr.trans dt;have ce:=K b8 aE;have dv:∀r,r=g->hd P r\/P.heap.size<=r:=λr j=>(ky af r j).imp (λ⟨e,c,O,dw,dx,_⟩=>⟨e,c,O,dw,dx⟩) id;have cg:=eF b9 aE dv;rw[aO dG.p 2 ce rfl];refine ep ao.u al.i rfl λa22 eN dy eO W dz=>?_;refine gO ao.u al.i rfl (cg.ext W) dz.ls Θ Θ λch dA eP aF dC ci=>?_;have cj:=ce.ext W;have ck:=cj.V ci λhe=>cc (cg.ext W) cj Φ he rfl;rw[bZ,aQ dG.p rfl];refine bo (g:=A) (o:=2) ao.i aF.ls.cells.1 aF.ls.cells.2 ck Ξ λcl cm eQ bd=>?_;have bd:ab cl A dG [bU t,Δ k,ch,.slice ν 0 0]:=bd;rw[aP,wrap_i64 Ω Ω];have cn:ae (λr=>leads szv r\/r=A) dy cl:=(ci.mono λr _ h=>.inl h).trans (cm.mono λr _ h=>.inr h);have cq:∀r,(leads szv r\/r=A)->C.heap.size<=r:=λr j=>j.elim (ca r) λj=>Ω
  have eR:w.heap.size<=C.heap.size:=bp.size;have eS:=aE.size;have z22:=W.size;have eU:=a7.size;have eV:=af.lt;refine⟨⟨i+1,rfl,Ω,((up a7 aE).trans (W.V _)).trans (cn.mono λr _ h=>by have:=cq r h;omega),ch,dA,acc++[z],((a8 1 most (σ s)).map (·.2)).map (bb (decide (32<z))),bd,bn aF cm λr j he=>?_,λr j=>?_,(du.ext W).new cn cq,?_,λs' L=>?_⟩,by simp only[b2];omega⟩
  .have he:r=A:=he;subst he;exact cc aF ck Φ j rfl
  .rcases dC r j with h|h
   .exact ca r h
   .omega
  .refine ba.step cd ?_ λq B=>?_
   .show (V8 _ (bf 1 most s)).map _=_;unfold fO;cases B:bf 1 most s with
    |none=>rfl
    |some q=>
     have:=bc q B;obtain⟨cr,aG⟩:=q;subst this;rfl
   .unfold fO at B;cases M:bf 1 most s with
    |none=>rw[M] at B;cases B
    |some ak=>
     rw[M] at B;have:=bc ak M;obtain⟨cr,aG⟩:=ak;cases B;exact this
  .cases M:bf 1 most s with
   |none=>
    have L:(V8 (λx=>x.2) (bf 1 most s)).map (bb (decide (32<z)))=σ s':=L;rw[M] at L;cases L
   |some ak=>
    have L:(V8 (λx=>x.2) (bf 1 most s)).map (bb (decide (32<z)))=σ s':=L;rw[M] at L;have dD:=bc ak M;obtain⟨cr,aG⟩:=ak;cases L;have ct:=dH M;have iZ:=(hT M).1;have eW:=ct.1;refine⟨by show aG.told=0;rw[ct.eqs.1];exact dn,?_,λy am=>?_⟩
    .rw[p8];show acc.length+1+aG.toks.length<=100000;omega
    .rcases l7.1 am with am|am
     .exact dq y am
     .rw[l9.1 am,dD];exact⟨iZ.1,by unfold aq;have:=iZ.2;simp only at*;omega⟩
 .rw[aY];have dE:ad.bind (cQ (fO most) n.toNat [])=so.map λs=>(acc,s):=by
   unfold lg at ba;rw[ba];cases so with
   |none=>rfl
   |some s=>
    rcases dl with h|rfl
    .cases h
    .simp only[U1];rfl
  refine NU a7 b8 b9 af (λs I=>?_) Ω Ω an dd λv w' dF dI be dJ dK cu=>?_
  .obtain⟨dL,eX,a3⟩:=cb s I;exact⟨λ_=>by rw[dL];omega,Ω,a3,Ω⟩
  .have dM:(decide ((64:Int)<(t.length:Int)))=decide (64<t.length):=by rw[V3,decide_eq_true_eq,decide_eq_true_eq];omega
   rw[dM] at aT;have dN:=NS (s0:=⟨(lex pl).1,0,false,[]⟩) aT.symm (λq B=>cO q B) bJ.symm bG bN.symm hm bV.symm bP b1.symm hk dE dJ;have Q:=NW dN Ω;have cw:¬0<=bad↔(lex pl).2=true:=by
    rw[cC];cases (lex pl).2<;>simp
   cases dI with
   |none=>
    obtain⟨aC,e,rfl⟩:=cu λs I=>by cases I
    exact⟨be,aC,e,λ_=>rfl,λf G=>by rw[Q] at G;cases G⟩
   |some s=>
    have Q:gk pl=if s.toks=[]/\(lex pl).2=true/\s.big=false then σ ⟨t,k,acc,dF⟩ else ν:=Q;by_cases E:s.toks=[]/\(lex pl).2=true/\s.big=false
    .rw[if_pos E] at Q;obtain⟨rfl,dO⟩:=dK s rfl ⟨E.1,cw.2 E.2.1,E.2.2⟩;exact⟨be,_,_,(λG=>by rw[Q] at G;cases G),λf G=>⟨A,rfl,by rw[Q] at G;cases G;exact dO⟩⟩
    .rw[if_neg E] at Q;obtain⟨aC,e,rfl⟩:=cu λs' L az=>by
      cases L;exact E ⟨az.1,cw.1 az.2.1,az.2.2⟩
     exact⟨be,aC,e,λ_=>rfl,λf G=>by rw[Q] at G;cases G⟩
theorem Di {a b:Int}:ai x7 GB [Δ a,Δ b] w λv w'=>v=Δ (min a b)/\Ext w w':=by
 refine aw func61 ?_;rw[aR,aj];exact⟨λh=>⟨by congr 1;omega,Ext.refl _⟩,λh=>⟨by congr 1;omega,Ext.refl _⟩⟩
theorem NY {s:iY} {x:cv} {aM:x1} {t:Λ} {k:Int} (h:gP w s x) (O:(x.lines.map (·.1)).Nodup) (P:aH .i64 w aM t):ai x7 Il [.agg (eU s).toArray,aM,Δ k] w λv w'=>v=Δ (jJ x k t)/\Ext w w':=by
 obtain⟨⟨g1,Q⟩,⟨aq,R⟩,S,au,L,f,V,E⟩:=id h;refine aw func219 ?_;refine bm λW J ax z a=>?_;have a:ab J W a1 (eU s):=by
  obtain⟨_,_,_,X⟩:=ds Q.ls;obtain⟨_,_,_,Y⟩:=ds R.ls;obtain⟨_,_,_,_,_,Z,_⟩:=f.sl;simp only[eU,X,Y,Z] at a ⊢;exact a
 have aa:=f.ext z;have ac:L.length=x.lines.length:=by rw[<-E,u7]
 rw[aA a1.p 2 a rfl,aA a1.p 3 a rfl,eD ed.u aa,S];refine b1.range L.length (λi j U=>Ext J U/\ ∃c:Int,j=Δ c/\min c k=k8 x k i t) f.le ⟨Ext.refl _,x.other,rfl,(B5 x k t).symm⟩ ?_ ?_
 .rintro i _ U ad hi ⟨e,c,rfl,q⟩ ae;obtain⟨y,A⟩:=aI (l:=L) hi;obtain⟨gy,G⟩:=V y (x5 A);have B:=z.trans e;have af:x.lines[i]? =σ (y.t,y.c):=by rw[<-E,x8,A];rfl
  have H:=B7 (k:=k) O af t;refine bH Ω ?_;refine aU (λj I=>Ext J I/\ ∃c:Int,j=Δ c/\min c k=k8 x k (i+1) t) ?_ ?_
  .rintro j I ag;rw[aP];exact ae _ _ ag
  intro av K;have M:=f.ext B;rw[de rfl ed.u cb.i M hi,bD cb.p cb.i rfl (M.range A)];refine bB cb.i λan ay az ah ak=>?_;refine b3 (vs:=nX y) cb.i rfl rfl (wJ G) ak λal am aB N=>?_;have r:Ext U al:=ah.put am Ω;rw[aA cb.p 0 N rfl];refine (wI ((G.ls.ext B).ext r) ((P.ext B).ext r)).mono ?_;rintro _ aC _ ⟨rfl,C⟩;rw[aj];refine⟨λhe=>?_,λao=>?_⟩
  .rw[aA cb.p 1 (N.ext C) rfl];refine K _ _ ⟨(e.trans r).trans C,y.c,rfl,?_⟩;rw[H,if_pos he.symm]
  .refine K _ _ ⟨(e.trans r).trans C,c,rfl,?_⟩;rw[H,if_neg λhe=>ao he.symm,q]
 .rintro _ U ad ⟨e,c,rfl,q⟩;rw[ac,B6] at q;refine cd Ω ?_;refine Di.mono ?_;rintro _ aD _ ⟨rfl,ap⟩;exact⟨by rw[q],(z.trans e).trans ap⟩
theorem NZ {L:x1} (h:aH .i64 w L l) (N:l.Nodup) (ak:l.length<=64):ai x7 Ik [L] w λv w'=>Ext w w'/\ ∃g,ap .i64 ah w' g v (bk l)/\ ∀r,leads v r->w.heap.size<=r:=by
 refine aw func218 ?_;have O:∀i,i<=64->(((V1 i).map λ(v:Nat)=>(v:Int)).filter λv=>decide (v∈l)).length<=i:=λi _=>by
  have:=List.length_filter_le (λv=>decide (v∈l)) ((V1 i).map λ(v:Nat)=>(v:Int));simp at this;omega
 refine b1.range 64 (λi e J=>Ext w J/\ ∃g,ap .i64 ah J g e (((V1 i).map λ(v:Nat)=>(v:Int)).filter λv=>decide (v∈l))/\ ∀r,leads e r->w.heap.size<=r) Ω ⟨Ext.refl _,0,ap.nil _ _ _ _,λr y=>by obtain⟨a,n,c,P,an⟩:=y;cases P⟩ ?_ ?_
 .rintro i e J k hi ⟨z,g,hm,C⟩ hk;refine bH Ω ?_;rw[aX ao.u (h.ext z)];have Q:=O i Ω;generalize R:(((V1 i).map λ(v:Nat)=>(v:Int)).filter λv=>decide (v∈l))=A at hm Q;refine b1.range l.length (λj e U=>Ext w U/\ ∃g,ap .i64 ah U g e (A++(if (i:Int)∈l.take j then[(i:Int)] else[]))/\ ∀r,leads e r->w.heap.size<=r) h.le ⟨z,g,by simpa using hm,C⟩ ?_ ?_
  .rintro j S U V W ⟨q,E,f,s⟩ X;obtain⟨x,G⟩:=aI (l:=l) W;refine bH Ω ?_;refine aU (λe B=>Ext w B/\ ∃g,ap .i64 ah B g e (A++(if (i:Int)∈l.take (j+1) then[(i:Int)] else[]))/\ ∀r,leads e r->w.heap.size<=r) ?_ ?_
   .rintro aq B Y;rw[aP];exact X _ _ Y
   intro av M;have H:(i:Int)∈l.take (j+1)↔(i:Int)∈l.take j\/(i:Int)=x:=by
    rw[u9,G,o7,l7,l9]
   rw[bd ao.u al.i Ψ (h.ext q) G,bh,aj];refine⟨λhe=>?_,λZ=>?_⟩
   .have aa:(i:Int)∉l.take j:=λhm=>by
     obtain⟨p,I⟩:=X4.1 hm;have ab:p<j:=by have:=(x4.1 I).1;rw[j5] at this;omega
     rw[Y8 ab,<-he] at I;have:=kq N I G;omega
    rw[if_neg aa,X9] at f;refine ep (k:=.i64) am.u ah.i rfl λa3 au B ax K ac=>?_;refine gO am.u ah.i rfl (f.ext K) ac.ls Θ Θ λay ad aA ae af ag=>?_;have aB:=q.size;have z3:=K.size;refine M _ _ ⟨(q.trans K).then ag λr y he=>by have:=s r he;omega,ad,?_,λr y=>(af r y).elim (s r) λh=>Ω⟩;rw[if_pos (H.2 (.inr he.symm))];exact ae
   .refine M _ _ ⟨q,E,?_,s⟩;have:((i:Int)∈l.take (j+1))=((i:Int)∈l.take j):=propext ⟨λaz=>(H.1 az).resolve_right λhe=>Z he.symm,λaz=>H.2 (.inl az)⟩;simp only[this];exact f
  .rintro S U V ⟨q,E,f,s⟩;rw[o5] at f;refine cd Ω ?_;rw[aP];refine hk _ _ ⟨q,E,?_,s⟩;rw[List.range_succ,j6,List.filter_append,R];by_cases hm:(i:Int)∈l
   .rw[if_pos hm] at f;simpa[hm] using f
   .rw[if_neg hm] at f;simpa[hm] using f
 .rintro e J k ⟨z,g,hm,C⟩;rw[aR,aj];exact⟨λh=>Ω,λ_=>⟨z,g,hm,C⟩⟩
structure eG where
 aF:x1
 szv:x1
 aZ:x1
 sc:Λ
 cs:Λ
def cS (h:eG):List x1:=[h.aF,h.szv,h.aZ]
def pj (h:eG) (r:Nat):Prop:=leads h.aZ r\/leads h.aF r\/leads h.szv r
def fI (w:x3) (sizes:Λ) (h:eG):Prop:=(∃g,ap .i64 ah w g h.aF h.sc)/\(∃g,ap .i64 ah w g h.szv (bR sizes h.sc))/\ ∃g,ap .i64 al w g h.aZ h.cs
theorem fI.ext {h:eG} (az:fI w sizes h) (a:Ext w w'):fI w' sizes h:=by
 obtain⟨⟨g1,h1⟩,⟨e,f⟩,j,p⟩:=az;exact⟨⟨g1,h1.ext a⟩,⟨e,f.ext a⟩,j,p.ext a⟩
theorem fI.one {h:eG} (az:fI w sizes h):∀u∈cS h,u.oneCell'=true:=by
 obtain⟨⟨g1,h1⟩,⟨f,a⟩,j,e⟩:=az;intro u hu;simp[cS] at hu;rcases hu with rfl|rfl|rfl
 .exact h1.ls.cells.2
 .exact a.ls.cells.2
 .exact e.ls.cells.2
theorem Dj {f:b6} {x:cv} {ad:iY} (h:gP w ad x) (aG:e7 N f) (bM:x∈f.funs) (cz:ap .i64 al w gz sv f.sizes):
  ai x7 HT [.agg (eU ad).toArray,sv,Δ f.k] w λv w'=>Ext w w'/\ ∃c:eG,v= .agg (cS c).toArray/\c.sc=bk x.scope/\c.cs=(hU f.sizes f.k x).2/\fI w' f.sizes c/\ ∀r,pj c r->w.heap.size<=r:=by
 obtain⟨af,cA,dP⟩:=aG.funs x bM;have bN:=sR af aG.sizes.2.1;have bO:=sQ bN af.scope.1;have cB:(bk x.scope).length<=6:=by rw[bO.length_eq];exact cA
 have cC:=pa aG bM;have bQ:=BV x.scope;obtain⟨⟨g1,aH⟩,⟨dQ,cD⟩,dR,dS,cE⟩:=id h;refine aw func173 ?_;refine bm λbe J dT bS ag=>?_;have ag:ab J be a1 (eU ad):=by
  obtain⟨L,cF,_⟩:=cE;obtain⟨_,_,_,E⟩:=ds aH.ls;obtain⟨_,_,_,K⟩:=ds cD.ls;obtain⟨_,_,_,_,_,cG,_⟩:=cF.sl;simp only[eU,E,K,cG] at ag ⊢;exact ag
 refine bB aV.i λbT U dU bf bg=>?_;have bi:=bS.trans bf;rw[aA a1.p 0 (ag.ext bf) rfl];refine (NZ (aH.ls.ext bi) af.scope.1 Ω).mono ?_;rintro aF bU _ ⟨aJ,gr,bj,cH⟩;rw[dp (cs:=#[aF,.slice ν 0 0,.slice ν 0 0]) (by obtain⟨_,_,_,rfl⟩:=ds bj.ls;kernel_rfl)];refine bB aV.i λB dV cI cJ cL=>?_;refine b3 (vs:=[aF,.slice ν 0 0,.slice ν 0 0]) aV.i rfl rfl (by intro u hu;simp at hu;rcases hu with rfl|rfl;exact bj.ls.cells.2;rfl) cL λM cM dW Y=>?_;have aK:Ext bU M:=cJ.put cM Ω;have bV:=(bi.trans aJ).trans aK;have W:=bj.ext aK;have bl:=((ag.ext bf).ext aJ).ext aK;have bW:=(bg.ext aJ).ext aK;have dX:=bi.size;have z3:=aJ.size;have dY:=bV.size;have dZ:=Y.lt;have ea:B=bU.heap.size:=cI;rw[aA aV.p 0 Y rfl,aX am.u W.ls];have bX:∀v∈bk x.scope,0<=v/\v<f.sizes.length:=λv hm=>af.scope.2 v ((qw bN).1 hm);have bp:∀ {w':x3},ae (λr=>r=B\/M.heap.size<=r) M w'->Ext w w':=λbq=>bV.then bq λr s he=>Ω
 have br:(bR f.sizes (bk x.scope)).length=(bk x.scope).length:=by simp[bR]
 refine ch.range (bk x.scope).length (λi O=>ae (λr=>r=B\/M.heap.size<=r) M O/\ ∃szv gs,ab O B aV [aF,szv,.slice ν 0 0]/\ap .i64 ah O gs szv ((bR f.sizes (bk x.scope)).take i)/\ ∀r,leads szv r->M.heap.size<=r) Ω
  ⟨ae.refl _ _,_,0,Y,ap.nil _ _ _ _,λr s=>by obtain⟨a,n,c,E,K⟩:=s;cases E⟩ ?_ ?_
 .rintro i O cN hi ⟨P,szv,gs,cO,an,aN⟩ cP;obtain⟨v,bt⟩:=aI (l:=(bk x.scope)) hi;have eb:=bX v (x5 bt);have cQ:ap .i64 ah O gr aF (bk x.scope):=bn W P λr s I=>by
   rcases I with rfl|I
   .exact cc W Y Φ s rfl
   .obtain⟨E,K⟩:=bP W s;omega
  refine bH Ω ?_;rw[bd am.u ah.i Ψ cQ.ls bt];intro ec aq _ _;have bY:=cO.ext aq;have cR:f.sizes[v.toNat]? =σ (f.sizes.getD v.toNat 0):=by rw[u4,x6 Ω];rfl
  rw[aA aV.p 1 bY rfl,fy (y:=v) (i:=v.toNat) Ω ao.u al.i Ψ (cz.ext ((bp P).trans aq)).ls cR];refine ep (k:=.i64) am.u ah.i rfl λed ee cT ef au cV=>?_;refine⟨.inl au,?_⟩;have bZ:=(an.ext aq).ext au;refine gO am.u ah.i rfl bZ cV.ls Θ Θ λcW cX eg aO cY b0=>?_;have b2:=bY.ext au;have b4:=b2.V b0 λhe=>cc bZ b2 Φ he rfl;rw[aQ aV.p rfl];refine bo (g:=B) (o:=1) am.i aO.ls.cells.1 aO.ls.cells.2 b4 Ξ λcZ b7 eh c0=>?_;rw[aP];have c1:ae (λr=>leads szv r\/r=B) cT cZ:=(b0.mono λr _ h=>.inl h).trans (b7.mono λr _ h=>.inr h);have c2:=P.size;have ei:=(aq.trans au).size;refine cP _ ⟨((P.trans (aq.V _)).trans (au.V _)).trans (c1.mono λr _ h=>h.elim (λh=>.inr (aN r h)) .inl),cW,cX,c0,?_,λr s=>(cY r s).elim (aN r) λh=>Ω⟩;have e:(bR f.sizes (bk x.scope)).take (i+1)=(bR f.sizes (bk x.scope)).take i++[f.sizes.getD v.toNat 0]:=by
   unfold bR;rw[<-List.map_take,<-List.map_take,u9,bt,o7,j6];rfl
  rw[e];exact bn aO b7 λr s he=>by
   have he:r=B:=he;subst he;exact cc aO b4 Φ s rfl
 rintro O cN ⟨P,szv,gs,bu,an,aN⟩;rw[<-br,o5] at an;refine cd Ω ?_;have ej:=bp P;have aR:b5 (bR f.sizes (bk x.scope)):=⟨by rw[br];exact cB,lZ aG.sizes.2.2 bX⟩;have c3:=cC.small;rw[aA aV.p 1 bu rfl];refine (vq _ an.ls aR).mono ?_;rintro c4 C _ ⟨aS,b8⟩;have ek:=ib aR.2;have em:=lU aR.2;have en:aL (bR f.sizes (bk x.scope))<=4096:=c3;rw[fA cK.u b8];have aT:ae (λr=>r=B\/M.heap.size<=r) M C:=P.trans (aS.V _);have ax:=bu.ext aS;have b9:=an.ext aS;have c2:=P.size;have eo:=aS.size;have bw:ap .i64 ah C gr aF (bk x.scope):=bn W aT λr s I=>by
  rcases I with rfl|I
  .exact cc W Y Φ s rfl
  .obtain⟨E,K⟩:=bP W s;omega
 have bx:ab C be a1 (eU ad):=bl.V aT λI=>I.elim (λhe=>by subst he;exact absurd (ey bl Y) Φ) λh=>by have:=bl.lt;omega
 have ca:=bW.V aT λI=>I.elim (λhe=>by have:=bg.lt;omega) λh=>by have:=bW.lt;omega
 have cb:∀ {w':x3},ae (λr=>r=B\/C.heap.size<=r) C w'->Ext w w':=λbq=>(bp aT).then bq λr s he=>by
  have he:r=B\/C.heap.size<=r:=he;omega
 have er:B<C.heap.size:=ax.lt;refine ch.range (ba (bR f.sizes (bk x.scope))).length (λq z=>ae (λr=>r=B\/C.heap.size<=r) C z/\ ∃aZ ay,ab z B aV [aF,szv,aZ]/\ap .i64 al z ay aZ (((ba (bR f.sizes (bk x.scope))).take q).map λt=>jJ x f.k (oS x.scope (bk x.scope) t))/\ ∀r,leads aZ r->C.heap.size<=r) Ω
  ⟨ae.refl _ _,_,0,ax,ap.nil _ _ _ _,λr s=>by obtain⟨a,n,c,E,K⟩:=s;cases E⟩ ?_ ?_
 .rintro q z c5 c6 ⟨G,aZ,ay,aB,aC,aY⟩ c7;obtain⟨t,a2⟩:∃t,(ba (bR f.sizes (bk x.scope)))[q]? =σ t:=⟨_,x6 c6⟩;have es:t.length=(bk x.scope).length:=by
   have c8:=nG aR.2 (i:=q) Ω;rw[c8] at a2;cases a2;rw[jl,br]
  have bz:=cb G;have c9:ak.rep (α:=List (Λ)) true (eL O.heap.size) bC z [c4] (ba (bR f.sizes (bk x.scope))):=ak.V b8 G λr s h I=>by
   rcases h with h|h
   .have h:O.heap.size<=r:=h;have:=bu.lt;rcases I with I|I<;>omega
   .exact h
  have Z:∀ {Q:Nat} {R:x1} {S:Λ},ap .i64 ah C Q R S->ap .i64 ah z Q R S:=λhm=>bn hm G λr s I=>by
   rcases I with rfl|I
   .exact cc hm ax Φ s rfl
   .obtain⟨E,K⟩:=bP hm s;omega
  have ce:=Z bw;have cg:ab z be a1 (eU ad):=bx.V G λI=>I.elim (λhe=>by subst he;exact absurd (ey bx ax) Φ) λh=>by have:=bx.lt;omega
  refine bH Ω ?_;refine gK (α:=Λ) rfl rfl cK.u am.i Ψ c9 a2 λaM da=>?_;have db:=cU da;rw[aA a1.p 0 cg rfl,aX ao.u (aH.ls.ext bz)];have z12:=G.size;refine b1.range x.scope.length (λp H a6=>Ext z a6/\ ∃go,ap .i64 al a6 go H ((x.scope.take p).map λv=>t.getD ((bk x.scope).idxOf v) 0)/\ ∀r,leads H r->z.heap.size<=r) Ω ⟨Ext.refl _,0,ap.nil _ _ _ _,λr s=>by obtain⟨a,n,c,E,K⟩:=s;cases E⟩ ?_ ?_
  .rintro p H a6 dc dd ⟨aa,go,aD,ci⟩ de;obtain⟨v,bA⟩:=aI (l:=x.scope) dd;have df:v∈bk x.scope:=bO.mem_iff.2 (x5 bA);refine bH Ω ?_;have dg:=bz.trans aa;have dh:=aB.ext aa;have di:=ce.ext aa;rw[bd ao.u al.i Ψ (aH.ls.ext dg) bA,aA aV.p 0 dh rfl,aX am.u di.ls];generalize cj:((x.scope.take p).map λv=>t.getD ((bk x.scope).idxOf v) 0)=A at aD;have et:A.length=p:=by rw[<-cj,u7,j5];omega
   refine b1.range (bk x.scope).length (λj H a7=>Ext z a7/\ ∃go,ap .i64 al a7 go H (A++if v∈(bk x.scope).take j then[t.getD ((bk x.scope).idxOf v) 0] else[])/\ ∀r,leads H r->z.heap.size<=r) Ω ⟨aa,go,by simpa using aD,ci⟩ ?_ ?_
   .rintro j dj a7 dk dl ⟨X,bE,ac,aE⟩ dm;obtain⟨u,hu⟩:=aI (l:=(bk x.scope)) dl;have dn:=ce.ext X;refine bH Ω ?_;refine aU (λH bF=>Ext z bF/\ ∃go,ap .i64 al bF go H (A++if v∈(bk x.scope).take (j+1) then[t.getD ((bk x.scope).idxOf v) 0] else[])/\ ∀r,leads H r->z.heap.size<=r) ?_ ?_
    .rintro eu bF dq;rw[aP];exact dm _ _ dq
    intro av ck;have bG:v∈(bk x.scope).take (j+1)↔v∈(bk x.scope).take j\/v=u:=by
     rw[u9,hu,o7,l7,l9]
    rw[bd am.u ah.i Ψ dn.ls hu,bh,aj];refine⟨λhe=>?_,λbI=>?_⟩
    .have dr:v∉(bk x.scope).take j:=λhm=>by
      obtain⟨dt,bJ⟩:=X4.1 hm;have du:dt<j:=by have:=(x4.1 bJ).1;rw[j5] at this;omega
      rw[Y8 du,<-he] at bJ;have:=kq bQ bJ hu;omega
     rw[if_neg dr,X9] at ac;have dv:t[j]? =σ (t.getD ((bk x.scope).idxOf v) 0):=by
      have:(bk x.scope).idxOf v=j:=qy bQ (by rw[hu,he]);rw[this,u4,x6 (show j<t.length by omega)];rfl
     rw[bd am.u ah.i Ψ (db.ext X) dv];refine ep ao.u al.i rfl λev ew ez eA bK dw=>?_;refine gO ao.u al.i rfl (ac.ext bK) dw.ls Θ Θ λeB dx eC dy dz dA=>?_;have eD:=X.size;have eE:=bK.size;refine ck _ _ ⟨(X.trans bK).then dA λr s he=>by have:=aE r he;omega,dx,?_,λr s=>(dz r s).elim (aE r) λh=>Ω⟩;rw[if_pos (bG.2 (.inr he.symm))];exact dy
    .refine ck _ _ ⟨X,bE,?_,aE⟩;have:(v∈(bk x.scope).take (j+1))=(v∈(bk x.scope).take j):=propext ⟨λaz=>(bG.1 az).resolve_right λhe=>bI he.symm,λaz=>bG.2 (.inl az)⟩;simp only[this];exact ac
   .rintro dj a7 dk ⟨X,bE,ac,aE⟩;rw[o5,if_pos df] at ac;refine cd Ω ?_;rw[aP];refine de _ _ ⟨X,bE,?_,aE⟩;rw[u9,bA,o7,j6,cj];exact ac
  .rintro H a6 dc ⟨aa,go,aD,ci⟩;rw[o5] at aD;refine cd Ω ?_;intro eF cl _ _;have a8:=aa.trans cl;have dC:=aB.ext a8;have dD:=cg.ext a8;rw[aA aV.p 2 dC rfl,bD a1.p a1.i rfl dD.range];refine (NY (h.ext (bz.trans a8)) af.lines.1 (aD.ls.ext cl)).mono ?_;rintro _ eH _ ⟨rfl,bL⟩;refine⟨.inl bL,?_⟩;refine ep ao.u al.i rfl λeI eJ dE eK cm dF=>?_;refine⟨.inl (bL.trans cm),?_⟩;have bb:=(a8.trans bL).trans cm;have cn:=aC.ext bb;refine gO ao.u al.i rfl cn dF.ls Θ Θ λdG dH eM bc dI cp=>?_;have cq:=aB.ext bb;have cr:=cq.V cp λhe=>cc cn cq Φ he rfl;rw[aQ aV.p rfl];refine bo (g:=B) (o:=2) ao.i bc.ls.cells.1 bc.ls.cells.2 cr Ξ λdJ ct eN dK=>?_;rw[aP];have dL:ae (λr=>leads aZ r\/r=B) dE dJ:=(cp.mono λr _ h=>.inl h).trans (ct.mono λr _ h=>.inr h);have eO:=bb.size;refine c7 _ ⟨(G.trans (bb.V _)).trans (dL.mono λr _ h=>h.elim (λh=>.inr (aY r h)) .inl),dG,dH,dK,?_,λr s=>(dI r s).elim (aY r) λh=>Ω⟩;rw[u9,a2,o7,j6];exact bn bc ct λr s he=>by
    have he:r=B:=he;subst he;exact cc bc cr Φ s rfl
 .rintro z c5 ⟨G,aZ,ay,aB,aC,aY⟩;rw[o5] at aC;refine cd Ω ?_;have Z:∀ {Q:Nat} {R:x1} {S:Λ},ap .i64 ah C Q R S->ap .i64 ah z Q R S:=λhm=>bn hm G λr s I=>by
   rcases I with rfl|I
   .exact cc hm ax Φ s rfl
   .obtain⟨E,K⟩:=bP hm s;omega
  let c:eG:=⟨aF,szv,aZ,bk x.scope,(hU f.sizes f.k x).2⟩;have dM:fI z f.sizes c:=⟨⟨gr,Z bw⟩,⟨gs,Z b9⟩,ay,aC⟩;rw[bD aV.p aV.i rfl (show z.rangeAt B 0 (cS c) from aB.range)];have cu:=ca.V G λI=>I.elim (λhe=>by have:=bg.lt;omega) λh=>by have:=ca.lt;omega
  refine b3 (vs:=cS c) aV.i rfl rfl dM.one cu λdN cw eP dO=>?_;rw[fz aV.p aV.i rfl dO.range];have aW:∀ {Q:Nat} {R:x1} {S:Λ} {e:r9},e≠aV->ap .i64 e z Q R S->ap .i64 e dN Q R S:=λbI hm=>bn hm cw λr s he=>by
   have he:r=bT:=he;exact cc hm cu bI s he
  refine⟨(cb G).then cw λr s he=>by have he:r=bT:=he;have:=bS.size;omega,c,rfl,rfl,rfl,⟨⟨gr,aW Φ (Z bw)⟩,⟨gs,aW Φ (Z b9)⟩,ay,aW Φ aC⟩,λr s=>?_⟩;rcases s with s|s|s
  .have:=aY r s;omega
  .have:=cH r s;omega
  .have:=aN r s;omega
theorem Dk {h:eG} {g:Nat} (e:fI w sizes h) (a:ab w' g aV (x1.agg (cS h).toArray).cells.toList):ab w' g aV (cS h):=by
 obtain⟨⟨g1,h1⟩,⟨s,f⟩,x,j⟩:=e;obtain⟨_,_,_,p⟩:=ds h1.ls;obtain⟨_,_,_,q⟩:=ds f.ls;obtain⟨_,_,_,r⟩:=ds j.ls;simp only[cS,p,q,r] at a ⊢;exact a
theorem N0 {a b:eG} (R:fI w sizes a) (S:fI w sizes b) (X:jp a.sc) (Y:jp b.sc):ai x7 ze [.agg (cS a).toArray,.agg (cS b).toArray] w λv w'=>v= .bool (decide (dd a.sc<dd b.sc))/\Ext w w':=by
 obtain⟨⟨ga,V⟩,_⟩:=id R;obtain⟨⟨c4,Z⟩,_⟩:=id S;have I:=(vV X Y).1;refine aw func174 ?_;refine bm λg1 J av ab L=>?_;refine bm λac U ax W M=>?_;have L:=(Dk R L).ext W;have M:=Dk S M;have r:=ab.trans W;have s:=V.ls.ext r;have B:=Z.ls.ext r;have z:∀ {w':x3},Ext U w'-> ∀ {K:x1->Prop},aa x7 (u6 aV (Γ g1) 0) w' (λt=>aa x7 (u5 am t) w' K)=K a.aF:=λe K=>by
  rw[aA aV.p 0 (L.ext e) rfl]
 have C:∀ {w':x3},Ext U w'-> ∀ {K:x1->Prop},aa x7 (u6 aV (Γ ac) 0) w' (λt=>aa x7 (u5 am t) w' K)=K b.aF:=λe K=>by
  rw[aA aV.p 0 (M.ext e) rfl]
 rw[z (Ext.refl _),aX am.u s,C (Ext.refl _),aX am.u B,bL,aj];refine⟨λad=>?_,λae=>?_⟩
 .rw[z (Ext.refl _),aX am.u s,C (Ext.refl _),aX am.u B,aR];refine⟨?_,r⟩;congr 1;rw[V3,decide_eq_true_eq,decide_eq_true_eq,I];exact⟨λh=>.inl Ω,λh=>by rcases h with h|h<;>omega⟩
 have af:a.sc.length=b.sc.length:=by have:=Y3.1 ae;omega
 rw[z (Ext.refl _),aX am.u s];refine b1.range a.sc.length (λi _ N=>Ext U N/\ ∀ (j:Nat) (x y:Int),j<i->a.sc[j]? =σ x->b.sc[j]? =σ y->x=y) V.ls.le ⟨Ext.refl _,λj x y ag=>Ω⟩ ?_ ?_
 .rintro i _ N k hi ⟨O,E⟩ hk;obtain⟨x,e⟩:=aI (l:=a.sc) hi;obtain⟨y,G⟩:=aI (l:=b.sc) (i:=i) Ω;have f:fQ a.sc b.sc=fQ (a.sc.drop i) (b.sc.drop i):=s5 E Ω Ω;have ak:a.sc.drop i=x::a.sc.drop (i+1):=by rw[X7 hi,(x4.1 e).2]
  have al:b.sc.drop i=y::b.sc.drop (i+1):=by rw[X7 (show i<b.sc.length by omega),(x4.1 G).2]
  rw[ak,al] at f;simp only[fQ] at f;refine bH Ω ?_;intro ay an _ _;have q:=O.trans an;rw[z q,bd am.u ah.i Ψ (s.ext q) e,C q,bd am.u ah.i Ψ (B.ext q) G,bL,aj];refine⟨λad=>?_,λhe=>?_⟩
  .intro az ao _ _;have A:=q.trans ao;rw[z A,bd am.u ah.i Ψ (s.ext A) e,C A,bd am.u ah.i Ψ (B.ext A) G,aR];refine⟨?_,r.trans A⟩;congr 1;rw[V3,decide_eq_true_eq,decide_eq_true_eq,I,f];by_cases H:x<y
   .rw[if_pos H];exact⟨λ_=>.inr ⟨af,Ω⟩,λ_=>H⟩
   .rw[if_neg H,if_pos (show y<x by omega)];exact⟨λh=>absurd h H,λh=>by rcases h with h|h<;>omega⟩
  .rw[aP];refine hk _ _ ⟨q,λj ap aq ag P Q=>?_⟩;by_cases au:j=i
   .subst au;rw[e] at P;rw[G] at Q;cases P;cases Q;exact Y3.1 he
   .exact E j ap aq Ω P Q
 .rintro _ N k ⟨O,E⟩;rw[aR,aj];refine⟨λh=>Ω,λ_=>⟨?_,r.trans O⟩⟩;congr 1;symm;rw[decide_eq_false_iff_not,I];have f:fQ a.sc b.sc=fQ (a.sc.drop a.sc.length) (b.sc.drop a.sc.length):=s5 E (o4 _) Ω;rw[List.drop_length,show b.sc.drop a.sc.length=[] from List.drop_eq_nil_of_le Ω] at f;rw[f];simp only[fQ];omega
def df (h:eG):cA:=(h.sc,h.cs)
def kz (w:x3) (B g:Nat) (v:x1) (sizes:Λ) (L:List eG):Prop:=bg cS 3 aV w g v L/\(∀h∈L,fI w sizes h/\ ∀r,pj h r->B<=r)/\(∀ (i j:Nat) x y,L[i]? =σ x->L[j]? =σ y->i≠j-> ∀r,leads x.aZ r->¬leads y.aZ r)/\ ∀r,leadsTo v r->B<=r
theorem mM {h:eG} (y:fI w sizes h) (q:ae S w w') (s:∀r,S r->(∃e c,ab w r e c/\e≠ah/\e≠al)\/w.heap.size<=r\/((∃c,ab w r al c)/\¬leads h.aZ r)):fI w' sizes h:=by
 obtain⟨⟨g1,h1⟩,⟨z,A⟩,B,j⟩:=y;have x:∀ {g:Nat} {v:x1} {l:Λ},ap .i64 ah w g v l->ap .i64 ah w' g v l:=λhm=>bn hm q λr a I=>by
  rcases s r I with⟨e,c,f,p,_⟩|C|⟨⟨c,f⟩,_⟩
  .exact cc hm f (λhe=>p he.symm) a rfl
  .obtain⟨E,F⟩:=bP hm a;omega
  .exact cc hm f Φ a rfl
 refine⟨⟨g1,x h1⟩,⟨z,x A⟩,B,bn j q λr a I=>?_⟩;rcases s r I with⟨e,c,f,_,p⟩|C|⟨_,G⟩
 .exact cc j f (λhe=>p he.symm) a rfl
 .obtain⟨E,F⟩:=bP j a;omega
 .exact G a
theorem kz.ext {g:Nat} {L:List eG} (h:kz w B g v sizes L) (a:Ext w w'):kz w' B g v sizes L:=⟨h.1.ext a,λx e=>⟨(h.2.1 x e).1.ext a,(h.2.1 x e).2⟩,h.2.2⟩
section
variable {α:Type} {f:α->List x1} {k:Nat} {P:W3} {w:x3} {e:r9} {g:Nat} {v:x1} {L:List α}
theorem N1 {M:List α} (h:bg f k e w g v L) (j:L.map f=M.map f):bg f k e w g v M:=by
 have p:L.length=M.length:=by have:=congrArg T1 j;simpa using this
 have hm:L.flatMap f=M.flatMap f:=by rw[List.flatMap_def,List.flatMap_def,j]
 refine⟨by rw[<-p,<-hm];exact h.1,λa q=>?_⟩;obtain⟨b,r,he⟩:=n9.1 (show f a∈L.map f by rw[j];exact n9.2 ⟨a,q,rfl⟩);rw[<-he];exact h.2 b r
theorem Dl {b l h':Nat} {low high:Option x1} (r:P.underlying t=σ (.slice e)) (hi:aN P e k b z) (h:bg f k e w g v L) (h1:lP low l) (s:lQ high L.length h') (p:l<=h') (az:h'<=L.length)
  (x:∀q,(∀w',bg f k e w' g v L->bX w' k q ((L.drop l).take (h'-l)).length (((L.drop l).take (h'-l)).flatMap f))->K q):aa P (V5 t v low high ν) w K:=by
 have y:=h.sl;obtain⟨_,B,o,base,cap,rfl,C,_⟩:=y;rw[iG r hi h1 s gg p Ω (o4 _)];refine x _ λw' j=>?_;have:=bX.part (l:=l) (h:=h') (m:=cap) j.sl p az Ω (o4 _);rw[sH l j.2,qo (h'-l) (λa A=>j.2 a (List.mem_of_mem_drop A))] at this;have el:((L.drop l).take (h'-l)).length=h'-l:=by rw[j5,List.length_drop];omega
 rw[el];exact this
theorem wL {O:r9} {b:Nat} {x:x1} {M:List α} {K:x1->x3->Prop} (A:P.underlying t=σ (.slice e)) (hi:aN P e k b z) (G:z.cells.size=k) (h:bg f k e w g v L) (H:bX w k x M.length (M.flatMap f)) (Q:∀a∈M,(f a).length=k) (h1:∀a∈M,∀u∈f a,u.oneCell'=true)
  (B:(L.length+M.length)*b<=140737488355328) (I:L.length+M.length<=9223372036854775807)
  (J:∀j p w',bg f k e w' p j (L++M)->(∀r,leadsTo j r->leadsTo v r\/w.heap.size<=r)->ae (λr=>leadsTo v r) w w'->K j w'):ax P (b8 #[t,t] O #[v,x]) w K:=by
 have N:∀u∈M.flatMap f,u.oneCell'=true:=λu hu=>by
  obtain⟨a,R,hu⟩:=List.mem_flatMap.1 hu;exact h1 a R u hu
 have C:∀j p w',bQ w' p e k j (L.length+M.length) (L.flatMap f++M.flatMap f)->bg f k e w' p j (L++M):=λj p w' hm=>⟨by simpa using hm,λb B=>by
  rcases l7.1 B with h'|h'
  .exact h.2 b h'
  .exact Q b h'⟩
 rcases h.1.2 with⟨q,S⟩|⟨cap,cs,q,T,_⟩
 .have hm:bQ w w.heap.size e k v L.length (L.flatMap f):=⟨h.1.1,.inl ⟨q,S⟩⟩;subst q;refine lR A A hi G hm H N (by simpa using B) (by simpa[maxLen] using I) λj p w' E s F=>J j p w' (C _ _ _ s) (λr y=>.inr ?_) (F.mono λr y h=>Ω);have:=((C _ _ _ s).leads y).1;omega
 .refine lR A A hi G h.1 H N (by simpa using B) (by simpa[maxLen] using I) λj p w' E s F=>J j p w' (C _ _ _ s) (λr y=>?_) (F.mono λr y h=>⟨_,_,_,q,h.symm⟩);have:=((C _ _ _ s).leads y).1;rcases E with E|E
  .exact .inl ⟨_,_,_,q,by show g=r;omega⟩
  .exact .inr Ω
theorem N2 {b:Nat} {K:x1->x3->Prop} (a:P.underlying t=σ (.slice e)) (hi:aN P e k b z)
  (h:∀v g w',g=w.heap.size->Ext w w'->bg f k e w' g v []->K v w'):ax P (Y1 t 0 #[]) w K:=
 jj a hi Ω (cs:=#[]) (by simp[Instr.fill]) λg w' j p q=>by
  exact h _ g w' j p ⟨by simpa using bQ.full (k:=k) (n:=0) q Ξ (by simp[maxLen]),λc r=>by cases r⟩
end
theorem wM {α:Type} {A B:List α} {s:Nat} {a:α} (I:s<B.length) (e:A[s]? =σ a):(A.take s++B.drop s).set s a=A.take (s+1)++B.drop (s+1):=by
 have f:=(x4.1 e).1;have h1:(A.take s).length=s:=by rw[j5];omega
 rw[T2 _ _ Ω,h1,U1,X7 I,List.set_cons_zero,u9,e,o7,c9];rfl
theorem Dm {α:Type} {A B:List α} {s:Nat} (I:s<=A.length):(A.take s++B.drop s)[s]? =B[s]?:=by
 have h1:(A.take s).length=s:=by rw[j5];omega
 rw[Z9 Ω,h1,U1,List.getElem?_drop,Nat.add_zero]
theorem Dn {g:cA}:∀ {l:List cA} {i:Nat},(∀p<i,∀x,l[p]? =σ x->dd x.1<dd g.1)->i<=l.length->(∀x,l[i]? =σ x->¬dd x.1<dd g.1)->ht g l=l.take i++g::l.drop i
 |[],i,_,a,_=>by
  have:i=0:=by simpa using a
  subst this;rfl
 |x::l,0,_,_,e=>by
  unfold ht;rw[if_neg (e x rfl)];rfl
 |x::l,i+1,h1,a,e=>by
  unfold ht;rw[if_pos (h1 0 Ω x rfl),Dn (i:=i) (λp h y f=>h1 (p+1) Ω y f) (by simpa using a) (λy f=>e y f)];rfl
theorem N3 {g:Nat} {L:List eG} {h:eG} {s:Nat} {n:Int} {K:Unit->x3->Prop} (f:kz w B g v sizes L) (G:L[j]? =σ h) (I:s<h.cs.length)
  (Y:∀w',ae (λr=>leads h.aZ r) w w'->(∀r,leads h.aZ r-> ∃c,ab w r al c)->kz w' B g v sizes (L.set j {h with cs:=h.cs.set s n})->K () w'):
  aa x7 (c7 ao h.aZ (Δ (s:Int))) w λt=>ax x7 (o8 al t (Δ n)) w K:=by
 obtain⟨h1,P,Q,Z⟩:=f;have N:=(x4.1 G).1;obtain⟨R,ac⟩:=P h (x5 G);obtain⟨_,_,S,H⟩:=id R;have J:∀r,leads h.aZ r-> ∃c,ab w r al c:=λr f=>by
  obtain⟨rfl,_⟩:=bP H f;obtain⟨_,⟨ad,_⟩|⟨cap,full,_,C,_⟩⟩:=H
  .obtain⟨a,n,c,e,_⟩:=f;rw[ad] at e;cases e
  .exact⟨_,C⟩
 have af:∀r,r=S->leads h.aZ r:=λr he=>by
  subst he;obtain⟨_,⟨_,az⟩|⟨cap,full,e,C,_⟩⟩:=H
  .omega
  .exact⟨_,_,_,e,rfl⟩
 rw[iK rfl ao.u al.i H I];refine iL al.i H I λw' E aA ag=>?_;have E:=E.mono (T:=λr=>leads h.aZ r) λr _ he=>af r he;refine Y w' E J ⟨?_,λx A=>?_,λp q x y A ah ai r aj ak=>?_,Z⟩
 .refine N1 (h1.V E λr f I=>?_) ?_
  .obtain⟨c,C⟩:=J r I;exact cR h1 C Φ f
  .rw[U3];symm;refine Y2 λp=>?_;rw[X1,x8];by_cases z:j=p
   .subst z;rw[if_pos rfl,if_pos (by simpa using N),G];rfl
   .rw[if_neg z]
 .have am:x={h with cs:=h.cs.set s n}\/ ∃p,p≠j/\L[p]? =σ x:=by
   obtain⟨p,z⟩:=X4.1 A;rw[X1] at z;by_cases F:j=p
   .subst F;rw[if_pos rfl,if_pos N] at z;exact .inl (c8 z).symm
   .rw[if_neg F] at z;exact .inr ⟨p,λh=>F h.symm,z⟩
  rcases am with rfl|⟨p,an,z⟩
  .obtain⟨⟨g1,U⟩,⟨ap,W⟩,_⟩:=R;refine⟨⟨⟨g1,bn U E λr f I=>?_⟩,⟨ap,bn W E λr f I=>?_⟩,S,ag⟩,ac⟩
   .obtain⟨c,C⟩:=J r I;exact cc U C Φ f rfl
   .obtain⟨c,C⟩:=J r I;exact cc W C Φ f rfl
  .obtain⟨aq,au⟩:=P x (x5 z);refine⟨mM aq E λr f=>.inr (.inr ⟨J r f,λO=>Q p j x h z G an r O f⟩),au⟩
 .have X:∀ {p:Nat} {x:eG},(L.set j {h with cs:=h.cs.set s n})[p]? =σ x-> ∃M,L[p]? =σ M/\M.aZ=x.aZ:=λ{p x} A=>by
   rw[X1] at A;by_cases F:j=p
   .subst F;rw[if_pos rfl,if_pos N] at A;cases A;exact⟨h,G,rfl⟩
   .rw[if_neg F] at A;exact⟨x,A,rfl⟩
  obtain⟨M,O,ex⟩:=X A;obtain⟨av,aw,ay⟩:=X ah;exact Q p q M av O aw ai r (by rw[ex];exact aj) (by rw[ay];exact ak)
def lh (f:b6) (j:Nat):List cA:=(((fl f).take j).filter fB).foldl (λl g=>ht g l) []
theorem Do {f:b6} {x:cA} (h:(fl f)[j]? =σ x):lh f (j+1)=if fB x then ht x (lh f j) else lh f j:=by
 unfold lh;rw[u9,h,o7,List.filter_append,List.foldl_append];cases I:fB x with
 |true=>rw[List.filter_cons_of_pos I];rfl
 |false=>rw[List.filter_cons_of_neg (by simp[I])];rfl
theorem N4 (f:b6):lh f (fl f).length=fC f:=by unfold lh fC;rw[o5]
theorem Dp (g:cA):∀l,(ht g l).length=l.length+1
 |[]=>rfl
 |h::l=>by
  unfold ht;split
  .rw[Z0,Dp g l,Z0]
  .rfl
theorem N5 {f:b6} (e:j<=(fl f).length):(lh f j).length<=j:=by
 induction j with
 |zero=>simp[lh]
 |succ j a=>
  have:=a Ω;rw[Do (x:=(fl f)[j]) (x6 Ω)];split
  .rw[Dp];omega
  .omega
theorem N6 {g:Nat} {l:x1} {f:b6} {L:List eG} {Q:x1->x3->Prop} (aC:e7 N f) (A:kz w B g l f.sizes L) (aD:L.map df=fl f)
  (bN:∀out w' go z,Ext w w'->bg cS 3 aV w' go out z->(∀h∈z,h∈L)->(∀h∈z,fI w' f.sizes h)->z.map df=fC f->(∀r,leadsTo out r->w.heap.size<=r)->Q out w'):
  aa x7 (W7 #[cj] ah #[l]) w λbO=>
 b1 (.slice ν 0 0) (Δ 0) w λout aE S bP=>
  aa x7 (aJ .lss ah false false aE bO) S λbQ=>
  Split bQ (cm (α:=x1->x3->Prop) (λ(bR:x1) (U:x3)=>
   aa x7 (aJ .add ah false true aE (Δ 1)) U λbU=>
   bP bR bU U) λbe=>
  aa x7 (c7 cj l aE) S λbV=>
  aa x7 (u5 aV bV) S λbW=>
  ax x7 (T7 aV true (.tuple #[])) S λam bf=>
  ax x7 (o8 aV am bW) bf λ(_:Unit) O=>
  aa x7 (u6 aV am 2) O λbX=>
  aa x7 (u5 ao bX) O λbh=>
  aa x7 (W7 #[ao] ah #[bh]) O λbZ=>
  b1 (.bool false) (Δ 0) O λbi aF C b0=>
   aa x7 (aJ .lss ah false false aF bZ) C λb4=>
   Split b4 (cm (α:=x1->x3->Prop) (λ(b5:x1) (Z:x3)=>
    aa x7 (aJ .add ah false true aF (Δ 1)) Z λb7=>
    b0 b5 b7 Z) λbj=>
   aa x7 (c7 ao bh aF) C λb9=>
   aa x7 (u5 al b9) C λca=>
   Split bi (bj (.bool true) C)
    (aa x7 (aJ .gtr al false true ca (Δ 0)) C λcb=>
   bj cb C))
    (aa x7 (Op.unary .not bi) C λcc=>
  Split cc (be out C)
   (ch (Δ 0) C λi an ce=>
   cm (α:=x1->x3->Prop) (λ(cg:x1) (W:x3)=>
    Split cg (aa x7 (aJ .add ah false true i (Δ 1)) W λck=>
   ce ck W)
     (eo W λG=>
  aa x7 (u5 aV am) G λcl=>
  aa x7 (V5 cj out (σ i) ν ν) G λbk=>
  ax x7 (Y1 cj 1 #[(0,cl)]) G λcn ab=>
   (Ext G ab\/ci x7 (V5 cj out (σ i) ν ν) bk ab/\True)/\
  ax x7 (b8 #[cj,cj] cj #[cn,bk]) ab λcp aG=>
   ax x7 (Y1 cj 0 #[]) aG λcq ap=>
  aa x7 (V5 cj out ν (σ i) ν) ap λcr=>
  ax x7 (b8 #[cj,cj] cj #[cq,cr]) ap λct aH=>
  ax x7 (b8 #[cj,cj] cj #[ct,cp]) aH λcu aK=>
  be cu aK)) λbl=>
   eo an λH=>
   aa x7 (W7 #[cj] ah #[out]) H λcw=>
   aa x7 (aJ .lss ah false false i cw) H λcz=>
   Split cz (aa x7 (c7 cj out i) H λcA=>
   aa x7 (u5 aV cA) H λcB=>
   aa x7 (u5 aV am) H λcC=>
   ai x7 ze [cB,cC] H λcD bm=>
    bl cD bm)
    (bl (.bool false) H))))
   (Q out S):=by
 have cE:L.length=(fl f).length:=by rw[<-aD,u7]
 have dm:L.length<=256:=by have:=(k7 aC).2.2;have:=aC.k0;omega
 have bn:=(k7 aC).1;rw[eD cj.u A.1];refine b1.range L.length (λj out J=>∃go z,Ext w J/\bg cS 3 aV J go out z/\(∀h∈z,h∈L)/\z.map df=lh f j/\ ∀r,leadsTo out r->w.heap.size<=r) A.1.le
  ⟨0,[],Ext.refl _,bg.nil _ _ _ _ _,λh az=>(by cases az),rfl,λr A=>(e8 A).elim⟩ ?_ ?_
 rotate_left
 .rintro out J cF ⟨go,z,bo,ac,P,ad,aL⟩;rw[aR,aj];refine⟨λh=>Ω,λ_=>bN _ _ go z bo ac P (λh az=>((A.ext bo).2.1 h (P h az)).1) ?_ aL⟩;rw[ad,cE,N4]
 rintro j out S cF bp ⟨go,z,aq,ac,P,ad,aL⟩ cG;obtain⟨h,az⟩:=aI (l:=L) bp;have hm:(fl f)[j]? =σ (df h):=by rw[<-aD,x8,az];rfl
 have cH:=bn _ (x5 hm);have dn:z.length<=256:=by
  have:=N5 (f:=f) (j:=j) Ω;rw[<-ad,u7] at this;omega
 have ae:=A.ext aq;obtain⟨aN,_⟩:=ae.2.1 h (x5 az);obtain⟨_,_,dp,cI⟩:=id aN;refine bH Ω ?_;refine aU (λaO U=>∃aQ af,Ext w U/\bg cS 3 aV U aQ aO af/\(∀h∈af,h∈L)/\af.map df=lh f (j+1)/\ ∀r,leadsTo aO r->w.heap.size<=r) ?_ ?_
 .rintro aO U ⟨aQ,af,h1,cJ,cK,cL,cM⟩;rw[aP];exact cG _ _ ⟨aQ,af,h1,cJ,cK,cL,cM⟩
 intro av ag;rw[de rfl cj.u aV.i ae.1 bp,bD aV.p aV.i rfl (ae.1.range az)];refine bB aV.i λbq bf dq cN cO=>?_;refine b3 (vs:=cS h) aV.i rfl rfl aN.one cO λO cP dr br=>?_;have bt:Ext S O:=cN.put cP Ω;have aS:=cI.ext bt;rw[aA aV.p 2 br rfl,aX ao.u aS.ls];refine b1.range h.cs.length (λq sv C=>Ext O C/\sv= .bool ((h.cs.take q).any λc=>decide (0<c))) aS.ls.le ⟨Ext.refl _,rfl⟩ ?_ ?_
 .rintro q _ C cQ cR ⟨X,rfl⟩ cT;obtain⟨c,bu⟩:=aI (l:=h.cs) cR;have e:(h.cs.take (q+1)).any (λc=>decide (0<c))=((h.cs.take q).any (λc=>decide (0<c))||decide (0<c)):=by
   rw[u9,bu,o7,List.any_append];simp
  refine bH Ω ?_;refine aU (λsv Z=>Ext O Z/\sv= .bool ((h.cs.take (q+1)).any λc=>decide (0<c))) ?_ ?_
  .rintro _ Z ⟨cU,rfl⟩;rw[aP];exact cT _ _ ⟨cU,rfl⟩
  intro av ag;rw[bd ao.u al.i Ψ (aS.ext X).ls bu,bY];refine⟨λcV=>ag _ _ ⟨X,by rw[e,cV];rfl⟩,λcW=>?_⟩;rw[bT];exact ag _ _ ⟨X,by rw[e,cW];rfl⟩
 rintro _ C cQ ⟨X,rfl⟩;have bw:=br.ext X;have R:=bt.trans X;rw[o5];refine cd Ω ?_;rw[bG,bY];have au:=Do hm;have cX:(h.cs.any λc=>decide (0<c))=fB (df h):=rfl;rw[cX];refine⟨λaT=>?_,λI=>?_⟩
 .have aT:fB (df h)=false:=by simpa using aT
  rw[aT] at au;exact ag _ _ ⟨go,z,aq.trans R,ac.ext R,P,by rw[ad,au];rfl,aL⟩
 have I:fB (df h)=true:=by simpa using I
 rw[I,if_pos rfl] at au;refine⟨λaW an=>∃i:Nat,aW=Δ (i:Int)/\i<=z.length/\Ext C an/\ ∀p<i,∀x,z[p]? =σ x->dd x.sc<dd h.sc,λaW _=>z.length-(b2 aW).toNat,⟨0,rfl,X3 _,Ext.refl _,λp aZ=>Ω⟩,?_⟩;rintro _ an ⟨i,rfl,hi,cY,a1⟩;refine aU (λaM W=>Ext C W/\((aM= .bool true/\i<z.length/\ ∀x,z[i]? =σ x->dd x.sc<dd h.sc)\/(aM= .bool false/\ ∀x,z[i]? =σ x->¬dd x.sc<dd h.sc))) ?_ ?_
 rotate_left
 .intro ds a2;intro H cZ _ _;have Y:=cY.trans cZ;have a6:=ac.ext (R.trans Y);rw[eD cj.u a6,aR,aj];refine⟨λa1=>?_,λdt=>a2 _ _ ⟨Y,.inr ⟨rfl,λx s=>absurd (x4.1 s).1 Ω⟩⟩⟩;obtain⟨x,s⟩:=aI (l:=z) (i:=i) Ω;have bx:=P x (x5 s);have c0:jp x.sc:=(bn (df x) (by rw[<-aD];exact n9.2 ⟨x,bx,rfl⟩)).scope;have bz:=ae.ext (R.trans Y);rw[de rfl cj.u aV.i a6 Ω,bD aV.p aV.i rfl (a6.range s),bD aV.p aV.i rfl (show H.rangeAt bq 0 (cS h) from (bw.ext Y).range)];refine (N0 (bz.2.1 x bx).1 (bz.2.1 h (x5 az)).1 c0 cH.scope).mono ?_;rintro _ bm _ ⟨rfl,bA⟩;by_cases aw:dd x.sc<dd h.sc
  .rw[decide_eq_true aw];exact a2 _ _ ⟨Y.trans bA,.inl ⟨rfl,Ω,λy E=>by rw[s] at E;cases E;exact aw⟩⟩
  .rw[decide_eq_false aw];exact a2 _ _ ⟨Y.trans bA,.inr ⟨rfl,λy E=>by rw[s] at E;cases E;exact aw⟩⟩
 rintro _ W ⟨bC,⟨rfl,du,c1⟩|⟨rfl,c2⟩⟩
 .rw[bS,aP,wrap_i64 Ω Ω];refine⟨⟨i+1,rfl,Ω,bC,λp aZ x s=>?_⟩,by simp only[b2];omega⟩;by_cases c3:p=i
  .subst c3;exact c1 x s
  .exact a1 p Ω x s
 .rw[aY];intro G c4 _ _;have ak:=bC.trans c4;have ay:=ac.ext (R.trans ak);have c5:=ae.ext (R.trans ak);have a7:∀x∈z,∀u∈cS x,u.oneCell'=true:=λx s=>(c5.2.1 x (P x s)).1.one;have c6:∀u∈cS h,u.oneCell'=true:=aN.one;rw[bD aV.p aV.i rfl (show G.rangeAt bq 0 (cS h) from (bw.ext ak).range)];refine Dl (h':=z.length) cj.u aV.i ay (nq i _ rfl) kg hi (o4 _) λdv bE=>?_;refine hW (f:=cS) (k:=3) (a:=h) cj.u aV.i Ω rfl rfl λdw dx ab dy a8 bF=>?_;refine⟨.inl a8,?_⟩;have c8:(z.drop i).take (z.length-i)=z.drop i:=o9 (by rw[List.length_drop];omega);rw[c8] at bE;refine wL (M:=z.drop i) cj.u aV.i rfl bF (bE ab (ay.ext a8)) (λ_ _=>rfl) (λa K=>a7 a (List.mem_of_mem_drop K)) Θ Θ λdz dA aG ba dC c9=>?_;have bI:Ext G aG:=a8.then c9 λr A he=>by have:=(bF.leads he).1;omega
  refine N2 (f:=cS) (k:=3) cj.u aV.i λdD dE ap dF bb aB=>?_;have bc:=bI.trans bb;refine Dl (h':=i) cj.u aV.i (ay.ext bc) kf (nr i _ rfl) (X3 _) hi λdG bJ=>?_;rw[List.drop_zero,Nat.sub_zero] at bJ;refine wL (M:=z.take i) cj.u aV.i rfl aB (bJ ap (ay.ext bc)) (λ_ _=>rfl) (λa K=>a7 a (T3 K)) Θ Θ λda dH aH db dc bK=>?_;have dI:=bI.size;have dJ:=bb.size;have dg:=(ba.ext bb).V bK λr A I=>by have:=(ba.leads A).1;have:=(ba.leads A).2;have:=(aB.leads I).1;omega
  refine wL (M:=[h]++z.drop i) cj.u aV.i rfl db dg.sl (λ_ _=>rfl) (λa K=>?_) Θ Θ λdK dh aK di dj dk=>?_
  .rcases l7.1 K with K|K
   .rw[l9.1 K];exact c6
   .exact a7 a (List.mem_of_mem_drop K)
  have bL:Ext G aH:=bc.then bK λr A he=>by have:=(aB.leads he).1;omega
  have bM:∀r,leadsTo da r->G.heap.size<=r:=λr A=>(dc r A).elim (λh=>by have:=(aB.leads h).1;omega) λh=>Ω
  have dl:Ext G aK:=bL.then dk λr A he=>by have:=bM r he;omega
  have dL:=(aq.trans (R.trans ak)).size;have dM:=bL.size;refine ag _ _ ⟨dh,_,(aq.trans (R.trans ak)).trans dl,di,λx s=>?_,?_,λr A=>(dj r A).elim (λh=>by have:=bM r h;omega) λh=>Ω⟩
  .rcases l7.1 s with s|s
   .exact P x (T3 (by simpa using s))
   .rcases l7.1 s with s|s
    .rw[l9.1 s];exact x5 az
    .exact P x (List.mem_of_mem_drop s)
  .rw[au,<-ad,Dn (i:=i) (λp aZ x s=>?_) (by simpa using hi) (λx s=>?_)]
   .simp
   .rw[x8] at s;cases E:z[p]? with
    |none=>rw[E] at s;cases s
    |some y=>rw[E] at s;cases s;exact a1 p aZ y E
   .rw[x8] at s;cases E:z[i]? with
    |none=>rw[E] at s;cases s
    |some y=>rw[E] at s;cases s;exact c2 y E
end Go.Proofs.YtjjhhcfgfdepdaaGreatDoor
