/- own texts, made small by a tool (wip/ holds them as they were written): no statement of the seat. -/
import Derived.Test.YtjjhhcfgfdepdaaGreatDoorZc
set_option linter.unusedVariables false
set_option linter.unusedSimpArgs false
set_option linter.unnecessarySimpa false
open Array renaming getElem?_eq_some_iff→o9,getElem?_toList→T8
open Bool renaming not_true→Z8,not_false→X3,eq_iff_iff→V5,and_eq_true→U2,or_eq_false_iff→T7
open Decidable renaming not_not→Y4
open Go renaming Value→x1,World→x3,TypeId→r9,IntKind→o4,Builtin→Z0,Program→W0
open Go.Addr renaming add_mid→T2
open Go.Builtin renaming append_→b8,len_→W3
open Go.Instr renaming loadAt→u5,fieldAt→u6,storeAt→o7,indexAt→j5,extract→Z1,buildSlice→Z9,sliceAt→V3,alloc→R2
open Go.IntKind renaming i64→Y9
open Go.Proofs.Tryz renaming prog→x7
open Int renaming toNat_natCast→u9
open List renaming getElem?_eq_some_iff→x4,mem_of_getElem?→x5,getElem?_eq_getElem→x6,getElem?_map→x8,getD_eq_getElem?_getD→u4,length_map→u7,take_add_one→r8,replicate→p8,length_append→o5,take_length→o6,mem_map→o8,mem_singleton→n9,mem_append→l7,length_take→j0,take_of_length_le→j6,eq_nil_of_length_eq_zero→j9,getElem?_set_self→c7,map_append→c8,length_cons→b9,length_set→Z4,getElem?_eq_none→Z5,getElem?_append_left→Y0,getElem?_append_right→Y1,getElem?_take_of_lt→Y3,getElem?_set_ne→Y5,ext_getElem?→Y8,getElem?_set→X0,mem_iff_getElem?→X4,mem_or_eq_of_mem_set→X6,drop_eq_getElem_cons→X7,length_eq_one_iff→W6,range→W7,flatMap_cons→W9,map_set→U1,map_cons→U4,append_nil→U5,append_assoc→U8,set_append_right→U9,map_map→S1,length_singleton→S4,mem_of_mem_take→S8,length→S9,getElem_mem→R5
open Nat renaming le_refl→p9,le_trans→Y7,zero_add→X1,zero_le→X2,mul_le_mul_right→X5,sub_self→V7,add_mul→V8,mul_one→U6,add_assoc→S2,add_sub_cancel_left→S5,eq_zero_or_pos→R4
open Option renaming toList_some→l9,map_some→Z2,isNone_some→Z3,map_eq_some_iff→Y2,getD_some→V4,map→V6,isSome_some→T9,isSome_none→S0
open Option.some renaming inj→c9,injEq→Y6
open Prod.mk renaming injEq→T4
set_option maxHeartbeats 16000000
open Option renaming some→σ,none→ν
variable {B I N ab ad gz j k n:Nat}{w w':x3}{sv v z:x1}{e t:r9}{y:Int}{K:x1->Prop}{all l pl sizes:Λ}{S:Nat->Prop}
namespace Go.Proofs.YtjjhhcfgfdepdaaGreatDoor
open Go Go.Vc Go.RowKit Go.Proofs Go.Proofs.Tryz
set_option maxRecDepth 100000
def Ma (w:x3) (f:bY) (v:x1) (w':x3):Prop:=Ext w w'/\((¬lF f.funs<=16384/\ ∃e:Int,e≠0/\v= .tuple #[.pointer ν,Δ e])\/ ∃I,v= .tuple #[Γ I,Δ 0]/\Co w.heap.size w' I (cd f))
theorem eC {cs:List x1} (h:b5 w k v n cs):v.cells= #[v]/\v.oneCell'=true:=by
 obtain⟨_,_,_,_,_,rfl,_⟩:=h;exact⟨rfl,rfl⟩
theorem Mb {cm:Nat} {f:bY} (cO:kU w cm f) (az:eX N f) (cP:N<=60000) (cQ:f.name≠[]/\ ∀b∈f.name,bE b=true):
  aj x7 Fk [Γ cm] w (Ma w f):=by
 have hk:=az.k;refine aw func36 ?_;refine (L6 cO az cP cQ).mono ?_;rintro _ J _ ⟨aY,⟨cS,e,he,rfl⟩|⟨aZ,rfl,cT⟩⟩
 .rw[bf,bg,bh,ai];exact⟨λ_=>⟨aY,.inl ⟨cS,e,he,rfl⟩⟩,λh=>absurd he h⟩
 rw[bf,bg,bh,ai];refine⟨λh=>absurd rfl h,λ_=>?_⟩;obtain⟨szv,cU,gz,dS,M,bG,bH,cn,bl,cV,cW,cX⟩:=id cT;have dT:M.length<=256:=by
  have h1:=(p2 az).2.length_eq;have aS:=(kS az).2.2;have aW:=List.length_filter_le fo (e9 f);have bo:=az.kM;have dU:M.length=(fp f).length:=by rw[<-bl,u7]
  omega
 have dW:=az.sizes.2.1;rw[dc (cs:=#[Γ aZ,Δ 0,.slice ν 0 0,.slice ν 0 0]) Ψ];refine bm λaf V dX bJ bK=>?_;have bK:ac V af fj [Γ aZ,Δ 0,.slice ν 0 0,.slice ν 0 0]:=bK;rw[aM cu.p 2 (bG.ext bJ) rfl,aV am.u (bH.ls.ext bJ)];refine ce.range f.sizes.length (λi a1=>∃W ah aU,Ext J a1/\ac a1 af fj [Γ aZ,Δ 0,W,.slice ν 0 0]/\ha a1 ah W aU/\aU.map (·.l)=(f.sizes.take i).map (λz=>p8 z.toNat 0)/\(∀r,leadsTo W r->J.heap.size<=r)/\ ∀h∈aU,∀r,leads h.v r->J.heap.size<=r) Ω
  ⟨_,0,[],bJ,bK,⟨bd.nil _ _ _ _ _,λx a2=>(by cases a2)⟩,rfl,λr U=>(fa U).elim,λx a2=>(by cases a2)⟩ ?_ ?_
 .rintro i a1 cY hi ⟨W,ah,aU,aK,bp,bL,a6,bq,ao⟩ cZ;obtain⟨z,Y⟩:=aF (l:=f.sizes) hi;have dY:=az.sizes.2.2 z (x5 Y);have dZ:aU.length=i:=by have:=congrArg S9 a6;simp only[u7,j0] at this;omega
  refine bB Ω ?_;rw[ba am.u ag.i Ψ (bH.ls.ext aK) Y];intro ea bM _ _;have c0:=bp.ext bM;rw[aM fj.p 2 c0 rfl];obtain⟨aN,rfl⟩:∃n:Nat,z=n:=⟨z.toNat,Ω⟩;refine iR (k:=.i64) aq.u al.i Ω Ω λbr c1 eb bP c2=>?_;refine⟨.inl bP,?_⟩;have cp:ap .i64 al c1 br (.slice (σ ⟨br,0,ν⟩) aN aN) (p8 aN 0):=ap.of (bT.full (k:=1) (n:=aN) c2 Ξ (by simp[maxLen];omega));let a:kV:=⟨.slice (σ ⟨br,0,ν⟩) aN aN,p8 aN 0⟩;refine hX (f:=nr) (a:=a) ec.u aq.i Ω rfl rfl λed ee bU ef bV c3=>?_;refine⟨.inl (bP.trans bV),?_⟩;have bt:=(bM.trans bP).trans bV;have bu:=bL.ext bt;refine iq (f:=nr) (a:=a) ec.u aq.i rfl bu.1 (by simpa using c3.sl) (λu hu=>by rw[n9.1 (show u∈[a.v] from hu)];rfl) Ω Ω λbW bX eg au bZ cq=>?_;have a7:∀ {r:Nat},leadsTo W r-> ∃c,ac bU r aq c:=λU=>by
   obtain⟨rfl,c,X⟩:=dV bu.1 U;exact⟨c,X⟩
  have b0:=bp.ext bt;have cr:=b0.aa cq λhe=>cL bu.1 b0 Φ he;rw[bQ,aT fj.p rfl];refine bz ec.i (eC au.sl).1 (eC au.sl).2 cr Ξ λc4 ct eh c5=>?_;rw[aL];have b1:ae (λr=>leadsTo W r\/r=af) bU c4:=(cq.mono λr _ h=>.inl h).trans (ct.mono λr _ h=>.inr h);have aB:∀r,(leadsTo W r\/r=af)-> ∃e c,ac bU r e c/\e≠al:=λr U=>by
   rcases U with U|rfl
   .obtain⟨c,X⟩:=a7 U;exact⟨_,c,X,Φ⟩
   .exact⟨_,_,b0,Φ⟩
  have cw:=aY.size;have z3:=aK.size;have ei:=bt.size;refine cZ _ ⟨bW,bX,aU++[a],(aK.trans bt).then b1 (λr U he=>?_),c5,⟨au.aa ct λr U he=>?_,λy ab=>?_⟩,?_,λr U=>?_,λy ab r U=>?_⟩
  .rcases he with he|rfl
   .have:=bq r he;omega
   .omega
  .have he:r=af:=he;subst he;exact cL au cr Φ U
  .rcases l7.1 ab with ab|ab
   .exact bu.qd b1 aB y ab
   .rw[n9.1 ab];have cz:=cp.ext bV;exact⟨br,bn cz b1 λr U I=>by
     obtain⟨e,c,X,c6⟩:=aB r I;exact b3 cz X (λhe=>c6 he.symm) U rfl⟩
  .rw[c8,a6,r8,Y,l9,c8];rfl
  .rcases bZ r U with h|h
   .exact bq r h
   .omega
  .rcases l7.1 ab with ab|ab
   .exact ao y ab r U
   .rw[n9.1 ab] at U;have c7:=(bR cp U).1;have:=bM.size;omega
 .rintro a1 cY ⟨W,ah,aU,aK,bp,bL,a6,bq,ao⟩;refine b6 Ω ?_;rw[o6] at a6;have c9:=bG.ext aK;have da:=cn.ext aK;rw[aM cu.p 3 c9 rfl,eY dy.u da.1];refine ce.range M.length (λi aO=>∃W ad ah gr aU L,Ext J aO/\ac aO af fj [Γ aZ,Δ (dx f i).zero,W,ad]/\ha aO ah W aU/\aU.map (·.l)=(dx f i).unary/\lG aO w.heap.size gr ad f.k f.sizes L/\L.map dN=(dx f i).funs/\(∀r,leadsTo W r\/leadsTo ad r->J.heap.size<=r)/\ ∀h∈aU,∀r,leads h.v r->J.heap.size<=r) Ω
   ⟨W,_,ah,0,aU,[],aK,bp,bL,a6,⟨bd.nil _ _ _ _ _,λx a2=>(by cases a2)⟩,rfl,λr U=>U.elim (bq r) λh=>(fa h).elim,ao⟩ ?_ ?_
  rotate_left
  .rintro aO dd ⟨W,ad,ah,gr,aU,L,ax,bw,b2,aP,b4,aQ,aE,ao⟩;refine b6 Ω ?_;have de:M.length=(fp f).length:=by rw[<-bl,u7]
   have a8:=oO f M.length;rw[de,sI] at bw aP aQ a8;have cw:=aY.size;refine⟨aY.trans ax,.inr ⟨af,rfl,L7 (gr:=gr) (nm:=bO f.name) (szv:=szv) (gz:=gz) (fv2:=cU) bw ?_ ?_ b2 aP ?_ aQ Ω cV cW (λr U=>by have:=aE r U;omega) λh aC r U=>by have:=ao h aC r U;omega⟩⟩
   .rw[a8.1];exact bG.ext ax
   .rw[a8.2.1];exact bH.ext ax
   .rw[a8.1,a8.2.1];exact b4
  rintro i aO dd hi ⟨W,ad,ah,gr,aU,L,ax,bw,b2,aP,b4,aQ,aE,ao⟩ dg;obtain⟨y,ab⟩:=aF (l:=M) hi;have dh:(fp f)[i]? =σ (dN y):=by rw[<-bl,x8,ab];rfl
  have bx:fs f.sizes f.k (dN y):=sk az _ (vV bl ab);have b5:=cn.ext ax;obtain⟨ej,ek,em,en⟩:=oO f i;refine bB Ω ?_;refine db (λbb=>∃W ad ah gr aU L,Ext J bb/\ac bb af fj [Γ aZ,Δ (dx f (i+1)).zero,W,ad]/\ha bb ah W aU/\aU.map (·.l)=(dx f (i+1)).unary/\lG bb w.heap.size gr ad f.k f.sizes L/\L.map dN=(dx f (i+1)).funs/\(∀r,leadsTo W r\/leadsTo ad r->J.heap.size<=r)/\ ∀h∈aU,∀r,leads h.v r->J.heap.size<=r) ?_ ?_
  .rintro bb h;rw[aL];exact dg _ h
  intro av b7;have di:=b5.2 y (x5 ab);obtain⟨⟨dj,b8⟩,m,o,D,dk,eo,dl⟩:=di;rw[dq rfl dy.u cv.i b5.1 hi,bI cv.p cv.i rfl (b5.1.range ab)];refine bN cv.i λan er es dm dn=>?_;refine cc (vs:=ep y) cv.i rfl rfl (sH b8) dn λdp dr et cA=>?_;have b9:Ext aO dp:=dm.put dr Ω;rw[aD cv.p 1 cA rfl];refine (BS (dk.ext b9) Ω).mono ?_;rintro _ eu _ ⟨cB,_,aX⟩;obtain⟨g,ds,dt,du,rfl,ev,dv,aX,dw⟩:=aX bx.small;have dA:dz (bS f.sizes y.sc):=aX.2.2.1.2;have dC:du=y.cs:=hZ.eq dA dw dl;subst dC;have aH:=b9.trans cB;have ca:=cA.ext cB;have cb:=b8.ext aH;rw[bf,bg,aD cv.p 0 ca rfl,aV am.u cb.ls];have cw:=aY.size;have z9:=ax.size;have ew:=aH.size;have cd:=bw.ext aH;have cg:=b2.ext aH;have ch:=b4.ext aH;have ci:=vW dh;rw[be,ai];refine⟨λey=>?_,λez=>?_⟩
  .
   have aR:y.sc=[]:=j9 Ω;have ak:dx f (i+1)={dx f i with zero:=y.cs.getD 0 0}:=by rw[ci];unfold iw;simp only[dN,aR]
   refine (md aX).mono ?_;rintro cC dD _ ⟨bA,eA,eB,dE⟩;have eD:y.cs.length=1:=by have:=bx.len;simpa[dN,aR,bS,aG] using this
   have dF:y.cs[0]? =σ (y.cs.getD 0 0):=by rw[u4,x6 Ω];rfl
   rw[fP (y:=0) (i:=0) rfl aq.u al.i Ψ dE.ls dF,bQ,aT fj.p rfl];have cD:=cd.ext bA;refine bz al.i rfl rfl cD Ξ λeE ck eF dG=>?_;have aB:∀r,r=af-> ∃e c,ac dD r e c/\e≠gR/\e≠cR/\e≠ag/\e≠al/\e≠aq:=λr U=>by
    subst U;exact⟨_,_,cD,Φ,Φ,Φ,Φ,Φ⟩
   refine b7 _ ⟨W,ad,ah,gr,aU,L,((ax.trans aH).trans bA).put ck Ω,?_,(cg.ext bA).aa ck (λr U=>?_),by rw[ak];exact aP,(ch.ext bA).aa ck (λr U=>?_),by rw[ak];exact aQ,aE,ao⟩
   .rw[ak];exact dG
   .obtain⟨e,c,X,_,_,_,h1,aS⟩:=aB r U;exact⟨e,c,X,h1,aS⟩
   .obtain⟨e,c,X,h1,aS,aW,bo,_⟩:=aB r U;exact⟨e,c,X,h1,aS,aW,bo⟩
  rw[be,ai];refine⟨λh1=>?_,λeH=>?_⟩
  .
   obtain⟨v,aR⟩:∃v,y.sc=[v]:=W6.1 Ω;have eI:=bx.scope.1 v (by show v∈y.sc;rw[aR];exact .head _);have eJ:=bx.vars v (by show v∈y.sc;rw[aR];exact .head _);have ak:dx f (i+1)={dx f i with unary:=(dx f i).unary.set v.toNat y.cs}:=by rw[ci];unfold iw;simp only[dN,aR]
   intro eK aI _ _;have cE:=cd.ext aI;have dH:=ca.ext aI;rw[aM fj.p 2 cE rfl,aD cv.p 0 dH rfl];refine rN (y:=0) (i:=0) rfl am.u ag.i (cb.ls.ext aI) (show y.sc[0]? =σ v by rw[aR];rfl) λb o dI=>?_;rw[aA Ψ dI];refine (md (aX.ext aI)).mono ?_;rintro cC dJ _ ⟨bc,dK,eL,bi⟩;refine⟨.inl bc,?_⟩;have bj:=(cg.ext aI).ext bc;have eM:aU.length=f.sizes.length:=by have:=congrArg S9 aP;rw[u7] at this;omega
   obtain⟨u,hu⟩:=aF (l:=aU) (i:=v.toNat) Ω;rw[dq (i:=v.toNat) Ω ec.u aq.i bj.1 Ω];let a:kV:=⟨cC,y.cs⟩;refine oG (f:=nr) (j:=0) (a:=u) (a':=a) aq.i bi.ls.cells.1 bi.ls.cells.2 bj.1 hu rfl Ω λeN bk eO dL=>?_;have cF:=cE.ext bc;have a7:∀ {r:Nat},leadsTo W r-> ∃c,ac dJ r aq c:=λU=>by
    obtain⟨rfl,c,X⟩:=dV bj.1 U;exact⟨c,X⟩
   refine b7 _ ⟨W,ad,ah,gr,aU.set v.toNat a,L,(((ax.trans aH).trans aI).trans bc).then bk (λr U he=>by have:=aE r (.inl he);omega),?_,⟨dL,λz Y=>?_⟩,?_,((ch.ext aI).ext bc).aa bk (λr U=>?_),by rw[ak];exact aQ,aE,λz Y r U=>?_⟩
   .rw[ak];exact cF.aa bk λhe=>cL bj.1 cF Φ he
   .rcases X6 Y with Y|rfl
    .exact bj.qd bk (λr U=>by obtain⟨c,X⟩:=a7 U;exact⟨_,c,X,Φ⟩) z Y
    .exact⟨dK,bn bi bk λr U I=>by
      obtain⟨c,X⟩:=a7 I;exact b3 bi X Φ U rfl⟩
   .rw[ak,U1,aP]
   .obtain⟨c,X⟩:=a7 U;exact⟨_,c,X,Φ,Φ,Φ,Φ⟩
   .rcases X6 Y with Y|rfl
    .exact ao z Y r U
    .have c7:=(bR bi U).1;have:=aI.size;omega
  .
   have ak:dx f (i+1)={dx f i with funs:=(dx f i).funs++[dN y]}:=by
    rw[ci];unfold iw;have cG:2<=(dN y).1.length:=by show 2<=y.sc.length;omega
    generalize dN y=g at cG ⊢;obtain⟨sc,cs⟩:=g
    match sc,cG with
    |_::_::_,_=>rfl
   intro eP aJ _ _;have cH:=cd.ext aJ;have dM:=ca.ext aJ;have cI:=cb.ext aJ;rw[aM fj.p 3 cH rfl,aD cv.p 0 dM rfl,dc (cs:=#[y.sv,Γ g]) (by obtain⟨_,_,_,e⟩:=df b8.ls;rw[e];kernel_rfl)];let a:cj:=⟨y.sv,g,y.sc,y.cs⟩;refine hX (f:=ep) (a:=a) kB.u gR.i Ω rfl rfl λeQ eR bC eS ay dO=>?_;refine⟨.inl ay,?_⟩;have bD:=(ch.ext aJ).ext ay;have dP:=(cg.ext aJ).ext ay;have cl:=cH.ext ay;have eU:L.length<=256:=by have:=congrArg S9 aQ;rw[u7] at this;omega
   refine iq (f:=ep) (a:=a) kB.u gR.i rfl bD.1 (by simpa using dO.sl) (sH (cI.ext ay)) Ω Ω λbW bX eV au bZ cJ=>?_;have cK:=cl.aa cJ λhe=>cL bD.1 cl Φ he;rw[bQ,aT fj.p rfl];refine bz kB.i (eC au.sl).1 (eC au.sl).2 cK Ξ λdQ cM eW dR=>?_;have bF:ae (λr=>leadsTo ad r\/r=af) bC dQ:=(cJ.mono λr _ h=>.inl h).trans (cM.mono λr _ h=>.inr h);have aB:∀r,(leadsTo ad r\/r=af)-> ∃e c,ac bC r e c/\e≠cR/\e≠ag/\e≠al/\e≠aq:=λr U=>by
    rcases U with U|rfl
    .obtain⟨rfl,c,X⟩:=dV bD.1 U;exact⟨_,c,X,Φ,Φ,Φ,Φ⟩
    .exact⟨_,_,cl,Φ,Φ,Φ,Φ⟩
   have eZ:=(aJ.trans ay).size;refine b7 _ ⟨W,bW,ah,bX,aU,L++[a],(((ax.trans aH).trans aJ).trans ay).then bF (λr U he=>?_),?_,dP.aa bF (λr U=>?_),by rw[ak];exact aP,⟨au.aa cM λr U he=>?_,λz Y=>?_⟩,?_,λr U=>?_,ao⟩
   .rcases he with he|rfl
    .have:=aE r (.inr he);omega
    .omega
   .rw[ak];exact dR
   .obtain⟨e,c,X,_,_,aW,bo⟩:=aB r U;exact⟨e,c,X,aW,bo⟩
   .have he:r=af:=he;subst he;exact cL au cK Φ U
   .have cN:∀r,(leadsTo ad r\/r=af)-> ∃e c,ac bC r e c/\e≠cR/\e≠ag/\e≠al:=λr U=>by
     obtain⟨e,c,X,h1,aS,aW,_⟩:=aB r U;exact⟨e,c,X,h1,aS,aW⟩
    rcases l7.1 Y with Y|Y
    .exact (bD.2 z Y).aa bF cN
    .rw[n9.1 Y];have e0:=b9.size;refine qe.aa (w:=bC) ⟨⟨dj,cI.ext ay⟩,⟨ds,dt,?_,Ω,λr U=>by have:=dv.2 r U;omega⟩,by show w.heap.size<=g;omega,cX y (x5 ab)⟩ bF cN;exact (aX.ext aJ).ext ay
   .rw[ak,c8,aQ];rfl
   .rcases U with U|U
    .exact aE r (.inl U)
    .rcases bZ r U with h|h
     .exact aE r (.inr h)
     .omega
theorem vX {z:Array x1} (I:z.size=k):(Z0.zeroCells z n).toList=dI z (n*k):=by
 unfold Z0.zeroCells dI;rw[I]
theorem Mc {P:W0} {J X:r9} {Y kn:o4} {b g m:Nat} {xs:List x1} {K:x1->x3->Prop} (az:y=(m:Int)) (al:P.underlying t=σ (.slice e)) (am:P.underlying J=σ (.int kn)) (hi:aO P e k b z) (ab:z.cells.size=k)
  (aS:0<k) (h1:∀u∈dI z.cells (m*k),u.oneCell'=true) (h:bT w g e k v n xs) (aA:0<m) (aB:(n+m)*b<=140737488355328) (aC:n+m<=9223372036854775807)
  (an:∀ad aD w',bT w' aD e k ad (n+m) (xs++dI z.cells (m*k))->(∀r,leadsTo ad r->leadsTo v r\/w.heap.size<=r)->ae (λr=>leadsTo v r) w w'->K ad w'):ax P (b8 #[t,J] X #[v,.int Y y]) w K:=by
 subst az;obtain⟨i,hi,af,rfl,ao⟩:=hi;obtain⟨ap,hm⟩:=h;have aE:=oa z.cells (m*k);have aF:m*i.bytes<=281474976710656:=by
  have:m*i.bytes<=(n+m)*i.bytes:=X5 _ Ω;omega
 have grow:∀ (base:Option Addr) (cap:Nat),v= .slice base n cap->(Z0.firstCells i.size n (.slice base n cap)).run P w.drew= .ok xs.toArray w.drew->cap<n+m->ax P (b8 #[t,J] X #[v,.int Y (m:Int)]) w K:=λbase cap aG aH I=>by
  subst aG;have ag:=Lib.run_append_grow_zeros (P:=P) w t J X e i z Y kn al am hi ao base n cap xs aH m aA Ω I Ω aF (growslice_fits I aB);have aq:n+m<=grownCap w (n+m) cap e:=grownCap_ge w _ _ _;have aI:grownCap w (n+m) cap e<=maxLen:=grownCap_le_maxLen w (n+m) cap e (by simpa[maxLen] using aC);have aT:=oa z.cells ((grownCap w (n+m) cap e-(n+m))*k);have aU:(n+m)*k<=grownCap w (n+m) cap e*k:=X5 _ aq;have aJ:(n+m)*k=n*k+m*k:=V8 _ _ _;have aV:(grownCap w (n+m) cap e-(n+m))*k=grownCap w (n+m) cap e*k-(n+m)*k:=Nat.sub_mul _ _ _;refine .of ag ((pa w _ (Nat.le_succ _)).trans (pc _ _)) (an _ w.heap.size _ ⟨by rw[o5];omega,.inr ⟨_,xs++dI z.cells (m*k)++dI z.cells ((grownCap w (n+m) cap e-(n+m))*k),rfl,?_,aq,aI,?_,?_⟩⟩ (λr ah=>?_) (((qQ w _).trans (pb _ _)).aa _))
  .have:=heap_alloc_new w.drew (.cells (xs.toArray++Z0.zeroCells z.cells m++Z0.zeroCells z.cells (grownCap w (n+m) cap e-(n+m))) e);unfold ac;rw[show w.drew.heap.size=w.heap.size from rfl] at this;rw[this];congr 2;apply Array.toList_inj.1;rw[Array.toList_append,Array.toList_append,vX ab,vX ab]
  .rw[o5,o5];omega
  .rw[List.take_append_of_le_length (by rw[o5];omega),j6 (by rw[o5];omega)]
  .obtain⟨a,aK,c,U,V⟩:=ah;cases U;exact .inr (by simp at V;omega)
 rcases hm with⟨rfl,aL⟩|⟨cap,cs,rfl,W,U,V,ai,au⟩
 .subst aL;have:xs=[]:=j9 (by simpa using ap);subst this;exact grow ν 0 rfl (run_firstCells_none w.drew i.size 0 0 0) Ω
 .by_cases I:n+m<=cap
  .have av:(n+m)*k<=cs.length:=by rw[ai];exact X5 _ I
   have aJ:(n+m)*k=n*k+m*k:=V8 _ _ _;have aj:=run_storeCells_cells (P:=P) g (0+n*k) (dI z.cells (m*k)) 0 w (λj aw=>by
    rw[aE] at aw;rw[Nat.add_zero,X1,W.cell (x6 (show n*k+j<cs.length by omega))];rfl) (λj _=>W.frozen _ _) h1
   simp only[Nat.add_zero] at aj;have hw:Y9.wrap (m:Int)=m:=by rw[o4.wrap_i64];omega
   have aM:¬((m:Int)<0):=Ω
   have aN:¬(281474976710656<(m:Int)*(i.bytes:Int)):=by rw[<-Int.natCast_mul];omega
   have ak:¬(m*i.size=0):=Nat.mul_ne_zero Ω Ω;have aP:(Z0.zeroCells z.cells m).toList=dI z.cells (m*k):=vX ab;have ag:(b8 #[t,J] X #[.slice (σ ⟨g,0,ν⟩) n cap,.int Y (m:Int)]).run P w= .ok (.slice (σ ⟨g,0,ν⟩) (n+m) cap) (w.setCells g (0+n*k) (dI z.cells (m*k))):=by
    simp[b8,run_underlying al,run_underlying am,sizeOf,typeInfo,zeroValue,hi,ao,asInt,asIntOf,hw,I,aM,ak,aN,aP,Addr.add_lit,af];simp only[X1] at aj;rw[aj];simp;intro aQ;exact absurd aQ (by rw[af] at ak;exact ak)
   obtain⟨aR,ay⟩:=mX (dI z.cells (m*k)) cs (0+n*k) w W;refine .of ag (ay.ck W) (an _ g _ ⟨by rw[o5];omega,.inr ⟨cap,_,rfl,aR,I,V,by rw[l0,ai],?_⟩⟩ (λr ah=>.inl ?_) (ay.aa.mono λr _ he=>⟨_,_,_,rfl,he.symm⟩))
   .rw[r7 Ω av,l1 (by rw[j0];omega),X1,List.take_take,List.drop_eq_nil_of_le (by rw[j0];omega),U5,Nat.min_eq_left Ω,au]
   .obtain⟨a,aK,c,U,V⟩:=ah;cases U;exact⟨_,_,_,rfl,V⟩
  .refine grow _ cap rfl ?_ Ω;have av:n*k<=cs.length:=by rw[ai];exact X5 _ U
   refine run_firstCells_some w.drew i.size n _ n cap xs (by rw[af];exact ap) λj u hu=>?_;rw[T2,X1];have aw:=(x4.1 hu).1;rw[<-au,Y3 Ω] at hu;exact W.cell hu
def h0 (c:Cell):List x1:=[Δ c.v,.int .u64 (c.st:Int)]
def nu (o:kK):List x1:=[Δ (o.i:Int),Δ o.c.v,.int .u64 (o.c.st:Int)]
def nv (m:rK):List x1:=[Δ (m.olds:Int),Δ (m.cells:Int),.int .u64 (m.st:Int)]
def dh (w:x3) (ad:Nat) (A:ah) (t:ay):Prop:=A ad/\ ∃J go c3 aW I dB,ac w ad fk [aW,I,dB,.int .u64 (t.il:Int)]/\bd h0 2 ey w J aW t.cells/\bd nu 3 kC w go I t.olds/\bd nv 3 fN w c3 dB t.marks/\
 ∀r,leadsTo aW r\/leadsTo I r\/leadsTo dB r->A r
theorem dh.aa {S A:ah} {t:ay} (h:dh w ad A t) (J:ae S w w') (U:∀r,A r->¬S r):dh w' ad A t:=by
 obtain⟨W,X,go,c3,aW,Y,dB,h1,ab,ac,af,V⟩:=h;exact⟨W,X,go,c3,aW,Y,dB,h1.aa J (U _ W),ab.aa J λr I=>U r (V r (.inl I)),ac.aa J λr I=>U r (V r (.inr (.inl I))),af.aa J λr I=>U r (V r (.inr (.inr I))),V⟩
theorem dh.ext {A:ah} {t:ay} (h:dh w ad A t) (I:Ext w w'):dh w' ad A t:=h.aa (I.aa λ_=>False) λ_ _ h=>h
theorem dh.mono {A B:ah} {t:ay} (h:dh w ad A t) (I:∀r,A r->B r):dh w ad B t:=by
 obtain⟨J,U,go,c3,aW,V,dB,h1,W,X,Y,aa⟩:=h;exact⟨I _ J,U,go,c3,aW,V,dB,h1,W,X,Y,λr ab=>I r (aa r ab)⟩
def Grow (A:ah) (w:x3) (aN:ah) (w':x3):Prop:=ae A w w'/\(∀r,aN r->A r\/w.heap.size<=r)/\ ∀r,A r->aN r
theorem Grow.refl (A:ah) (w:x3):Grow A w A w:=⟨ae.refl _ _,λ_ h=>.inl h,λ_ h=>h⟩
theorem Grow.ext {A:ah} (h:Ext w w'):Grow A w A w':=⟨h.aa _,λ_ h=>.inl h,λ_ h=>h⟩
theorem Grow.trans {A aN U:ah} {V:x3} (h:Grow A w aN w') (k:Grow aN w' U V):Grow A w U V:=
 ⟨⟨Y7 h.1.size k.1.size,λr o J I W=>k.1.aX r o (h.1.aX r o J I W) I λX=>(h.2.1 r X).elim W λY=>by
  have:=(o9.1 J).1;omega⟩,λr J=>by
  rcases k.2.1 r J with h1|h1
  .exact h.2.1 r h1
  .have:=h.1.size;exact .inr Ω,λr J=>k.2.2 r (h.2.2 r J)⟩
theorem Cq {A:ah} {t:ay} (h:dh w ad A t):aj x7 GY [Γ ad] w λv w'=>v=Δ (t.cells.length:Int)/\Ext w w':=by
 obtain⟨J,U,go,c3,aW,V,dB,h1,I,W,X,Y⟩:=h;refine aw func182 ?_;rw[cV ps.u];simp only[Z3,aS];rw[aM fk.p 0 h1 rfl,eY hK.u I];exact⟨rfl,Ext.refl _⟩
theorem Cr {A:ah} {t:ay} {i:Int} (h:dh w ad A t):aj x7 Gn [Γ ad,Δ i] w λv w'=>v= .bool (decide (0<=i/\i<t.cells.length))/\Ext w w':=by
 refine aw func133 ?_;refine aR (λv J=>v= .bool (decide (0<=i/\i<t.cells.length))/\Ext w J) (λ_ _ h=>h) ?_;intro av I;rw[cK,ai];refine⟨λU=>?_,λU=>I _ _ ⟨by rw[decide_eq_false];omega,Ext.refl _⟩⟩;refine (Cq h).mono ?_;rintro _ J _ ⟨rfl,V⟩;rw[aP];refine I _ _ ⟨?_,V⟩;congr 1;rw[V5,decide_eq_true_eq,decide_eq_true_eq];exact⟨λh=>⟨Ω,h⟩,λh=>h.2⟩
theorem Md {A:ah} {t:ay} {i:Nat} {c:Cell} (h:dh w ad A t) (W:y=(i:Int)) (I:t.cells[i]? =σ c):aj x7 yH [Γ ad,Δ y] w λv w'=>v=Δ c.v/\Ext w w':=by
 have X:=(x4.1 I).1;refine aw func69 ?_;refine (Cr h).mono ?_;rintro _ J _ ⟨rfl,U⟩;rw[decide_eq_true Ω,bu,Z8,aS];obtain⟨Y,aa,go,c3,aW,ab,dB,h1,V,ac,ae,af⟩:=h.ext U;rw[aM fk.p 0 h1 rfl,dq W hK.u ey.i V X,aT ey.p rfl,aA Ψ (V.range I 0 _ rfl)];exact⟨rfl,U⟩
theorem nw {A:ah} {t:ay} {i:Nat} {x:Int} (h:dh w ad A t) (J:y=(i:Int)) (I:t.bL[i]? =σ x):aj x7 yH [Γ ad,Δ y] w λv w'=>v=Δ x/\Ext w w':=by
 unfold ay.bL at I;rw[x8] at I;obtain⟨c,U,rfl⟩:=Y2.1 I;exact Md h J U
def mh (t:ay):Prop:=t.cells.length<=100000000/\t.olds.length<=100000000/\t.marks.length<=100000000
theorem sJ {Y go c3:Nat} {aW I dB:x1} {t:ay} {x:x1} (h1:ac w ad fk [aW,I,dB,x]) (U:bd h0 2 ey w Y aW t.cells) (V:bd nu 3 kC w go I t.olds) (W:bd nv 3 fN w c3 dB t.marks):
  (¬leadsTo aW ad/\¬leadsTo I ad/\¬leadsTo dB ad)/\(∀r,leadsTo aW r->¬leadsTo I r/\¬leadsTo dB r)/\ ∀r,leadsTo I r->¬leadsTo aW r/\¬leadsTo dB r:=by
 refine⟨⟨cL U h1 Φ,cL V h1 Φ,cL W h1 Φ⟩,λr X=>?_,λr X=>?_⟩
 .obtain⟨rfl,c,J⟩:=dV U X;exact⟨cL V J Φ,cL W J Φ⟩
 .obtain⟨rfl,c,J⟩:=dV V X;exact⟨cL U J Φ,cL W J Φ⟩
theorem sK {A:ah} {t:ay} {i:Nat} {x:Int} (h:dh w ad A t) (bO:y=(i:Int)) (aB:i<t.cells.length) (a1:mh t):aj x7 yN [Γ ad,Δ y,Δ x] w λv w'=>v=Δ 0/\ ∃aN,Grow A w aN w'/\dh w' ad aN (t.set i x):=by
 subst bO;obtain⟨c,ag⟩:=aF (l:=t.cells) aB;refine aw func97 ?_;rw[cV ps.u];simp only[Z3,aS];refine (Cr h).mono ?_;rintro _ J _ ⟨rfl,ap⟩;rw[decide_eq_true Ω,bu,Z8,aS];obtain⟨bm,aq,go,c3,aW,aC,dB,h1,bn,a2,aL,aO⟩:=id (h.ext ap);have bP:∀ {V:x3} {aN:ah} {bp:ay} {st:Nat} {K:x3->Prop},dh V ad aN bp->bp.cells[i]? =σ ⟨c.v,st⟩->
   (∀W,ae aN V W->dh W ad aN {bp with cells:=bp.cells.set i ⟨x,st⟩}->K W)->
   (U x7 (bF (Γ ad)) V λt77=>
   U x7 (u6 fk t77 0) V λbR=>
   U x7 (u5 hK bR) V λbS=>
   U x7 (j5 hK bS (Δ (i:Int))) V λbT=>
   U x7 (u6 ey bT 0) V λbU=>
   ax x7 (o7 al bU (Δ x)) V λ(_:Unit) W=>
   K W):=by
  intro V aN bp st K a6 aQ bV;obtain⟨a7,aq,go,c3,aW,aC,dB,ak,am,aE,aG,aH⟩:=a6;have bW:=(x4.1 aQ).1;rw[aM fk.p 0 ak rfl,dq rfl hK.u ey.i am bW,aT ey.p rfl];obtain⟨⟨aI,a8,ba⟩,ao,_⟩:=sJ ak am aE aG;refine oG (f:=h0) (j:=0) (a:=⟨c.v,st⟩) (a':=⟨x,st⟩) al.i rfl rfl am aQ rfl Ω λW ab bX bY=>?_;exact bV W (ab.mono λr _ I=>aH r (.inl I)) ⟨a7,aq,go,c3,aW,aC,dB,ak.aa ab aI,bY,aE.aa ab λr I he=>(ao r he).1 I,aG.aa ab λr I he=>(ao r he).2 I,aH⟩
 refine db (λV=>∃aN bp st,Grow A J aN V/\dh V ad aN bp/\bp.cells[i]? =σ ⟨c.v,st⟩/\t.set i x={bp with cells:=bp.cells.set i ⟨x,st⟩}) ?_ ?_
 .rintro V ⟨aN,bp,st,bZ,a6,aQ,bb⟩;refine bP a6 aQ λW ab a2=>⟨by trivial,aN,?_,by rw[bb];exact a2⟩;exact (Grow.ext ap).trans (bZ.trans ⟨ab,λ_ h=>.inl h,λ_ h=>h⟩)
 intro av bc;rw[aM fk.p 2 h1 rfl,eY rv.u aL,bM,ai];have bo:∀ (hm:t.marks.getLast? =ν\/ ∃m,t.marks.getLast? =σ m/\¬(c.st<m.st/\i<m.cells)),t.set i x={t with cells:=t.cells.set i ⟨x,c.st⟩}:=λhm=>by
  unfold ay.set;rw[ag];rcases hm with hm|⟨m,hm,b0⟩
  .simp only[hm]
  .simp only[hm];rw[if_neg b0]
 refine⟨λck=>?_,λcl=>bc _ ⟨A,t,c.st,Grow.refl _ _,h.ext ap,ag,bo (.inl ?_)⟩⟩
 rotate_left
 .rw[List.getLast?_eq_none_iff];exact j9 Ω
 obtain⟨m,hm⟩:=aF (l:=t.marks) (i:=t.marks.length-1) Ω;have bq:t.marks.getLast? =σ m:=by rw[List.getLast?_eq_getElem?];exact hm
 have cm:=a1.2.2;rw[aM fk.p 2 h1 rfl,dP,wrap_i64 Ω Ω,dq (i:=t.marks.length-1) Ω rv.u fN.i aL Ω,bI fN.p fN.i rfl (aL.range hm)];refine bN fN.i λan V cn br b1=>?_;refine cc (vs:=nv m) fN.i rfl rfl (by intro v aJ;simp[nv] at aJ;rcases aJ with rfl|rfl|rfl<;>rfl) b1 λW ab bX b2=>?_;have bt:Ext J W:=br.put ab Ω;have aU:∀ {w':x3},Ext W w'->ac w' an fN (nv m):=λap=>b2.ext ap;refine aR (λv be=>v= .bool (decide (c.st<m.st/\i<m.cells))/\Ext W be) ?_ ?_
 rotate_left
 .intro cp bw;intro be X _ _;have au:=bt.trans X;have bx:=aU X;have az:=bn.ext au;rw[aM fk.p 0 (h1.ext au) rfl,dq rfl hK.u ey.i az aB,aT ey.p rfl,aA Ψ (az.range ag 1 _ rfl),aD fN.p 2 bx rfl,aP,ai];refine⟨λbA=>?_,λbB=>bw _ _ ⟨by rw[decide_eq_false];omega,X⟩⟩;rw[aD fN.p 1 bx rfl,aP];refine bw _ _ ⟨?_,X⟩;congr 1;rw[V5,decide_eq_true_eq,decide_eq_true_eq];exact⟨λh=>⟨Ω,Ω⟩,λh=>Ω⟩
 rintro _ be ⟨rfl,X⟩;have au:=bt.trans X;rw[ai];refine⟨λbA=>?_,λbB=>bc _ ⟨A,t,c.st,Grow.ext au,(h.ext ap).ext au,ag,bo (.inr ⟨m,bq,bB⟩)⟩⟩;intro cq aV _ _;have aK:=au.trans aV;have bf:=h1.ext aK;have az:=bn.ext aK;have b3:=a2.ext aK;have b4:=aL.ext aK;rw[bQ,aT fk.p rfl,aA Ψ (bf.cell (o:=0+1) rfl),bQ,aT fk.p rfl,aA Ψ (bf.cell (o:=0+0) rfl),dq rfl hK.u ey.i az aB,bI ey.p ey.i rfl (az.range ag)];rw[dc (cs:=#[Δ (i:Int),Δ c.v,.int .u64 (c.st:Int)]) Ψ];let a:kK:=⟨i,c⟩;have b5:∀u∈nu a,u.oneCell'=true:=by intro v aJ;simp[nu] at aJ;rcases aJ with rfl|rfl|rfl<;>rfl
 refine hX (f:=nu) (a:=a) mT.u kC.i Ω rfl rfl λcr ct bC cu Y b6=>?_;refine⟨.inl Y,?_⟩;have bD:=aK.trans Y;have bg:=bf.ext Y;have bE:=az.ext Y;have bh:=b3.ext Y;have bG:=b4.ext Y;obtain⟨⟨aI,a8,ba⟩,ao,b7⟩:=sJ bg bE bh bG;refine iq (f:=nu) (a:=a) mT.u kC.i rfl bh (by simpa using b6.sl) b5 (by have:=a1.2.1;omega) (by have:=a1.2.1;omega) λbi bH cw aX b8 bJ=>?_;rw[bQ,aT fk.p rfl];have bK:=bg.aa bJ a8;refine bz mT.i (eC aX.sl).1 (eC aX.sl).2 bK Ξ λaf bL cz bj=>?_;have bj:ac af ad fk [aW,bi,dB,.int .u64 (t.il:Int)]:=bj;have aY:ae (λr=>leadsTo aC r\/r=ad) bC af:=(bJ.mono λr _ h=>.inl h).trans (bL.mono λr _ h=>.inr h);have b9:bd h0 2 ey af aq aW t.cells:=bE.aa aY λr I he=>he.elim (λhe=>(ao r I).1 he) λhe=>aI (he▸I);have ca:bd nv 3 fN af c3 dB t.marks:=bG.aa aY λr I he=>he.elim (λhe=>(b7 r he).2 I) λhe=>ba (he▸I);have cb:bd nu 3 kC af bH bi (t.olds++[a]):=aX.aa bL λr I he=>by
  have he:r=ad:=he;subst he;exact cL aX bK Φ I
 have cA:=bD.size;have cB:=br.size;let bk:ah:=λr=>A r\/bC.heap.size<=r;have cd:Grow A J bk af:=⟨(bD.aa A).trans (aY.mono λr _ he=>he.elim (λhe=>aO r (.inr (.inl he))) λhe=>he▸bm),λr I=>I.imp id λI=>Ω,λr I=>.inl I⟩;have ce:dh af ad bk {t with olds:=t.olds++[a]}:=⟨.inl bm,aq,bH,c3,aW,bi,dB,bj,b9,cb,ca,λr I=>by
  rcases I with I|I|I
  .exact .inl (aO r (.inl I))
  .rcases b8 r I with h|h
   .exact .inl (aO r (.inr (.inl h)))
   .exact .inr h
  .exact .inl (aO r (.inr (.inr I)))⟩
 have cg:ac af an fN (nv m):=(aU ((X.trans aV).trans Y)).aa aY λhe=>by
  rcases he with he|he
  .obtain⟨rfl,cC,ch⟩:=dV bh he;exact absurd (eZ ch (aU ((X.trans aV).trans Y))) Φ
  .subst he;exact absurd (eZ bg (aU ((X.trans aV).trans Y))) Φ
 intro cD bl _ _;have ci:=ce.ext bl;obtain⟨a7,aq,go,c3,aW,aC,dB,ak,am,aE,aG,aH⟩:=ci;rw[aM fk.p 0 ak rfl,aD fN.p 2 (cg.ext bl) rfl,dq rfl hK.u ey.i am aB,aT ey.p rfl];obtain⟨⟨aI,a8,ba⟩,ao,_⟩:=sJ ak am aE aG;refine oG (f:=h0) (j:=1) (a:=c) (a':=⟨c.v,m.st⟩) fi.i rfl rfl am ag rfl Ω λcE aZ cF cj=>?_;have bb:t.set i x={t with olds:=t.olds++[a],cells:=t.cells.set i ⟨x,m.st⟩}:=by
  unfold ay.set;rw[ag];simp only[bq];rw[if_pos bA]
 refine bc _ ⟨bk,{t with olds:=t.olds++[a],cells:=t.cells.set i ⟨c.v,m.st⟩},m.st,cd.trans ((Grow.ext bl).trans ⟨aZ.mono λr _ I=>aH r (.inl I),λ_ h=>.inl h,λ_ h=>h⟩),⟨a7,aq,go,c3,aW,aC,dB,ak.aa aZ aI,cj,aE.aa aZ λr I he=>(ao r he).1 I,aG.aa aZ λr I he=>(ao r he).2 I,aH⟩,?_,?_⟩
 .show (t.cells.set i _)[i]? =_;rw[c7 aB]
 .rw[bb];simp only[List.set_set]
theorem Cs (n:Nat):dI (#[Δ 0,.int .u64 0]:Array x1) (n*2)=(p8 n (⟨0,0⟩:Cell)).flatMap h0:=by
 have:∀n,dI (#[Δ 0,.int .u64 0]:Array x1) (n*2)=(p8 n (⟨0,0⟩:Cell)).flatMap h0:=by
  intro n;apply Y8;intro j;have V:((p8 n (⟨0,0⟩:Cell)).flatMap h0).length=n*2:=by simp[h0]
  by_cases J:j<n*2
  .have U:(dI (#[Δ 0,.int .u64 0]:Array x1) (n*2))[j]? =σ (if j % 2=0 then Δ 0 else .int .u64 0):=by
    unfold dI;rw[T8,Array.getElem?_map,Array.getElem?_range,if_pos J];rcases Nat.mod_two_eq_zero_or_one j with h|h<;>simp[h]
   have I:=oF (f:=h0) (k:=2) (L:=p8 n (⟨0,0⟩:Cell)) (i:=j / 2) (j:=j % 2) (a:=⟨0,0⟩) (v:=if j % 2=0 then Δ 0 else .int .u64 0) (λa _=>rfl) (by rw[List.getElem?_replicate,if_pos Ω]) (by rcases Nat.mod_two_eq_zero_or_one j with h|h<;>simp[h,h0]);rw[show j / 2*2+j % 2=j by omega] at I;rw[U,I]
  .rw[Z5 (by rw[oa];omega),Z5 Ω]
 exact this n
theorem Me {A:ah} {t:ay} (h:dh w ad A t) (aE:mh t) (aK:n<=100000000):aj x7 GP [Γ ad,Δ (n:Int)] w λv w'=>v=Δ (t.cells.length:Int)/\ ∃aN,Grow A w aN w'/\dh w' ad aN (t.grow n):=by
 refine aw func170 ?_;refine (Cq h).mono ?_;rintro _ J _ ⟨rfl,U⟩;refine db (λV=>∃aN,Grow A w aN V/\dh V ad aN (t.grow n)) (λV h=>⟨rfl,h⟩) ?_;intro av ak;refine aR (λv V=>v= .bool (decide (0<n))/\J=V) ?_ ?_
 rotate_left
 .intro aL aF;rw[zc ps.u];simp only[Z3,X3,bA];rw[bM];refine aF _ _ ⟨?_,rfl⟩;congr 1;rw[V5,decide_eq_true_eq,decide_eq_true_eq];omega
 rintro _ _ ⟨rfl,rfl⟩;rw[ai];refine⟨λal=>?_,λal=>ak _ ⟨A,Grow.ext U,?_⟩⟩
 rotate_left
 .have:n=0:=Ω
  subst this;have e:t.grow 0=t:=by unfold ay.grow;simp
  rw[e];exact h.ext U
 obtain⟨am,aO,go,c3,aW,an,dB,h1,ao,ap,aq,W⟩:=id (h.ext U);rw[aM fk.p 0 h1 rfl];obtain⟨⟨aG,aH,aI⟩,au,aP⟩:=sJ h1 ao ap aq;have aQ:=aE.1;refine Mc (k:=2) (m:=n) rfl hK.u ag.u ey.i rfl Ω (λu hu=>?_) ao.1 al Ω Ω λY ax V az aJ aA=>?_
 .exact Ca Φ Φ u hu
 rw[bQ,aT fk.p rfl];have X:bd h0 2 ey V ax Y (t.cells++p8 n ⟨0,0⟩):=by
  refine⟨?_,λ_ _=>rfl⟩;have e:(x1.agg #[Δ 0,.int .u64 0]).cells= #[Δ 0,.int .u64 0]:=rfl;rw[e,Cs] at az;rw[o5,List.length_replicate,List.flatMap_append];exact az
 have aB:=h1.aa aA aG;refine bz hK.i (eC X.sl).1 (eC X.sl).2 aB Ξ λaC aD aS ab=>?_;have ab:ac aC ad fk [Y,an,dB,.int .u64 (t.il:Int)]:=ab;have af:ae (λr=>leadsTo aW r\/r=ad) J aC:=(aA.mono λr _ h=>.inl h).trans (aD.mono λr _ h=>.inr h);have z:=U.size;refine ak _ ⟨λr=>A r\/J.heap.size<=r,(Grow.ext U).trans ⟨af.mono λr _ he=>he.elim (λhe=>W r (.inl he)) λhe=>he▸am,λr I=>I,λr I=>.inl I⟩,.inl am,ax,go,c3,Y,an,dB,ab,X.aa aD λr I he=>?_,ap.aa af λr I he=>he.elim (λhe=>(au r he).1 I) λhe=>aH (he▸I),aq.aa af λr I he=>he.elim (λhe=>(au r he).2 I) λhe=>aI (he▸I),λr I=>?_⟩
 .have he:r=ad:=he;subst he;exact cL X aB Φ I
 .rcases I with I|I|I
  .exact (aJ r I).imp (λh=>W r (.inl h)) id
  .exact .inl (W r (.inr (.inl I)))
  .exact .inl (W r (.inr (.inr I)))
theorem Mf (ab:n<=1000):aj x7 FQ [Δ (n:Int)] w λv w'=>Ext w w'/\ ∃ad,v=Γ ad/\dh w' ad (dZ w.heap.size) ⟨p8 n ⟨0,0⟩,[],[],0⟩:=by
 refine aw func96 ?_;rw[uF,Int.max_eq_left Ω];refine zj (k:=2) hK.u ey.i Ω Ω λg J ae W U=>?_;rw[dc (cs:=#[.slice (σ ⟨g,0,ν⟩) n n,.slice ν 0 0,.slice ν 0 0,.int .u64 0]) Ψ];refine bm λad V af X aa=>?_;have ag:=W.size;have e:(x1.agg #[Δ 0,.int .u64 0]).cells= #[Δ 0,.int .u64 0]:=rfl;have U:ac J g ey ((p8 n (⟨0,0⟩:Cell)).flatMap h0):=by rw[<-Cs,<-e];exact U
 have Y:bd h0 2 ey J g (.slice (σ ⟨g,0,ν⟩) n n) (p8 n ⟨0,0⟩):=by
  refine⟨?_,λ_ _=>rfl⟩;rw[List.length_replicate];exact bT.full U (by simp[h0]) (by simp[maxLen];omega)
 refine⟨W.trans X,ad,rfl,by show w.heap.size<=ad;omega,g,0,0,_,_,_,aa,Y.ext X,bd.nil _ _ _ _ _,bd.nil _ _ _ _ _,λr I=>?_⟩;rcases I with I|I|I
 .have:=(Y.leads I).1;show w.heap.size<=r;omega
 .exact (fa I).elim
 .exact (fa I).elim
theorem mZ {α β:Type} {f:α->List β}:∀ {L:List α} {i j:Nat} {a:α},L[i]? =σ a->j<(f a).length->(L.flatMap f)[((L.take i).flatMap f).length+j]? =(f a)[j]?
 |x::L,0,j,a,h,I=>by
  cases h;rw[List.take_zero,List.flatMap_nil,List.length_nil,X1,W9,Y0 I]
 |x::L,i+1,j,a,h,I=>by
  have h:L[i]? =σ a:=by simpa using h
  rw[List.take_succ_cons,W9,W9,o5,S2,Y1 Ω,S5,mZ h I]
theorem vY {α β:Type} {f:α->List β}:∀ {L:List α} {i j:Nat} {a b:α} {x:β},L[i]? =σ a->j<(f a).length->f b=(f a).set j x->(L.flatMap f).set (((L.take i).flatMap f).length+j) x=(L.set i b).flatMap f
 |y::L,0,j,a,b,x,h,I,J=>by
  cases h;rw[List.take_zero,List.flatMap_nil,List.length_nil,X1,W9,List.set_cons_zero,W9,J,List.set_append_left _ _ I]
 |y::L,i+1,j,a,b,x,h,I,J=>by
  have h:L[i]? =σ a:=by simpa using h
  rw[List.take_succ_cons,W9,W9,o5,S2,U9 _ _ Ω,S5,vY h I J,List.set_cons_succ,W9]
theorem Ct {α β:Type} {f:α->List β} {L:List α} {i:Nat} {a:α} (h:L[i]? =σ a) (I:j<(f a).length):((L.take i).flatMap f).length+j<(L.flatMap f).length:=by
 have h1:=mZ (f:=f) h I;rw[x6 I] at h1;exact (x4.1 h1).1
structure bP where
 gone:Int
 mask:Int
 un:Λ
structure cJ where
 sc:Λ
 af:Λ
 live:Int
 cs:Λ
structure vZ where
 v:Int
 sc:Λ
 sG:Λ
structure au where
 zero:Int
 vars:List bP
 funs:List cJ
 gG:List vZ
def hb (x:bP):Λ:=x.gone::x.mask::x.un
def hB (x:cJ):Λ:=x.live::x.cs
def ix (s:au):Λ:=[s.zero,(s.funs.length:Int),(s.gG.length:Int)]
def au.cells (s:au):Λ:=ix s++(s.vars.flatMap hb++s.funs.flatMap hB)
def fu (s:au) (i:Nat):Nat:=3+((s.vars.take i).flatMap hb).length
def e0 (s:au) (j:Nat):Nat:=3+((s.vars.flatMap hb).length+((s.funs.take j).flatMap hB).length)
theorem Mg (s:au):s.cells[0]? =σ s.zero:=rfl
theorem qf {s:au} {i:Nat} {x:bP} (h:s.vars[i]? =σ x) (J:j<x.un.length+2):s.cells[fu s i+j]? =(hb x)[j]?:=by
 have I:j<(hb x).length:=J;unfold au.cells fu;rw[S2,Y1 (by simp[ix]),show (ix s).length=3 from rfl,S5,Y0 (Ct h I),mZ h I]
theorem v7 {s:au} {i:Nat} {x:cJ} (h:s.funs[i]? =σ x) (I:j<x.cs.length+1):s.cells[e0 s i+j]? =(hB x)[j]?:=by
 have J:j<(hB x).length:=I;unfold au.cells e0;rw[S2,S2,Y1 (by simp[ix]),show (ix s).length=3 from rfl,S5,Y1 Ω,S5,mZ h J]
theorem Mh (s:au) (c:Int):s.cells.set 0 c=({s with zero:=c}:au).cells:=rfl
theorem Cu {s:au} {i:Nat} {x y:bP} {c:Int} (h:s.vars[i]? =σ x) (J:j<x.un.length+2) (U:hb y=(hb x).set j c):s.cells.set (fu s i+j) c=({s with vars:=s.vars.set i y}:au).cells:=by
 have I:j<(hb x).length:=J;unfold au.cells fu;rw[S2,U9 _ _ (by simp[ix]),show (ix s).length=3 from rfl,S5,List.set_append_left _ _ (Ct h I),vY h I U];rfl
theorem Mi {s:au} {i:Nat} {x y:cJ} {c:Int} (h:s.funs[i]? =σ x) (I:j<x.cs.length+1) (J:hB y=(hB x).set j c):s.cells.set (e0 s i+j) c=({s with funs:=s.funs.set i y}:au).cells:=by
 have U:j<(hB x).length:=I;unfold au.cells e0;rw[S2,S2,U9 _ _ (by simp[ix]),show (ix s).length=3 from rfl,S5,U9 _ _ Ω,S5,vY h U J];show _=ix {s with funs:=s.funs.set i y}++_;unfold ix;rw[Z4]
theorem Mj {s:au} (x:cJ):(s.cells++hB x).set 1 ((s.funs.length+1:Nat):Int)=({s with funs:=s.funs++[x]}:au).cells:=by
 unfold au.cells;simp only[List.flatMap_append,List.flatMap_singleton,ix,o5,S4,U8];rfl
theorem v8 (s:au):s.cells.length=3+((s.vars.flatMap hb).length+(s.funs.flatMap hB).length):=by
 unfold au.cells;rw[o5,o5];rfl
def iZ (a sc:Λ):Λ:=sc.map λv=>a.getD v.toNat 0
def kc (k:Int) (I:Int) (p:bP×Int):Int:=if p.1.gone≠0 then I else min (I+p.1.un.getD p.2.toNat 0) k
def i7 (k:Int) (a:Λ) (I:Int) (f:cJ):Int:=if f.live≠0 then min (I+bl f.af f.cs (iZ a f.sc)) k else I
def dropped (mask:Int) (v:Int):Bool:=mask.toNat.testBit v.toNat
def eK (p:bP×Int):Bool:=decide (p.1.gone≠0)|| !dropped p.1.mask p.2
def dW (k:Int) (s:au) (a:Λ):Int:=if (s.vars.zip a).all eK then s.funs.foldl (i7 k a) ((s.vars.zip a).foldl (kc k) s.zero) else k
def hC (s:au) (a:Λ):Prop:=a.length=s.vars.length/\ ∀ (i:Nat) x v,s.vars[i]? =σ x->a[i]? =σ v->x.gone≠0\/(0<=v/\v<x.un.length)
structure bH (k:Int) (sizes:Λ) (s:au):Prop where
 fc:1<=k/\k<=2147483648
 gp:1<=sizes.length/\sizes.length<=64/\ ∀z∈sizes,1<=z/\z<=32
 zero:0<=s.zero/\s.zero<=k
 vars:s.vars.length=sizes.length
 var:∀ (i:Nat) x z,s.vars[i]? =σ x->sizes[i]? =σ z->x.un.length=z.toNat/\(∀c∈x.un,0<=c/\c<=k)/\0<=x.mask/\x.mask<4294967296
 funs:∀f∈s.funs,fs sizes k (f.sc,f.cs)/\f.af=bS sizes f.sc/\2<=f.sc.length
def newVar (u:Λ):bP:=⟨0,0,u⟩
def kd (sizes:Λ) (g:cF):cJ:=⟨g.1,bS sizes g.1,1,g.2⟩
def dd (n:aQ):au:=⟨n.zero,n.unary.map newVar,n.funs.map (kd n.sizes),[]⟩
theorem Mk {n:aQ} (h:jw n):bH n.k n.sizes (dd n):=by
 refine⟨h.k,h.sizes,h.zero,by simp[dd,h.kb],λi x z I U=>?_,λf V=>?_⟩
 .have I:(n.unary.map newVar)[i]? =σ x:=I;rw[x8] at I;obtain⟨u,hu,rfl⟩:=Y2.1 I;obtain⟨h1,J⟩:=h.unary i z u U hu;exact⟨h1,J,Int.le_refl _,by show (0:Int)<_;omega⟩
 .obtain⟨g,W,rfl⟩:=o8.1 V;obtain⟨h1,J⟩:=h.funs g W;exact⟨h1,rfl,J⟩
theorem wa {n:aQ} (h:fH w I n):aj x7 FS [Γ I] w λv w'=>v=Δ (n.sizes.length:Int)/\Ext w w':=by
 obtain⟨V,W,X,Y,gr,aU,L,nm,szv,gz,fv2,h1,J,U,aa,ab,ac,ad⟩:=h;refine aw func99 ?_;rw[cV lX.u];simp only[Z3,aS];rw[aM fj.p 0 h1 rfl,aM cu.p 2 J rfl,aV am.u U.ls];exact⟨rfl,Ext.refl _⟩
theorem Ml {n:aQ} (h:fH w I n):aj x7 Gj [Γ I] w λv w'=>v=Δ n.k/\Ext w w':=by
 obtain⟨U,V,W,X,gr,aU,L,nm,szv,gz,fv2,h1,J,Y,aa,ab,ac,ad⟩:=h;refine aw func129 ?_;rw[cV lX.u];simp only[Z3,aS];rw[aM fj.p 0 h1 rfl,aM cu.p 1 J rfl];exact⟨rfl,Ext.refl _⟩
theorem Mm {n:aQ} (h:fH w I n):aj x7 FR [Γ I] w λv w'=>v=Δ n.zero/\Ext w w':=by
 obtain⟨J,U,V,W,gr,aU,L,nm,szv,gz,fv2,h1,X,Y,aa,ab,ac,ad⟩:=h;refine aw func98 ?_;rw[cV lX.u];simp only[Z3,aS];rw[aM fj.p 1 h1 rfl];exact⟨rfl,Ext.refl _⟩
theorem Cv {n:aQ} (h:fH w I n):aj x7 yP [Γ I] w λv w'=>v=Δ (n.funs.length:Int)/\Ext w w':=by
 obtain⟨V,W,X,Y,gr,aU,L,nm,szv,gz,fv2,h1,aa,ab,ac,ad,J,U⟩:=h;refine aw func102 ?_;rw[cV lX.u];simp only[Z3,aS];rw[aM fj.p 3 h1 rfl,eY kB.u J.1];exact⟨by rw[<-U,u7],Ext.refl _⟩
theorem Cw {aa:Nat} {n:aQ} {i:Int} (h:fH w aa n) (U:jw n):aj x7 FT [Γ aa,Δ i] w λv w'=>Ext w w'/\(¬(0<=i/\i<n.sizes.length)->v= .slice ν 0 0)/\
  ∀u,0<=i->n.unary[i.toNat]? =σ u-> ∃g,w.heap.size<=g/\ap .i64 al w' g v u:=by
 refine aw func100 ?_;have an:=U.kb;refine aR (λv J=>v= .bool (decide (¬(0<=i/\i<n.sizes.length)))/\Ext w J) ?_ ?_
 .rintro _ J ⟨rfl,I⟩;rw[ai];refine⟨λaf=>⟨I,λ_=>rfl,λu ag hu=>?_⟩,λW=>?_⟩
  .have:=(x4.1 hu).1;exact absurd ⟨ag,Ω⟩ af
  have W:0<=i/\i<n.sizes.length:=Y4.1 W;obtain⟨ao,au,ax,ay,gr,aU,L,nm,szv,gz,fv2,h1,az,aB,X,ab,aC,aD⟩:=h.ext I;have aE:aU.length=n.unary.length:=by rw[<-ab,u7]
  obtain⟨a,Y⟩:=aF (l:=aU) (i:=i.toNat) Ω;obtain⟨aG,hm⟩:=X.2 a (x5 Y);rw[aM fj.p 2 h1 rfl,dq (i:=i.toNat) Ω ec.u aq.i X.1 Ω,aA (o:=i.toNat*1) Ψ (X.1.range Y 0 _ rfl)];have ac:n.unary[i.toNat]? =σ a.l:=by rw[<-ab,x8,Y];rfl
  have aH:a.l.length<=32:=by
   obtain⟨z,ad⟩:=aF (l:=n.sizes) (i:=i.toNat) Ω;have aI:=(U.unary i.toNat z a.l ad ac).1;have aJ:=U.sizes.2.2 z (x5 ad);omega
  refine (uM hm.ls Ω).mono ?_;rintro v V _ ⟨ah,g,aK,ak⟩;refine⟨I.trans ah,λam=>absurd W am,λu _ hu=>⟨g,by have:=I.size;omega,?_⟩⟩;rw[ac] at hu;cases hu;exact ak
 .intro av ae;rw[aP,ai];refine⟨λaL=>ae _ _ ⟨by rw[decide_eq_true];omega,Ext.refl _⟩,λaN=>?_⟩;refine (wa h).mono ?_;rintro _ J _ ⟨rfl,I⟩;rw[cK];refine ae _ _ ⟨?_,I⟩;congr 1;rw[V5,decide_eq_true_eq,decide_eq_true_eq];omega
theorem Cx {W:Nat} {n:aQ} {i:Int} (h:fH w W n) (I:jw n):aj x7 F7 [Γ W,Δ i] w λv w'=>Ext w w'/\v=Δ (if 0<=i then n.sizes.getD i.toNat 0 else 0):=by
 refine aw func114 ?_;refine (Cw h I).mono ?_;rintro v J _ ⟨X,aa,ab⟩;by_cases U:0<=i/\i<n.sizes.length
 .have ac:=I.kb;obtain⟨u,hu⟩:=aF (l:=n.unary) (i:=i.toNat) Ω;obtain⟨z,V⟩:=aF (l:=n.sizes) (i:=i.toNat) Ω;obtain⟨g,_,hm⟩:=ab u U.1 hu;rw[aV aq.u hm.ls];refine⟨X,?_⟩;have ad:=(I.unary i.toNat z u V hu).1;have ae:=I.sizes.2.2 z (x5 V);rw[if_pos U.1,u4,V];congr 1;simp only[V4];omega
 .rw[aa U,hL aq.u];refine⟨X,?_⟩;by_cases Y:0<=i
  .rw[if_pos Y,u4,Z5 Ω];rfl
  .rw[if_neg Y];rfl
theorem Cy {n:aQ} {j:Int} (h:fH w I n) {K:x1->x3->Prop} (V:∀w',Ext w w'->K (.bool (decide (¬(0<=j/\j<n.funs.length)))) w'):
  U x7 (aE .lss ag false true (Δ j) (Δ 0)) w λX=>Split X (K (.bool true) w) (aj x7 yP [Γ I] w λY W=>U x7 (aE .geq ag false false (Δ j) Y) W λaa=>K aa W):=by
 rw[aP,ai];refine⟨λac=>?_,λad=>?_⟩
 .have:=V w (Ext.refl _);rw[decide_eq_true (show ¬(0<=j/\j<n.funs.length) by omega)] at this;exact this
 .refine (Cv h).mono ?_;rintro _ J _ ⟨rfl,ab⟩;rw[cK];have:=V J ab;have e:decide ((n.funs.length:Int)<=j)=decide (¬(0<=j/\j<n.funs.length)):=by
   rw[V5,decide_eq_true_eq,decide_eq_true_eq];omega
  rw[<-e] at this;exact this
theorem Mn {Y:Nat} {n:aQ} {g:cF} (h:fH w Y n) (ac:jw n) (I:n.funs[j]? =σ g):aj x7 FV [Γ Y,Δ (j:Int)] w λv w'=>Ext w w'/\ ∃gs,w.heap.size<=gs/\ap .i64 ag w' gs v g.1:=by
 refine aw func104 ?_;have ai:=(x4.1 I).1;refine aR (λv J=>v= .bool (decide (¬(0<=(j:Int)/\(j:Int)<n.funs.length)))/\Ext w J) ?_ λav ad=>Cy h λw' ae=>ad _ _ ⟨rfl,ae⟩;rintro _ J ⟨rfl,U⟩;rw[decide_eq_false Ω,aS];obtain⟨ak,al,am,an,gr,aU,L,nm,szv,gz,fv2,h1,ao,aq,au,ax,W,aa⟩:=h.ext U;have ay:L.length=n.funs.length:=by rw[<-aa,u7]
 obtain⟨a,X⟩:=aF (l:=L) (i:=j) Ω;have ab:dN a=g:=by rw[<-aa,x8,X] at I;exact c9 I
 obtain⟨⟨az,hm⟩,_⟩:=W.2 a (x5 X);rw[aM fj.p 3 h1 rfl,dq rfl kB.u gR.i W.1 Ω,aT gR.p rfl,aA Ψ (W.1.range X 0 _ rfl)];have aB:a.sc.length<=6:=by
  have:=(ac.funs g (x5 I)).1.scope.2;rw[<-ab] at this;exact this
 refine (kJ hm.ls Ω).mono ?_;rintro v V _ ⟨af,gs,aC,ah⟩;refine⟨U.trans af,gs,by have:=U.size;omega,?_⟩;rw[<-ab];exact ah
theorem Mo {g ai:Nat} {af:Λ} {k:Int} {cs:Λ} (h:c0 w g ai sv af k cs):aj x7 GR [Γ g] w λv w'=>Ext w w'/\ ∃U W,v=Γ U/\w.heap.size<=U/\w.heap.size<=W/\c0 w' U W sv af k cs:=by
 obtain⟨⟨aW,gs,ak,hm,al⟩,⟨h1,ap,am⟩,I,ad⟩:=h;refine aw func172 ?_;rw[cV eH.u];simp only[Z3,aS];intro J X _ _;have aa:=ak.ext X;have aq:=prod_bound I;rw[bQ,aT cR.p rfl,bI (cs:=[sv]) bt.p bt.i rfl (m7 aa (by
  intro j v ab
  match j,ab with
  |0,ab=>exact ab)),aM cR.p 1 aa rfl,aM cR.p 2 aa rfl]
 refine (uM (al.ls.ext X) Ω).mono ?_;rintro ae V _ ⟨ac,W,au,Y⟩;refine⟨.inl ac,?_⟩;rw[dc (cs:=#[sv,Δ k,ae]) (by obtain⟨_,_,_,rfl⟩:=df hm.ls;obtain⟨_,_,_,rfl⟩:=df Y.ls;kernel_rfl)];refine bm λU av ax ag an=>?_;have ay:=X.size;have az:=ac.size;have aA:=Y;have ah:=(X.trans ac).trans ag;refine⟨ah,U,W,rfl,Ω,Ω,⟨ae,gs,an,hm.ext ah,Y.ext ag⟩,⟨?_,?_,am⟩,I,ad⟩
 .have:=sq Y (by rw[ad];omega);omega
 .intro ao;obtain⟨aB,aC⟩:=bR hm ao;omega
theorem Mp {w0:x3} {n:aQ} {g:cF} (ad:fH w0 ab n) (ae:Ext w0 w) (U:n.funs[j]? =σ g):aj x7 FW [Γ ab,Δ (j:Int)] w λv w'=>Ext w w'/\ ∃gt W sv,v=Γ gt/\w.heap.size<=gt/\w.heap.size<=W/\c0 w' gt W sv (bS n.sizes g.1) n.k g.2/\ ∀r,leads sv r-> ∃c,ac w0 r ag c:=by
 have h:=ad.ext ae;refine aw func105 ?_;have aB:=(x4.1 U).1;refine aR (λv J=>v= .bool (decide (¬(0<=(j:Int)/\(j:Int)<n.funs.length)))/\Ext w J) ?_ λav al=>Cy h λw' am=>al _ _ ⟨rfl,am⟩;rintro _ J ⟨rfl,X⟩;rw[decide_eq_false Ω,aS];have I:=ae.trans X;obtain⟨aC,aD,aE,aG,gr,aU,L,nm,szv,gz,fv2,h1,aH,aI,aJ,aK,Y,af⟩:=ad;have aL:L.length=n.funs.length:=by rw[<-af,u7]
 obtain⟨a,aa⟩:=aF (l:=L) (i:=j) Ω;have an:dN a=g:=by rw[<-af,x8,aa] at U;exact c9 U
 obtain⟨_,W,ao,ah⟩:=Y.2 a (x5 aa);rw[aM fj.p 3 (h1.ext I) rfl,dq rfl kB.u gR.i (Y.1.ext I) Ω,aT gR.p rfl,aA Ψ ((Y.1.ext I).range aa 1 _ rfl)];refine (Mo (ah.ext I)).mono ?_;rintro v V _ ⟨ap,gt,aq,rfl,aN,aO,au⟩;have aP:=X.size;refine⟨X.trans ap,gt,aq,ao,rfl,Ω,Ω,?_,λr ai=>?_⟩
 .rw[<-an];exact au
 .obtain⟨⟨_,_,_,hm,_⟩,_⟩:=ah;obtain⟨ax,_⟩:=bR hm ai;rcases hm.2 with⟨ay,_⟩|⟨_,cs,_,az,_⟩
  .obtain⟨_,_,_,ak,aV⟩:=ai;rw[ay] at ak;cases ak
  .exact⟨cs,ax▸az⟩
structure oP where
 aJ:x1
 szv:x1
 at_:Nat
def lH (x:oP):List x1:=[x.aJ,x.szv,Δ (x.at_:Int)]
structure qg where
 v:Int
 aJ:x1
 bv:x1
def Mq (x:qg):List x1:=[Δ x.v,x.aJ,x.bv]
def h2 (s:au):Λ:=(W7 s.vars.length).map λi=>(fu s i:Int)
def iy (R:ah) (w:x3) (v:x1) (l:Λ):Prop:=(∃g,ap .i64 ag w g v l)/\ ∀r,leads v r->R r
theorem iy.ls {R:ah} (h:iy R w v l):aB .i64 w v l:=by
 obtain⟨⟨g,h⟩,_⟩:=h;exact h.ls
theorem iy.aa {R S:ah} (h:iy R w v l) (U:ae S w w') (V:∀r,r<w.heap.size->R r->¬S r):iy R w' v l:=by
 obtain⟨⟨g,h1⟩,I⟩:=h;exact⟨⟨g,bn h1 U λr J=>V r (by obtain⟨W,X⟩:=bR h1 J;omega) (I r J)⟩,I⟩
theorem iy.mono {R R':ah} (h:iy R w v l) (I:∀r,R r->R' r):iy R' w v l:=⟨h.1,λr J=>I r (h.2 r J)⟩
def ke (R:ah) (w:x3) (L:List oP) (s:au):Prop:=L.length=s.funs.length/\ ∀ (j:Nat) x f,L[j]? =σ x->s.funs[j]? =σ f->iy R w x.aJ f.sc/\iy R w x.szv f.af/\x.at_=e0 s j
def lI (R:ah) (w:x3) (E:List qg) (s:au):Prop:=E.length=s.gG.length/\ ∀ (j:Nat) x e,E[j]? =σ x->s.gG[j]? =σ e->x.v=e.v/\iy R w x.aJ e.sc/\iy R w x.bv e.sG
theorem ke.aa {R S:ah} {L:List oP} {s:au} (h:ke R w L s) (I:ae S w w') (J:∀r,r<w.heap.size->R r->¬S r):ke R w' L s:=⟨h.1,λj x f U V=>by
 obtain⟨h1,W,X⟩:=h.2 j x f U V;exact⟨h1.aa I J,W.aa I J,X⟩⟩
theorem lI.aa {R S:ah} {E:List qg} {s:au} (h:lI R w E s) (I:ae S w w') (J:∀r,r<w.heap.size->R r->¬S r):lI R w' E s:=⟨h.1,λj x f U V=>by
 obtain⟨h1,W,X⟩:=h.2 j x f U V;exact⟨h1,W.aa I J,X.aa I J⟩⟩
theorem ke.mono {R R':ah} {L:List oP} {s:au} (h:ke R w L s) (I:∀r,R r->R' r):ke R' w L s:=⟨h.1,λj x f J U=>by
 obtain⟨h1,V,W⟩:=h.2 j x f J U;exact⟨h1.mono I,V.mono I,W⟩⟩
theorem lI.mono {R R':ah} {E:List qg} {s:au} (h:lI R w E s) (I:∀r,R r->R' r):lI R' w E s:=⟨h.1,λj x f J U=>by
 obtain⟨h1,V,W⟩:=h.2 j x f J U;exact⟨h1,V.mono I,W.mono I⟩⟩
theorem sL {a b c:x3} (h:Ext a b) (k:ae S b c) (U:∀r o,a.heap[r]? =σ o->ff o=true->¬S r):Ext a c:=
 ⟨Y7 h.size k.size,λr o J I=>k.aX r o (h.aX r o J I) I (U r o J I)⟩
theorem dh.cut {A:ah} {t:ay} (h:dh w ad A t):dh w ad (λr=>A r/\r<w.heap.size) t:=by
 obtain⟨Y,aa,go,c3,aW,ab,dB,h1,J,U,V,ac⟩:=h;refine⟨⟨Y,h1.lt⟩,aa,go,c3,aW,ab,dB,h1,J,U,V,λr I=>⟨ac r I,?_⟩⟩;rcases I with I|I|I
 .obtain⟨W,X⟩:=J.leads I;omega
 .obtain⟨W,X⟩:=U.leads I;omega
 .obtain⟨W,X⟩:=V.leads I;omega
def eD (w:x3) (ab ad W:Nat) (J U V:x1) (A R:ah) (n:aQ) (s:au) (t:ay):Prop:=
 (A ab/\(∀r,A r->¬R r)/\(∀r,R r->r<w.heap.size)/\ ∀r,A r->r<w.heap.size)/\ ∃a1 X ge,∃ (L:List oP) (E:List qg) (I:ah) (w0:x3),
  ac w ab cB [Γ W,Γ ad,J,U,V]/\(fH w0 W n/\Ext w0 w/\ ∀r o,w0.heap[r]? =σ o->ff o=true->R r)/\
  (dh w ad I t/\(∀r,I r->A r)/\¬I ab/\ ∀r,leads J r\/leadsTo U r\/leadsTo V r->A r/\¬I r)/\ap .i64 ag w a1 J (h2 s)/\
  (bd lH 3 ek w X U L/\ke R w L s)/\bd Mq 3 uD w ge V E/\lI R w E s
theorem eD.aa {S:ah} {af:Nat} {ag ai aj:x1} {A R:ah} {n:aQ} {s:au} {t:ay} (h:eD w ab ad af ag ai aj A R n s t) (U:ae S w w') (V:∀r,r<w.heap.size->A r\/R r->¬S r):eD w' ab ad af ag ai aj A R n s t:=by
 obtain⟨⟨h1,W,aA,aB⟩,a1,aC,ge,L,E,aD,w0,ak,⟨aE,al,am⟩,⟨aF,X,aG,Y⟩,an,⟨ao,aH⟩,ap,aI⟩:=h;have z:=U.size;refine⟨⟨h1,W,λr J=>by have:=aA r J;omega,λr J=>by have:=aB r J;omega⟩,a1,aC,ge,L,E,aD,w0,ak.aa U (V _ ak.lt (.inl h1)),⟨aE,sL al U λr o J aJ I=>V r (by have:=al.size;have:=(o9.1 J).1;omega) (.inr (am r o J aJ)) I,am⟩,
  ⟨?_,X,aG,Y⟩,bn an U λr J I=>V r ?_ (.inl (Y r (.inl J)).1) I,⟨ao.aa U λr J I=>V r ?_ (.inl (Y r (.inr (.inl J))).1) I,aH.aa U λr J h=>V r J (.inr h)⟩,ap.aa U λr J I=>V r ?_ (.inl (Y r (.inr (.inr J))).1) I,aI.aa U λr J h=>V r J (.inr h)⟩
 .obtain⟨aq,aK,go,c3,aW,aL,dB,av,aw,ax,az,ac⟩:=aF;refine⟨aq,aK,go,c3,aW,aL,dB,av.aa U (V _ av.lt (.inl (X _ aq))),aw.aa U λr J I=>?_,ax.aa U λr J I=>?_,az.aa U λr J I=>?_,ac⟩
  .exact V r (by obtain⟨h1,W⟩:=aw.leads J;omega) (.inl (X _ (ac r (.inl J)))) I
  .exact V r (by obtain⟨h1,W⟩:=ax.leads J;omega) (.inl (X _ (ac r (.inr (.inl J))))) I
  .exact V r (by obtain⟨h1,W⟩:=az.leads J;omega) (.inl (X _ (ac r (.inr (.inr J))))) I
 .obtain⟨h1,W⟩:=bR an J;omega
 .obtain⟨h1,W⟩:=ao.leads J;omega
 .obtain⟨h1,W⟩:=ap.leads J;omega
theorem eD.ext {J U V:x1} {A R:ah} {n:aQ} {s:au} {t:ay} (h:eD w ab ad I J U V A R n s t) (W:Ext w w'):eD w' ab ad I J U V A R n s t:=h.aa (W.aa λ_=>False) λ_ _ _ h=>h
theorem eD.qh {ag:Nat} {ai aj ak:x1} {A R:ah} {n:aQ} {s:au} {t:ay} (h:eD w ab ad ag ai aj ak A R n s t):∃Y,dh w ad Y t/\ ∀X w' bp,Grow Y w X w'->dh w' ad X bp-> ∃aN,Grow A w aN w'/\eD w' ab ad ag ai aj ak aN R n s bp:=by
 obtain⟨⟨h1,V,al,am⟩,a1,aB,ge,L,E,Y,w0,an,⟨aC,aD,ao⟩,⟨aE,W,ap,ac⟩,aq,⟨av,aF⟩,aw,aG⟩:=h;refine⟨Y,aE,λax w' bp ae aH=>?_⟩;have az:=aH.cut;have U:Grow Y w (λr=>ax r/\r<w'.heap.size) w':=⟨ae.1,λr J=>ae.2.1 r J.1,λr J=>⟨ae.2.2 r J,by have:=am r (W r J);have:=ae.1.size;omega⟩⟩;obtain⟨X,aA⟩:∃B:ah,B=λr=>ax r/\r<w'.heap.size:=⟨_,rfl⟩;rw[<-aA] at az U;have aI:∀r,X r->r<w'.heap.size:=λr h=>by rw[aA] at h;exact h.2
 refine⟨λr=>A r\/X r,⟨U.1.mono λr _ J=>W r J,λr J=>?_,λr J=>.inl J⟩,⟨.inl h1,λr J af=>?_,λr J=>?_,λr J=>?_⟩,a1,aB,ge,L,E,X,w0,an.aa U.1 ap,⟨aC,sL aD U.1 λr o J aJ I=>V r (W r I) (ao r o J aJ),ao⟩,
  ⟨az,λr J=>.inr J,λJ=>?_,λr J=>⟨.inl (ac r J).1,λaK=>?_⟩⟩,bn aq U.1 λr J I=>(ac r (.inl J)).2 I,⟨av.aa U.1 λr J I=>(ac r (.inr (.inl J))).2 I,aF.aa U.1 λr _ J I=>V r (W r I) J⟩,aw.aa U.1 λr J I=>(ac r (.inr (.inr J))).2 I,aG.aa U.1 λr _ J I=>V r (W r I) J⟩
 .rcases J with J|J
  .exact .inl J
  .exact (U.2.1 r J).imp (W r) id
 .have:=al r af;rcases J with J|J
  .exact V r J af
  .rcases U.2.1 r J with h|h
   .exact V r (W r h) af
   .omega
 .have:=al r J;have:=U.1.size;omega
 .rcases J with J|J
  .have:=am r J;have:=U.1.size;omega
  .exact aI r J
 .rcases U.2.1 _ J with h|h
  .exact ap h
  .have:=an.lt;omega
 .rcases U.2.1 r aK with h|h
  .exact (ac r J).2 h
  .rcases J with J|J|J
   .obtain⟨h1,V⟩:=bR aq J;omega
   .obtain⟨h1,V⟩:=av.leads J;omega
   .obtain⟨h1,V⟩:=aw.leads J;omega
def StateM (w:x3) (ab ad:Nat) (A R:ah) (n:aQ) (s:au) (t:ay):Prop:=∃I J U V,eD w ab ad I J U V A R n s t
theorem StateM.aa {S:ah} {A R:ah} {n:aQ} {s:au} {t:ay} (h:StateM w ab ad A R n s t) (I:ae S w w') (J:∀r,r<w.heap.size->A r\/R r->¬S r):StateM w' ab ad A R n s t:=by
 obtain⟨U,V,W,X,h⟩:=h;exact⟨U,V,W,X,h.aa I J⟩
theorem StateM.ext {A R:ah} {n:aQ} {s:au} {t:ay} (h:StateM w ab ad A R n s t) (I:Ext w w'):StateM w' ab ad A R n s t:=h.aa (I.aa λ_=>False) λ_ _ _ h=>h
theorem StateM.qh {A R:ah} {n:aQ} {s:au} {t:ay} (h:StateM w ab ad A R n s t):∃I,dh w ad I t/\ ∀J w' bp,Grow I w J w'->dh w' ad J bp-> ∃aN,Grow A w aN w'/\StateM w' ab ad aN R n s bp:=by
 obtain⟨U,V,W,X,h⟩:=h;obtain⟨I,h1,Y⟩:=h.qh;exact⟨I,h1,λJ w' bp aa ac=>by
  obtain⟨aN,ae,af⟩:=Y J w' bp aa ac;exact⟨aN,ae,U,V,W,X,af⟩⟩
def nx (s s':au):Prop:=h2 s'=h2 s/\s'.funs.length=s.funs.length/\(∀ (j:Nat) I,s'.funs[j]? =σ I-> ∃f,s.funs[j]? =σ f/\I.sc=f.sc/\I.af=f.af/\e0 s' j=e0 s j)/\s'.gG=s.gG
theorem eD.same {J:Nat} {U V W:x1} {A R:ah} {n:aQ} {s s':au} {t:ay} (h:eD w ab ad J U V W A R n s t) (I:nx s s'):eD w ab ad J U V W A R n s' t:=by
 obtain⟨aC,a1,Y,ge,L,E,aa,w0,ac,ae,af,ag,⟨ai,X⟩,aj,ak⟩:=h;obtain⟨al,am,an,ao⟩:=I;refine⟨aC,a1,Y,ge,L,E,aa,w0,ac,ae,af,by rw[al];exact ag,⟨ai,X.1.trans am.symm,λj x ap aq av=>?_⟩,aj,?_⟩
 .obtain⟨f,aw,ax,az,aA⟩:=an j ap av;rw[ax,az,aA];exact X.2 j x f aq aw
 .unfold lI;rw[ao];exact ak
theorem StateM.same {A R:ah} {n:aQ} {s s':au} {t:ay} (h:StateM w ab ad A R n s t) (I:nx s s'):StateM w ab ad A R n s' t:=by
 obtain⟨J,U,V,W,h⟩:=h;exact⟨J,U,V,W,h.same I⟩
theorem sM {α β:Type} {f:α->List β}:∀ {L:List α} {i j:Nat} {a b:α},L[i]? =σ a->(f b).length=(f a).length->(((L.set i b).take j).flatMap f).length=((L.take j).flatMap f).length
 |[],_,_,_,_,h,_=>by simp at h
 |x::L,0,j,a,b,h,I=>by
  cases h;cases j with
  |zero=>rfl
  |succ j=>simp[I]
 |x::L,i+1,j,a,b,h,I=>by
  have h:L[i]? =σ a:=by simpa using h
  cases j with
  |zero=>rfl
  |succ j=>
   rw[List.set_cons_succ,List.take_succ_cons,List.take_succ_cons,W9,W9,o5,o5,sM h I]
theorem Cz (s:au) (c:Int):nx s {s with zero:=c}:=⟨rfl,rfl,λj f h=>⟨f,h,rfl,rfl,rfl⟩,rfl⟩
theorem CA {s:au} {i:Nat} {x y:bP} (I:s.vars[i]? =σ x) (U:y.un.length=x.un.length):nx s {s with vars:=s.vars.set i y}:=by
 have J:(hb y).length=(hb x).length:=by simp[hb,U]
 refine⟨?_,rfl,λj f h=>⟨f,h,rfl,rfl,?_⟩,rfl⟩
 .unfold h2;rw[show ({s with vars:=s.vars.set i y}:au).vars.length=s.vars.length from Z4];apply List.map_congr_left;intro j _;unfold fu;rw[sM I J]
 .unfold e0;have:=sM (j:=s.vars.length) I J;rw[j6 Ξ,j6 (p9 _)] at this;show 3+(((s.vars.set i y).flatMap hb).length+_)=_;rw[this]
theorem Mr {s:au} {i:Nat} {x y:cJ} (I:s.funs[i]? =σ x) (U:y.cs.length=x.cs.length) (h1:y.sc=x.sc) (V:y.af=x.af):nx s {s with funs:=s.funs.set i y}:=by
 have W:(hB y).length=(hB x).length:=by simp[hB,U]
 refine⟨rfl,Z4,λj f h=>?_,rfl⟩;have h:(s.funs.set i y)[j]? =σ f:=h;have e:e0 {s with funs:=s.funs.set i y} j=e0 s j:=by
  unfold e0;show 3+(_+(((s.funs.set i y).take j).flatMap hB).length)=_;rw[sM I W]
 by_cases J:i=j
 .subst J;rw[c7 (x4.1 I).1] at h;cases h;exact⟨x,I,h1,V,e⟩
 .rw[Y5 J] at h;exact⟨f,h,rfl,rfl,e⟩
theorem ay.wb (t:ay) (i:Nat) (x:Int):(t.set i x).marks=t.marks:=by
 unfold ay.set;cases t.cells[i]? with
 |none=>rfl
 |some c=>
  simp only;cases t.marks.getLast? with
  |none=>rfl
  |some m=>simp only;split<;>rfl
theorem ay.CB (t:ay) (i:Nat) (x:Int):(t.set i x).il=t.il:=by
 unfold ay.set;cases t.cells[i]? with
 |none=>rfl
 |some c=>
  simp only;cases t.marks.getLast? with
  |none=>rfl
  |some m=>simp only;split<;>rfl
theorem ay.CC (t:ay) (i:Nat) (x:Int):(t.set i x).cells.length=t.cells.length:=by
 have h:=congrArg S9 (ay.pA (t:=t) (i:=i) (x:=x));rw[Z4] at h;unfold ay.bL at h;rwa [u7,u7] at h
theorem ay.CD (t:ay) (i:Nat) (x:Int):(t.set i x).olds.length<=t.olds.length+1:=by
 unfold ay.set;cases t.cells[i]? with
 |none=>exact Nat.le_succ _
 |some c=>
  simp only;cases t.marks.getLast? with
  |none=>exact Nat.le_succ _
  |some m=>simp only;split<;>simp
theorem ay.wc {t:ay} (h:t.marks=[]) (i:Nat) (x:Int):(t.set i x).olds=t.olds:=by
 unfold ay.set;cases t.cells[i]? with
 |none=>rfl
 |some c=>simp only[h,List.getLast?_nil]
def fv (t:ay) (l:Λ):Nat->ay
 |0=>t.grow l.length
 |i+1=>(fv t l i).set (t.cells.length+i) (l.getD i 0)
def mi (t:ay) (l:Λ):ay:=fv t l l.length
theorem qi (t:ay) (l:Λ):∀i,(fv t l i).marks=t.marks
 |0=>rfl
 |i+1=>(ay.wb _ _ _).trans (qi t l i)
theorem CE (t:ay) (l:Λ):∀i,(fv t l i).il=t.il
 |0=>rfl
 |i+1=>(ay.CB _ _ _).trans (CE t l i)
theorem we (t:ay) (l:Λ):∀i,(fv t l i).cells.length=t.cells.length+l.length
 |0=>by simp[fv,ay.grow]
 |i+1=>(ay.CC _ _ _).trans (we t l i)
theorem wg (t:ay) (l:Λ):∀i,(fv t l i).olds.length<=t.olds.length+i
 |0=>p9 _
 |i+1=>by have:=ay.CD (fv t l i) (t.cells.length+i) (l.getD i 0);have:=wg t l i;show (ay.set _ _ _).olds.length<=_;omega
theorem CF {t:ay} (h:t.marks=[]) (l:Λ):∀i,(fv t l i).olds=t.olds
 |0=>rfl
 |i+1=>(ay.wc ((qi t l i).trans h) _ _).trans (CF h l i)
theorem CG (t:ay) (l:Λ):∀i,i<=l.length->(fv t l i).bL=t.bL++(l.take i++p8 (l.length-i) 0)
 |0,_=>by rw[List.take_zero,List.nil_append];exact ay.Ia
 |i+1,h=>by
  have I:=CG t l i Ω;show (ay.set _ _ _).bL=_;have J:t.bL.length=t.cells.length:=by simp[ay.bL]
  rw[ay.pA,I,U9 _ _ Ω,J,S5,U9 _ _ (by rw[j0];omega),j0,Nat.min_eq_left Ω,V7,show l.length-i=(l.length-(i+1))+1 by omega,List.replicate_succ,List.set_cons_zero,r8,u4,x6 (show i<l.length by omega)];simp only[l9,V4,U8,List.singleton_append]
theorem CH (t:ay) (l:Λ):(mi t l).bL=t.bL++l:=by
 unfold mi;rw[CG t l _ (p9 _),o6,V7,List.replicate_zero,U5]
theorem ee.fv {h:List ay} {t:ay} (hk:ee t h) (l:Λ):∀i,ee (fv t l i) h
 |0=>hk.grow
 |i+1=>(ee.fv hk l i).set
theorem nj {s:Go.Sem x1} {x:x1} (h:U x7 s w (λv=>v=x)):ct x7 s x w:=by
 obtain⟨v,h,rfl⟩:=h;exact h
theorem sN {off:Nat} {z:Nat} {I:r9} {cs:List x1} {x:x1} (J:ac w ab e cs) (V:∀ (K:x1->Prop),U x7 (u6 cB (Γ ab) z) w K=K (.pointer (σ ⟨ab,0+off,ν⟩))) (W:jl x7 I=true) (X:cs[0+off]? =σ x):
  ct x7 (u5 I (.pointer (σ ⟨ab,0+off,ν⟩))) x w/\ct x7 (u6 cB (Γ ab) z) (.pointer (σ ⟨ab,0+off,ν⟩)) w/\ct x7 (bF (Γ ab)) (Γ ab) w/\True:=
 ⟨zG W (J.cell X),nj (by rw[V]),nj (by rw[bQ]),trivial⟩
def CI (w:x3) (r:Nat):Prop:=∃e c,ac w r e c/\(e=fk\/e=ey\/e=kC\/e=fN\/e=cB\/e=ek\/e=uD)
def eE (w:x3) (r:Nat):Prop:=CI w r\/ ∀o,w.heap[r]? =σ o->ff o≠true
theorem ny {J:x3} {r:Nat} (hk:∀o,w.heap[r]? =σ o->ff o=true->¬eE w r->J.heap[r]? =σ o) (h:eE J r):eE w r:=by
 by_cases U:eE w r
 .exact U
 .refine absurd (.inr λo W I=>?_) U;have h1:=hk o W I U;rcases h with⟨e,c,V,he⟩|X
  .refine U (.inl ⟨e,c,?_,he⟩);unfold ac at V ⊢;rw[h1] at V;rw[W];exact V
  .exact X o h1 I
theorem jy {J V:x3} (U:Ext w J) (W:ae (eE J) J V):ae (eE w) w V:=(U.aa _).trans (W.mono λr _ h=>ny (λo X I _=>U.aX r o X I) h)
theorem wh {J V:x3} (h:ae (eE w) w J) (U:ae (eE J) J V):ae (eE w) w V:=h.trans (U.mono λr _ W=>ny (λo X I Y=>h.aX r o X I Y) W)
theorem dh.min {A:ah} {t:ay} (h:dh w ad A t):dh w ad (λr=>A r/\CI w r) t:=by
 obtain⟨X,Y,go,c3,aW,aa,dB,h1,U,V,W,ab⟩:=h;refine⟨⟨X,_,_,h1,.inl rfl⟩,Y,go,c3,aW,aa,dB,h1,U,V,W,λr I=>⟨ab r I,?_⟩⟩;rcases I with I|I|I
 .obtain⟨rfl,c,J⟩:=dV U I;exact⟨_,c,J,.inr (.inl rfl)⟩
 .obtain⟨rfl,c,J⟩:=dV V I;exact⟨_,c,J,.inr (.inr (.inl rfl))⟩
 .obtain⟨rfl,c,J⟩:=dV W I;exact⟨_,c,J,.inr (.inr (.inr (.inl rfl)))⟩
theorem eD.wi {W:Nat} {X Y aa:x1} {A R:ah} {n:aQ} {s:au} {t:ay} (h:eD w ab ad W X Y aa A R n s t):∃I,dh w ad I t/\ ∀ac w' bp,Grow I w ac w'->dh w' ad ac bp->ae (eE w) w w'/\ ∃aN,Grow A w aN w'/\eD w' ab ad W X Y aa aN R n s bp:=by
 obtain⟨I,af,ag⟩:=h.qh;refine⟨_,af.min,λai J bp U aj=>⟨U.1.mono λr _ h=>.inl h.2,?_⟩⟩;exact ag (λr=>I r\/ai r) J _ ⟨U.1.mono λr _ h=>h.1,λr V=>V.elim .inl λh=>(U.2.1 r h).imp (λh=>h.1) id,λr V=>.inl V⟩ (aj.mono λr h=>.inr h)
theorem CJ {Y:Nat} {aa ac af:x1} {A R:ah} {n:aQ} {s:au} {t:ay} {U:x1} (h:eD w ab ad Y aa ac af A R n s t) (ag:aB .i64 w U l) (az:∀r,leads U r->¬A r) (bc:t.cells.length+l.length<=100000000) (bd:t.olds.length+l.length<=100000000) (hm:t.marks.length<=100000000):
  aj x7 yO [Γ ab,U] w λv w'=>v=Δ (t.cells.length:Int)/\ae (eE w) w w'/\ ∃aN,Grow A w aN w'/\eD w' ab ad Y aa ac af aN R n s (mi t l):=by
 refine aw func101 ?_;obtain⟨_,a1,aA,ge,L,E,_,w0,ak,_⟩:=id h;obtain⟨aC,am,an⟩:=h.wi;rw[aM cB.p 1 ak rfl,aV aq.u ag];refine (Me (n:=l.length) am ⟨Ω,Ω,hm⟩ Ω).mono ?_;rintro _ J _ ⟨rfl,aD,aE,aG⟩;obtain⟨aH,aI,ap,aJ⟩:=an aD J _ aE aG;have av:∀ {aN:ah} {w':x3},Grow A w aN w'->aB .i64 w' U l:=λaK=>hv ag aK.1 λr aO a aR c aS aT=>az r ⟨a,aR,c,aS,aT⟩ aO;rw[aV aq.u (av ap)];have aU:=ag.le;refine ce.range l.length (λi V=>ae (eE w) w V/\ ∃I,Grow A w I V/\eD V ab ad Y aa ac af I R n s (fv t l i)) aU ⟨aH,aI,ap,aJ⟩ ?_ ?_
 .rintro i V k hi ⟨ao,I,W,X⟩ hk;refine bB Ω ?_;obtain⟨x,ax⟩:=aF (l:=l) hi;rw[ba aq.u al.i Ψ (av W) ax];obtain⟨_,a1,aA,ge,L,E,_,w0,ak,_⟩:=id X;obtain⟨aC,am,an⟩:=X.wi;have be:=we t l i;have bf:=wg t l i;have aW:=qi t l i;rw[aM cB.p 1 ak rfl,aL,wrap_i64 Ω Ω];refine (sK (i:=t.cells.length+i) am Ω Ω ⟨Ω,Ω,by rw[aW];exact hm⟩).mono ?_;rintro _ aX _ ⟨rfl,aY,aZ,a2⟩;obtain⟨a6,a7,a8,bb⟩:=an aY aX _ aZ a2;rw[aL];refine hk _ ⟨wh ao a6,a7,W.trans a8,?_⟩;have e:fv t l (i+1)=(fv t l i).set (t.cells.length+i) x:=by
   show (fv t l i).set _ (l.getD i 0)=_;rw[u4,ax];rfl
  rw[e];exact bb
 .rintro V k ⟨ao,I,W,X⟩;rw[aP,ai];exact⟨λh=>Ω,λ_=>⟨rfl,ao,I,W,X⟩⟩
def iz (s:au) (sc af cs:Λ):au:={s with funs:=s.funs++[⟨sc,af,1,cs⟩]}
def nz (s:au) (t:ay) (cs:Λ):ay:=(mi t (1::cs)).set 1 ((s.funs.length+1:Nat):Int)
theorem Ms {s:au} {t:ay} {sc af cs:Λ} (h:t.bL=s.cells):(nz s t cs).bL=(iz s sc af cs).cells:=by
 unfold nz iz;rw[ay.pA,CH,h,<-Mj];rfl
theorem Mt {br:Nat} {bt a7 bu:x1} {A R:ah} {n:aQ} {s:au} {t:ay} {aJ:x1} {sc af cs:Λ} {g b5:Nat} {aC:x1} {k:Int}
  (h:eD w ab ad br bt a7 bu A R n s t) (cC:t.bL=s.cells) (cD:aB .i64 w aJ sc) (dE:∀r,leads aJ r->¬A r) (bw:c0 w g b5 aC af k cs) (b6:¬A g/\¬A b5/\ ∀r,leads aC r->¬A r) (dF:sc.length<=1000)
  (be:t.cells.length+cs.length+1<=100000000) (bx:t.olds.length+cs.length+1<=100000000) (hm:t.marks.length<=100000000) (dG:s.funs.length<=1000000):
  aj x7 FU [Γ ab,aJ,Γ g] w λv w'=>v=Δ (s.funs.length:Int)/\ae (eE w) w w'/\ ∃aN R' bK,Grow A w aN w'/\eD w' ab ad br bt bK bu aN R' n (iz s sc af cs) (nz s t cs)/\(∀r,R r->R' r)/\ ∀r,R' r->R r\/leads aC r\/w.heap.size<=r:=by
 have dH:t.cells.length=s.cells.length:=by rw[<-cC];simp[ay.bL]
 have dI:=v8 s;have cE:e0 (iz s sc af cs) s.funs.length=t.cells.length:=by
  unfold e0 iz;simp only[List.take_left];omega
 have cF:∀j,j<s.funs.length->e0 (iz s sc af cs) j=e0 s j:=λj bM=>by
  unfold e0 iz;simp only[List.take_append_of_le_length (show j<=s.funs.length by omega)]
 have cG:h2 (iz s sc af cs)=h2 s:=rfl;refine aw func103 ?_;refine db (λJ=>ae (eE w) w J/\ ∃aN R' bK,Grow A w aN J/\eD J ab ad br bt bK bu aN R' n (iz s sc af cs) (mi t (1::cs))/\(∀r,R r->R' r)/\ ∀r,R' r->R r\/leads aC r\/w.heap.size<=r) ?_ ?_
 .rintro J ⟨cH,dJ,cI,cJ,cK,cM,cN,cO⟩;intro V bN _ _;have b7:=cM.ext bN;obtain⟨_,a1,bO,ge,L,E,_,w0,aL,_,_,_,⟨bj,bA⟩,_⟩:=id b7;have bB:L.length=s.funs.length+1:=by rw[bA.1];simp[iz]
  rw[aM cB.p 1 aL rfl,aM cB.p 3 aL rfl,eY e5.u bj];obtain⟨ca,cP,cQ⟩:=b7.wi;have cR:=we t (1::cs) (1::cs).length;have cS:=wg t (1::cs) (1::cs).length;have cT:=qi t (1::cs) (1::cs).length;simp only[b9] at cR cS;refine (sK (i:=1) (y:=1) cP rfl (by show 1<(fv _ _ _).cells.length;simp only[b9];omega) ⟨by show (fv _ _ _).cells.length<=_;simp only[b9];omega,by show (fv _ _ _).olds.length<=_;simp only[b9];omega,by show (fv _ _ _).marks.length<=_;rw[cT];exact hm⟩).mono ?_;rintro _ cU _ ⟨rfl,cV,cW,cX⟩;obtain⟨cY,cZ,c1,cb⟩:=cQ cV cU _ cW cX;obtain⟨_,a1,bO,ge,c2,E,_,w0,aL,_,_,_,⟨bj,c3⟩,_⟩:=id cb;have dK:c2.length=s.funs.length+1:=by rw[c3.1];simp[iz]
  rw[aM cB.p 3 aL rfl,eY e5.u bj,dP,wrap_i64 Ω Ω];refine⟨by congr 1;omega,wh cH (jy bN cY),cZ,cI,cJ,cK.trans ((Grow.ext bN).trans c1),?_,cN,cO⟩;have e:nz s t cs=(mi t (1::cs)).set 1 (L.length:Int):=by unfold nz;rw[bB]
  rw[e];exact cb
 intro av c4;intro aY a8 _ _;have cc:=h.ext a8;obtain⟨_,a1,bO,ge,L,E,_,w0,aL,_⟩:=id cc;rw[aM cB.p 3 aL rfl];have z4:=a8.size;have bC:∀ {Y:x3} {aG aD:x1} {bf aH:Nat},Ext aY Y->w.heap.size<=bf->w.heap.size<=aH->ap .i64 ag Y bf aG sc->ap .i64 al Y aH aD (1::cs)->(∀r,leads aG r\/leads aD r->¬A r)->
   aj x7 yO [Γ ab,aD] Y λc5 aO=>
    (Ext aY aO\/ct x7 (u5 e5 (.pointer (σ ⟨ab,0+3,ν⟩))) a7 aO/\ct x7 (u6 cB (Γ ab) 3) (.pointer (σ ⟨ab,0+3,ν⟩)) aO/\ct x7 (bF (Γ ab)) (Γ ab) aO/\True)/\
    U x7 (Instr.build ek #[(0,aG),(1,.agg #[aC]),(2,c5)]) aO λt22=>
    ax x7 (Z9 e5 1 #[(0,t22)]) aO λc6 aP=>
     (Ext aY aP\/ct x7 (u5 e5 (.pointer (σ ⟨ab,0+3,ν⟩))) a7 aP/\ct x7 (u6 cB (Γ ab) 3) (.pointer (σ ⟨ab,0+3,ν⟩)) aP/\ct x7 (bF (Γ ab)) (Γ ab) aP/\True)/\
    ax x7 (b8 #[e5,e5] e5 #[a7,c6]) aP λc7 bD=>
     U x7 (bF (Γ ab)) bD λt25=>
     U x7 (u6 cB t25 3) bD λc8=>
     ax x7 (o7 e5 c8 c7) bD λ(_:Unit) ba=>
      av ba:=by
  intro Y aG aD bf aH ai cd aE ak an bP;have c9:=cc.ext ai;refine (CJ c9 an.ls (λr W=>bP r (.inr W)) (by simp only[b9];omega) (by simp only[b9];omega) hm).mono ?_;rintro _ aO _ ⟨rfl,da,bk,bg,dd⟩;obtain⟨⟨ce,cg,de,ch⟩,a1,bO,ge,L,E,ca,w0,aL,⟨dg,dh,ci⟩,⟨di,cj,ck,aZ⟩,bS,⟨bj,bA⟩,bT,dj⟩:=id dd;have aW:ap .i64 ag aO bf aG sc:=bn ak bg.1 λr W=>bP r (.inl W);have bE:ap .i64 ag Y (Classical.choose (show ∃gs,ap .i64 ag w gs aC af from by obtain⟨⟨_,gs,_,q,_⟩,_⟩:=bw;exact⟨gs,q⟩)) aC af:=((Classical.choose_spec (show ∃gs,ap .i64 ag w gs aC af from by obtain⟨⟨_,gs,_,q,_⟩,_⟩:=bw;exact⟨gs,q⟩)).ext a8).ext ai;have dk:=bn bE bg.1 b6.2.2;refine⟨.inr (sN (off:=3) (z:=3) aL (λK=>by rw[aT cB.p rfl]) Ψ rfl),?_⟩;rw[dc (cs:=#[aG,aC,Δ (t.cells.length:Int)]) (by obtain⟨_,_,_,rfl⟩:=df ak.ls;obtain⟨_,_,_,rfl⟩:=df bE.ls;kernel_rfl)];let a:oP:=⟨aG,aC,t.cells.length⟩;have dl:∀u∈lH a,u.oneCell'=true:=by
   intro u hu;simp[lH] at hu;rcases hu with rfl|rfl|rfl
   .exact ak.ls.cells.2
   .exact bE.ls.cells.2
   .rfl
  refine hX (f:=lH) (a:=a) e5.u ek.i Ω rfl rfl λdL dM aP dN am dm=>?_;refine⟨.inr (sN (off:=3) (z:=3) (aL.ext am) (λK=>by rw[aT cB.p rfl]) Ψ rfl),?_⟩;have bl:=bj.ext am;have bB:L.length=s.funs.length:=bA.1;refine iq (f:=lH) (a:=a) e5.u ek.i rfl bl (by simpa using dm.sl) dl Ω Ω λcl dn bD bm dp cm=>?_;have bo:=aL.ext am;have cn:=bo.aa cm λhe=>cL bl bo Φ he;rw[bQ,aT cB.p rfl];refine bz e5.i (eC bm.sl).1 (eC bm.sl).2 cn Ξ λba bU dO bV=>?_;have bV:ac ba ab cB [Γ br,Γ ad,bt,cl,bu]:=bV;have aR:ae (λr=>leadsTo a7 r\/r=ab) aP ba:=(cm.mono λr _ h=>.inl h).trans (bU.mono λr _ h=>.inr h);have z9:=ai.size;have dQ:=bg.1.size;have dR:=am.size;have dS:=aR.size;have bW:∀r,(leadsTo a7 r\/r=ab)->bk r:=λr W=>W.elim (λW=>(aZ r (.inr (.inl W))).1) λW=>W▸ce;have bX:∀r,(leadsTo a7 r\/r=ab)->¬R r:=λr W=>cg r (bW r W);have dq:ae (eE w) w ba:=wh (jy (a8.trans ai) da) (jy am (aR.mono λr _ W=>by
   rcases W with W|rfl
   .obtain⟨_,c,be⟩:=dV bl W;exact .inl ⟨_,c,‹r=_› ▸be,Φ⟩
   .exact .inl ⟨_,_,bo,Φ⟩))
  let eF:ah:=λr=>bk r\/(aP.heap.size<=r/\r<ba.heap.size);let bY:ah:=λr=>R r\/(leads aC r/\r<aO.heap.size)\/(leads aG r/\r<aO.heap.size);have dT:∀r,r<w.heap.size->bk r->A r:=λr W h=>(bg.2.1 r h).elim id λh=>Ω
  have bZ:∀r,leads aG r->w.heap.size<=r/\r<Y.heap.size:=λr W=>by obtain⟨h1,bh⟩:=bR ak W;omega
  have cp:∀r,leads aC r->r<Y.heap.size:=λr W=>by obtain⟨h1,bh⟩:=bR bE W;omega
  have bG:∀r,leads aG r\/leads aC r->¬bk r:=λr W dr=>by
   rcases bg.2.1 r dr with h|h
   .rcases W with W|W
    .exact bP r (.inl W) h
    .exact b6.2.2 r W h
   .rcases W with W|W
    .have:=bZ r W;omega
    .have:=cp r W;omega
  refine c4 _ ⟨dq,eF,bY,cl,(Grow.ext (a8.trans ai)).trans (bg.trans ((Grow.ext am).trans ⟨aR.mono λr _ W=>bW r W,λr W=>W.imp id And.left,λr W=>.inl W⟩)),?_,λr W=>.inl W,λr W=>?_⟩
  rotate_left
  .rcases W with W|W|W
   .exact .inl W
   .exact .inr (.inl W.1)
   .exact .inr (.inr (bZ r W.1).1)
  have cq:∀ {v:x1} {bp:Nat} {l:Λ},ap .i64 ag aP bp v l->(∀r,leads v r->¬bk r)->ap .i64 ag ba bp v l:=λhm ds=>bn hm aR λr W I=>ds r W (bW r I);have cr:∀r,bY r->r<aP.heap.size:=λr W=>by
   rcases W with W|W|W
   .have:=de r W;omega
   .omega
   .omega
  refine⟨⟨.inl ce,λr W a2=>?_,λr W=>by have:=cr r W;omega,λr W=>W.elim (λW=>by have:=ch r W;omega) And.right⟩,a1,dn,ge,L++[a],E,ca,w0,bV,⟨dg,sL (dh.trans am) aR λr o W bx I=>bX r I (ci r o W bx),λr o W bx=>.inl (ci r o W bx)⟩,⟨(di.ext am).aa aR λr W I=>?_,λr W=>.inl (cj r W),ck,λr W=>?_⟩,?_,⟨bm.aa bU λr W he=>?_,?_⟩,(bT.ext am).aa aR λr W I=>?_,?_⟩
  .have:=cr r a2;rcases W with W|W
   .rcases a2 with a2|a2|a2
    .exact cg r W a2
    .exact bG r (.inr a2.1) W
    .exact bG r (.inl a2.1) W
   .omega
  .rcases I with I|rfl
   .exact (aZ r (.inr (.inl I))).2 W
   .exact ck W
  .rcases W with W|W|W
   .exact⟨.inl (aZ r (.inl W)).1,(aZ r (.inl W)).2⟩
   .obtain⟨h1,bh⟩:=bm.leads W;rcases dp r W with h|h
    .exact⟨.inl (aZ r (.inr (.inl h))).1,(aZ r (.inr (.inl h))).2⟩
    .refine⟨.inr ⟨h,by have:=bU.size;omega⟩,λdt=>?_⟩;have:=ch r (cj r dt);omega
   .exact⟨.inl (aZ r (.inr (.inr W))).1,(aZ r (.inr (.inr W))).2⟩
  .rw[cG];exact bn (bS.ext am) aR λr W I=>by
    rcases I with I|rfl
    .obtain⟨rfl,c,be⟩:=dV bl I;exact b3 (bS.ext am) be Φ W rfl
    .exact b3 (bS.ext am) bo Φ W rfl
  .have he:r=ab:=he;subst he;exact cL bm cn Φ W
  .refine⟨by rw[o5,bB];simp[iz],λj x f bH bb=>?_⟩;have bb:(s.funs++[⟨sc,af,1,cs⟩])[j]? =σ f:=bb;by_cases bM:j<s.funs.length
   .rw[Y0 Ω] at bH;rw[Y0 bM] at bb;obtain⟨du,dv,dw⟩:=((((ke.aa bA (am.aa λ_=>False) λ_ _ _ h=>h).aa aR λr _ W I=>bX r I W).mono (R':=bY) λr W=>.inl W)).2 j x f bH bb;exact⟨du,dv,by rw[cF j bM];exact dw⟩
   .have b0:j=s.funs.length:=by have:=(x4.1 bb).1;simp at this;omega
    rw[Y1 Ω,bB,b0,V7] at bH;rw[Y1 Ω,b0,V7] at bb;cases bH;cases bb;refine⟨⟨⟨_,cq (aW.ext am) λr W=>bG r (.inl W)⟩,λr W=>.inr (.inr ⟨W,?_⟩)⟩,⟨⟨_,cq (dk.ext am) λr W=>bG r (.inr W)⟩,λr W=>.inr (.inl ⟨W,?_⟩)⟩,?_⟩
    .have:=bZ r W;omega
    .have:=cp r W;omega
    .rw[b0,cE]
  .rcases I with I|rfl
   .obtain⟨rfl,c,be⟩:=dV bl I;exact cL (bT.ext am) be Φ W
   .exact cL (bT.ext am) bo Φ W
  .exact ((lI.aa dj (am.aa λ_=>False) λ_ _ _ h=>h).aa aR λr _ W I=>bX r I W).mono λr W=>.inl W
 have bi:=bw.ext a8;have cu:=cD.ext a8;have dx:∀r,A r->r<w.heap.size:=h.1.2.2.2;obtain⟨_,⟨_,_,dU⟩,dW,dX⟩:=id bw;have dY:cs.length<=4096:=Ω
 have bI:∀ {aS:x3} {bc bd:x1} {aF:Nat} {K:x1->x3->Prop},Ext aY aS->aY.heap.size<=aF->ap .i64 al aS aF bc [1]->aB .i64 aS bd cs->
   (∀aD aH Y,Ext aY Y->ae (λr=>r=aF) aS Y->w.heap.size<=aH->ap .i64 al Y aH aD (1::cs)->(Ext aY Y->K aD Y))->ax x7 (b8 #[aq,aq] aq #[bc,bd]) aS K:=by
  intro aS bc bd aF K X bJ aU aX dy;refine iQ aq.u al.i rfl aU aX Θ Θ λaD aH Y aE an aV=>?_;have ai:Ext aY Y:=X.put aV Ω;have dz:=X.size;exact dy aD aH Y ai aV Ω an ai
 have a6:∀ {v:x1} {bp:Nat} {dA:o4} {e:r9} {dC:x3} {l:Λ},ap dA e dC bp v l->w.heap.size<=bp-> ∀r,leads v r->¬A r:=λhm dZ r W dD=>by
  obtain⟨h1,_⟩:=bR hm W;have:=dx r dD;omega
 refine⟨?_,?_⟩
 .refine (kJ cu Ω).mono ?_;rintro aG cw _ ⟨ao,bf,cd,ak⟩;have z5:=ao.size;refine⟨.inl ao,?_,?_⟩
  .refine (oD (bi.ext ao)).mono ?_;rintro _ cz _ ⟨rfl,az⟩;have aI:=ao.trans az;have ea:=aI.size;have eb:=az.size;have cA:=(bi.ext ao).ext az;refine⟨.inl aI,?_,?_⟩
   .refine en aq.u al.i rfl λbc aF aS bJ X aU=>?_;refine⟨.inl (aI.trans X),?_⟩;refine (md (cA.ext X)).mono ?_;rintro bd b1 _ ⟨aA,b2,b4,aX⟩;have aK:=(aI.trans X).trans aA;refine⟨.inl aK,?_⟩;refine bI aK Ω (aU.ext aA) aX.ls λaD aH Y ai aV aE an _=>⟨.inl ai,?_⟩;have aW:=bn (((ak.ext az).ext X).ext aA) aV λr W he=>by have he:r=aF:=he;obtain⟨h1,bh⟩:=bR ak W;omega
    exact bC ai Ω aE aW an λr W=>W.elim (a6 ak Ω r) (a6 an aE r)
   .refine (md cA).mono ?_;rintro bd aS _ ⟨X,b2,b4,aX⟩;refine⟨.inl (aI.trans X),?_⟩;have dz:=X.size;refine en aq.u al.i rfl λbc aF b1 bJ aA aU=>?_;have aK:=(aI.trans X).trans aA;refine⟨.inl aK,?_⟩;refine bI aK Ω aU (aX.ls.ext aA) λaD aH Y ai aV aE an _=>⟨.inl ai,?_⟩;have aW:=bn (((ak.ext az).ext X).ext aA) aV λr W he=>by have he:r=aF:=he;obtain⟨h1,bh⟩:=bR ak W;omega
    exact bC ai Ω aE aW an λr W=>W.elim (a6 ak Ω r) (a6 an aE r)
  .refine en aq.u al.i rfl λbc aF cz bJ az aU=>?_;have aI:=ao.trans az;refine⟨.inl aI,?_⟩;refine (oD ((bi.ext ao).ext az)).mono ?_;rintro _ aS _ ⟨rfl,X⟩;have bq:=aI.trans X;refine⟨.inl bq,?_⟩;refine (md (((bi.ext ao).ext az).ext X)).mono ?_;rintro bd b1 _ ⟨aA,b2,b4,aX⟩;have aK:=bq.trans aA;refine⟨.inl aK,?_⟩;refine bI aK Ω ((aU.ext X).ext aA) aX.ls λaD aH Y ai aV aE an _=>⟨.inl ai,?_⟩;have aW:=bn (((ak.ext az).ext X).ext aA) aV λr W he=>by have he:r=aF:=he;obtain⟨h1,bh⟩:=bR ak W;omega
   exact bC ai Ω aE aW an λr W=>W.elim (a6 ak Ω r) (a6 an aE r)
 .refine en aq.u al.i rfl λbc aF cw bJ ao aU=>?_;refine⟨.inl ao,?_⟩;have z5:=ao.size;have ec:aF<cw.heap.size:=sq aU Ξ;refine (kJ (cu.ext ao) Ω).mono ?_;rintro aG cz _ ⟨az,bf,cd,ak⟩;have aI:=ao.trans az;refine⟨.inl aI,?_⟩;refine (oD ((bi.ext ao).ext az)).mono ?_;rintro _ aS _ ⟨rfl,X⟩;have bq:=aI.trans X;refine⟨.inl bq,?_⟩;refine (md (((bi.ext ao).ext az).ext X)).mono ?_;rintro bd b1 _ ⟨aA,b2,b4,aX⟩;have aK:=bq.trans aA;refine⟨.inl aK,?_⟩;refine bI aK Ω (((aU.ext az).ext X).ext aA) aX.ls λaD aH Y ai aV aE an _=>⟨.inl ai,?_⟩;have aW:=bn ((ak.ext X).ext aA) aV λr W he=>by have he:r=aF:=he;obtain⟨h1,bh⟩:=bR ak W;omega
  exact bC ai Ω aE aW an λr W=>W.elim (a6 ak Ω r) (a6 an aE r)
theorem hc {P:W0} {ag:r9} {k:o4} {b g:Nat} {x:x1} {m:Λ} {K:x1->x3->Prop} (Y:P.underlying t=σ (.slice e)) (hi:aO P e 1 b z) (aa:z.cells.size=1)
  (h:ap k e w g v l) (ab:aB k w x m) (ac:(l.length+m.length)*b<=140737488355328) (ad:l.length+m.length<=9223372036854775807)
  (af:∀I J w',ap k e w' J I (l++m)->(∀r,leads I r->leads v r\/w.heap.size<=r)->ae (λr=>leads v r) w w'->K I w'):ax P (b8 #[t,t] ag #[v,x]) w K:=by
 rcases h.2 with⟨V,ah⟩|⟨cap,cs,V,ak,al⟩
 .have ai:l=[]:=j9 ah;subst ai;have h':ap k e w w.heap.size v []:=by rw[V];exact ap.nil _ _ _ _
  refine iQ Y hi aa h' ab ac ad λI J w' W hm X=>af I J w' hm (λr U=>.inr ?_) (X.mono λr U he=>by have he:r=w.heap.size:=he;omega);obtain⟨aj,_⟩:=bR hm U;omega
 .refine iQ Y hi aa h ab ac ad λI J w' W hm X=>af I J w' hm (λr U=>?_) (X.mono λr U he=>⟨_,_,_,V,he.symm⟩);obtain⟨aj,_⟩:=bR hm U;rcases W with W|W
  .exact .inl ⟨_,_,_,V,by show g=r;omega⟩
  .exact .inr Ω
def addVar (s:au) (u:Λ):au:={s with vars:=s.vars++[newVar u]}
theorem Mu (s:au) (u:Λ):h2 (addVar s u)=h2 s++[((3+(s.vars.flatMap hb).length:Nat):Int)]:=by
 unfold h2 addVar;rw[o5,S4,List.range_succ,c8];congr 1
 .apply List.map_congr_left;intro i hi;have:=List.mem_range.1 hi;unfold fu;simp only[List.take_append_of_le_length (show i<=s.vars.length by omega)]
 .simp[fu]
theorem Mv {s:au} {u:Λ} (I:s.funs=[]):(addVar s u).cells=s.cells++(0::0::u):=by
 unfold au.cells addVar ix;simp only[I,List.flatMap_nil,U5,List.flatMap_append,List.flatMap_singleton,U8];rfl
def eL (n:aQ) (i j:Nat):au:=⟨n.zero,(n.unary.take i).map newVar,(n.funs.take j).map (kd n.sizes),[]⟩
theorem CK {n:aQ} {i:Nat} {u:Λ} (h:n.unary[i]? =σ u):eL n (i+1) 0=addVar (eL n i 0) u:=by
 unfold eL addVar;simp only[r8,h,l9,c8,List.map_singleton]
theorem Mw {n:aQ} {i:Nat} {g:cF} (h:n.funs[j]? =σ g):eL n i (j+1)=iz (eL n i j) g.1 (bS n.sizes g.1) g.2:=by
 unfold eL iz;simp only[r8,h,l9,c8,List.map_singleton];rfl
theorem wj (n:aQ):eL n n.unary.length n.funs.length=dd n:=by
 unfold eL dd;rw[o6,o6]
theorem wk {α β:Type} {f:α->List β} {b:Nat}:∀ {L:List α},(∀x∈L,(f x).length<=b)->(L.flatMap f).length<=L.length*b
 |[],_=>Ξ
 |x::L,h=>by
  rw[W9,o5,b9,V8];have:=wk (L:=L) λy I=>h y (.tail _ I);have:=h x (.head _);omega
theorem sO {n:aQ} (I:jw n) (ac:n.funs.length<=256) (i j:Nat):(eL n i j).cells.length<=2000000:=by
 rw[v8];have h1:=wk (f:=hb) (b:=34) (L:=(eL n i j).vars) λx U=>by
  obtain⟨u,hu,rfl⟩:=o8.1 (show x∈(n.unary.take i).map newVar from U);obtain⟨p,V⟩:=X4.1 (S8 hu);have ad:=I.kb;have ae:=(x4.1 V).1;obtain⟨z,W⟩:=aF (l:=n.sizes) (i:=p) Ω;have Y:=(I.unary p z u W V).1;have J:=I.sizes.2.2 z (x5 W);show u.length+2<=34;omega
 have Y:=wk (f:=hB) (b:=4097) (L:=(eL n i j).funs) λx U=>by
  obtain⟨g,aa,rfl⟩:=o8.1 (show x∈(n.funs.take j).map (kd n.sizes) from U);have J:=(I.funs g (S8 aa)).1;have X:=J.len;have ab:=J.small;show g.2.length+1<=4097;omega
 have J:(eL n i j).vars.length<=64:=by
  show ((n.unary.take i).map newVar).length<=64;rw[u7,j0];have:=I.kb;have:=I.sizes.2.1;omega
 have X:(eL n i j).funs.length<=256:=by
  show ((n.funs.take j).map (kd n.sizes)).length<=256;rw[u7,j0];omega
 have ab:=X5 34 J;have af:=X5 4097 X;omega
def Plain (t:ay):Prop:=t.marks=[]/\t.olds=[]/\ee t []/\t.il=0
theorem Plain.set {t:ay} (h:Plain t) (i:Nat) (x:Int):Plain (t.set i x):=⟨(ay.wb _ _ _).trans h.1,(ay.wc h.1 _ _).trans h.2.1,h.2.2.1.set,(ay.CB _ _ _).trans h.2.2.2⟩
theorem Plain.lay {t:ay} (h:Plain t) (l:Λ):Plain (mi t l):=⟨(qi _ _ _).trans h.1,(CF h.1 _ _).trans h.2.1,h.2.2.1.fv l _,(CE _ _ _).trans h.2.2.2⟩
theorem Plain.put {s:au} {t:ay} (h:Plain t) (cs:Λ):Plain (nz s t cs):=(h.lay _).set _ _
def Mx (w:x3) (R0:ah) (n:aQ) (v:x1) (w':x3):Prop:=Ext w w'/\ ∃ab ad A R t,v=Γ ab/\StateM w' ab ad A R n (dd n) t/\t.bL=(dd n).cells/\Plain t/\(∀r,A r->w.heap.size<=r)/\ ∀r,R r->R0 r\/w.heap.size<=r
theorem My {w0:x3} {R0:ah} {X:Nat} {n:aQ} (bb:fH w0 X n) (aU:Ext w0 w) (bA:∀r o,w0.heap[r]? =σ o->ff o=true->R0 r) (bc:∀r,R0 r->r<w.heap.size) (Y:jw n) (bC:n.funs.length<=256):aj x7 yA [Γ X] w (Mx w R0 n):=by
 have h:=bb.ext aU;have cc:=Y.kb;have dg:=Y.sizes.2.1;refine aw func37 ?_;rw[cV lX.u];simp only[Z3,aS];refine (Mf (n:=3) Ω).mono ?_;rintro _ J _ ⟨aV,ad,rfl,cd⟩;rw[dc (cs:=#[Γ X,Γ ad,.slice ν 0 0,.slice ν 0 0,.slice ν 0 0]) Ψ];refine bm λab V dh ax az=>?_;have az:ac V ab cB [Γ X,Γ ad,.slice ν 0 0,.slice ν 0 0,.slice ν 0 0]:=az;have di:=aV.size;have dj:=ax.size;have dk:=az.lt;have cg:eD V ab ad X (.slice ν 0 0) (.slice ν 0 0) (.slice ν 0 0) (λr=>r=ab\/(w.heap.size<=r/\r<J.heap.size)) R0 n ⟨0,[],[],[]⟩ ⟨p8 3 ⟨0,0⟩,[],[],0⟩:=by
  refine⟨⟨.inl rfl,λr U ao=>?_,λr U=>?_,λr U=>?_⟩,0,0,0,[],[],λr=>w.heap.size<=r/\r<J.heap.size,w0,az,⟨bb,aU.trans (aV.trans ax),bA⟩,⟨(cd.cut).ext ax,λr U=>.inr U,λU=>?_,λr U=>?_⟩,ap.nil _ _ _ _,⟨bd.nil _ _ _ _ _,rfl,λj x f aA=>by simp at aA⟩,bd.nil _ _ _ _ _,rfl,λj x f aA=>by simp at aA⟩
  .have ao:=bc r ao;rcases U with U|U<;>omega
  .have U:=bc r U;omega
  .rcases U with U|U<;>omega
  .omega
  .rcases U with U|U|U
   .obtain⟨a,dl,c,be,dm⟩:=U;cases be
   .exact (fa U).elim
   .exact (fa U).elim
 intro dn aB _ _;have ch:=cg.ext aB;rw[aM cB.p 1 (az.ext aB) rfl];refine (Mm (h.ext ((aV.trans ax).trans aB))).mono ?_;rintro _ dp _ ⟨rfl,aW⟩;refine⟨.inl aW,?_⟩;have ci:=ch.ext aW;obtain⟨bf,cj,ck⟩:=ci.qh;refine (sK (i:=0) (y:=0) cj rfl Φ ⟨Ξ,Ξ,Ξ⟩).mono ?_;rintro _ bD _ ⟨_,cl,cm,cn⟩;obtain⟨cp,bE,bg⟩:=ck cl bD _ cm cn;have bg:=bg.same (Cz ⟨0,[],[],[]⟩ n.zero);have z3:=aB.size;have z4:=aW.size;have cq:=((aV.trans ax).trans aB).trans aW;have bF:Ext w bD:=cq.then bE.1 λr U he=>by rcases he with he|he<;>omega
 refine (wa (h.ext bF)).mono ?_;rintro _ dq _ ⟨rfl,bG⟩;refine ce.range n.sizes.length (λi aX=>∃A ak t,Ext w aX/\eD aX ab ad X ak (.slice ν 0 0) (.slice ν 0 0) A R0 n (eL n i 0) t/\t.bL=(eL n i 0).cells/\Plain t/\ ∀r,A r->w.heap.size<=r) Ω
  ⟨cp,_,_,bF.trans bG,bg.ext bG,?_,?_,λr U=>?_⟩ ?_ ?_
 .rw[ay.pA];rfl
 .exact Plain.set (t:=⟨p8 3 ⟨0,0⟩,[],[],0⟩) ⟨rfl,rfl,⟨rfl,rfl,λc af=>by rw[(List.mem_replicate.1 af).2];exact p9 _⟩,rfl⟩ _ _
 .rcases bE.2.1 r U with he|he
  .rcases he with he|he<;>omega
  .omega
 .rintro i aX cr hi ⟨A,ak,t,au,bh,aC,aD,aY⟩ ct;obtain⟨u,hu⟩:=aF (l:=n.unary) (i:=i) Ω;obtain⟨bH,bI⟩:=aF (l:=n.sizes) (i:=i) Ω;have dr:u.length<=32:=by
   have ds:=(Y.unary i bH u bI hu).1;have dt:=Y.sizes.2.2 bH (x5 bI);omega
  refine bB Ω ?_;refine (Cw (h.ext au) Y).mono ?_;rintro du dv _ ⟨cu,_,cw⟩;obtain⟨dw,dx,cz⟩:=cw u Ω (by rw[u9];exact hu);intro bi bJ _ _;have bj:=cu.trans bJ;have bK:=bh.ext bj;obtain⟨⟨_,_,_,aE⟩,a1,bM,ge,L,E,bf,w0,aZ,_⟩:=id bK;have dy:=bj.size;have dz:=au.size;rw[aM cB.p 2 aZ rfl];refine rM (l:=[0,0]) aq.u al.i Ω rfl Ψ λcA dA dC dD a2 bN=>?_;refine⟨.inl a2,?_⟩;refine hc aq.u al.i rfl bN ((cz.ext bJ).ls.ext a2) Θ Θ λcC dE cD cE cF cG=>?_;have bO:∀r,leads cA r->bi.heap.size<=r:=λr U=>by obtain⟨be,_⟩:=bR bN U;omega
  have a6:Ext bi cD:=a2.then cG λr U he=>by have:=bO r he;omega
  refine⟨.inl a6,?_⟩;have cH:=bK.ext a6;have cI:∀r,leads cC r->bi.heap.size<=r:=λr U=>by
   rcases cF r U with h|h
   .exact bO r h
   .have:=a2.size;omega
  have cJ:t.cells.length<=2000000:=by
   have h1:=sO Y bC i 0;rw[<-aC] at h1;unfold ay.bL at h1;rwa [u7] at h1
  have cK:t.olds.length=0:=by rw[aD.2.1];rfl
  have cL:t.marks.length=0:=by rw[aD.1];rfl
  refine (CJ cH cE.ls (λr U W=>by have:=aE r W;have:=cI r U;omega) Θ Θ Ω).mono ?_;rintro _ dF _ ⟨rfl,_,bk,bl,cM⟩;obtain⟨⟨bP,bS,cN,bT⟩,a1,bM,ge,L,E,bf,w0,aZ,⟨cO,cP,bU⟩,⟨cQ,bV,bW,a7⟩,cR,⟨cS,cT⟩,cU,cW⟩:=id cM;refine⟨.inr (sN (off:=2) (z:=2) aZ (λK=>by rw[aT cB.p rfl]) Ψ rfl),?_⟩;refine en (k:=.i64) am.u ag.i rfl λdG dH bX dI ai cX=>?_;have bo:=aZ.ext ai;refine⟨.inr (sN (off:=2) (z:=2) bo (λK=>by rw[aT cB.p rfl]) Ψ rfl),?_⟩;have bY:(h2 (eL n i 0)).length=i:=by
   unfold h2 eL;simp only[u7,List.length_range,j0];omega
  have bZ:=cR.ext ai;refine hc am.u ag.i rfl bZ cX.ls (by rw[bY];simp;omega) (by rw[bY];simp;omega) λb0 cY dJ aG cZ b1=>?_;have b2:=bo.aa b1 λhe=>b3 bZ bo Φ he rfl;rw[bQ,aT cB.p rfl];refine bz am.i aG.ls.cells.1 aG.ls.cells.2 b2 Ξ λbp bq dK br=>?_;have br:ac bp ab cB [Γ X,Γ ad,b0,.slice ν 0 0,.slice ν 0 0]:=br;rw[aL];have af:ae (λr=>leads ak r\/r=ab) bX bp:=(b1.mono λr _ h=>.inl h).trans (bq.mono λr _ h=>.inr h);have dL:=a6.size;have z12:=bl.1.size;have dM:=ai.size;have dN:=af.size;have b4:∀r,bk r->w.heap.size<=r:=λr U=>(bl.2.1 r U).elim (aY r) λh=>Ω
  have b5:∀r,(leads ak r\/r=ab)->bk r:=λr U=>U.elim (λU=>(a7 r (.inl U)).1) λU=>U▸bP;have c0:(eL n (i+1) 0).cells=(eL n i 0).cells++(0::0::u):=by rw[CK hu];exact Mv rfl
  have c1:t.cells.length=3+((eL n i 0).vars.flatMap hb).length:=by
   have h1:=congrArg S9 aC;rw[v8] at h1;unfold ay.bL at h1;rw[u7] at h1;have:((eL n i 0).funs.flatMap hB).length=0:=by simp[eL]
   omega
  refine ct _ ⟨λr=>bk r\/(bX.heap.size<=r/\r<bp.heap.size),b0,mi t ([0,0]++u),?_,⟨⟨.inl bP,λr U ao=>?_,λr U=>by have:=cN r U;omega,λr U=>?_⟩,cY,bM,ge,L,E,bf,w0,br,⟨cO,sL (cP.trans ai) af λr o U c2 I=>bS r (b5 r I) (bU r o U c2),bU⟩,⟨(cQ.ext ai).aa af λr U I=>?_,λr U=>.inl (bV r U),bW,λr U=>?_⟩,?_,⟨(cS.ext ai).aa af λr U I=>?_,?_⟩,(cU.ext ai).aa af λr U I=>?_,?_⟩,?_,aD.lay _,λr U=>?_⟩
  .exact ((au.trans (bj.trans a6)).then bl.1 λr U he=>by have:=aY r he;omega).trans ai |>.then af λr U I=>by have:=b4 r (b5 r I);omega
  .rcases U with U|U
   .exact bS r U ao
   .have ao:=bc r ao;omega
  .rcases U with U|U
   .have:=bT r U;omega
   .exact U.2
  .rcases I with I|rfl
   .exact (a7 r (.inl I)).2 U
   .exact bW U
  .rcases U with U|U|U
   .have dO:=(bR aG U);rcases cZ r U with h|h
    .exact⟨.inl (a7 r (.inl h)).1,(a7 r (.inl h)).2⟩
    .refine⟨.inr ⟨h,by have:=bq.size;omega⟩,λc3=>by have:=bT r (bV r c3);omega⟩
   .exact (fa U).elim
   .exact (fa U).elim
  .rw[CK hu,Mu,<-c1];exact bn aG bq λr U he=>by
    have he:r=ab:=he;subst he;exact b3 aG b2 Φ U rfl
  .exact (fa U).elim
  .refine⟨cT.1,λj x f aA bt=>?_⟩;have bt:((n.funs.take 0).map (kd n.sizes))[j]? =σ f:=bt;simp at bt
  .exact (fa U).elim
  .refine⟨cW.1,λj x e aA he=>?_⟩;have he:([]:List vZ)[j]? =σ e:=he;simp at he
  .rw[CH,c0,aC];rfl
  .rcases U with U|U
   .exact b4 r U
   .omega
 .rintro aX cr ⟨A,ak,t,au,bh,aC,aD,aY⟩;refine b6 Ω ?_;refine (Cv (h.ext au)).mono ?_;rintro _ dP _ ⟨rfl,b7⟩;refine ce.range n.funs.length (λj aH=>∃A R a8 t,Ext w aH/\eD aH ab ad X ak a8 (.slice ν 0 0) A R n (eL n n.sizes.length j) t/\t.bL=(eL n n.sizes.length j).cells/\Plain t/\(∀r,A r->w.heap.size<=r)/\ ∀r,R r->R0 r\/w.heap.size<=r) Ω
   ⟨A,_,_,t,au.trans b7,bh.ext b7,aC,aD,aY,λ_ h=>.inl h⟩ ?_ ?_
  .rintro j aH c4 c5 ⟨A,R,a8,t,an,aI,av,aK,aO,bu⟩ c6;obtain⟨g,ba⟩:=aF (l:=n.funs) c5;have bw:=(Y.funs g (x5 ba)).1;refine bB Ω ?_;refine (Mn (h.ext an) Y ba).mono ?_;rintro aJ dQ _ ⟨aP,gs,dR,b8⟩;refine (Mp bb (aU.trans (an.trans aP)) ba).mono ?_;rintro _ dS _ ⟨aR,gt,dT,c7,rfl,dU,dV,c8,b9⟩;have z0:=aU.size;have c9:∀r,leads c7 r->r<w.heap.size:=λr U=>by obtain⟨c,bx⟩:=b9 r U;have:=bx.lt;omega
   have da:=(aI.ext aP).ext aR;have aE:∀r,A r->r<aH.heap.size:=aI.1.2.2.2;have dW:=aP.size;have cJ:t.cells.length<=2000000:=by
    have h1:=sO Y bC n.sizes.length j;rw[<-av] at h1;unfold ay.bL at h1;rwa [u7] at h1
   have cK:t.olds.length=0:=by rw[aK.2.1];rfl
   have cL:t.marks.length=0:=by rw[aK.1];rfl
   have dX:g.2.length<=4096:=by have:=bw.len;have:=bw.small;omega
   have dY:g.1.length<=6:=bw.scope.2;refine (Mt (sc:=g.1) da av (b8.ls.ext aR) (λr U W=>by have:=aE r W;obtain⟨be,_⟩:=bR b8 U;omega) c8 ⟨λW=>by have:=aE _ W;omega,λW=>by have:=aE _ W;omega,λr U W=>by have:=aO r W;have:=c9 r U;omega⟩ Ω Ω Ω Ω ?_).mono ?_
   .show ((n.funs.take j).map (kd n.sizes)).length<=_;rw[u7,j0];omega
   rintro _ dZ _ ⟨rfl,_,aN,R',db,ca,de,ea,df⟩;rw[aL];have cb:=Mw (i:=n.sizes.length) ba;refine c6 _ ⟨aN,R',db,nz (eL n n.sizes.length j) t g.2,((an.trans aP).trans aR).then ca.1 (λr U W=>by have:=aO r W;omega),?_,?_,aK.put _,λr U=>?_,λr U=>?_⟩
   .rw[cb];exact de
   .rw[cb];exact Ms av
   .rcases ca.2.1 r U with h|h
    .exact aO r h
    .have:=an.size;have:=aR.size;omega
   .rcases df r U with h|h|h
    .exact bu r h
    .exact .inl (by obtain⟨c,bx⟩:=b9 r h;exact bA r _ bx rfl)
    .exact .inr (by have:=an.size;have:=aP.size;have:=aR.size;omega)
  .rintro aH c4 ⟨A,R,a8,t,an,aI,av,aK,aO,bu⟩;refine b6 Ω ?_;have e:eL n n.sizes.length n.funs.length=dd n:=by rw[<-cc];exact wj n
   rw[e] at aI av;exact⟨an,ab,ad,A,R,t,rfl,⟨X,ak,a8,_,aI⟩,av,aK,aO,bu⟩
theorem Mz (ap:Bytes l) (aC:l.length<=100000):aj x7 GA [bO l] w λv w'=>v=jZ l/\Ext w w':=by
 refine aw func148 ?_;refine iM (λaK aM J=>Ext w J/\ ∃ (m:Λ) (s:Int),aK=bO m/\aM=Δ s/\Bytes m/\m.length<=100000/\ox l m s) ?_ ?_
 .rintro _ _ J ⟨aq,m,s,rfl,rfl,am,a6,an⟩;rw[m9 cU.u,be,ai];refine⟨λau=>?_,λau=>?_⟩
  .have ax:m=[]:=j9 Ω;exact⟨by rw[rT an (by rw[ax];rfl)],aq⟩
  have ax:m≠[]:=λh=>au (by rw[h];rfl);refine nS.range m.length (λi _ _ ay az X=>Ext J X/\ ∃ (n:Int) (I:Bool),ay= .int .u64 n/\az= .bool I/\l5 n I ((m.take i).foldl eP 0)/\(m.take i).all fQ=true) Ω ⟨Ext.refl _,0,false,rfl,rfl,H7,rfl⟩ ?_ ?_
  .rintro i aN t3 _ _ X aO hi ⟨af,n,I,rfl,rfl,aa,ag⟩ aQ;obtain⟨b,ab⟩:=aF (l:=m) hi;have a7:=am b (x5 ab);rw[m9 cU.u];refine bB Ω ?_;refine uW (λ_ _ ay az Y=>Ext J Y/\ ∃ (n:Int) (I:Bool),ay= .int .u64 n/\az= .bool I/\l5 n I ((m.take (i+1)).foldl eP 0)/\(m.take (i+1)).all fQ=true) ?_ ?_
   .rintro a8 ba a3 a4 Y aT;rw[aL];exact aQ _ _ _ _ _ aT
   intro av ad;refine aR (λv Y=>X=Y/\v= .bool (!fQ b)) ?_ ?_
   rotate_left
   .intro aA W;rw[pB rfl cU.u am ab,aP,ai];refine⟨λh=>W _ _ ⟨rfl,by unfold fQ;rw[decide_eq_false Ω];rfl⟩,λh=>?_⟩;rw[pB rfl cU.u am ab,bM];refine W _ _ ⟨rfl,?_⟩;unfold fQ;congr 1;by_cases aD:57<b
    .rw[decide_eq_true aD,decide_eq_false Ω];rfl
    .rw[decide_eq_false aD,decide_eq_true Ω];rfl
   rintro _ _ ⟨rfl,rfl⟩;cases aB:fQ b with
   |false=>
    rw[X3,bA];exact⟨by rw[rT an (AB ab aB)],aq.trans af⟩
   |true=>
    rw[Z8,aS];have aU:=of_decide_eq_true aB;have ao:=H6 aa aU;rw[Az ab,Ay ab,ag,aB] at ad;have aV:=aa.1;have aW:=aa.2.1;refine aR (λv Y=>X=Y/\v= .bool (I||decide (461168601842738790<n))) ?_ ?_
    rotate_left
    .intro aA W;rw[bM,ai];refine⟨λh=>W _ _ ⟨rfl,by rw[decide_eq_true h,Bool.or_true]⟩,λh=>W _ _ ⟨rfl,by rw[decide_eq_false h,Bool.or_false]⟩⟩
    rintro _ _ ⟨rfl,rfl⟩;by_cases ah:I=true\/461168601842738790<n
    .have ac:(I||decide (461168601842738790<n))=true:=by rcases ah with h|h<;>simp[h]
     rw[if_pos ah,ac] at ao;rw[ac,bu,Z8,aS];exact ad _ _ _ _ _ ⟨af,n,true,rfl,rfl,ao,rfl⟩
    .have ac:(I||decide (461168601842738790<n))=false:=by
      cases I with
      |true=>exact absurd (.inl rfl) ah
      |false=>simp;omega
     rw[if_neg ah,ac] at ao;have bb:¬461168601842738790<n:=λh=>ah (.inr h);rw[ac,bu,X3,bA,gh,pB rfl cU.u am ab,dP,wrap_u8 Ω Ω,e7 cE.u fi.u,wrap_u64 Ω Ω,wrap_u64 Ω Ω,aL,wrap_u64 Ω Ω];exact ad _ _ _ _ _ ⟨af,_,false,rfl,rfl,ao,rfl⟩
  .rintro aN t3 _ _ X aO ⟨af,n,I,rfl,rfl,aa,ag⟩;rw[o6] at ag aa;rw[m9 cU.u];refine b6 Ω ?_;have aG:=H8 aa;have aV:=aa.1;have aW:=aa.2.1;have aX:∀ {x:Int},x=m.foldl eP 0->0<=x->x<=4611686018427387904->(U x7 (convert fi al (.int .u64 x)) X λaY=>
     U x7 (aE .mul al false false (Δ s) aY) X λaZ=>(λv w'=>v=jZ l/\Ext w w') (.tuple #[aZ,(Δ 0)]) X):=by
    intro x a1 au h1;rw[e7 fi.u al.u,wrap_i64 Ω Ω,gh];have hw:Y9.wrap (s*x)=s*x:=by
     rcases an.1 with rfl|rfl<;>exact wrap_i64 Ω Ω
    rw[hw];refine⟨?_,aq.trans af⟩;rw[AE an (AA ax ag),a1]
   refine aR (λv Y=>X=Y/\v= .int .u64 (m.foldl eP 0)) ?_ ?_
   .rintro _ _ ⟨rfl,rfl⟩;have aH:=rJ (l:=m) (n:=0) ag ⟨Int.le_refl _,Φ⟩;exact aX rfl aH.1 aH.2
   intro aA W;refine aR (λv Y=>X=Y/\v= .bool (I||decide (4611686018427387904<n))) ?_ ?_
   .rintro _ _ ⟨rfl,rfl⟩;rw[cz];refine⟨λh=>W _ _ ⟨rfl,?_⟩,λh=>W _ _ ⟨rfl,?_⟩⟩
    .have h':I=true\/4611686018427387904<n:=by simpa using h
     rw[aG,if_pos h']
    .have h':¬(I=true\/4611686018427387904<n):=by
      intro ak;rcases ak with ak|ak
      .simp[ak] at h
      .simp[ak] at h
     rw[aG,if_neg h']
   .intro bc aI;cases I with
    |true=>rw[bA];exact aI _ _ ⟨rfl,rfl⟩
    |false=>rw[aS,bM];exact aI _ _ ⟨rfl,by rw[Bool.false_or]⟩
 .intro av ad;refine aR (λv V=>w=V/\ ∃c:Bool,v= .bool c/\(c=true↔l[0]? =σ 45)) ?_ ?_
  .rintro _ _ ⟨rfl,c,rfl,aJ⟩;rw[cz];refine⟨λa2=>?_,λac=>?_⟩
   .obtain⟨m,rfl⟩:∃m,l=45::m:=by
     have:=aJ.1 a2;cases l with
     |nil=>simp at this
     |cons x m=>exact⟨m,by simp at this;rw[this]⟩
    rw[zL (y:=1) (i:=1) rfl cU.u Ξ];exact ad _ _ _ ⟨Ext.refl _,m,-1,rfl,rfl,λb ae=>ap b (.tail _ ae),by simp at aC;omega,AC⟩
   .refine ad _ _ _ ⟨Ext.refl _,l,1,rfl,rfl,ap,aC,AD λb ae he=>?_⟩;subst he;have:=aJ.2 ae;rw[ac] at this;cases this
  .intro aA W;rw[m9 cU.u,bM,ai];refine⟨λh=>?_,λh=>W _ _ ⟨rfl,false,rfl,?_⟩⟩
   .obtain⟨b,ae⟩:=aF (l:=l) (i:=0) Ω;rw[pB (y:=0) (i:=0) rfl cU.u ap ae,be];refine W _ _ ⟨rfl,_,rfl,?_⟩;rw[decide_eq_true_eq,ae];exact⟨λh=>by rw[h],λh=>c9 h⟩
   .have:l=[]:=j9 Ω;subst this;simp
theorem MA {s:Go.Sem x1} (h:U x7 s w λu=>u=v) (hk:K v):U x7 s w K:=by
 obtain⟨u,h1,rfl⟩:=h;exact⟨u,h1,hk⟩
abbrev gH:Type:=Λ×Int
def fw (x:gH):List x1:=[bO x.1,Δ x.2]
theorem wm (x:gH):∀u∈fw x,u.oneCell'=true:=by
 intro u hu;simp[fw] at hu;rcases hu with rfl|rfl<;>rfl
def iA (w:x3) (v:x1) (L:List gH):Prop:=b5 w 2 v L.length (L.flatMap fw)
theorem wn {g:Nat} {L:List gH} (h:bd fw 2 ci w g v L):iA w v L:=h.sl
theorem CL {L:List gH} {I:r9} (h:iA w v L):U x7 (W3 #[e6] I #[v]) w K=K (Δ (L.length:Int)):=by
 obtain⟨_,_,_,_,_,rfl,_⟩:=h;exact hL e6.u
theorem MB {cs:List x1} (h:b5 w k v n cs) (U:ae S w w') (V:∀r,leadsTo v r->¬S r):b5 w' k v n cs:=by
 obtain⟨h1,b,o,base,cap,rfl,W,X,J,Y⟩:=h;refine⟨h1,b,o,base,cap,rfl,W,X,J,?_⟩;rcases R4 n with I|I
 .have:cs=[]:=j9 (by rw[h1,I,Nat.zero_mul]);subst this;intro j v aa;simp at aa
 .have ab:=J I;exact jQ U (V b ⟨⟨b,o,ν⟩,n,cap,by rw[ab],rfl⟩) Y
theorem iA.aa {L:List gH} (h:iA w v L) (I:ae S w w') (J:∀r,leadsTo v r->¬S r):iA w' v L:=MB h I J
theorem CM {x:gH} {L:List gH} (h:iA w v (x::L)) (I:∀b o,w.rangeAt b o (fw x)->K (.pointer (σ ⟨b,o,ν⟩))):U x7 (j5 e6 v (Δ 0)) w K:=by
 obtain⟨_,b,o,base,cap,rfl,_,_,J,V⟩:=h;have:=fm (P:=x7) (w:=w) (K:=K) (k:=.i64) (c:=cap) e6.u ci.i (show 0<(x::L).length by simp) J;rw[show ((0:Nat):Int)=0 from rfl] at this;rw[this];refine I _ _ λj u hu=>?_;have W:=(x4.1 hu).1;rw[Nat.zero_mul,Nat.add_zero];exact V j u (by rw[W9,Y0 W];exact hu)
theorem MC {x:gH} {L:List gH} (h:iA w v (x::L)) (W:∀J,(∀w',iA w' v (x::L)->iA w' J L)->(∀r,leadsTo J r->leadsTo v r)->K J):U x7 (V3 e6 v (σ (Δ 1)) ν ν) w K:=by
 have ab:=h;obtain⟨_,b,o,base,cap,rfl,ac,_⟩:=h;rw[ii e6.u ci.i (mV 1 1 rfl) jS fO Ξ Ω (p9 _)];refine W _ (λw' X=>?_) λr Y=>?_
 .have:=b5.part (l:=1) (h:=(x::L).length) (m:=cap) X Ξ (p9 _) Ω (p9 _);have e:(((x::L).flatMap fw).drop (1*2)).take (((x::L).length-1)*2)=L.flatMap fw:=by
   rw[W9];have aa:(L.flatMap fw).length=L.length*2:=hW (k:=2) λ_ _=>rfl;show (L.flatMap fw).take _=_;rw[j6 (by rw[aa,b9,Nat.add_sub_cancel];exact p9 _)]
  rw[e] at this;exact this
 .obtain⟨a,n,c,I,V⟩:=Y;split at I
  .cases I;exact⟨_,_,_,rfl,V⟩
  .cases base with
   |none=>cases I
   |some q=>cases I;exact⟨_,_,_,rfl,V⟩
theorem MD {g:Nat} {L:List gH} (W:y=(n:Int)) (h:bd fw 2 ci w g v L) (X:n<=L.length) (Y:∀J,iA w J (L.take n)->(∀r,leadsTo J r->leadsTo v r)->K J):U x7 (V3 e6 v ν (σ (Δ y)) ν) w K:=by
 have aa:=wn h;obtain⟨_,b,o,base,cap,rfl,ad,_⟩:=h.sl;rw[ii e6.u ci.i jR (mW n y W) fO (X2 _) Ω (p9 _)];refine Y _ ?_ λr ab=>?_
 .have:=b5.part (l:=0) (h:=n) (m:=cap) aa (X2 _) X Ω (p9 _);have e:((L.flatMap fw).drop (0*2)).take ((n-0)*2)=(L.take n).flatMap fw:=by
   rw[Nat.zero_mul,List.drop_zero,Nat.sub_zero,pV (f:=fw) (k:=2) n λ_ _=>rfl]
  rw[e] at this;have ac:(L.take n).length=n-0:=by rw[j0];omega
  unfold iA;rw[ac];exact this
 .obtain⟨a,n,c,I,V⟩:=ab;split at I
  .cases I;exact⟨_,_,_,rfl,V⟩
  .cases base with
   |none=>cases I
   |some q=>cases I;exact⟨_,_,_,rfl,V⟩
def ME (w:x3) (pl:Λ) (v:x1) (w':x3):Prop:=Ext w w'/\ ∃I L,∃bad:Int,v= .tuple #[I,Δ bad]/\iA w' I L/\L.map (·.1)=(lex pl).1/\(0<=bad↔(lex pl).2=false)/\(∀r,leadsTo I r->w.heap.size<=r)/\ ∀r,leadsTo I r-> ∃c,ac w' r ci c
theorem MF {p:x1} (am:aB .u8 w p pl) (aZ:Bytes pl) (bx:pl.length<=65536):aj x7 FL [p] w (ME w pl):=by
 refine aw func87 ?_;rw[aV cH.u am];refine nS.range pl.length (λi _ _ aa ag J=>Ext w J/\ ∃g L,∃ (V:List (Λ)) (ab:Λ) (op:Bool),ag= .bool op/\bd fw 2 ci J g aa L/\L.map (·.1)=(if op then V++[ab] else V)/\(op=true->ab.length<=i)/\L.length<=i/\hS (pl.drop i) V ab op=lex pl/\ ∀r,leadsTo aa r->w.heap.size<=r) am.le
  ⟨Ext.refl _,0,[],[],[],false,rfl,bd.nil _ _ _ _ _,rfl,(λh=>by cases h),p9 _,Iq pl,λr ac=>(fa ac).elim⟩ ?_ ?_
 rotate_left
 .rintro a1 t3 aa ag J a2 ⟨ae,g,L,V,ab,op,rfl,ad,Y,_,_,W,af⟩;refine b6 Ω ?_;rw[List.drop_length] at W;have W:(if op then V++[ab] else V,true)=lex pl:=W;exact⟨ae,aa,L,-1,rfl,wn ad,by rw[Y,<-W],by rw[<-W];simp,af,λr ac=>by obtain⟨rfl,c,aq⟩:=dV ad ac;exact⟨c,aq⟩⟩
 rintro i a1 t3 aa ag J a2 hi ⟨ae,g,L,V,ab,op,rfl,ad,Y,aK,bz,W,af⟩ a6;obtain⟨b,au⟩:=aF (l:=pl) hi;have bC:=aZ b (x5 au);have aM:pl.drop i=b::pl.drop (i+1):=by rw[X7 hi,(x4.1 au).2]
 rw[aM] at W;unfold hS at W;refine bB Ω ?_;refine uW (λ_ _ aa ag ax=>Ext w ax/\ ∃g L,∃ (V:List (Λ)) (ab:Λ) (op:Bool),ag= .bool op/\bd fw 2 ci ax g aa L/\L.map (·.1)=(if op then V++[ab] else V)/\(op=true->ab.length<=i+1)/\L.length<=i+1/\hS (pl.drop (i+1)) V ab op=lex pl/\ ∀r,leadsTo aa r->w.heap.size<=r) ?_ ?_
 .rintro bD bF a3 a4 ax a7;rw[aL];exact a6 _ _ _ _ _ a7
 intro av aN;rw[ba cH.u cE.i Ψ (am.ext ae) au];refine aR (λv ah=>J=ah/\v= .bool (cp b)) ?_ ?_
 rotate_left
 .intro ay X;unfold cp at X;rw[be,ai];refine⟨λh=>X _ _ ⟨rfl,by rw[decide_eq_true (.inl h)]⟩,λh1=>?_⟩;rw[be,ai];refine⟨λh=>X _ _ ⟨rfl,by rw[decide_eq_true (.inr (.inl h))]⟩,λan=>?_⟩;rw[be,ai];refine⟨λh=>X _ _ ⟨rfl,by rw[decide_eq_true (.inr (.inr (.inl h)))]⟩,λa8=>?_⟩;rw[be];refine X _ _ ⟨rfl,?_⟩;congr 1;rw[V5,decide_eq_true_eq,decide_eq_true_eq];exact⟨λh=>.inr (.inr (.inr h)),λh=>by rcases h with h|h|h|h;exact absurd h h1;exact absurd h an;exact absurd h a8;exact h⟩
 rintro _ _ ⟨rfl,rfl⟩;cases I:cp b with
 |true=>
  rw[bA];rw[if_pos I] at W;exact aN _ _ _ _ _ ⟨ae,g,L,_,[],false,rfl,ad,Y,(λh=>by cases h),Ω,W,af⟩
 |false=>
  rw[aS];rw[if_neg (by rw[I];simp)] at W;refine aR (λv ah=>J=ah/\v= .bool (!bE b)) ?_ ?_
  rotate_left
  .intro ay X;unfold bE at X;rw[aP,ai];refine⟨λh=>X _ _ ⟨rfl,by rw[decide_eq_false Ω];rfl⟩,λh=>?_⟩;rw[bM];refine X _ _ ⟨rfl,?_⟩;by_cases an:126<b
   .rw[decide_eq_true an,decide_eq_false Ω];rfl
   .rw[decide_eq_false an,decide_eq_true Ω];rfl
  rintro _ _ ⟨rfl,rfl⟩;cases hw:bE b with
  |false=>
   rw[X3,bA];rw[if_neg (by rw[hw];simp)] at W;refine aR (λv ah=>J=ah/\ ∃ao,iA J v ao/\ao.map (·.1)=V/\(∀r,leadsTo v r->w.heap.size<=r)/\ ∀r,leadsTo v r->leadsTo aa r) ?_ ?_
   .rintro v _ ⟨rfl,ao,az,bb,ap,bc⟩;exact⟨ae,v,ao,(i:Int),rfl,az,by rw[bb,<-W],by rw[<-W];simp,ap,λr ac=>by obtain⟨rfl,c,aq⟩:=dV ad (bc r ac);exact⟨c,aq⟩⟩
   .intro ay X;cases op with
    |false=>
     rw[aS];rw[if_neg Ξ] at Y;exact X _ _ ⟨rfl,L,wn ad,Y,af,λ_ h=>h⟩
    |true=>
     rw[bA];rw[if_pos rfl] at Y;have aC:L.length=V.length+1:=by have:=congrArg S9 Y;simpa using this
     rw[eY e6.u ad,dP,wrap_i64 Ω Ω];refine MD (n:=V.length) Ω ad Ω λak az ap=>X _ _ ⟨rfl,_,az,?_,λr ac=>af r (ap r ac),ap⟩;rw[List.map_take,Y,List.take_left]
  |true=>
   rw[Z8,aS];rw[if_pos hw] at W;refine aR (λaa aD=>Ext w aD/\ ∃g M,∃x:gH,bd fw 2 ci aD g aa (M++[x])/\M.map (·.1)=V/\x.1=(if op then ab else[])/\(M++[x]).length<=i+1/\ ∀r,leadsTo aa r->w.heap.size<=r) ?_ ?_
   .rintro bG aD ⟨aO,bf,M,x,bg,bh,aE,bi,aQ⟩;intro aG aH _ _;have al:=bg.ext aH;have aU:(M++[x])[M.length]? =σ x:=Ξ
    have bH:(M++[x]).length=M.length+1:=Ξ
    rw[eY e6.u al,dP,wrap_i64 Ω Ω,dq (i:=M.length) Ω e6.u ci.i al Ω,aT ci.p rfl,aA (o:=M.length*2+0) Ψ (al.range aU 0 _ rfl),aL,wrap_i64 Ω Ω];obtain⟨bI,aW⟩:∃ak,aB .u8 aG ak [b]/\U x7 (V3 cH p (σ (Δ (i:Int))) (σ (Δ ((i:Int)+1))) ν) aG (λv=>v=ak):=by
     have bj:=am.ext (aO.trans aH);have:=rL (P:=x7) (low:=σ (Δ (i:Int))) (high:=σ (Δ ((i:Int)+1))) (K:=λv=>aB .u8 aG v [b]) cH.u cE.i bj (mV i _ rfl) (mW (i+1) ((i:Int)+1) Ω) Ω Ω λak aX=>by
      have e:((ints .u8 pl).drop (i*1)).take ((i+1-i)*1)=ints .u8 [b]:=by
       simp only[U6,show i+1-i=1 by omega];rw[ints,<-List.map_drop,<-List.map_take,aM];rfl
      rw[e] at aX;exact aB.of (n:=i+1-i) aX
     obtain⟨v,bk,bl⟩:=this;exact⟨v,bl,v,bk,rfl⟩
    refine MA aW.2 ?_;have bJ:x.1.length<=65536:=by
     rw[aE];cases op with
     |true=>rw[if_pos rfl];have:=aK rfl;omega
     |false=>simp
    rw[uY cH.u cE.u cU.u aW.1,uX Θ,dq (i:=M.length) Ω e6.u ci.i al Ω,aT ci.p rfl];refine oG (f:=fw) (j:=0) (a:=x) (a':=(x.1++[b],x.2)) cU.i rfl rfl al aU rfl Ω λbK bm bL aY=>?_;have e:(M++[x]).set M.length (x.1++[b],x.2)=M++[(x.1++[b],x.2)]:=by
     rw[U9 _ _ (p9 _),V7];rfl
    rw[e] at aY;refine aN _ _ _ _ _ ⟨(aO.trans aH).then bm (λr ac he=>by have:=aQ r he;omega),bf,_,V,x.1++[b],true,rfl,aY,by rw[c8,bh];rfl,λ_=>?_,by simp at bi ⊢;omega,?_,aQ⟩
    .rw[o5,aE];cases op with
     |true=>rw[if_pos rfl];have:=aK rfl;simp;omega
     |false=>simp
    .rw[<-W,aE];cases op with
     |true=>rfl
     |false=>rfl
   .intro ay X;cases op with
    |true=>
     rw[bu,Z8,aS];rw[if_pos rfl] at Y;have aC:L.length=V.length+1:=by have:=congrArg S9 Y;simpa using this
     obtain⟨M,x,rfl⟩:∃M x,L=M++[x]:=by
      have:L≠[]:=λh=>by rw[h] at aC;simp at aC
      exact⟨L.dropLast,L.getLast this,(List.dropLast_concat_getLast this).symm⟩
     rw[c8] at Y;obtain⟨bn,aI⟩:=List.append_inj' Y Ξ;refine X _ _ ⟨ae,g,M,x,ad,bn,?_,Ω,af⟩;rw[if_pos rfl];have aI:[x.1]=[ab]:=aI;exact (List.cons.inj aI).1
    |false=>
     rw[bu,X3,bA];rw[if_neg Ξ] at Y;rw[dc (cs:=#[bO [],Δ (i:Int)]) Ψ];refine hX (f:=fw) (a:=(([],(i:Int)):gH)) e6.u ci.i Ω rfl rfl λv9 bN bP bQ aJ bo=>?_;have bp:=ad.ext aJ;refine iq (f:=fw) (a:=(([],(i:Int)):gH)) e6.u ci.i rfl bp (by simpa using bo.sl) (wm _) Ω Ω λak bq bR br bt bw=>?_;have bS:=ae.size;have z9:=aJ.size;refine X _ _ ⟨(ae.trans aJ).then bw (λr ac he=>by have:=af r he;omega),bq,L,_,br,Y,rfl,Θ,λr ac=>?_⟩;rcases bt r ac with h|h
     .exact af r h
     .omega
structure wo where
 v:x1
 t:Λ
 c:Int
def nA (y:wo):List x1:=[y.v,Δ y.c]
def kf (w:x3) (g:Nat) (v:x1) (l:List (Λ×Int)):Prop:=∃L:List wo,bd nA 2 b2 w g v L/\(∀y∈L,∃gy,ap .i64 al w gy y.v y.t)/\L.map (λy=>(y.t,y.c))=l
structure iB where
 aJ:x1
 szv:x1
 o:Int
 bZ:x1
def eM (h:iB):List x1:=[h.aJ,h.szv,Δ h.o,h.bZ]
def gq (w:x3) (h:iB) (x:cm):Prop:=(∃g,ap .i64 al w g h.aJ x.scope)/\(∃g,ap .i64 al w g h.szv x.sizes)/\h.o=x.other/\ ∃g,kf w g h.bZ x.lines
def gI (w:x3) (r:Nat):Prop:=∃e c,ac w r e c/\e≠al/\e≠b2
theorem er {g:Nat} (h:ap .i64 al w g v l) (U:ae S w w') (V:∀r,S r->gI w r\/w.heap.size<=r):ap .i64 al w' g v l:=bn h U λr J I=>by
 rcases V r I with⟨e,c,W,X,_⟩|Y
 .exact b3 h W (λhe=>X he.symm) J rfl
 .obtain⟨aa,ab⟩:=bR h J;omega
theorem wp {α:Type} {f:α->List x1} {g:Nat} {L:List α} (h:bd f k e w g v L) (V:ae S w w') (W:∀r,S r->(∃J c,ac w r J c/\J≠e)\/w.heap.size<=r):bd f k e w' g v L:=h.aa V λr U I=>by
 rcases W r I with⟨J,c,X,Y⟩|ab
 .exact cL h X (λhe=>Y he.symm) U
 .obtain⟨ad,af⟩:=h.leads U;omega
theorem kf.dC {g:Nat} {l:List (Λ×Int)} (h:kf w g v l) (I:ae S w w') (J:∀r,S r->gI w r\/w.heap.size<=r):kf w' g v l:=by
 obtain⟨L,h1,U,V⟩:=h;refine⟨L,wp h1 I λr W=>(J r W).imp (λ⟨e,c,X,_,Y⟩=>⟨e,c,X,Y⟩) id,λy aa=>?_,V⟩;obtain⟨gy,hm⟩:=U y aa;exact⟨gy,er hm I J⟩
theorem gq.dC {h:iB} {x:cm} (aC:gq w h x) (I:ae S w w') (J:∀r,S r->gI w r\/w.heap.size<=r):gq w' h x:=by
 obtain⟨⟨g1,h1⟩,⟨U,V⟩,W,X,Y⟩:=aC;exact⟨⟨g1,er h1 I J⟩,⟨U,er V I J⟩,W,X,Y.dC I J⟩
theorem gq.ext {h:iB} {x:cm} (aC:gq w h x) (I:Ext w w'):gq w' h x:=aC.dC (I.aa λ_=>False) λ_ h=>h.elim
theorem gq.one {h:iB} {x:cm} (aC:gq w h x):∀u∈eM h,u.oneCell'=true:=by
 obtain⟨⟨g1,h1⟩,⟨U,I⟩,V,W,L,J,_⟩:=aC;intro u hu;simp[eM] at hu;rcases hu with rfl|rfl|rfl|rfl
 .exact h1.ls.cells.2
 .exact I.ls.cells.2
 .rfl
 .exact (eC J.sl).2
def lJ (w:x3) (I:x1) (U:List gH) (gs:Nat) (sv:x1) (L:List iB) (J:List cm):Prop:=(iA w I U/\ ∀r,leadsTo I r-> ∃c,ac w r ci c)/\bd eM 4 aY w gs sv L/\J.length=L.length/\ ∀ (i:Nat) h x,L[i]? =σ h->J[i]? =σ x->gq w h x
theorem lJ.dC {W:x1} {ab:List gH} {gs:Nat} {L:List iB} {ad:List cm} (h:lJ w W ab gs sv L ad) (V:ae S w w') (X:∀r,S r->(∃e c,ac w r e c/\e≠al/\e≠b2/\e≠ci/\¬leadsTo sv r)\/w.heap.size<=r):lJ w' W ab gs sv L ad:=by
 obtain⟨⟨h1,af⟩,ag,ai,aj⟩:=h;have hw:∀r,leadsTo W r->¬S r:=λr J I=>by
  obtain⟨c,U⟩:=af r J;rcases X r I with⟨e,ak,ah,_,_,Y,_⟩|am
  .exact Y (eZ ah U)
  .have:=U.lt;omega
 refine⟨⟨h1.aa V hw,λr J=>?_⟩,ag.aa V λr J I=>?_,ai,λi aC x hi an=>(aj i aC x hi an).dC V λr J=>(X r J).imp (λ⟨e,c,U,ao,ap,_⟩=>⟨e,c,U,ao,ap⟩) id⟩
 .obtain⟨c,U⟩:=af r J;exact⟨c,U.aa V (hw r J)⟩
 .rcases X r I with⟨e,ak,ah,_,_,_,Y⟩|am
  .exact Y J
  .obtain⟨aq,au⟩:=ag.leads J;omega
def fW (I:x1) (J U bad V big W told:Int) (sv:x1):List x1:=[I,Δ J,Δ U,Δ bad,Δ V,Δ big,Δ W,Δ told,sv]
def MG (N:Nat) (so:Option az) (I:List gH) (J bad big told:Int) (L:List iB) (U:List cm):Prop:=match so with
 |some s=>bad=0/\J≠0/\(big≠0↔s.big=true)/\(s.big=false->told=s.told)/\True/\I.map (·.1)=s.toks/\(∀t∈s.toks,Bytes t/\t.length<=65536)/\U.map (λx=>(x.sizes,x.lines))=s.shared/\L.length+I.length<=100000
 |none=>bad≠0/\L.length<=N
def bD (w:x3) (g B:Nat) (H:ah) (N:Nat) (so:Option az):Prop:=100000<=N/\ ∃w0 I J gs sv L U,∃ (W V bad X big Y told:Int),w0.heap.size=B/\ae (λr=>r=g) w0 w/\(∃c,ac w0 g br c)/\ac w g br (fW I W V bad X big Y told sv)/\lJ w0 I J gs sv L U/\(∀r,leadsTo sv r->H r)/\MG N so J V bad big told L U
theorem lJ.g {g:Nat} {J:x1} {U:List gH} {gs:Nat} {L:List iB} {V:List cm} (h:lJ w J U gs sv L V) (X:ae (λr=>r=g) w w') (Y:∃c,ac w g br c):lJ w' J U gs sv L V:=
 h.dC X λr I=>.inl (by
  have I:r=g:=I;subst I;obtain⟨c,W⟩:=Y;exact⟨_,c,W,Φ,Φ,Φ,λaa=>cL h.2.1 W Φ aa⟩)
theorem bD.new {g:Nat} {H:ah} {so:Option az} (h:bD w g B H N so) (J:ae S w w') (U:∀r,S r->B<=r):bD w' g B H N so:=by
 obtain⟨ab,w0,ac,ad,gs,sv,L,af,ag,ai,bad,aj,big,ak,told,h1,V,W,al,am,an,ao⟩:=h;have X:g<w0.heap.size:=by obtain⟨c,ap⟩:=W;exact ap.lt
 exact⟨ab,w0,ac,ad,gs,sv,L,af,ag,ai,bad,aj,big,ak,told,h1,⟨Y7 V.size J.size,λr o Y I X=>J.aX r o (V.aX r o Y I X) I λaq=>by
  have:=U r aq;have:=(o9.1 Y).1;omega⟩,W,al.aa J λI=>by have:=U g I;omega,am,an,ao⟩
theorem bD.ext {g:Nat} {H:ah} {so:Option az} (h:bD w g B H N so) (I:Ext w w'):bD w' g B H N so:=h.new (I.aa λ_=>False) λ_ h=>h.elim
theorem bD.base {g:Nat} {H:ah} {so:Option az} (h:bD w g B H N so):bD w g w.heap.size H N so:=by
 obtain⟨J,w0,U,V,gs,sv,L,W,X,Y,bad,aa,big,ab,told,h1,ac,ad,I,af,ag,ai⟩:=h;exact⟨J,w,U,V,gs,sv,L,W,X,Y,bad,aa,big,ab,told,rfl,ae.refl _ _,⟨_,I⟩,I,af.g ac ad,ag,ai⟩
theorem bD.dC {g:Nat} {H:ah} {so:Option az} (h:bD w g B H N so) (V:ae S w w') (W:∀r,S r->(∃e c,ac w r e c/\e≠al/\e≠b2/\e≠ci/\e≠br/\¬H r)\/w.heap.size<=r):bD w' g w'.heap.size H N so:=by
 obtain⟨af,w0,X,Y,gs,sv,L,ab,ag,ai,bad,aj,big,ak,told,h1,am,an,U,ao,ad,ap⟩:=h.base;have aq:lJ w X Y gs sv L ab:=ao.g am an;have J:=U.aa V λI=>by
  rcases W g I with⟨e,c,J,_,_,_,au,_⟩|aC
  .exact au (eZ J U)
  .have:=U.lt;omega
 refine⟨af,w',X,Y,gs,sv,L,ab,ag,ai,bad,aj,big,ak,told,rfl,ae.refl _ _,⟨_,J⟩,J,aq.dC V λr av=>(W r av).imp (λ⟨e,c,J,aw,ax,ay,_,aA⟩=>⟨e,c,J,aw,ax,ay,λaB=>aA (ad r aB)⟩) id,ad,ap⟩
theorem bD.lt {g:Nat} {H:ah} {so:Option az} (h:bD w g B H N so):g<B/\B<=w.heap.size:=by
 obtain⟨U,w0,V,W,gs,sv,L,X,Y,aa,bad,ab,big,ac,told,h1,I,⟨c,J⟩,_⟩:=h;have:=J.lt;have:=I.size;omega
theorem hD {g:Nat} {H:ah} {so:Option az} (h:bD w g B H N so):∃I,∃ (J U bad V big W told:Int),∃sv,ac w g br (fW I J U bad V big W told sv)/\(so.isSome=true↔bad=0):=by
 obtain⟨aa,w0,I,ab,gs,sv,L,ad,J,U,bad,V,big,W,told,h1,ae,af,Y,ag,ai,X⟩:=h;refine⟨I,J,U,bad,V,big,W,told,sv,Y,?_⟩;cases so with
 |none=>exact⟨(λh=>by cases h),λh=>absurd h X.1⟩
 |some s=>exact⟨λ_=>X.1,λ_=>rfl⟩
theorem kW {g:Nat} {H:ah} {so:Option az} (h:bD w g B H N so):U x7 (bF (Γ g)) w (λI=>U x7 (u6 br I 3) w λt45=>U x7 (u5 ag t45) w λt46=>U x7 (aE .eql ag false true t46 (Δ 0)) w K)=K (.bool so.isSome):=by
 obtain⟨V,W,X,bad,Y,big,aa,told,sv,J,hi⟩:=hD h;rw[aM br.p 3 J rfl,be];congr 2;rw[V5,decide_eq_true_eq];exact hi.symm
theorem qj {g:Nat} {H:ah} {so:Option az} (h:bD w g B H N so):U x7 (bF (Γ g)) w (λV=>U x7 (u6 br V 3) w λt45=>U x7 (u5 ag t45) w λt46=>U x7 (aE .neq ag false true t46 (Δ 0)) w K)=K (.bool (!so.isSome)):=by
 obtain⟨X,Y,aa,bad,ab,big,ac,told,sv,W,hi⟩:=hD h;rw[aM br.p 3 W rfl,bh];congr 2;cases J:so.isSome with
 |true=>have I:=hi.1 J;simp[I]
 |false=>
  have I:bad≠0:=λI=>by rw[hi.2 I] at J;cases J
  simp[I]
def oQ (w:x3) (g B:Nat) (H:ah) (N:Nat) (so:Option az) (w':x3):Prop:=ae (λr=>r=g) w w'/\bD w' g B H N so
theorem nB {g:Nat} {H:ah} {so:Option az} {e at_:Int} (h:bD w g B H N so) (he:e≠0):aj x7 mS [Γ g,Δ e,Δ at_] w λ_ w'=>oQ w g B H N ν w':=by
 refine aw func92 ?_;rw[kW h];cases so with
 |none=>rw[S0,aS];exact⟨ae.refl _ _,h⟩
 |some s=>
  rw[T9,bA];obtain⟨ab,w0,U,ad,gs,sv,L,af,W,X,bad,av,big,Y,told,h1,ai,ak,al,am,an,ao⟩:=h;rw[bQ,aT br.p rfl];refine bz (g:=g) (o:=3) ag.i rfl rfl al (by simp[fW]) λJ ap ax aq=>?_;rw[bQ,aT br.p rfl];refine bz (g:=g) (o:=4) ag.i rfl rfl aq (by simp[fW]) λV au ay I=>?_;have I:ac V g br (fW U W X e at_ big Y told sv):=I;have aa:=ap.trans au;obtain⟨_,_,_,_,_,_,_,_,aA⟩:=ao;exact⟨aa,ab,w0,U,ad,gs,sv,L,af,W,X,e,at_,big,Y,told,h1,ai.trans aa,ak,I,am,an,he,Ω⟩
theorem mj {g:Nat} {H:ah} {so:Option az} {b:Bool} {at_:Int} (h:bD w g B H N so):aj x7 rm [Γ g,.bool b,Δ at_] w λ_ w'=>oQ w g B H N (so.map (a8 b)) w':=by
 refine aw func89 ?_;obtain⟨ao,w0,U,ap,gs,sv,L,aq,W,X,bad,Y,big,aF,told,h1,au,ax,aa,ay,aA,ab⟩:=id h;refine aR (λv J=>w=J/\v= .bool (b&&decide (big=0)&&so.isSome)) ?_ ?_
 .rintro _ _ ⟨rfl,rfl⟩;rw[cz];refine⟨λaB=>?_,λaG=>⟨ae.refl _ _,ao,w0,U,ap,gs,sv,L,aq,W,X,bad,Y,big,aF,told,h1,au,ax,aa,ay,aA,?_⟩⟩
  .rw[U2,U2] at aB;obtain⟨⟨aH,aN⟩,aI⟩:=aB;rw[bQ,aT br.p rfl];refine bz (g:=g) (o:=5) ag.i rfl rfl aa (by simp[fW]) λJ aJ aO aK=>?_;rw[bQ,aT br.p rfl];refine bz (g:=g) (o:=6) ag.i rfl rfl aK (by simp[fW]) λV aL aP ad=>?_;have ad:ac V g br (fW U W X bad Y 5 at_ told sv):=ad;have aD:=aJ.trans aL;refine⟨aD,ao,w0,U,ap,gs,sv,L,aq,W,X,bad,Y,5,at_,told,h1,au.trans aD,ax,ad,ay,aA,?_⟩;cases so with
   |none=>cases aI
   |some s=>
    obtain⟨af,ak,aE,al,am⟩:=ab;exact⟨af,ak,⟨λ_=>by show (s.big||b)=true;rw[aH,Bool.or_true],λ_=>Ω⟩,λaC=>al (T7.1 aC).1,am⟩
  .cases so with
   |none=>exact ab
   |some s=>
    obtain⟨af,ak,aE,al,am⟩:=ab;refine⟨af,ak,?_,λaC=>al (T7.1 aC).1,am⟩;show big≠0↔(s.big||b)=true;cases b with
    |false=>rw[Bool.or_false];exact aE
    |true=>
     have I:big≠0:=by simpa using aG
     simp[I]
 .intro av an;cases b with
  |false=>rw[aS];exact an _ _ ⟨rfl,Ξ⟩
  |true=>
   rw[bA,aM br.p 5 aa rfl,be,ai];refine⟨λI=>?_,λI=>an _ _ ⟨rfl,by rw[decide_eq_false I];simp⟩⟩;rw[kW h];exact an _ _ ⟨rfl,by rw[decide_eq_true I];simp⟩
def i9 (so:Option az):Option (Λ×az):=so.bind dJ
theorem CN {g:Nat} {H:ah} {so:Option az} (h:bD w g B H N so):aj x7 FM [Γ g] w λv w'=>oQ w g B H N ((i9 so).map (·.2)) w'/\ ∃ (t:Λ) (n:Int),v= .agg #[bO t,Δ n]/\Bytes t/\t.length<=65536/\ ∀q,i9 so=σ q->t=q.1:=by
 have a2:=h.lt;refine aw func88 ?_;refine bN ci.i λI J bL ab ad=>?_;have h1:=h.ext ab;have zero:∀ {X:x3},oQ J g B H N ν X->ac X I ci [.string ⟨#[]⟩,Δ 0]->i9 so=ν->(U x7 (Instr.build ci #[]) X λt9=>
   ax x7 (o7 ci (Γ I) t9) X λ(_:Unit) V=>
   U x7 (do loadVar ci (<-asAddr (Γ I))) V λa6=>(λv w'=>oQ w g B H N ((i9 so).map (·.2)) w'/\ ∃ (t:Λ) (n:Int),v= .agg #[bO t,Δ n]/\Bytes t/\t.length<=65536/\ ∀q,i9 so=σ q->t=q.1) a6 V):=by
  intro X Y am au;rw[dc (cs:=#[.string ⟨#[]⟩,Δ 0]) Ψ];refine cc (vs:=[.string ⟨#[]⟩,Δ 0]) ci.i rfl rfl (by intro v aD;simp at aD;rcases aD with rfl|rfl<;>rfl) am λa7 aE bM a8=>?_;rw[fB ci.p ci.i rfl a8.range,au];have ba:=ab.size;have bP:=a2;refine⟨⟨gU ((ab.aa _).trans Y.1) aE λr W he=>?_,Y.2.new aE λr W=>?_⟩,[],0,rfl,(λb bb=>by cases bb),Ξ,λq av=>by cases av⟩
  .have he:r=I:=he;omega
  .have W:r=I:=W;omega
 rw[qj h1];cases so with
 |none=>
  rw[S0,X3,bA];exact zero ⟨ae.refl _ _,h1⟩ ad rfl
 |some s=>
 rw[T9,Z8,aS];obtain⟨bc,w0,bR,ay,gs,sv,L,aF,aG,aH,bad,aI,big,aJ,told,bd,aK,aL,af,an,bf,bg⟩:=id h1;have bh:=an.g aK aL;obtain⟨⟨ao,bS⟩,_⟩:=id bh;obtain⟨bi,aN,bj,bk,bl,aO,aP,bm,bn⟩:=id bg;rw[aM br.p 0 af rfl,CL ao,be,ai];refine⟨λaQ=>?_,λaQ=>?_⟩
 .have bo:ay=[]:=j9 Ω;have ag:s.toks=[]:=by rw[<-aO,bo];rfl
  have au:i9 (σ s)=ν:=by show dJ s=ν;unfold dJ;rw[ag]
  intro X ap _ _;have am:=af.ext ap;rw[aM br.p 2 am rfl,aM br.p 1 am rfl];refine (nB (h1.ext ap) aN).mono ?_;rintro _ a7 _ Y;have bp:=ad.lt;exact zero ⟨(ap.aa _).trans Y.1,Y.2⟩ ((ad.ext ap).aa Y.1 λhe=>by have he:I=g:=he;omega) au
 .obtain⟨x,ak,rfl⟩:∃x l,ay=x::l:=by
   cases ay with
   |nil=>exact absurd rfl aQ
   |cons x l=>exact⟨x,l,rfl⟩
  have ag:s.toks=x.1::ak.map (·.1):=by rw[<-aO];rfl
  have bq:i9 (σ s)=σ (x.1,{s with toks:=ak.map (·.1)}):=by show dJ s=_;unfold dJ;rw[ag]
  have aR:=aP x.1 (by rw[ag];exact .head _);rw[aM br.p 0 af rfl];refine CM ao λb o bt=>?_;rw[bI ci.p ci.i rfl bt];refine bN ci.i λaU bT bU bu bw=>?_;refine cc (vs:=fw x) ci.i rfl rfl (wm x) bw λbx bB bV aV=>?_;have aq:Ext J bx:=bu.put bB Ω;have aW:=af.ext aq;rw[aM br.p 0 aW rfl];refine MC (ao.aa (aq.aa λ_=>False) λ_ _ h=>h) λaA aX bC=>?_;have aY:=aX J ao;rw[bQ,aT br.p rfl];refine bz (g:=g) (o:=0) e6.i (eC aY).1 (eC aY).2 aW (by simp[fW]) λal aB bW aC=>?_;have aC:ac al g br (fW aA aG aH bad aI big aJ told sv):=aC;have bp:=af.lt;have bX:=aV.lt;have bY:=ad.lt;have ba:=ab.size;have bE:ac al aU ci (fw x):=aV.aa aB λhe=>by have he:aU=g:=he;omega
  rw[bI ci.p ci.i rfl bE.range];have bF:ac al I ci [.string ⟨#[]⟩,Δ 0]:=(ac.ext ad aq).aa aB λhe=>by have he:I=g:=he;omega
  refine cc (vs:=fw x) ci.i rfl rfl (wm x) bF λbZ aZ b0 bG=>?_;rw[fB ci.p ci.i rfl bG.range];have a1:ae (λr=>r=g) J al:=(aq.aa _).trans aB;rw[bq];refine⟨⟨gU ((ab.aa _).trans a1) aZ λr W he=>?_,?_⟩,x.1,x.2,rfl,aR.1,aR.2,λq av=>by cases av;rfl⟩
  .have he:r=I:=he;omega
  .have bH:lJ w0 aA ak gs sv L aF:=⟨⟨aX w0 an.1.1,λr W=>an.1.2 r (bC r W)⟩,an.2⟩;have bJ:bD al g B H N (σ {s with toks:=ak.map (·.1)}):=⟨bc,w0,aA,ak,gs,sv,L,aF,aG,aH,bad,aI,big,aJ,told,bd,aK.trans a1,aL,aC,bH,bf,bi,aN,bj,bk,bl,rfl,λt bK=>aP t (by rw[ag];exact .tail _ bK),bm,by simp at bn;omega⟩;refine bJ.new aZ λr W=>?_;have W:r=I:=W;omega
theorem MH {lo hi:Int} {so:Option az}:a7 lo hi so=match i9 so with
  |none=>ν
  |some (w,s)=>match fR w with
   |none=>ν
   |some n=>if lo<=n/\n<=hi then σ (n,s) else ν:=by
 cases so with
 |none=>rfl
 |some s=>rfl
theorem kg {g:Nat} {H:ah} {so:Option az} {lo hi:Int} (h:bD w g B H N so):aj x7 li [Γ g,Δ lo,Δ hi] w λv w'=>oQ w g B H N ((a7 lo hi so).map (·.2)) w'/\ ∃n at_:Int,v= .tuple #[Δ n,Δ at_]/\(∀q,a7 lo hi so=σ q->n=q.1)/\(a7 lo hi so=ν->n=0):=by
 have aZ:=h.lt;refine aw func90 ?_;refine (CN h).mono ?_;rintro _ J _ ⟨⟨ap,h1⟩,t,at_,rfl,aF,a1,aq⟩;have a2:=h1.lt;refine bN ci.i λaG V a6 aH aI=>?_;refine cc (vs:=[bO t,Δ at_]) ci.i rfl rfl (by intro v au;simp at au;rcases au with rfl|rfl<;>rfl) aI λaJ aK a8 ax=>?_;have ay:Ext J aJ:=aH.put aK Ω;have aL:=h1.ext ay;rw[aD ci.p 0 ax rfl];refine (Mz aF Ω).mono ?_;rintro _ af _ ⟨rfl,ag⟩;have ak:=aL.ext ag;have aA:=ax.ext ag;have aM:=ay.trans ag;have ba:=ap.size;obtain⟨n,e,aN,al,aO⟩:∃n e:Int,jZ t= .tuple #[Δ n,Δ e]/\(∀m,fR t=σ m->n=m/\e=0)/\(fR t=ν->e≠0):=by
  unfold jZ;cases fR t with
  |none=>exact⟨0,4,rfl,(λm hm=>by cases hm),λ_=>Ω⟩
  |some m=>exact⟨m,0,rfl,(λm hm=>by cases hm;exact⟨rfl,rfl⟩),λh=>by cases h⟩
 rw[aN,bf,bg];have I:=MH (lo:=lo) (hi:=hi) (so:=so);have aB:ae (λr=>r=g) w af:=ap.trans (aM.aa _);refine db (λY=>ae (λr=>r=g) af Y/\bD Y g B H N ((a7 lo hi so).map (·.2))) ?_ ?_
 .rintro Y ⟨ab,X⟩;rw[qj X];cases ac:a7 lo hi so with
  |none=>
   rw[ac] at X;rw[Option.map_none,S0,X3,bA];exact⟨⟨aB.trans ab,X⟩,0,0,rfl,(λq ac=>by cases ac),λ_=>rfl⟩
  |some q=>
   rw[ac] at X I;rw[Z2,T9,Z8,aS];intro bb am _ _;have aQ:=(aA.aa ab λhe=>by have he:aG=g:=he;omega).ext am;rw[aD ci.p 1 aQ rfl];refine⟨⟨(aB.trans ab).trans (am.aa _),X.ext am⟩,n,at_,rfl,λbc aT=>?_,λh=>by cases h⟩;cases aT;cases W:i9 so with
   |none=>rw[W] at I;cases I
   |some p=>
    obtain⟨bp,an⟩:=p;have ao:=aq (bp,an) W;subst ao;rw[W] at I;simp only at I;cases U:fR t with
    |none=>rw[U] at I;cases I
    |some m=>
     rw[U] at I;simp only at I;split at I
     .cases I;exact (al m U).1
     .cases I
 .intro av aE;refine aR (λv Y=>af=Y/\ ∃c:Bool,v= .bool c/\(c=true->a7 lo hi so=ν)/\(c=false->(a7 lo hi so).map (·.2)=(i9 so).map (·.2))) ?_ ?_
  .rintro _ _ ⟨rfl,c,rfl,aU,aV⟩;rw[cz];refine⟨λh=>?_,λh=>aE _ ⟨ae.refl _ _,by rw[aV h];exact ak⟩⟩;rw[aD ci.p 1 aA rfl];refine (nB ak Ω).mono ?_;rintro _ Y _ ⟨ab,X⟩;exact aE _ ⟨ab,by rw[aU h];exact X⟩
  .intro bd ad;rw[kW ak];cases W:i9 so with
   |none=>
    rw[W] at I;simp only at I;rw[Option.map_none,S0,aS];exact ad _ _ ⟨rfl,false,rfl,(λh=>by cases h),λ_=>by rw[I,W];rfl⟩
   |some p=>
    obtain⟨bp,an⟩:=p;have ao:=aq (bp,an) W;subst ao;rw[W] at I;simp only at I;rw[Z2,T9,bA,bh,ai];refine⟨λhe=>?_,λhe=>?_⟩
    .refine ad _ _ ⟨rfl,true,rfl,λ_=>?_,λh=>by cases h⟩;cases U:fR t with
     |none=>rw[I,U]
     |some m=>exact absurd (al m U).2 he
    .have aW:e=0:=Y4.1 he;cases U:fR t with
     |none=>exact absurd aW (aO U)
     |some m=>
      rw[U] at I;simp only at I;have aX:=(al m U).1;subst aX;rw[aP,ai];refine⟨λaY=>ad _ _ ⟨rfl,true,rfl,λ_=>by rw[I,if_neg Ω],λh=>by cases h⟩,λaY=>?_⟩;rw[bM];refine ad _ _ ⟨rfl,_,rfl,λaC=>?_,λaC=>?_⟩
      .rw[I,if_neg (by have:=of_decide_eq_true aC;omega)]
      .rw[I,if_pos (by have:=of_decide_eq_false aC;omega),W];rfl
theorem wq {bb bv:x1} {a b:Λ} (I:aB .i64 w bb a) (ab:aB .i64 w bv b):aj x7 rp [bb,bv] w λv w'=>v= .bool (decide (a=b))/\Ext w w':=by
 refine aw func149 ?_;rw[aV aq.u I,aV aq.u ab,bh,ai];refine⟨λh=>⟨by rw[decide_eq_false];intro he;rw[he] at h;exact h rfl,Ext.refl _⟩,λh=>?_⟩;have ac:a.length=b.length:=by have:=Y4.1 h;omega
 rw[aV aq.u I];refine bU.range a.length (λi _ J=>Ext w J/\a.take i=b.take i) I.le ⟨Ext.refl _,rfl⟩ ?_ ?_
 .rintro i _ J k hi ⟨Y,U⟩ hk;obtain⟨x,W⟩:=aF (l:=a) hi;obtain⟨y,aa⟩:=aF (l:=b) (i:=i) Ω;refine bB Ω ?_;intro V ad _ _;have X:=Y.trans ad;rw[ba aq.u al.i Ψ (I.ext X) W,ba aq.u al.i Ψ (ab.ext X) aa,bh,ai];refine⟨λae=>⟨by rw[decide_eq_false];intro he;rw[he,aa] at W;exact ae (c9 W).symm,X⟩,λhe=>?_⟩;rw[aL];refine hk _ _ ⟨X,?_⟩;rw[r8,r8,U,W,aa,Y4.1 he]
 .rintro _ J k ⟨Y,U⟩;rw[aP,ai];refine⟨λh=>Ω,λ_=>⟨?_,Y⟩⟩;rw[o6,ac,o6] at U;rw[decide_eq_true U]
def gJ (w:x3) (B I:Nat) (x:cm):Prop:=∃aJ szv bZ g1 J U,ac w I aY [aJ,szv,Δ x.other,bZ]/\ap .i64 al w g1 aJ x.scope/\ap .i64 al w J szv x.sizes/\kf w U bZ x.lines/\(∀r,leads aJ r\/leads szv r->B<=r)/\(∀r,leads aJ r->¬leads szv r)/\B<=I
def CO (w:x3) (r:Nat):Prop:=(∃e c,ac w r e c/\e≠al/\e≠b2/\e≠aY)\/w.heap.size<=r
theorem gJ.dC {U:Nat} {x:cm} (h:gJ w B U x) (J:ae S w w') (X:∀r,S r->CO w r):gJ w' B U x:=by
 obtain⟨aJ,szv,bZ,g1,Y,ab,h1,ac,ad,af,ag,ah,ai⟩:=h;have V:∀r,S r->gI w r\/w.heap.size<=r:=λr aj=>(X r aj).imp (λ⟨e,c,W,ak,al,_⟩=>⟨e,c,W,ak,al⟩) id;refine⟨aJ,szv,bZ,g1,Y,ab,h1.aa J λI=>?_,er ac J V,er ad J V,af.dC J V,ag,ah,ai⟩;rcases X U I with⟨e,c,W,_,_,am⟩|an
 .exact am (eZ W h1)
 .have:=h1.lt;omega
theorem gJ.ext {x:cm} (h:gJ w B I x) (J:Ext w w'):gJ w' B I x:=h.dC (J.aa λ_=>False) λ_ h=>h.elim
theorem kh {g:Nat} {H:ah} {so:Option az} (h:bD w g B H N so):∀r,r=g->CO w r:=λr I=>by
 subst I;obtain⟨U,V,W,bad,X,big,Y,told,sv,J,_⟩:=hD h;exact .inl ⟨_,_,J,Φ,Φ,Φ⟩
def gu (g B:Nat):ah:=λr=>r=g\/B<=r
theorem MI {n:Int} {acc:Λ} {s:az}:cI (λacc s=>match bc 0 (n-1) s with
 |none=>ν
 |some (v,s)=>if v∈acc then ν else σ (v,s)) (k+1) acc s=match bc 0 (n-1) s with
  |none=>ν
  |some (v,s')=>if v∈acc then ν else cI (λacc s=>match bc 0 (n-1) s with
 |none=>ν
 |some (v,s)=>if v∈acc then ν else σ (v,s)) k (acc++[v]) s':=by
 rw[cI];cases bc 0 (n-1) s with
 |none=>rfl
 |some q=>
  obtain⟨v,s'⟩:=q;simp only;by_cases I:v∈acc
  .rw[if_pos I,if_pos I]
  .rw[if_neg I,if_neg I]
def CP (n:Int) (k:Nat) (acc:Λ) (s:az):Option (Λ×az):=cI (λacc s=>match bc 0 (n-1) s with
 |none=>ν
 |some (v,s)=>if v∈acc then ν else σ (v,s)) k acc s
theorem CQ {g W ar:Nat} {H:ah} {s:az} {so:Option az} {aM:x1} {bl bm:x3->Prop} (aC:bD w g B H N so) (cp:so=σ s\/(so=ν/\ar=0)) (cq:gJ w B W ⟨[],[],0,[]⟩) (cr:∀c,ac w W aY c->c[3]? =σ (.slice ν 0 0)) (b0:ap .i64 al w gz aM all) (cu:∀r,leads aM r->r<B) (dG:all.length<=100001) (dH:ar<=4611686018427387904) (bo:so=σ s->s.toks.length<=100000)
  (aZ:so=σ s-> ∀w' x,ae (gu g B) w w'->eQ all.length ar s=ν->bD w' g B H N ν->gJ w' B W x->bl w')
  (cw:so=ν->bm w)
  (bp:so=σ s-> ∀w' scope s',ae (gu g B) w w'->eQ all.length ar s=σ (scope,s')->bD w' g B H N (σ s')->gJ w' B W ⟨scope,scope.map λv=>all.getD v.toNat 0,0,[]⟩->(∀c,ac w' W aY c->c[3]? =σ (.slice ν 0 0))->bm w'):
  ce (Δ 0) w λi X k=>
   cg (α:=x1->x3->Prop) (λ(cz:x1) (an:x3)=>
    Split cz (U x7 (W3 #[aq] ag #[aM]) an λt53=>
   U x7 (aE .sub al false true t53 (Δ 1)) an λcA=>
   aj x7 li [Γ g,(Δ 0),cA] an λt55 Y=>
   U x7 (Z1 t55 0) Y λbq=>
   U x7 (Z1 t55 1) Y λcB=>
   U x7 (bF (Γ g)) Y λcC=>
   U x7 (u6 br cC 3) Y λcD=>
   U x7 (u5 ag cD) Y λcE=>
   U x7 (aE .neq ag false true cE (Δ 0)) Y λcF=>
   Split cF (bl Y)
    (U x7 (u6 aY (Γ W) 0) Y λcG=>
   U x7 (u5 aq cG) Y λb1=>
   U x7 (W3 #[aq] ag #[b1]) Y λt66=>
   ce (Δ 0) Y λbt ad cH=>
    U x7 (aE .lss ag false false bt t66) ad λcI=>
    Split cI (U x7 (j5 aq b1 bt) ad λcJ=>
    U x7 (u5 al cJ) ad λt70=>
    U x7 (aE .eql al false false t70 bq) ad λcK=>
    Split cK (aj x7 mS [Γ g,(Δ 4),cB] ad λt76 bu=>bl bu)
     (U x7 (aE .add ag false true bt (Δ 1)) ad λcM=>
    cH cM ad))
     (U x7 (u6 aY (Γ W) 0) ad λcN=>
   U x7 (u5 aq cN) ad λcO=>
   ax x7 (Z9 aq 1 #[(0,bq)]) ad λcP aN=>
   ax x7 (b8 #[aq,aq] aq #[cO,cP]) aN λcQ bw=>
   U x7 (u6 aY (Γ W) 0) bw λcR=>
   ax x7 (o7 aq cR cQ) bw λ(_:Unit) aw=>
   eh aw λaA=>
   U x7 (u6 aY (Γ W) 1) aA λbx=>
   U x7 (u5 aq bx) aA λb2=>
   U x7 (j5 aq aM bq) aA λcS=>
   U x7 (u5 al cS) aA λcT=>
   ax x7 (Z9 aq 1 #[(0,cT)]) aA λcU aK=>
    (Ext aA aK\/ct x7 (u5 aq bx) b2 aK/\ct x7 (u6 aY (Γ W) 1) bx aK/\True)/\
   ax x7 (b8 #[aq,aq] aq #[b2,cU]) aK λcV bC=>
    U x7 (u6 aY (Γ W) 1) bC λcW=>
    ax x7 (o7 aq cW cV) bC λ(_:Unit) aB=>
     U x7 (aE .add al false true i (Δ 1)) aB λcX=>
   k cX aB)))
     (bm an)) λb4=>
   U x7 (aE .lss al false false i (Δ (ar:Int))) X λcY=>
   Split cY (U x7 (bF (Γ g)) X λcZ=>
   U x7 (u6 br cZ 3) X λc0=>
   U x7 (u5 ag c0) X λt45=>
   U x7 (aE .eql ag false true t45 (Δ 0)) X λt46=>
   b4 t46 X)
    (b4 (.bool false) X):=by
 have dI:=aC.lt;rcases cp with rfl|⟨rfl,rfl⟩
 rotate_left
 .refine ce.range 0 (λ_ J=>w=J) Ω rfl (λi J k hi=>Ω) ?_;rintro _ k rfl;refine aR (λv an=>w=an/\v= .bool false) ?_ ?_
  .rintro _ _ ⟨rfl,rfl⟩;rw[aS];exact cw rfl
  .intro av aO;rw[aP,ai];exact⟨λh=>Ω,λ_=>aO _ _ ⟨rfl,rfl⟩⟩
 have h:=aC;have bo:=bo rfl;have aZ:=aZ rfl;have bp:=bp rfl;refine ce.range ar (λi X=>∃scope ao,ae (gu g B) w X/\bD X g B H N (σ ao)/\gJ X B W ⟨scope,scope.map λv=>all.getD v.toNat 0,0,[]⟩/\scope.length=i/\scope.length+ao.toks.length<=100000/\eQ all.length ar s=CP all.length (ar-i) scope ao/\ ∀c,ac X W aY c->c[3]? =σ (.slice ν 0 0)) Ω ⟨[],s,ae.refl _ _,h,cq,rfl,by simpa using bo,rfl,cr⟩ ?_ ?_
 rotate_left
 .rintro X k ⟨scope,ao,a1,ay,a2,b5,c1,ab,bE⟩;refine aR (λv an=>X=an/\v= .bool false) ?_ ?_
  .rintro _ _ ⟨rfl,rfl⟩;rw[aS];rw[V7] at ab;exact bp X scope ao a1 ab ay a2 bE
  .intro av aO;rw[aP,ai];exact⟨λh=>Ω,λ_=>aO _ _ ⟨rfl,rfl⟩⟩
 rintro i X k hi ⟨scope,ao,a1,ay,a2,b5,c1,ab,bE⟩ hk;refine aR (λv an=>X=an/\v= .bool true) ?_ ?_
 rotate_left
 .intro av aO;refine bB Ω ?_;rw[kW ay];exact aO _ _ ⟨rfl,rfl⟩
 rintro _ _ ⟨rfl,rfl⟩;rw[bA];have b6:∀ {w':x3},ae (gu g B) w w'->ap .i64 al w' gz aM all:=λc2=>bn b0 c2 λr V I=>by
  rcases I with rfl|I
  .obtain⟨c3,af,aQ,bad,c4,big,c5,told,sv,ak,_⟩:=hD h;exact b3 b0 ak Φ V rfl
  .have:=cu r V;omega
 rw[aV aq.u (b6 a1).ls,dP,wrap_i64 Ω Ω];refine (kg ay).mono ?_;rintro _ Y _ ⟨⟨bG,am⟩,n,at_,rfl,bH,c6⟩;rw[bf,bg,qj am];have bI:=a2.dC bG (kh ay);have bJ:ae (gu g B) w Y:=a1.trans (bG.mono λr _ h=>.inl h);have c7:=MI (n:=(all.length:Int)) (k:=ar-(i+1)) (acc:=scope) (s:=ao);have da:ar-i=(ar-(i+1))+1:=Ω
 rw[da] at ab;unfold CP at ab;rw[c7] at ab;have db:a7 0 ((all.length:Int)-1) (σ ao)=bc 0 ((all.length:Int)-1) ao:=rfl;rw[db] at am bH c6 ⊢;cases a6:bc 0 ((all.length:Int)-1) ao with
 |none=>
  rw[a6] at am ab;rw[Option.map_none,S0,X3,bA];exact aZ Y _ bJ ab am bI
 |some q=>
  obtain⟨v,bK⟩:=q;rw[a6] at am ab bH;have dc:n=v:=bH _ rfl;subst dc;have dJ:=(hx a6).1;have dK:=(dw a6).1;simp only at ab;rw[Z2,T9,Z8,aS];have am:bD Y g B H N (σ bK):=am;obtain⟨aJ,szv,bZ,g1,dd,bL,f1,f2,f3,f4,f5,f6,f7⟩:=id bI;rw[aD aY.p 0 f1 rfl,aV aq.u f2.ls];have dL:scope.length<=100000:=Ω
  refine ce.range scope.length (λj ad=>Y=ad/\n∉scope.take j) Ω ⟨rfl,Ξ⟩ ?_ ?_
  .rintro j _ de df ⟨rfl,a8⟩ dg;obtain⟨u,hu⟩:=aF (l:=scope) df;rw[aP,ai];refine⟨λ_=>?_,λh=>by simp only at h;omega⟩;rw[ba aq.u al.i Ψ f2.ls hu,be,ai];refine⟨λhe=>?_,λdh=>?_⟩
   .refine (nB am Ω).mono ?_;rintro _ bu _ ⟨b7,di⟩;rw[if_pos (by rw[<-he];exact x5 hu)] at ab;exact aZ bu _ (bJ.trans (b7.mono λr _ h=>.inl h)) ab di (bI.dC b7 (kh am))
   .rw[aL];refine dg _ ⟨rfl,?_⟩;rw[r8,hu];intro hm;rcases l7.1 hm with hm|hm
    .exact a8 hm
    .simp at hm;exact dh hm.symm
  .rintro _ de ⟨rfl,a8⟩;rw[o6] at a8;rw[aP,ai];refine⟨λh=>by simp only at h;omega,λ_=>?_⟩;rw[if_neg a8] at ab;rw[aD aY.p 0 f1 rfl];refine en aq.u al.i rfl λdM dN aN dO au dj=>?_;have dQ:=am.lt;refine hc aq.u al.i rfl (f2.ext au) dj.ls Θ Θ λaG bM bw bb dk b9=>?_;have bd:=f1.ext au;have f113:=bd.aa b9 λhe=>b3 (f2.ext au) bd Φ he rfl;rw[aT aY.p rfl];refine bz (g:=W) (o:=0) aq.i bb.ls.cells.1 bb.ls.cells.2 f113 Ξ λaw ca dR bh=>?_;have bh:ac aw W aY [aG,szv,Δ 0,bZ]:=bh;intro aA bN _ _;have aU:ae (λr=>leads aJ r\/r=W) aN aw:=(b9.mono λr _ h=>.inl h).trans (ca.mono λr _ h=>.inr h);have cb:∀r,(leads aJ r\/r=W)->gu g B r:=λr V=>.inr (V.elim (λV=>f5 r (.inl V)) λV=>V▸f7);have cc:ae (gu g B) w aw:=(bJ.trans (au.aa _)).trans (aU.mono λr _ V=>cb r V);have dl:ae (gu g B) w aA:=cc.trans (bN.aa _);have dm:ap .i64 al aw dd szv _:=bn (f3.ext au) aU λr V I=>by
    rcases I with I|rfl
    .exact f6 r I V
    .exact b3 (f3.ext au) bd Φ V rfl
   have dn:ap .i64 al aw bM aG (scope++[n]):=bn bb ca λr V he=>by
    have he:r=W:=he;subst he;exact b3 bb f113 Φ V rfl
   have dp:∀r,(leads aJ r\/r=W)->(∃c,ac aN r al c)\/ ∃c,ac aN r aY c:=λr V=>by
    rcases V with V|rfl
    .obtain⟨af,_⟩:=bR f2 V;obtain⟨_,⟨aW,_⟩|⟨_,cs,aW,ak,_⟩⟩:=f2.ext au
     .rw[aW] at V;obtain⟨a,dq,c,af,aQ⟩:=V;cases af
     .exact .inl ⟨cs,af▸ak⟩
    .exact .inr ⟨_,bd⟩
   have dr:kf aw bL bZ []:=by
    obtain⟨L,aH,ds,bO⟩:=f4.dC (au.aa λ_=>False) λ_ h=>h.elim;have bP:L=[]:=List.map_eq_nil_iff.1 bO;subst bP;refine⟨[],aH.aa aU λr V I=>?_,λy bQ=>(by cases bQ),rfl⟩;rcases dp r I with⟨c,ak⟩|⟨c,ak⟩
    .exact cL aH ak Φ V
    .exact cL aH ak Φ V
   have dt:bD aw g B H N (σ bK):=(am.ext au).new aU λr V=>by
    rcases cb r V with rfl|h
    .rcases V with V|V
     .exact f5 _ (.inl V)
     .exact V▸f7
    .exact h
   rw[aD aY.p 1 (bh.ext bN) rfl];have du:all[n.toNat]? =σ (all.getD n.toNat 0):=by rw[u4,x6 Ω];rfl
   rw[fP (y:=n) (i:=n.toNat) Ω aq.u al.i Ψ (b6 dl).ls du];refine en aq.u al.i rfl λdS dT aK dU cd dv=>?_;refine⟨.inl cd,?_⟩;have aI:=bN.trans cd;have f316:=dm.ext aI;have ch:(scope.map λv=>all.getD v.toNat 0).length=scope.length:=u7 _;refine hc aq.u al.i rfl f316 dv.ls (by simp at ch ⊢;omega) (by simp at ch ⊢;omega) λbS dx bC bi ci cj=>?_;have bj:=bh.ext aI;have ck:=bj.aa cj λhe=>b3 f316 bj Φ he rfl;rw[aT aY.p rfl];refine bz (g:=W) (o:=1) aq.i bi.ls.cells.1 bi.ls.cells.2 ck Ξ λaB cl dV aX=>?_;have aX:ac aB W aY [aG,bS,Δ 0,bZ]:=aX;rw[aL];have bk:ae (λr=>leads szv r\/r=W) aK aB:=(cj.mono λr _ h=>.inl h).trans (cl.mono λr _ h=>.inr h);have cm:∀r,(leads szv r\/r=W)->B<=r:=λr V=>V.elim (λV=>f5 r (.inr V)) λV=>V▸f7;have bT:=dn.ext aI;have dW:=au.size;have dX:=aU.size;have bU:∀r,leads aG r->B<=r/\¬leads szv r:=λr V=>by
    rcases dk r V with h|h
    .exact⟨f5 r (.inl h),f6 r h⟩
    .exact⟨Ω,λbV=>by obtain⟨af,aQ⟩:=bR f3 bV;omega⟩
   have dy:ap .i64 al aB bM aG (scope++[n]):=bn bT bk λr V I=>by
    rcases I with I|rfl
    .exact (bU r V).2 I
    .exact b3 bT bj Φ V rfl
   have dz:=bn bi cl λr V he=>by
    have he:r=W:=he;subst he;exact b3 bi ck Φ V rfl
   have dA:kf aB bL bZ []:=by
    obtain⟨L,aH,ds,bO⟩:=dr.dC (aI.aa λ_=>False) λ_ h=>h.elim;have bP:L=[]:=List.map_eq_nil_iff.1 bO;subst bP;refine⟨[],aH.aa bk λr V I=>?_,λy bQ=>(by cases bQ),rfl⟩;rcases I with I|rfl
    .obtain⟨af,_⟩:=bR f316 I;obtain⟨_,⟨aW,_⟩|⟨_,cs,aW,ak,_⟩⟩:=f316
     .rw[aW] at I;obtain⟨a,dq,c,af,aQ⟩:=I;cases af
     .exact cL aH (af▸ak) Φ V
    .exact cL aH bj Φ V
   refine hk _ ⟨scope++[n],bK,((cc.trans (aI.aa _)).trans (bk.mono λr _ V=>.inr (cm r V))),(dt.ext aI).new bk cm,⟨aG,bS,bZ,bM,dx,bL,aX,dy,by rw[c8];exact dz,dA,λr V=>?_,λr V bV=>?_,f7⟩,by rw[o5,b5];rfl,by rw[o5];simp;omega,ab,λc bW=>?_⟩
   .rcases V with V|V
    .exact (bU r V).1
    .rcases ci r V with h|h
     .exact f5 r (.inr h)
     .have:=aI.size;omega
   .rcases ci r bV with h|h
    .exact (bU r V).2 h
    .obtain⟨af,aQ⟩:=bR bT V;omega
   .have dD:c=[aG,bS,Δ 0,bZ]:=by
     unfold ac at bW aX;rw[aX] at bW;have:=(Obj.cells.inj (c9 bW)).1;exact (Array.toList_inj.2 this).symm
    have dE:bZ= .slice ν 0 0:=by
     obtain⟨dY,dZ,ea,_,_,_,bX,_⟩:=a2;have cn:=bE _ bX;have bY:=bX.aa bG λhe=>by
      have he:W=g:=he;obtain⟨c3,af,aQ,bad,c4,big,c5,told,sv,ak,_⟩:=hD ay;subst he;exact absurd (eZ ak bX) Φ
     unfold ac at bY f1;rw[f1] at bY;have dF:=Array.toList_inj.2 (Obj.cells.inj (c9 bY)).1;have ay:=congrArg (λl=>l[3]?) dF;simp at ay;simp at cn;rw[ay,cn]
    rw[dD,dE];rfl
theorem MJ {ac:x1->x3->Prop} (h:aB .i64 w sv l) (h1:∀z∈l,1<=z) (ao:∀c:Int,(4096<c↔de l=true)->ac (Δ c) w):
  bU (Δ 1) (Δ 0) w λad Y I ap=>
   U x7 (aE .lss ag false false Y (Δ (l.length:Int))) I λau=>
   Split au (cg (α:=x1->x3->Prop) (λ(aw:x1) (ae:x3)=>
    U x7 (aE .add ag false true Y (Δ 1)) ae λax=>
    ap aw ax ae) λaf=>
   U x7 (j5 aq sv Y) I λay=>
   U x7 (u5 al ay) I λah=>
   cg (α:=x1->x3->Prop) (λ(az:x1) (W:x3)=>
    U x7 (aE .mul al false false ad az) W λaj=>
    U x7 (aE .gtr al false true aj (Δ 4096)) W λaA=>
    Split aA (af (Δ 4097) W)
     (af aj W)) λak=>
   U x7 (aE .gtr al false true ah (Δ 4096)) I λaD=>
   Split aD (ak (Δ 4097) I)
    (ak ah I))
    (ac ad I):=by
 refine bU.range l.length (λi c J=>w=J/\ ∃p:Int,p=aG ((l.take i).map λk=>min k 4097)/\1<=p/\c=Δ (if 4096<p then 4097 else p)) h.le ⟨rfl,1,by simp[aG],Ω,by rw[if_neg Ω]⟩ ?_ ?_
 .rintro i _ _ aH hi ⟨rfl,p,X,aI,rfl⟩ aJ;obtain⟨z,aa⟩:=aF (l:=l) hi;have aM:=h1 z (x5 aa);have e:aG ((l.take (i+1)).map λk=>min k 4097)=p*min z 4097:=by
   rw[X,r8,aa,l9,c8,U4,List.map_nil,AK]
  have aN:p*1<=p*min z 4097:=Int.mul_le_mul_of_nonneg_left Ω Ω;refine bB Ω ?_;refine aR (λv V=>w=V/\v=Δ (if 4096<p*min z 4097 then 4097 else p*min z 4097)) ?_ ?_
  .rintro _ _ ⟨rfl,rfl⟩;rw[aL];exact aJ _ _ ⟨rfl,_,e.symm,Ω,rfl⟩
  intro av ab;rw[ba aq.u al.i Ψ h aa];refine aR (λv V=>w=V/\v=Δ (min z 4097)) ?_ ?_
  .rintro _ _ ⟨rfl,rfl⟩;rw[gh];by_cases am:4096<p
   .rw[if_pos am];have aK:(4097:Int)*1<=4097*min z 4097:=Int.mul_le_mul_of_nonneg_left Ω Ω;rw[wrap_i64 Ω Ω,bM,ai];refine⟨λ_=>ab _ _ ⟨rfl,by rw[if_pos Ω]⟩,λaO=>Ω⟩
   .rw[if_neg am];have aK:p*min z 4097<=4096*4097:=by
     have aQ:=Int.mul_le_mul_of_nonneg_right (show p<=4096 by omega) (show 0<=min z 4097 by omega);have aS:=Int.mul_le_mul_of_nonneg_left (show min z 4097<=4097 by omega) (show (0:Int)<=4096 by omega);omega
    rw[wrap_i64 Ω Ω,bM,ai];exact⟨λaC=>ab _ _ ⟨rfl,by rw[if_pos aC]⟩,λaC=>ab _ _ ⟨rfl,by rw[if_neg aC]⟩⟩
  .intro aT an;rw[bM,ai];exact⟨λaC=>an _ _ ⟨rfl,by congr 1;omega⟩,λaC=>an _ _ ⟨rfl,by congr 1;omega⟩⟩
 .rintro _ _ aH ⟨rfl,p,X,aI,rfl⟩;rw[o6] at X;rw[aP,ai];refine⟨λh=>Ω,λ_=>ao _ ?_⟩;unfold de;rw[<-X,decide_eq_true_eq];split
  .exact⟨λ_=>Ω,λ_=>Ω⟩
  .exact Iff.rfl
theorem MK {g an:Nat} {H:ah} {so:Option az} {szv:x1} {aO:x3->Prop} (h:bD w g B H N so) (ak:ap .i64 al w gz szv sizes) (bb:∀z∈sizes,1<=z/\z<=ao) (bQ:sizes.length<=100001)
  (aH:ac w an b2 [.slice ν 0 0,Δ 0]) (bc:B<=an)
  (aP:∀t w' aI gt,t.length=sizes.length->ae (λr=>r=g\/r=an\/w.heap.size<=r) w w'->ac w' an b2 [aI,Δ 0]->ap .i64 al w' gt aI t->(∀r,leads aI r->w.heap.size<=r)->bD w' g B H N ((eR sizes [] so).map (·.2))->(∀q,eR sizes [] so=σ q->t=q.1)->aO w'):
  ce (Δ 0) w λaJ ab bd=>
      U x7 (aE .lss ag false false aJ (Δ (sizes.length:Int))) ab λbe=>
      Split be (U x7 (j5 aq szv aJ) ab λbh=>
      U x7 (u5 al bh) ab λbi=>
      U x7 (aE .sub al false true bi (Δ 1)) ab λbj=>
      aj x7 li [Γ g,(Δ 0),bj] ab λaQ am=>
      U x7 (Z1 aQ 0) am λbk=>
      U x7 (Z1 aQ 1) am λbS=>
      U x7 (u6 b2 (Γ an) 0) am λbl=>
      U x7 (u5 aq bl) am λbm=>
      ax x7 (Z9 aq 1 #[(0,bk)]) am λbo bp=>
      ax x7 (b8 #[aq,aq] aq #[bm,bo]) bp λbq aR=>
      U x7 (u6 b2 (Γ an) 0) aR λbt=>
      ax x7 (o7 aq bt bq) aR λ(_:Unit) aS=>
      U x7 (aE .add ag false true aJ (Δ 1)) aS λbu=>
      bd bu aS)
       (aO ab):=by
 have bT:=aH.lt;have bU:=h.lt;refine ce.range sizes.length (λj J=>∃t aI gt X,t.length=j/\ae (λr=>r=g\/r=an\/w.heap.size<=r) w J/\ac J an b2 [aI,Δ 0]/\ap .i64 al J gt aI t/\(∀r,leads aI r->w.heap.size<=r)/\bD J g B H N X/\eR sizes [] so=eR (sizes.drop j) t X) ak.ls.le
  ⟨[],_,0,so,rfl,ae.refl _ _,aH,ap.nil _ _ _ _,(λr W=>by obtain⟨a,n,c,ay,aK⟩:=W;cases ay),h,rfl⟩ ?_ ?_
 rotate_left
 .rintro J bw ⟨t,aI,gt,X,aA,ad,aB,au,af,av,he⟩;refine b6 Ω ?_;rw[List.drop_length] at he;cases X with
  |none=>
   have he:eR sizes [] so=ν:=he;exact aP t J aI gt aA ad aB au af (by rw[he];exact av) (λq Y=>by rw[he] at Y;cases Y)
  |some X=>
   have he:eR sizes [] so=σ (t,X):=he;exact aP t J aI gt aA ad aB au af (by rw[he];exact av) (λq Y=>by rw[he] at Y;cases Y;rfl)
 rintro j J bw aU ⟨t,aI,gt,X,aA,ad,aB,au,af,av,he⟩ bx;obtain⟨z,aM⟩:=aF (l:=sizes) aU;have bA:=bb z (x5 aM);have bV:z<=4611686018427387904:=bA.2;have bC:ap .i64 al J gz szv sizes:=bn ak ad λr W I=>by
  rcases I with rfl|rfl|I
  .obtain⟨bE,ay,aK,bad,bF,big,bG,told,sv,aw,_⟩:=hD h;exact b3 ak aw Φ W rfl
  .exact b3 ak aH Φ W rfl
  .obtain⟨ay,aK⟩:=bR ak W;omega
 refine bB Ω ?_;rw[ba aq.u al.i Ψ bC.ls aM,dP,wrap_i64 Ω Ω];refine (kg av).mono ?_;rintro _ V _ ⟨⟨aC,bH⟩,n,at_,rfl,bI,bW⟩;rw[bf,bg];have bJ:an≠g:=Ω
 have aV:=aB.aa aC λhe=>bJ he;have bK:∃c,ac J g br c:=by obtain⟨bE,ay,aK,bad,bF,big,bG,told,sv,aw,_⟩:=hD av;exact⟨_,aw⟩
 have aW:ap .i64 al V gt aI t:=bn au aC λr W he=>by
  have he:r=g:=he;obtain⟨c,aw⟩:=bK;exact b3 au aw Φ W he
 rw[aD b2.p 0 aV rfl];refine en aq.u al.i rfl λa3 bX bL bY ai bM=>?_;refine hc aq.u al.i rfl (aW.ext ai) bM.ls Θ Θ λaX bN bZ aG bO aY=>?_;have aZ:=aV.ext ai;have a1:=aZ.aa aY λhe=>b3 (aW.ext ai) aZ Φ he rfl;rw[aT b2.p rfl];refine bz (g:=an) (o:=0) aq.i aG.ls.cells.1 aG.ls.cells.2 a1 Ξ λa2 a6 b0 aN=>?_;have aN:ac a2 an b2 [aX,Δ 0]:=aN;rw[aL];have a8:ae (λr=>leads aI r\/r=an) bL a2:=(aY.mono λr _ h=>.inl h).trans (a6.mono λr _ h=>.inr h);have b1:=ad.size;have b4:=aC.size;have z3:=ai.size;refine bx _ ⟨t++[n],aX,bN,(a7 0 (z-1) X).map (·.2),by simp[aA],?_,aN,bn aG a6 λr W he=>?_,λr W=>?_,?_,?_⟩
 .refine (ad.trans (aC.mono λr _ h=>.inl h)).trans ((ai.aa _).trans (a8.mono λr _ h=>?_));exact h.elim (λh=>.inr (.inr (af r h))) λh=>.inr (.inl h)
 .have he:r=an:=he;subst he;exact b3 aG a1 Φ W rfl
 .rcases bO r W with h|h
  .exact af r h
  .omega
 .refine (bH.ext ai).new a8 λr W=>?_;rcases W with W|rfl
  .have:=af r W;omega
  .exact bc
 .rw[he];have bP:sizes.drop j=z::sizes.drop (j+1):=by rw[X7 aU,(x4.1 aM).2]
  rw[bP,Bn];cases Y:a7 0 (z-1) X with
  |none=>rfl
  |some q=>
   obtain⟨v,b5⟩:=q;have:=bI _ Y;subst this;rfl
theorem wr {g:Nat} {t:Λ} {c:Int} (h:ap .i64 al w g v t):∀u∈nA ⟨v,t,c⟩,u.oneCell'=true:=by
 intro u hu;simp[nA] at hu;rcases hu with rfl|rfl
 .exact h.ls.cells.2
 .rfl
def ML (sizes:Λ) (cnt i:Nat) (s0:az) (A:List (Λ×Int)) (so:Option az):Prop:=(∃s,so=σ s/\cI (dK sizes) cnt [] s0=cI (dK sizes) (cnt-i) A s/\A.length+s.toks.length<=100000)\/(so=ν/\cI (dK sizes) cnt [] s0=ν)
theorem MM {g g1 bo aB:Nat} {H:ah} {s0:az} {aJ szv bZ:x1} {scope:Λ} {o n:Int} {a1:List (Λ×Int)} {ci:x3->Prop} (h:bD w g B H N (σ s0)) (f1:ac w ab aY [aJ,szv,Δ o,bZ]) (f2:ap .i64 al w g1 aJ scope) (f3:ap .i64 al w bo szv sizes) (f4:kf w aB bZ a1)
  (f5:∀r,leads aJ r\/leads szv r->B<=r) (f6:∀r,leads aJ r->¬leads szv r) (f7:B<=ab) (c7:∀z∈sizes,1<=z/\z<=ao) (c9:sizes.length<=100001) (e9:n<=4611686018427387904) (bM:0<n->a1=[]/\ ∀r,¬leadsTo bZ r) (da:s0.toks.length<=100000)
  (cj:∀w' A bO,ae (gu g B) w w'->gJ w' B ab ⟨scope,sizes,o,A⟩->bD w' g B H N bO->(n<=0->A=a1/\bO=σ s0)->(0<n->bO=(cI (dK sizes) n.toNat [] s0).map (·.2)/\ ∀q,cI (dK sizes) n.toNat [] s0=σ q->A=q.1)->ci w'):
  ce (Δ 0) w λck aK dc=>
     cg (α:=x1->x3->Prop) (λ(dd:x1) (cl:x3)=>
      Split dd (ax x7 (R2 b2 true (.tuple #[])) cl λx aC=>
     U x7 (u6 aY (Γ ab) 1) aC λde=>
     U x7 (u5 aq de) aC λcm=>
     U x7 (W3 #[aq] ag #[cm]) aC λdf=>
     ce (Δ 0) aC λbP aM dg=>
      U x7 (aE .lss ag false false bP df) aM λdh=>
      Split dh (U x7 (j5 aq cm bP) aM λdi=>
      U x7 (u5 al di) aM λdj=>
      U x7 (aE .sub al false true dj (Δ 1)) aM λdk=>
      aj x7 li [Γ g,(Δ 0),dk] aM λcn a2=>
      U x7 (Z1 cn 0) a2 λdl=>
      U x7 (Z1 cn 1) a2 λfa=>
      U x7 (u6 b2 x 0) a2 λdm=>
      U x7 (u5 aq dm) a2 λdn=>
      ax x7 (Z9 aq 1 #[(0,dl)]) a2 λdp dr=>
      ax x7 (b8 #[aq,aq] aq #[dn,dp]) dr λds cp=>
      U x7 (u6 b2 x 0) cp λdt=>
      ax x7 (o7 aq dt ds) cp λ(_:Unit) cq=>
      U x7 (aE .add ag false true bP (Δ 1)) cq λdu=>
      dg du cq)
       (aj x7 li [Γ g,(Δ 0),(Δ 4611686018427387904)] aM λcr X=>
     U x7 (Z1 cr 0) X λdv=>
     U x7 (Z1 cr 1) X λdx=>
     U x7 (u6 aY (Γ ab) 3) X λdy=>
     U x7 (u5 dR dy) X λct=>
     U x7 (W3 #[dR] ag #[ct]) X λdz=>
     ce (Δ 0) X λbQ ad dA=>
      U x7 (aE .lss ag false false bQ dz) ad λdD=>
      Split dD (cg (α:=x3->Prop) (λ(aW:x3)=>
       U x7 (aE .add ag false true bQ (Δ 1)) aW λdE=>
       dA dE aW) λcu=>
      U x7 (j5 dR ct bQ) ad λdF=>
      U x7 (u5 b2 dF) ad λdG=>
      ax x7 (R2 b2 true (.tuple #[])) ad λy cw=>
      ax x7 (o7 b2 y dG) cw λ(_:Unit) af=>
      cg (α:=x1->x3->Prop) (λ(dH:x1) (a6:x3)=>
       Split dH (aj x7 mS [Γ g,(Δ 4),dx] a6 λfb cz=>
        cu cz)
        (cu a6)) λcA=>
      U x7 (bF (Γ g)) af λdI=>
      U x7 (u6 br dI 3) af λdJ=>
      U x7 (u5 ag dJ) af λdL=>
      U x7 (aE .eql ag false true dL (Δ 0)) af λdM=>
      Split dM (U x7 (u6 b2 x 0) af λdN=>
       U x7 (u5 aq dN) af λdO=>
      U x7 (u6 b2 y 0) af λdP=>
      U x7 (u5 aq dP) af λdQ=>
      aj x7 rp [dO,dQ] af λdS cB=>
      cA dS cB)
       (cA (.bool false) af))
       (U x7 (u6 b2 x 1) ad λdT=>
     ax x7 (o7 al dT dv) ad λ(_:Unit) aG=>
     U x7 (u6 aY (Γ ab) 3) aG λdU=>
     U x7 (u5 dR dU) aG λdW=>
     U x7 (u5 b2 x) aG λdX=>
     ax x7 (Z9 dR 1 #[(0,dX)]) aG λdY bq=>
     ax x7 (b8 #[dR,dR] dR #[dW,dY]) bq λdZ bR=>
     U x7 (u6 aY (Γ ab) 3) bR λea=>
     ax x7 (o7 dR ea dZ) bR λ(_:Unit) aH=>
     U x7 (aE .add al false true ck (Δ 1)) aH λeb=>
     dc eb aH)))
       (ci cl)) λcC=>
     U x7 (aE .lss al false false ck (Δ n)) aK λec=>
     Split ec (U x7 (bF (Γ g)) aK λed=>
     U x7 (u6 br ed 3) aK λee=>
     U x7 (u5 ag ee) aK λef=>
     U x7 (aE .eql ag false true ef (Δ 0)) aK λeg=>
     cC eg aK)
      (cC (.bool false) aK):=by
 have eh:=h.lt;refine ce.range n.toNat (λi J=>∃A so bZ aB,ae (gu g B) w J/\ac J ab aY [aJ,szv,Δ o,bZ]/\ap .i64 al J g1 aJ scope/\ap .i64 al J bo szv sizes/\kf J aB bZ A/\(0<n-> ∀r,leadsTo bZ r->B<=r)/\bD J g B H N so/\(n<=0->A=a1/\so=σ s0)/\(0<n->ML sizes n.toNat i s0 A so)) Ω
  ⟨a1,σ s0,bZ,aB,ae.refl _ _,f1,f2,f3,f4,λaw r W=>absurd W ((bM aw).2 r),h,λ_=>⟨rfl,rfl⟩,λaw=>.inl ⟨s0,rfl,by rw[(bM aw).1];rfl,by rw[(bM aw).1];simpa using da⟩⟩ ?_ ?_
 rotate_left
 .rintro J k ⟨A,so,bZ,aB,a8,aX,bt,ba,bb,bS,aN,cD,Y⟩;refine aR (λv V=>J=V/\v= .bool false) ?_ ?_
  .rintro _ _ ⟨rfl,rfl⟩;rw[aS];refine cj J A so a8 ⟨aJ,szv,bZ,g1,bo,aB,aX,bt,ba,bb,f5,f6,f7⟩ aN cD λaw=>?_;rcases Y aw with⟨s,rfl,he,_⟩|⟨rfl,he⟩
   .rw[V7] at he;rw[he];exact⟨rfl,λq ak=>by cases ak;rfl⟩
   .rw[he];exact⟨rfl,λq ak=>by cases ak⟩
  .intro av bT;rw[aP,ai];exact⟨λh=>Ω,λ_=>bT _ _ ⟨rfl,rfl⟩⟩
 rintro i J k hi ⟨A,so,bZ,aB,a8,aX,bt,ba,bb,bS,aN,cD,Y⟩ hk;have aw:0<n:=Ω
 refine aR (λv V=>J=V/\v= .bool so.isSome) ?_ ?_
 rotate_left
 .intro av bT;refine bB Ω ?_;rw[kW aN];exact bT _ _ ⟨rfl,rfl⟩
 rintro _ _ ⟨rfl,rfl⟩;rcases Y aw with⟨et,rfl,he,fc⟩|⟨rfl,he⟩
 rotate_left
 .rw[S0,aS];refine cj J A ν a8 ⟨aJ,szv,bZ,g1,bo,aB,aX,bt,ba,bb,f5,f6,f7⟩ aN (λh=>Ω) λ_=>?_;rw[he];exact⟨rfl,λq ak=>by cases ak⟩
 rw[T9,bA];have fd:=aN.lt;refine bN b2.i λan aC fe bd bU=>?_;have bU:ac aC an b2 [.slice ν 0 0,Δ 0]:=bU;have ei:=aX.ext bd;have cE:=ba.ext bd;have ff:=bd.size;have fg:=aX.lt;rw[aT aY.p rfl,aA Ψ (ei.cell (o:=0+1) rfl),aV aq.u cE.ls];refine MK (aN.ext bd) cE c7 c9 bU Ω λt aM aI gt fh ej ek em en eo ep=>?_;refine (kg eo).mono ?_;rintro _ X _ ⟨⟨bV,bu⟩,c,at_,rfl,es,fi⟩;rw[bf,bg];have bW:an≠g:=Ω
 have cF:ab≠g:=by have:=h.lt;omega
 have eu:ae (λr=>r=g\/r=an\/aC.heap.size<=r) aC X:=ej.trans (bV.mono λr _ h=>.inl h);have cG:∀ {S:Nat->Prop},(∀r,S r->r=g\/J.heap.size<=r)-> ∀r,S r->gI J r\/J.heap.size<=r:=λev r W=>(ev r W).imp (λhe=>by
  subst he;obtain⟨cH,be,bh,bad,cJ,big,cK,told,sv,Y,_⟩:=hD aN;exact⟨_,_,Y,Φ,Φ⟩) id
 have bw:ae (λr=>r=g\/J.heap.size<=r) J X:=(bd.aa _).trans (eu.mono λr _ h=>h.elim .inl λh=>h.elim (λh=>.inr Ω) λh=>.inr Ω);have cM:ac X ab aY [aJ,szv,Δ o,bZ]:=aX.aa bw λh=>h.elim cF λh=>Ω
 obtain⟨L,bx,cN,bX⟩:=bb.dC bw (cG λr W=>W);have cO:ac X an b2 [aI,Δ 0]:=ek.aa bV λhe=>bW he;have cP:ap .i64 al X gt aI t:=bn em bV λr W he=>by
  have he:r=g:=he;have:=en r W;omega
 have fj:L.length=A.length:=by rw[<-bX,u7]
 rw[aD aY.p 3 cM rfl,eY dR.u bx];generalize cQ:(a7 0 4611686018427387904 (V6 (λx=>x.snd) (eR sizes [] (σ et)))).map (·.2)=aO at bu;have fk:=bw.size;refine ce.range L.length (λj ad=>ae (λr=>r=g) X ad/\bD ad g B H N (if t∈(L.take j).map (·.t) then ν else aO)) bx.le ⟨ae.refl _ _,by simpa using bu⟩ ?_ ?_
 .rintro j ad ew cR ⟨am,bi⟩ ey;obtain⟨y,au⟩:=aF (l:=L) cR;have bY:∃c,ac X g br c:=by obtain⟨cH,be,bh,bad,cJ,big,cK,told,sv,Y,_⟩:=hD bu;exact⟨_,Y⟩
  have aQ:∀r,r=g->gI X r\/X.heap.size<=r:=λr W=>by
   subst W;obtain⟨c,Y⟩:=bY;exact .inl ⟨_,c,Y,Φ,Φ⟩
  have bC:=wp bx am λr W=>(aQ r W).imp (λ⟨e,c,Y,_,bj⟩=>⟨e,c,Y,bj⟩) id;obtain⟨fm,ez⟩:=cN y (x5 au);have cS:=er ez am aQ;have b0:=er cP am aQ;have bE:=cO.aa am λhe=>bW he;refine bB Ω ?_;have b1:t∈(L.take (j+1)).map (·.t)↔t∈(L.take j).map (·.t)\/t=y.t:=by
   rw[r8,au,l9,c8,l7];simp
  refine db (λaW=>ae (λr=>r=g) X aW/\bD aW g B H N (if t∈(L.take (j+1)).map (·.t) then ν else aO)) ?_ ?_
  .rintro aW eA;rw[aL];exact ey _ eA
  intro fo cT;rw[dq rfl dR.u b2.i bC cR,bI b2.p b2.i rfl (bC.range au)];refine bN b2.i λgy cw fp eB eD=>?_;refine cc (vs:=nA y) b2.i rfl rfl (wr cS) eD λaf eE fq eF=>?_;have bk:Ext ad af:=eB.put eE Ω;have cU:=bi.ext bk;have cV:ae (λr=>r=g) X af:=am.trans (bk.aa _);refine aR (λv a6=>∃b:Bool,v= .bool b/\Ext af a6/\(b=true->t=y.t)/\(b=false->t≠y.t\/(if t∈(L.take j).map (·.t) then ν else aO)=ν)) ?_ ?_
  .rintro _ a6 ⟨b,rfl,b4,eH,eI⟩;have aU:=cU.ext b4;cases b with
   |true=>
    rw[bA];refine (nB aU Ω).mono ?_;rintro _ cz _ ⟨eJ,eK⟩;refine cT _ ⟨(cV.trans (b4.aa _)).trans eJ,?_⟩;rw[if_pos (b1.2 (.inr (eH rfl)))];exact eK
   |false=>
    rw[aS];refine cT _ ⟨cV.trans (b4.aa _),?_⟩;by_cases hm:t∈(L.take j).map (·.t)
    .rw[if_pos (b1.2 (.inl hm))];rw[if_pos hm] at aU;exact aU
    .rw[if_neg hm] at aU;rcases eI rfl with bj|cW
     .rw[if_neg (λh=>(b1.1 h).elim hm bj)];exact aU
     .rw[if_neg hm] at cW;rw[cW] at aU ⊢;split<;>exact aU
  .intro fs cX;rw[kW cU];cases bl:(if t∈(L.take j).map (·.t) then ν else aO) with
   |none=>
    rw[S0,aS];exact cX _ _ ⟨false,rfl,Ext.refl _,(λh=>by cases h),λ_=>.inr bl⟩
   |some ft=>
    rw[T9,bA];have eL:=bE.ext bk;rw[aD b2.p 0 eL rfl,aD b2.p 0 eF rfl];refine (wq (b0.ls.ext bk) (cS.ls.ext bk)).mono ?_;rintro _ cB _ ⟨rfl,eM⟩;exact cX _ _ ⟨_,rfl,eM,λh=>of_decide_eq_true h,λh=>.inl (of_decide_eq_false h)⟩
 .rintro ad ew ⟨am,bi⟩;rw[o6] at bi;have eN:L.map (·.t)=A.map (·.1):=by rw[<-bX,S1];rfl
  rw[eN] at bi;have bY:∃c,ac X g br c:=by obtain⟨cH,be,bh,bad,cJ,big,cK,told,sv,Y,_⟩:=hD bu;exact⟨_,Y⟩
  have aQ:∀r,r=g->gI X r\/X.heap.size<=r:=λr W=>by
   subst W;obtain⟨c,Y⟩:=bY;exact .inl ⟨_,c,Y,Φ,Φ⟩
  have cY:∀r,(r=g\/J.heap.size<=r)->gI J r\/J.heap.size<=r:=cG λr W=>W;have bG:ae (λr=>r=g\/J.heap.size<=r) J ad:=bw.trans (am.mono λr _ h=>.inl h);have eO:=cM.aa am λhe=>cF he;have eP:=er bt bG cY;have eQ:=er ba bG cY;have bC:=wp bx am λr W=>(aQ r W).imp (λ⟨e,c,Y,_,bj⟩=>⟨e,c,Y,bj⟩) id;have eS:∀y∈L,∃gy,ap .i64 al ad gy y.v y.t:=λy au=>by
   obtain⟨gy,hm⟩:=cN y au;exact⟨gy,er hm am aQ⟩
  have b0:=er cP am aQ;have bE:=cO.aa am λhe=>bW he;refine b6 Ω ?_;rw[aT b2.p rfl];refine bz (g:=an) (o:=1) al.i rfl rfl bE Ξ λaG aZ fu b5=>?_;have b5:ac aG an b2 [aI,Δ c]:=b5;have eU:ab≠an:=Ω
  have cZ:=eO.aa aZ λhe=>eU he;have fv:J.heap.size<=an:=Ω
  have eV:∀r,leadsTo bZ r->r≠an:=λr W=>by obtain⟨be,bh⟩:=bb.choose_spec.1.leads W;omega
  have eW:=bC.aa aZ λr W he=>eV r W he;rw[aD aY.p 3 cZ rfl,bI b2.p b2.i rfl b5.range];let a:wo:=⟨aI,t,c⟩;have bH:∀ {v:x1} {bm:Nat} {l:Λ},ap .i64 al ad bm v l->ap .i64 al aG bm v l:=λhm=>bn hm aZ λr W he=>by
   have he:r=an:=he;exact b3 hm bE Φ W he
  have c0:=bH b0;refine hX (f:=nA) (a:=a) dR.u b2.i Ω rfl rfl λv45 fw bq fx ay eX=>?_;have b7:=eW.ext ay;refine iq (f:=nA) (a:=a) dR.u b2.i rfl b7 (by simpa using eX.sl) (wr (c0.ext ay)) Ω Ω λb9 c1 bR bJ eZ c2=>?_;have ca:=cZ.ext ay;have c3:=ca.aa c2 λhe=>cL b7 ca Φ he;rw[aT aY.p rfl];refine bz (g:=ab) (o:=3) dR.i (eC bJ.sl).1 (eC bJ.sl).2 c3 Ξ λaH c4 fy cb=>?_;have cb:ac aH ab aY [aJ,szv,Δ o,b9]:=cb;rw[aL];have cd:ae (λr=>leadsTo bZ r\/r=ab) bq aH:=(c2.mono λr _ h=>.inl h).trans (c4.mono λr _ h=>.inr h);have bK:∀ {v:x1} {bm:Nat} {l:Λ},ap .i64 al bq bm v l->ap .i64 al aH bm v l:=λhm=>bn hm cd λr W I=>by
   rcases I with I|rfl
   .obtain⟨rfl,fz,Y⟩:=dV b7 I;exact b3 hm Y Φ W rfl
   .exact b3 hm ca Φ W rfl
  have c5:∀r,(leadsTo bZ r\/r=ab)->B<=r:=λr W=>W.elim (λW=>bS aw r W) λW=>W▸f7;have e0:bD aG g B H N (if t∈A.map (·.1) then ν else aO):=bi.new aZ λr W=>by
   have W:r=an:=W;omega
  have e1:=(e0.ext ay).new cd c5;have e2:ae (gu g B) J aH:=((bG.mono λr _ h=>h.elim .inl λh=>.inr Ω).trans (aZ.mono λr _ h=>.inr (by have h:r=an:=h;omega))).trans ((ay.aa _).trans (cd.mono λr _ h=>.inr (c5 r h)));have e3:kf aH c1 b9 (A++[(t,c)]):=⟨L++[a],bJ.aa c4 λr W he=>by
   have he:r=ab:=he;subst he;exact cL bJ c3 Φ W,λy au=>by
   rcases l7.1 au with au|au
   .obtain⟨gy,hm⟩:=eS y au;exact⟨gy,bK ((bH hm).ext ay)⟩
   .rw[n9.1 au];exact⟨gt,bK (c0.ext ay)⟩,by rw[c8,bX];rfl⟩
  refine hk _ ⟨A++[(t,c)],_,b9,c1,a8.trans e2,cb,bK ((bH eP).ext ay),bK ((bH eQ).ext ay),e3,λ_ r W=>?_,e1,λh=>Ω,λ_=>?_⟩
  .rcases eZ r W with h|h
   .exact bS aw r h
   .have:=a8.size;have:=bG.size;have:=aZ.size;have:=ay.size;have:=eh.2;omega
  .have e4:n.toNat-i=(n.toNat-(i+1))+1:=Ω
   rw[e4] at he;obtain⟨e5,e6⟩:=Br (sizes:=sizes) (acc:=A) (st:=et) (t:=t) (c:=c) ep es;cases ak:a7 0 ao ((eR sizes [] (σ et)).map (·.2)) with
   |none=>
    have bl:aO=ν:=by rw[<-cQ];show (a7 0 ao _).map _=ν;rw[ak];rfl
    rw[oB (e5 ak)] at he;refine .inr ⟨?_,he⟩;rw[bl];split<;>rfl
   |some q=>
    have bl:aO=σ q.2:=by rw[<-cQ];show (a7 0 ao _).map _=_;rw[ak];rfl
    have bL:=e6 q ak;by_cases hm:t∈A.map (·.1)
    .rw[if_pos hm] at bL;rw[oB bL] at he;exact .inr ⟨by rw[if_pos hm],he⟩
    .rw[if_neg hm] at bL;rw[r1 bL] at he;refine .inl ⟨q.2,by rw[if_neg hm,bl],he,?_⟩;cases ch:eR sizes [] (σ et) with
     |none=>rw[ch] at ak;cases ak
     |some p=>
      rw[ch] at ak;obtain⟨bp,c6⟩:=p;have be:ik sizes [] et=σ (bp,c6):=ch;obtain⟨u,_,_,e7⟩:=vl be;have bh:bc 0 ao c6=σ q:=ak;obtain⟨fA,fB⟩:=q;have e8:=dw bh;have:=e7.1;have:=e8.1;rw[o5];simp only[S4];omega
def jz (s:az):Prop:=s.big=false->0<=s.told/\s.told<=16384
def jA (neg:Bool) (ar:Nat) (scope sizes:Λ) (J:Option az):Option (cm×az):=match a7 0 ao (J.map (a8 (decide (6<ar)||de sizes))) with
 |none=>ν
 |some (other,U)=>match dL sizes U with
  |none=>ν
  |some (lines,I)=>σ (⟨scope,sizes,other,lines⟩,if neg=true then {I with shared:=I.shared++[(sizes,lines)]} else I)
theorem CR {s s':az} {l:List (Λ×Int)} (h:dL sizes s=σ (l,s')):s'.toks.length+1<=s.toks.length/\s'.shared=s.shared:=by
 unfold dL at h;cases J:bc (-ao) ao s with
 |none=>rw[J] at h;cases h
 |some q=>
  obtain⟨n,I⟩:=q;have V:=dw J;have ab:=V.1;have W:=V.eqs.2.2;rw[J] at h;simp only at h;split at h
  .split at h
   .cases h
   .split at h
    .cases h;exact⟨Ω,W⟩
    .cases h
  .have h':cI (dK sizes) n.toNat [] (a8 (decide (16384<min (I.told+n) ao)) {I with told:=min (I.told+n) ao})=σ (l,s'):=h;have:=j1 (f:=dK sizes) (λ_ t=>t.toks.length<=I.toks.length/\t.shared=I.shared) (λacc t a bp X aa=>by
    obtain⟨_,_,_,Y⟩:=oy aa;have h1:=Y.1;have U:=Y.eqs.2.2;exact⟨by have:=X.1;omega,U.trans X.2⟩) n.toNat [] (a8 (decide (16384<min (I.told+n) ao)) {I with told:=min (I.told+n) ao}) l s' ⟨p9 _,rfl⟩ h'
   obtain⟨⟨h1,U⟩,_⟩:=this;exact⟨Ω,U.trans W⟩
theorem sP {g:Nat} {H:ah} {s:az} (h:bD w g B H N (σ s)):s.toks.length<=100000/\s.shared.length+s.toks.length<=100000:=by
 obtain⟨V,w0,W,X,gs,sv,L,Y,aa,ab,bad,ac,big,ad,told,h1,ae,af,ag,J,ai,aj,ak,al,am,an,I,ao,U,ap⟩:=h;have aq:=J.2.2.1;refine⟨by rw[<-I,u7];omega,by rw[<-I,<-U,u7,u7];omega⟩
def CS (w:x3) (g V B:Nat) (H:ah) (J:Option (cm×az)) (v:x1) (w':x3):Prop:=∃U x I,ae (λr=>r=g\/H r\/r=V\/B<=r) w w'/\v= .agg (eM U).toArray/\gq w' U x/\bD w' g w'.heap.size I 100001 (J.map (·.2))/\(∀q,J=σ q->x=q.1)/\(∀r,H r->I r)/\(∀r,I r->H r\/B<=r)/\ ∀r,I r->r<w'.heap.size
theorem CT {g X af ar:Nat} {H:ah} {an:Option az} {neg:Bool} {dU:Int} {scope:Λ} {Q:x1->x3->Prop}
  (h:bD w g B H 100000 an) (dW:gJ w B X ⟨scope,sizes,0,[]⟩) (fF:∀c,ac w X aY c->c[3]? =σ (.slice ν 0 0)) (dX:∀z∈sizes,1<=z/\z<=ao) (fG:sizes.length<=100001) (dY:ac w af aY [.slice ν 0 0,.slice ν 0 0,Δ 0,.slice ν 0 0]) (jN:af<B) (cU:¬H af) (cV:∀r,H r->r<B) (fH:∀aU,an=σ aU->jz aU)
  (fI:∀v w',CS w g af B H (jA neg ar scope sizes an) v w'->Q v w'):
  U x7 (u6 aY (Γ X) 1) w λfJ=>
  U x7 (u5 aq fJ) w λdZ=>
  U x7 (W3 #[aq] ag #[dZ]) w λfK=>
  bU (Δ 1) (Δ 0) w λea df a6 fL=>
   U x7 (aE .lss ag false false df fK) a6 λfM=>
   Split fM (cg (α:=x1->x3->Prop) (λ(fN:x1) (eb:x3)=>
    U x7 (aE .add ag false true df (Δ 1)) eb λfO=>
    fL fN fO eb) λec=>
   U x7 (j5 aq dZ df) a6 λfP=>
   U x7 (u5 al fP) a6 λed=>
   cg (α:=x1->x3->Prop) (λ(fQ:x1) (cW:x3)=>
    U x7 (aE .mul al false false ea fQ) cW λee=>
    U x7 (aE .gtr al false true ee (Δ 4096)) cW λfR=>
    Split fR (ec (Δ 4097) cW)
     (ec ee cW)) λef=>
   U x7 (aE .gtr al false true ed (Δ 4096)) a6 λfS=>
   Split fS (ef (Δ 4097) a6)
    (ef ed a6))
    (cg (α:=x3->Prop) (λ(cd:x3)=>
   aj x7 li [(Γ g),(Δ 0),(Δ 4611686018427387904)] cd λeg bV=>
   U x7 (Z1 eg 0) bV λfU=>
   U x7 (Z1 eg 1) bV λjO=>
   U x7 (u6 aY (Γ X) 2) bV λfV=>
   ax x7 (o7 al fV fU) bV λ(_:Unit) bx=>
   aj x7 li [(Γ g),(Δ (-4611686018427387904)),(Δ 4611686018427387904)] bx λei ak=>
   U x7 (Z1 ei 0) ak λbW=>
   U x7 (Z1 ei 1) ak λej=>
   U x7 (bF (Γ g)) ak λfX=>
   U x7 (u6 br fX 3) ak λfY=>
   U x7 (u5 ag fY) ak λfZ=>
   U x7 (aE .neq ag false true fZ (Δ 0)) ak λgb=>
   Split gb (U x7 (u5 aY (Γ X)) ak λch=>
    ax x7 (o7 aY (Γ af) ch) ak λ(_:Unit) bB=>
    U x7 (do loadVar aY (<-asAddr (Γ af))) bB λci=>
 Q ci bB)
    (cg (α:=x3->Prop) (λ(bj:x3)=>
    ce (Δ 0) bj λek bK gc=>
     cg (α:=x1->x3->Prop) (λ(gd:x1) (cj:x3)=>
      Split gd (ax x7 (R2 b2 true (.tuple #[])) cj λx cX=>
     U x7 (u6 aY (Γ X) 1) cX λgf=>
     U x7 (u5 aq gf) cX λem=>
     U x7 (W3 #[aq] ag #[em]) cX λgg=>
     ce (Δ 0) cX λdg bX gh=>
      U x7 (aE .lss ag false false dg gg) bX λgi=>
      Split gi (U x7 (j5 aq em dg) bX λgj=>
      U x7 (u5 al gj) bX λgk=>
      U x7 (aE .sub al false true gk (Δ 1)) bX λgl=>
      aj x7 li [(Γ g),(Δ 0),gl] bX λen ck=>
      U x7 (Z1 en 0) ck λgm=>
      U x7 (Z1 en 1) ck λjP=>
      U x7 (u6 b2 x 0) ck λgn=>
      U x7 (u5 aq gn) ck λgp=>
      ax x7 (Z9 aq 1 #[(0,gm)]) ck λgv gw=>
      ax x7 (b8 #[aq,aq] aq #[gp,gv]) gw λgx eo=>
      U x7 (u6 b2 x 0) eo λgA=>
      ax x7 (o7 aq gA gx) eo λ(_:Unit) ep=>
      U x7 (aE .add ag false true dg (Δ 1)) ep λgB=>
      gh gB ep)
       (aj x7 li [(Γ g),(Δ 0),(Δ 4611686018427387904)] bX λes bY=>
     U x7 (Z1 es 0) bY λgC=>
     U x7 (Z1 es 1) bY λgD=>
     U x7 (u6 aY (Γ X) 3) bY λgE=>
     U x7 (u5 dR gE) bY λet=>
     U x7 (W3 #[dR] ag #[et]) bY λgF=>
     ce (Δ 0) bY λdh b0 gH=>
      U x7 (aE .lss ag false false dh gF) b0 λgK=>
      Split gK (cg (α:=x3->Prop) (λ(eu:x3)=>
       U x7 (aE .add ag false true dh (Δ 1)) eu λgL=>
       gH gL eu) λev=>
      U x7 (j5 dR et dh) b0 λgM=>
      U x7 (u5 b2 gM) b0 λgN=>
      ax x7 (R2 b2 true (.tuple #[])) b0 λy gO=>
      ax x7 (o7 b2 y gN) gO λ(_:Unit) ba=>
      cg (α:=x1->x3->Prop) (λ(gP:x1) (ew:x3)=>
       Split gP (aj x7 mS [(Γ g),(Δ 4),gD] ew λjQ gQ=>
        ev gQ)
        (ev ew)) λey=>
      U x7 (bF (Γ g)) ba λgR=>
      U x7 (u6 br gR 3) ba λgS=>
      U x7 (u5 ag gS) ba λgT=>
      U x7 (aE .eql ag false true gT (Δ 0)) ba λgU=>
      Split gU (U x7 (u6 b2 x 0) ba λgV=>
       U x7 (u5 aq gV) ba λgW=>
      U x7 (u6 b2 y 0) ba λgX=>
      U x7 (u5 aq gX) ba λgY=>
      aj x7 rp [gW,gY] ba λgZ g0=>
      ey gZ g0)
       (ey (.bool false) ba))
       (U x7 (u6 b2 x 1) b0 λg2=>
     ax x7 (o7 al g2 gC) b0 λ(_:Unit) cY=>
     U x7 (u6 aY (Γ X) 3) cY λg3=>
     U x7 (u5 dR g3) cY λg4=>
     U x7 (u5 b2 x) cY λg5=>
     ax x7 (Z9 dR 1 #[(0,g5)]) cY λg6 g7=>
     ax x7 (b8 #[dR,dR] dR #[g4,g6]) g7 λg8 ez=>
     U x7 (u6 aY (Γ X) 3) ez λg9=>
     ax x7 (o7 dR g9 g8) ez λ(_:Unit) eA=>
     U x7 (aE .add al false true ek (Δ 1)) eA λha=>
     gc ha eA)))
       (cg (α:=x3->Prop) (λ(aK:x3)=>
     U x7 (u5 aY (Γ X)) aK λhb=>
     ax x7 (o7 aY (Γ af) hb) aK λ(_:Unit) eB=>
     U x7 (do loadVar aY (<-asAddr (Γ af))) eB λhc=>
 Q hc eB) λeD=>
    Split (.bool neg) (eh cj λaW=>
     U x7 (bF (Γ g)) aW λdi=>
     U x7 (u6 br di 8) aW λdj=>
     U x7 (u5 dn dj) aW λeE=>
     U x7 (u5 aY (Γ X)) aW λhd=>
     ax x7 (Z9 dn 1 #[(0,hd)]) aW λhf bk=>
     (Ext aW bk\/ct x7 (u5 dn dj) eE bk/\ct x7 (u6 br di 8) dj bk/\ct x7 (bF (Γ g)) di bk/\True)/\
     ax x7 (b8 #[dn,dn] dn #[eE,hf]) bk λhg cZ=>
      U x7 (bF (Γ g)) cZ λhh=>
      U x7 (u6 br hh 8) cZ λhj=>
      ax x7 (o7 dn hj hg) cZ λ(_:Unit) bL=>
      eD bL)
     (eD cj))) λeF=>
     U x7 (aE .lss al false false ek bW) bK λhl=>
     Split hl (U x7 (bF (Γ g)) bK λhn=>
     U x7 (u6 br hn 3) bK λho=>
     U x7 (u5 ag ho) bK λhp=>
     U x7 (aE .eql ag false true hp (Δ 0)) bK λhq=>
     eF hq bK)
      (eF (.bool false) bK)) λeH=>
   U x7 (aE .lss al false true bW (Δ 0)) ak λhr=>
   Split hr (cg (α:=x1->x3->Prop) (λ(hs:x1) (aB:x3)=>
     Split hs (aj x7 mS [(Γ g),(Δ 4),ej] aB λjR dk=>
     U x7 (u5 aY (Γ X)) dk λht=>
     ax x7 (o7 aY (Γ af) ht) dk λ(_:Unit) eI=>
     U x7 (do loadVar aY (<-asAddr (Γ af))) eI λhv=>
 Q hv eI)
     (U x7 (bF (Γ g)) aB λhy=>
    U x7 (u6 br hy 8) aB λhz=>
    U x7 (u5 dn hz) aB λhA=>
    U x7 (Op.unary .neg bW) aB λhB=>
    U x7 (aE .sub al false true hB (Δ 1)) aB λhC=>
    U x7 (j5 dn hA hC) aB λhE=>
    U x7 (u6 aY hE 3) aB λhF=>
    U x7 (u5 dR hF) aB λhG=>
    U x7 (u6 aY (Γ X) 3) aB λhH=>
    ax x7 (o7 dR hH hG) aB λ(_:Unit) eJ=>
    eH eJ)) λeK=>
    eh ak λam=>
    U x7 (Op.unary .neg bW) am λhI=>
    U x7 (bF (Γ g)) am λhJ=>
    U x7 (u6 br hJ 8) am λhK=>
    U x7 (u5 dn hK) am λhL=>
    U x7 (W3 #[dn] ag #[hL]) am λhM=>
    U x7 (aE .gtr al false false hI hM) am λhN=>
    Split hN (eK (.bool true) am)
    (U x7 (bF (Γ g)) am λhO=>
    U x7 (u6 br hO 8) am λhP=>
    U x7 (u5 dn hP) am λhQ=>
    U x7 (Op.unary .neg bW) am λhR=>
    U x7 (aE .sub al false true hR (Δ 1)) am λhS=>
    U x7 (j5 dn hQ hS) am λhT=>
    U x7 (u6 aY hT 1) am λhU=>
    U x7 (u5 aq hU) am λhV=>
    U x7 (u6 aY (Γ X) 1) am λhW=>
    U x7 (u5 aq hW) am λhY=>
    aj x7 rp [hV,hY] am λhZ dl=>
    U x7 (Op.unary .not hZ) dl λh0=>
    eK h0 dl))
    (U x7 (bF (Γ g)) ak λh2=>
    U x7 (u6 br h2 7) ak λh3=>
    U x7 (u5 al h3) ak λh4=>
    U x7 (aE .add al false false h4 bW) ak λh5=>
    U x7 (bF (Γ g)) ak λh6=>
    U x7 (u6 br h6 7) ak λh7=>
    ax x7 (o7 al h7 h5) ak λ(_:Unit) bb=>
    cg (α:=x3->Prop) (λ(bd:x3)=>
     U x7 (bF (Γ g)) bd λh8=>
     U x7 (u6 br h8 7) bd λh9=>
     U x7 (u5 al h9) bd λia=>
     U x7 (aE .gtr al false true ia (Δ 16384)) bd λib=>
     aj x7 rm [(Γ g),ib,ej] bd λjS dm=>
     eH dm) λeL=>
    U x7 (bF (Γ g)) bb λic=>
    U x7 (u6 br ic 7) bb λie=>
    U x7 (u5 al ie) bb λig=>
    U x7 (aE .gtr al false true ig (Δ 4611686018427387904)) bb λih=>
    Split ih (U x7 (bF (Γ g)) bb λii=>
    U x7 (u6 br ii 7) bb λij=>
    ax x7 (o7 al ij (Δ 4611686018427387904)) bb λ(_:Unit) eN=>
    eL eN)
    (eL bb)))) λeO=>
  U x7 (aE .gtr al false true (Δ (ar:Int)) (Δ 6)) a6 λik=>
  Split ik (aj x7 rm [(Γ g),(.bool true),(Δ dU)] a6 λjT il=>
  eO il)
   (U x7 (aE .gtr al false true ea (Δ 4096)) a6 λim=>
  aj x7 rm [(Γ g),im,(Δ dU)] a6 λjU io=>
  eO io)):=by
 have ip:=h.lt;have eP:af≠g:=λhe=>by
  obtain⟨aX,aG,aH,bad,aZ,big,a1,told,sv,W,_⟩:=hD h;subst he;exact absurd (eZ W dY) Φ
 obtain⟨aJ,szv,bZ,g1,c0,c1,f1,f2,f3,f4,f5,f6,f7⟩:=id dW;have cl:X≠g:=Ω
 have ret:∀ {Y:x3} {x:cm} {au:ah},gJ Y B X x->ac Y af aY [.slice ν 0 0,.slice ν 0 0,Δ 0,.slice ν 0 0]->ae (λr=>r=g\/H r\/B<=r) w Y->bD Y g Y.heap.size au 100001 ((jA neg ar scope sizes an).map (·.2))->(∀q,jA neg ar scope sizes an=σ q->x=q.1)->¬au af->(∀r,H r->au r)->(∀r,au r->H r\/B<=r)->(∀r,au r->r<Y.heap.size)->
   (U x7 (u5 aY (Γ X)) Y λch=>
    ax x7 (o7 aY (Γ af) ch) Y λ(_:Unit) bB=>
    U x7 (do loadVar aY (<-asAddr (Γ af))) bB λci=>Q ci bB):=by
  intro Y x au dp dr ir it iu iv ds iw ix;obtain⟨aJ,szv,bZ,g1,c0,c1,dt,du,dv,dx,dy,eQ,eR⟩:=dp;let aI:iB:=⟨aJ,szv,x.other,bZ⟩;have cn:gq Y aI x:=⟨⟨g1,du⟩,⟨c0,dv⟩,rfl,c1,dx⟩;rw[bI aY.p aY.i rfl (show Y.rangeAt X 0 (eM aI) from dt.range)];refine cc (vs:=eM aI) aY.i rfl rfl cn.one dr λjV dz iy iz=>?_;rw[fB aY.p aY.i rfl iz.range];have iA:∀r,r=af->gI Y r\/Y.heap.size<=r:=λr V=>by subst V;exact .inl ⟨_,_,dr,Φ,Φ⟩
  refine fI _ _ ⟨aI,x,au,(ir.mono λr _ h=>?_).trans (dz.mono λr _ h=>.inr (.inr (.inl h))),rfl,cn.dC dz iA,it.dC dz λr V=>.inl ?_,iu,ds,iw,λr V=>by rw[iy];exact ix r V⟩
  .exact h.elim .inl λh=>h.elim (λh=>.inr (.inl h)) λh=>.inr (.inr (.inr h))
  .have V:r=af:=V;subst V;exact⟨_,_,dr,Φ,Φ,Φ,Φ,iv⟩
 have dA:∀ {Y:x3},ae (gu g B) w Y->ac Y af aY [.slice ν 0 0,.slice ν 0 0,Δ 0,.slice ν 0 0]:=λbl=>dY.aa bl λI=>I.elim eP λh=>Ω
 have dD:∀ {Y:x3},ae (gu g B) w Y->ae (λr=>r=g\/H r\/B<=r) w Y:=λbl=>bl.mono λr _ h=>h.elim .inl λh=>.inr (.inr h);have eS:∀ {Y:x3} {eU:Nat} {au:ah} {so:Option az},bD Y g eU au 100000 so->bD Y g eU au 100001 so:=λV=>by
  obtain⟨cp,w0,aX,bC,gs,sv,L,a2,aG,aH,bad,aZ,big,a1,told,h1,iC,iD,iE,iF,dE,dF⟩:=V;refine⟨Ω,w0,aX,bC,gs,sv,L,a2,aG,aH,bad,aZ,big,a1,told,h1,iC,iD,iE,iF,dE,?_⟩;rename_i so;cases so with
  |none=>exact⟨dF.1,by have:=dF.2;omega⟩
  |some s=>exact dF
 have eV:∀ {Y:x3} {x:cm},gJ Y B X x->ae (gu g B) w Y->bD Y g B H 100000 ν->jA neg ar scope sizes an=ν->(U x7 (u5 aY (Γ X)) Y λch=>
    ax x7 (o7 aY (Γ af) ch) Y λ(_:Unit) bB=>
    U x7 (do loadVar aY (<-asAddr (Γ af))) bB λci=>Q ci bB):=λdp bl V eW=>
  ret dp (dA bl) (dD bl) (by rw[eW];exact eS V.base) (λq aw=>by rw[eW] at aw;cases aw) cU (λ_ h=>h) (λ_ h=>.inl h) λr V=>by have:=cV r V;have:=bl.size;omega
 rw[aD aY.p 1 f1 rfl,aV aq.u f3.ls];refine MJ f3.ls (λz iG=>(dX z iG).1) λc bl=>?_;refine db (λcd=>ae (λr=>r=g) w cd/\bD cd g B H 100000 (an.map (a8 (decide (6<ar)||de sizes)))) ?_ ?_
 rotate_left
 .intro av bm;rw[bM,ai];refine⟨λdE=>?_,λdE=>?_⟩
  .refine (mj h).mono ?_;rintro _ J _ bn;refine bm _ ⟨bn.1,?_⟩;rw[decide_eq_true (show 6<ar by omega),Bool.true_or];exact bn.2
  .rw[bM];refine (mj h).mono ?_;rintro _ J _ bn;refine bm _ ⟨bn.1,?_⟩;have e:de sizes=decide (4096<c):=by rw[V5,decide_eq_true_eq];exact bl.symm
   rw[decide_eq_false (show ¬6<ar by omega),Bool.false_or,e];exact bn.2
 rintro cd ⟨iH,iI⟩;refine (kg iI).mono ?_;rintro _ bV _ ⟨⟨iJ,iK⟩,o,jW,rfl,iL,jX⟩;rw[bf,bg];have b1:ae (λr=>r=g) w bV:=iH.trans iJ;have jY:=dW.dC b1 (kh h);have f123:=f1.aa b1 λhe=>cl he;rw[aT aY.p rfl];refine bz (g:=X) (o:=2) al.i rfl rfl f123 Ξ λbx cq jZ b3=>?_;have b3:ac bx X aY [aJ,szv,Δ o,bZ]:=b3;have dG:∀r,r=g->gI w r\/w.heap.size<=r:=λr V=>(kh h r V).imp (λ⟨e,c,W,bo,bp,_⟩=>⟨e,c,W,bo,bp⟩) id;have b4:∀ {Y:x3} {c:List x1},ac Y X aY c-> ∀r,r=X->gI Y r\/Y.heap.size<=r:=λW r V=>by subst V;exact .inl ⟨_,_,W,Φ,Φ⟩
 have f224:=er (er f2 b1 dG) cq (b4 f123);have c2:=er (er f3 b1 dG) cq (b4 f123);have eX:=(f4.dC b1 dG).dC cq (b4 f123);have b5:=iK.new cq λr V=>by have V:r=X:=V;omega
 have e0:ae (gu g B) w bx:=(b1.mono λr _ h=>.inl h).trans (cq.mono λr _ h=>.inr (by have h:r=X:=h;omega));refine (kg b5).mono ?_;rintro _ ak _ ⟨⟨bE,bq⟩,n,j0,rfl,iM,e1⟩;rw[bf,bg,qj bq];have e2:ae (gu g B) w ak:=e0.trans (bE.mono λr _ h=>.inl h);have iN:gJ bx B X ⟨scope,sizes,o,[]⟩:=⟨aJ,szv,bZ,g1,c0,c1,b3,f224,c2,eX,f5,f6,f7⟩;have e3:=iN.dC bE (kh b5);cases bt:a7 (-4611686018427387904) 4611686018427387904 (V6 (λx=>x.snd) (a7 0 4611686018427387904 (an.map (a8 (decide (6<ar)||de sizes))))) with
 |none=>
  rw[bt] at bq;rw[Option.map_none,S0,X3,bA];refine eV e3 e2 bq ?_;unfold jA;cases ay:a7 0 ao (an.map (a8 (decide (6<ar)||de sizes))) with
  |none=>rfl
  |some p=>
   obtain⟨o',ad⟩:=p;have iO:a7 0 4611686018427387904 (an.map (a8 (decide (6<ar)||de sizes)))=σ (o',ad):=ay;rw[iO] at bt;have e:bc (-ao) ao ad=ν:=bt;simp only;unfold dL;rw[e]
 |some q=>
 obtain⟨j1,ab⟩:=q;have iP:=iM _ bt;subst iP;rw[bt] at bq;have bq:bD ak g B H 100000 (σ ab):=bq;rw[Z2,T9,Z8,aS];obtain⟨ad,ay,dH⟩:∃ad,a7 0 ao (an.map (a8 (decide (6<ar)||de sizes)))=σ (o,ad)/\bc (-ao) ao ad=σ (n,ab):=by
  cases ay:a7 0 4611686018427387904 (an.map (a8 (decide (6<ar)||de sizes))) with
  |none=>rw[ay] at bt;cases bt
  |some p=>
   obtain⟨o',ad⟩:=p;have:=iL _ ay;subst this;rw[ay] at bt;exact⟨ad,ay,bt⟩
 have cr:jA neg ar scope sizes an=match dL sizes ad with
   |none=>ν
   |some (lines,ab)=>σ (⟨scope,sizes,o,lines⟩,if neg=true then {ab with shared:=ab.shared++[(sizes,lines)]} else ab):=by
  unfold jA;rw[ay]
 have iQ:=(hx dH).1;have iR: -4611686018427387904<=n/\n<=4611686018427387904:=iQ;have e4:dL sizes ad=(if n<0 then match ab.shared[(-n-1).toNat]? with
   |none=>ν
   |some (z,l)=>if z=sizes then σ (l,ab) else ν
  else cI (dK sizes) n.toNat [] (a8 (decide (16384<min (ab.told+n) ao)) {ab with told:=min (ab.told+n) ao})):=by
  unfold dL;rw[dH];rfl
 have iS:jz ab:=by
  cases b6:an with
  |none=>rw[b6] at ay;cases ay
  |some aU=>
   rw[b6] at ay;have dI:bc 0 ao (a8 (decide (6<ar)||de sizes) aU)=σ (o,ad):=ay;have c3:=(dw dI).eqs;have cu:=(dw dH).eqs;intro W;rw[cu.2.1,c3.2.1] at W;rw[cu.1,c3.1];exact fH aU b6 (T7.1 W).1
 refine db (λbj=>ae (gu g B) w bj/\ ∃bN cw c4 bG,ac bj X aY [aJ,szv,Δ o,bN]/\ap .i64 al bj g1 aJ scope/\ap .i64 al bj c0 szv sizes/\kf bj cw bN c4/\bD bj g B H 100000 (σ bG)/\(0<n->c4=[]/\ ∀r,¬leadsTo bN r)/\dL sizes ad=(if n<=0 then σ (c4,bG) else cI (dK sizes) n.toNat [] bG)) ?_ ?_
 .rintro bj ⟨iT,bN,cw,c4,bG,dt,du,dv,dx,dy,eQ,eR⟩;refine MM dy dt du dv dx f5 f6 f7 dX fG iR.2 eQ (sP dy).1 λcj A dJ iU e5 e6 iV cz=>?_;have b7:=iT.trans iU;have bO:dJ=(dL sizes ad).map (·.2)/\ ∀q,dL sizes ad=σ q->A=q.1:=by
   rw[eR];by_cases dM:n<=0
   .obtain⟨aG,aH⟩:=iV dM;rw[if_pos dM];exact⟨aH,λq aw=>by cases aw;exact aG⟩
   .rw[if_neg dM];exact cz Ω
  obtain⟨bO,bn⟩:=bO;cases neg with
  |false=>
   refine db (λaK=>cj=aK) ?_ ?_
   .rintro _ rfl;refine ret e5 (dA b7) (dD b7) ?_ ?_ cU (λ_ h=>h) (λ_ h=>.inl h) λr V=>by have:=cV r V;have:=b7.size;omega
    .have:(jA false ar scope sizes an).map (·.2)=dJ:=by
      rw[cr,bO];cases dL sizes ad with
      |none=>rfl
      |some p=>rfl
     rw[this];exact eS e6.base
    .intro q aw;rw[cr] at aw;cases aN:dL sizes ad with
     |none=>rw[aN] at aw;cases aw
     |some p=>
      rw[aN] at aw;have:=bn p aN;cases aw;rw[this]
   .intro av bm;rw[aS];exact bm _ rfl
  |true=>
   refine db (λaK=>∃au,ae (λr=>r=g\/H r\/B<=r) w aK/\gJ aK B X ⟨scope,sizes,o,A⟩/\ac aK af aY [.slice ν 0 0,.slice ν 0 0,Δ 0,.slice ν 0 0]/\bD aK g aK.heap.size au 100001 ((jA true ar scope sizes an).map (·.2))/\¬au af/\(∀r,H r->au r)/\(∀r,au r->H r\/B<=r)/\ ∀r,au r->r<aK.heap.size) ?_ ?_
   .rintro aK ⟨au,iW,iX,a3,a4,a5,iY,iZ,i0⟩;refine ret iX a3 iW a4 ?_ a5 iY iZ i0;intro q aw;rw[cr] at aw;cases aN:dL sizes ad with
    |none=>rw[aN] at aw;cases aw
    |some p=>
     rw[aN] at aw;have:=bn p aN;cases aw;rw[this]
   .intro av bm;rw[bA];intro aW cA _ _;have i1:=e6.ext cA;have i2:=e5.ext cA;have i3:=(dA b7).ext cA;obtain⟨cp,w0,aX,bC,gs,sv,L,a2,aG,aH,bad,aZ,big,a1,told,c5,bP,bR,aO,bS,bH,bT⟩:=id i1;have i4:=bS.g bP bR;obtain⟨⟨i5,e7⟩,be,cB,cC⟩:=id i4;have i6:∀r,leadsTo sv r->r<B:=λr V=>cV r (bH r V);rw[aM br.p 8 aO rfl];obtain⟨e8,e9,bN,fb,fc,cw,fd,fe,ff,fg,i7,i8,i9⟩:=id i2;let aI:iB:=⟨e8,e9,o,bN⟩;let x:cm:=⟨scope,sizes,o,A⟩;have cn:gq aW aI x:=⟨⟨fb,fe⟩,⟨fc,ff⟩,rfl,cw,fg⟩;rw[bI aY.p aY.i rfl (show aW.rangeAt X 0 (eM aI) from fd.range)];refine hX (f:=eM) (a:=aI) dn.u aY.i Ω rfl rfl λj2 j3 bk j6 aC ja=>?_;refine⟨.inl aC,?_⟩;have j7:L.length<=100000:=by
     cases dJ with
     |none=>exact bT.2
     |some s=>have:=bT.2.2.2.2.2.2.2.2;omega
    have dN:=be.ext aC;refine iq (f:=eM) (a:=aI) dn.u aY.i rfl dN (by simpa using ja.sl) (cn.ext aC).one Ω Ω λfh jb cZ cD jc fi=>?_;have dO:=aO.ext aC;have fj:=dO.aa fi λhe=>cL dN dO Φ he;rw[bQ,aT br.p rfl];refine bz (g:=g) (o:=8) dn.i (eC cD.sl).1 (eC cD.sl).2 fj (by simp[fW]) λbL dQ j8 c6=>?_;have c6:ac bL g br (fW aX aG aH bad aZ big a1 told fh):=c6;have bh:ae (λr=>leadsTo sv r\/r=g) bk bL:=(fi.mono λr _ h=>.inl h).trans (dQ.mono λr _ h=>.inr h);have c7:∀r,(leadsTo sv r\/r=g)->gI bk r\/bk.heap.size<=r:=λr V=>by
     rcases V with V|rfl
     .obtain⟨rfl,c,W⟩:=dV dN V;exact .inl ⟨_,c,W,Φ,Φ⟩
     .exact .inl ⟨_,_,dO,Φ,Φ⟩
    have fk:∀ {aI x},gq aW aI x->gq bL aI x:=λhe=>(he.ext aC).dC bh c7;have z50:=cA.size;have j9:=aC.size;have z53:=bh.size;have ka:=b7.size;have kb:=ip.2;refine bm _ ⟨λr=>H r\/(aW.heap.size<=r/\r<bL.heap.size),?_,?_,?_,?_,?_,λr V=>.inl V,λr V=>V.imp id λV=>Ω,λr V=>?_⟩
    .refine (((dD b7).trans (cA.aa _)).trans (aC.aa _)).trans (bh.mono λr _ V=>?_);exact V.elim (λV=>.inr (.inl (bH r V))) .inl
    .have jd:=fd.ext aC;refine⟨e8,e9,bN,fb,fc,cw,jd.aa bh λV=>?_,er (fe.ext aC) bh c7,er (ff.ext aC) bh c7,(fg.dC (aC.aa λ_=>False) λ_ h=>h.elim).dC bh c7,i7,i8,i9⟩;rcases V with V|V
     .have:=i6 _ V;omega
     .exact cl V
    .exact (i3.ext aC).aa bh λV=>V.elim (λV=>cU (bH _ V)) eP
    .refine⟨Ω,bL,aX,bC,jb,fh,L++[aI],a2++[x],aG,aH,bad,aZ,big,a1,told,rfl,ae.refl _ _,⟨_,c6⟩,c6,⟨⟨?_,λr V=>?_⟩,cD.aa dQ λr V he=>?_,by rw[o5,o5,cB];rfl,λi je jf hi cE=>?_⟩,λr V=>?_,?_⟩
     .refine (i5.aa (aC.aa λ_=>False) λ_ _ h=>h).aa bh λr V I=>?_;obtain⟨c,W⟩:=e7 r V;rcases I with I|rfl
      .obtain⟨rfl,jg,dS⟩:=dV be I;exact absurd (eZ W dS) Φ
      .exact absurd (eZ W aO) Φ
     .obtain⟨c,W⟩:=e7 r V;refine⟨c,(W.ext aC).aa bh λI=>?_⟩;rcases I with I|rfl
      .obtain⟨rfl,jg,dS⟩:=dV be I;exact absurd (eZ W dS) Φ
      .exact absurd (eZ W aO) Φ
     .have he:r=g:=he;subst he;exact cL cD fj Φ V
     .by_cases jh:i<L.length
      .rw[Y0 jh] at hi;rw[Y0 Ω] at cE;exact fk (cC i je jf hi cE)
      .rw[Y1 Ω] at hi;rw[Y1 Ω] at cE;have ji:i-L.length=0:=by have:=(x4.1 hi).1;simp at this;omega
       have ds:i-a2.length=0:=Ω
       rw[ji] at hi;rw[ds] at cE;cases hi;cases cE;exact fk cn
     .rcases jc r V with h|h
      .exact .inl (bH r h)
      .have:=(cD.leads V);have:=dQ.size;exact .inr ⟨Ω,Ω⟩
     .rw[cr];cases aN:dL sizes ad with
      |none=>
       rw[aN] at bO;rw[bO] at bT;exact⟨bT.1,by rw[o5];simp;have:=bT.2;omega⟩
      |some p=>
       obtain⟨lines,bG⟩:=p;rw[aN] at bO;rw[bO] at bT;have jj:=bn _ aN;obtain⟨cF,cG,cH,cJ,cK,b9,cM,bi,da⟩:=id bT;have fm:=CR aN;refine⟨cF,cG,cH,cJ,cK,b9,cM,?_,?_⟩
       .show (a2++[x]).map _=bG.shared++[(sizes,lines)];rw[c8,bi];simp only[x,U4,List.map_nil];rw[jj]
       .have kc:ad.shared.length+ad.toks.length<=100000:=by
         cases b6:an with
         |none=>rw[b6] at ay;cases ay
         |some aU=>
          rw[b6] at ay h;have dI:bc 0 ao (a8 (decide (6<ar)||de sizes) aU)=σ (o,ad):=ay;have t9:=dw dI;have c3:=t9.1;have cu:=t9.eqs.2.2;have t3:=(sP h).2;have fo:(a8 (decide (6<ar)||de sizes) aU).toks=aU.toks:=rfl;have fp:(a8 (decide (6<ar)||de sizes) aU).shared=aU.shared:=rfl;rw[fo] at c3;rw[fp] at cu;rw[cu];omega
        have fq:L.length=bG.shared.length:=by rw[<-bi,u7,cB]
        have jk:bC.length=bG.toks.length:=by rw[<-b9,u7]
        rw[fm.2] at fq;rw[o5,fq,jk];simp only[S4];have:=fm.1;omega
    .rintro (V|V)
     .exact cU V
     .omega
    .rcases V with V|V
     .have:=cV r V;omega
     .exact V.2
 .intro av bm;rw[aP,ai];refine⟨λjl=>?_,λjm=>?_⟩
  .
   refine aR (λv aB=>Ext ak aB/\ ∃b:Bool,v= .bool b/\(b=true->dL sizes ad=ν)/\(b=false-> ∃lines,dL sizes ad=σ (lines,ab)/\ab.shared[(-n-1).toNat]? =σ (sizes,lines))) ?_ ?_
   .rintro _ aB ⟨ca,b,rfl,jn,jo⟩;have dc:=bq.ext ca;have jp:=e3.ext ca;have fs:=e2.trans (ca.aa _);cases b with
    |true=>
     rw[bA];refine (nB dc Ω).mono ?_;rintro _ dk _ ⟨ft,jq⟩;exact eV (jp.dC ft (kh dc)) (fs.trans (ft.mono λr _ h=>.inl h)) jq (by rw[cr,jn rfl])
    |false=>
     rw[aS];obtain⟨lines,jr,cb⟩:=jo rfl;obtain⟨cp,w0,aX,bC,gs,sv,L,a2,aG,aH,bad,aZ,big,a1,told,c5,bP,bR,aO,bS,bH,cF,cG,cH,cJ,cK,b9,cM,bi,da⟩:=id dc;obtain⟨_,be,cB,cC⟩:=bS.g bP bR;have cN:(-n-1).toNat<L.length:=by
      have h1:=(x4.1 cb).1;rw[<-bi,u7] at h1;omega
     obtain⟨hk,cO⟩:∃h,L[(-n-1).toNat]? =σ h:=⟨_,x6 cN⟩;obtain⟨bw,cP⟩:=aF (l:=a2) (i:=(-n-1).toNat) Ω;obtain⟨_,_,_,js,aQ⟩:=cC _ hk bw cO cP;have jt:bw.lines=lines:=by
      rw[<-bi,x8,cP] at cb;have:=c9 cb;exact (Prod.mk.inj this).2
     rw[aM br.p 8 aO rfl,lu,wrap_i64 Ω Ω,dP,wrap_i64 Ω Ω,dq (i:=(-n-1).toNat) Ω dn.u aY.i be cN,aT aY.p rfl,aA Ψ (be.range cO 3 _ rfl)];obtain⟨kd,fu,ke,ki⟩:=id aQ;have dd:ac aB X aY [aJ,szv,Δ o,bZ]:=(b3.aa bE λhe=>cl he).ext ca;have ju:=(er f224 bE λr V=>(kh b5 r V).imp (λ⟨e,c,W,bo,bp,_⟩=>⟨e,c,W,bo,bp⟩) id).ext ca;have jv:=(er c2 bE λr V=>(kh b5 r V).imp (λ⟨e,c,W,bo,bp,_⟩=>⟨e,c,W,bo,bp⟩) id).ext ca;rw[aT aY.p rfl];refine bz (g:=X) (o:=3) dR.i (eC fu.sl).1 (eC fu.sl).2 dd Ξ λeJ cQ kj jw=>?_;refine bm _ ⟨fs.trans (cQ.mono λr _ h=>.inr (by have h:r=X:=h;omega)),hk.bZ,js,lines,ab,jw,er ju cQ (b4 dd),er jv cQ (b4 dd),?_,dc.new cQ λr V=>by have V:r=X:=V;omega,λh=>Ω,by rw[jr,if_pos Ω]⟩;rw[<-jt];exact aQ.dC cQ (b4 dd)
   .intro kk fv;intro am cR _ _;have jx:=bq.ext cR;obtain⟨cp,w0,aX,bC,gs,sv,L,a2,aG,aH,bad,aZ,big,a1,told,c5,bP,bR,aO,bS,bH,cF,cG,cH,cJ,cK,b9,cM,bi,da⟩:=id jx;obtain⟨_,be,cB,cC⟩:=bS.g bP bR;have kl:ab.shared.length=L.length:=by rw[<-bi,u7,cB]
    have aQ:=e4;rw[if_pos jl] at aQ;rw[lu,wrap_i64 Ω Ω,aM br.p 8 aO rfl,eY dn.u be,bM,ai];refine⟨λcz=>fv _ _ ⟨cR,true,rfl,λ_=>?_,λh=>by cases h⟩,λcz=>?_⟩
    .rw[aQ,Z5 Ω]
    have cN:(-n-1).toNat<L.length:=Ω
    obtain⟨hk,cO⟩:∃h,L[(-n-1).toNat]? =σ h:=⟨_,x6 cN⟩;obtain⟨bw,cP⟩:=aF (l:=a2) (i:=(-n-1).toNat) Ω;obtain⟨_,⟨gz,jy⟩,_,_⟩:=cC _ hk bw cO cP;have cb:ab.shared[(-n-1).toNat]? =σ (bw.sizes,bw.lines):=by rw[<-bi,x8,cP];rfl
    rw[cb] at aQ;simp only at aQ;rw[aM br.p 8 aO rfl,lu,wrap_i64 Ω Ω,dP,wrap_i64 Ω Ω,dq (i:=(-n-1).toNat) Ω dn.u aY.i be cN,aT aY.p rfl,aA Ψ (be.range cO 1 _ rfl)];have jB:ac am X aY [aJ,szv,Δ o,bZ]:=(b3.aa bE λhe=>cl he).ext cR;have jC:=(er c2 bE λr V=>(kh b5 r V).imp (λ⟨e,c,W,bo,bp,_⟩=>⟨e,c,W,bo,bp⟩) id).ext cR;rw[aD aY.p 1 jB rfl];refine (wq jy.ls jC.ls).mono ?_;rintro _ dl _ ⟨rfl,jD⟩;rw[bu];refine fv _ _ ⟨cR.trans jD,_,rfl,λW=>?_,λW=>?_⟩
    .have jE:bw.sizes≠sizes:=by simpa using W
     rw[aQ,if_neg jE]
    .have fw:bw.sizes=sizes:=by simpa using W
     exact⟨bw.lines,by rw[aQ,if_pos fw],by rw[cb,fw]⟩
  .
   have aQ:=e4;rw[if_neg jm] at aQ;obtain⟨cp,w0,aX,bC,gs,sv,L,a2,aG,aH,bad,aZ,big,a1,told,c5,bP,bR,aO,bS,bH,cF,cG,cH,cJ,cK,b9,cM,bi,da⟩:=id bq;rw[aM br.p 7 aO rfl,aL];generalize jF:Y9.wrap (told+n)=bJ;have fx:ab.big=false->bJ=ab.told+n/\0<=bJ:=λW=>by
    obtain⟨fo,fp⟩:=iS W;have jG:=cJ W;rw[<-jF,jG,wrap_i64 Ω Ω];exact⟨rfl,Ω⟩
   rw[bQ,aT br.p rfl];refine bz (g:=g) (o:=7) al.i rfl rfl aO (by simp[fW]) λbb fy km cS=>?_;have cS:ac bb g br (fW aX aG aH bad aZ big a1 bJ sv):=cS;refine db (λbd=>ae (λr=>r=g) ak bd/\ac bd g br (fW aX aG aH bad aZ big a1 (min bJ ao) sv)) ?_ ?_
   rotate_left
   .intro ko fz;rw[aM br.p 7 cS rfl,bM,ai];refine⟨λcz=>?_,λcz=>fz _ ⟨fy,?_⟩⟩
    .rw[bQ,aT br.p rfl];refine bz (g:=g) (o:=7) al.i rfl rfl cS (by simp[fW]) λeN jH kp jI=>?_;refine fz _ ⟨fy.trans jH,?_⟩;have e:min bJ ao=4611686018427387904:=by unfold ao;omega
     rw[e];exact jI
    .have e:min bJ ao=bJ:=by unfold ao;omega
     rw[e];exact cS
   rintro bd ⟨fA,fD⟩;have jJ:bD bd g B H 100000 (σ {ab with told:=min (ab.told+n) ao}):=⟨cp,w0,aX,bC,gs,sv,L,a2,aG,aH,bad,aZ,big,a1,_,c5,bP.trans fA,bR,fD,bS,bH,cF,cG,cH,λW=>by
    have W:ab.big=false:=W;rw[(fx W).1],cK,b9,cM,bi,da⟩
   rw[aM br.p 7 fD rfl,bM];refine (mj jJ).mono ?_;rintro _ dm _ ⟨jK,fE⟩;have jL:(σ {ab with told:=min (ab.told+n) ao}).map (a8 (decide (16384<min bJ ao)))=σ (a8 (decide (16384<min (ab.told+n) ao)) {ab with told:=min (ab.told+n) ao}):=by
    show σ (a8 _ _)=_;congr 1;unfold a8;cases W:ab.big with
    |true=>simp
    |false=>rw[(fx W).1]
   rw[jL] at fE;have cT:ae (λr=>r=g) bx dm:=(bE.trans fA).trans jK;have dT:∀r,r=g->gI bx r\/bx.heap.size<=r:=λr V=>(kh b5 r V).imp (λ⟨e,c,W,bo,bp,_⟩=>⟨e,c,W,bo,bp⟩) id;have jM:bZ= .slice ν 0 0:=by
    have:=fF _ f1;simpa using this
   refine bm _ ⟨e0.trans (cT.mono λr _ h=>.inl h),bZ,c1,[],_,b3.aa cT λhe=>cl he,er f224 cT dT,er c2 cT dT,eX.dC cT dT,fE,λ_=>⟨rfl,λr V=>by rw[jM] at V;exact fa V⟩,?_⟩;rw[aQ];by_cases e1:n<=0
   .have:n=0:=Ω
    subst this;rw[if_pos (Int.le_refl _)];rfl
   .rw[if_neg e1]
theorem CU {s:az}:cX all s=match bc (-ao) ao s with
  |none=>ν
  |some (a,J)=>match eQ all.length a.natAbs J with
   |none=>ν
   |some (scope,I)=>jA (decide (a<0)) a.natAbs scope (scope.map λv=>all.getD v.toNat 0) (σ I):=by
 unfold cX;cases bc (-ao) ao s with
 |none=>rfl
 |some q=>
  obtain⟨a,J⟩:=q;simp only;cases eQ all.length a.natAbs J with
  |none=>rfl
  |some p=>
   obtain⟨scope,I⟩:=p;simp only;unfold jA;show _=match bc 0 ao (a8 (decide (6<a.natAbs)||de (scope.map λv=>all.getD v.toNat 0)) I) with
    |none=>ν
    |some (other,U)=>_
   cases bc 0 ao (a8 (decide (6<a.natAbs)||de (scope.map λv=>all.getD v.toNat 0)) I) with
   |none=>rfl
   |some W=>
    obtain⟨o,U⟩:=W;simp only;cases dL (scope.map λv=>all.getD v.toNat 0) U with
    |none=>rfl
    |some X=>
     obtain⟨ls,Y⟩:=X;by_cases V:a<0
     .simp[V]
     .simp[V]
def ws (w:x3) (g:Nat) (H:ah) (J:Option (cm×az)) (v:x1) (w':x3):Prop:=∃U x I,ae (λr=>r=g\/H r) w w'/\v= .agg (eM U).toArray/\gq w' U x/\bD w' g w'.heap.size I 100001 (J.map (·.2))/\(∀q,J=σ q->x=q.1)/\(∀r,H r->I r)/\(∀r,I r->H r\/w.heap.size<=r)/\ ∀r,I r->r<w'.heap.size
theorem CV {n:Int} {s s':az} (h:eQ n k s=σ (l,s')):s'.toks.length+l.length<=s.toks.length/\s'.told=s.told/\s'.big=s.big/\s'.shared=s.shared/\ ∀v∈l,0<=v/\v<n:=by
 have:=j1 (f:=j2 n) (λ(acc:Λ) t=>t.toks.length+acc.length<=s.toks.length/\t.told=s.told/\t.big=s.big/\t.shared=s.shared/\ ∀v∈acc,0<=v/\v<n) (λacc t a bp J I=>by
  unfold j2 at I;cases V:bc 0 (n-1) t with
  |none=>rw[V] at I;cases I
  |some q=>
   obtain⟨v,ac⟩:=q;rw[V] at I;simp only at I;split at I
   .cases I
   .cases I;have W:=dw V;have ad:=(hx V).1;obtain⟨X,Y,aa⟩:=W.eqs;have t0:=W.1;refine⟨by have:=J.1;rw[o5];simp only[S4];omega,X.trans J.2.1,Y.trans J.2.2.1,aa.trans J.2.2.2.1,λy U=>?_⟩;rcases l7.1 U with U|U
    .exact J.2.2.2.2 y U
    .rw[n9.1 U];omega) k [] s l s' ⟨Ξ,rfl,rfl,rfl,λv ab=>by cases ab⟩ h
 exact this.1
theorem MN {g B0:Nat} {H:ah} {s:az} {ay:x1} (h:bD w g B0 H 100000 (σ s)) (aK:ap .i64 al w gz ay all) (aL:∀z∈all,1<=z/\z<=ao) (bk:all.length<=100001) (aA:∀r,H r->r<w.heap.size) (bJ:jz s):
  aj x7 yM [Γ g,ay] w (ws w g H (cX all s)):=by
 have ci:=h.lt;refine aw func91 ?_;refine bN aY.i λak J cj aB aD=>?_;have aD:ac J ak aY [.slice ν 0 0,.slice ν 0 0,Δ 0,.slice ν 0 0]:=aD;refine bN aY.i λan V ck aE aF=>?_;have aF:ac V an aY [.slice ν 0 0,.slice ν 0 0,Δ 0,.slice ν 0 0]:=aF;have h1:=(h.ext aB).base;have aM:=h1.ext aE;have cl:=aB.size;have bl:=aD.lt;have cn:=aF.lt;refine (kg aM).mono ?_;rintro _ ag _ ⟨⟨aG,Y⟩,a,cp,rfl,aN,aO⟩;rw[bf,bg,aP];have bK:an≠g:=Ω
 have aQ:ak≠g:=Ω
 have aS:=aF.aa aG λhe=>bK he;have aT:=(aD.ext aE).aa aG λhe=>aQ he;have bm:ap .i64 al ag gz ay all:=bn ((aK.ext aB).ext aE) aG λr W he=>by
  have he:r=g:=he;obtain⟨bo,ad,am,bad,bp,big,bq,told,sv,aH,_⟩:=hD h;subst he;exact b3 aK aH Φ W rfl
 have br:∀r,leads ay r->r<J.heap.size:=λr W=>by obtain⟨ad,am⟩:=bR aK W;omega
 have aU:gJ ag J.heap.size an ⟨[],[],0,[]⟩:=⟨_,_,_,0,0,0,aS,ap.nil _ _ _ _,ap.nil _ _ _ _,⟨[],bd.nil _ _ _ _ _,λy bL=>(by cases bL),rfl⟩,(λr W=>by rcases W with⟨a,n,c,ad,am⟩|⟨a,n,c,ad,am⟩<;>cases ad),(λr W=>by obtain⟨a,n,c,ad,am⟩:=W;cases ad),Ω⟩;have aV:∀c,ac ag an aY c->c[3]? =σ (.slice ν 0 0):=λc aW=>by
  unfold ac at aW aS;rw[aS] at aW;have:=Array.toList_inj.2 (Obj.cells.inj (c9 aW)).1;simp at this;rw[<-this];rfl
 have bt:ae (λr=>r=g) J ag:=(aE.aa _).trans aG;have cq:J.heap.size<=ag.heap.size:=bt.size;have aX:∀ {X:x3} {aZ:Option (cm×az)} {v:x1} {w':x3},ae (gu g J.heap.size) ag X->aZ=cX all s->CS X g ak J.heap.size H aZ v w'->ws w g H (cX all s) v w':=by
  rintro X aZ v w' af rfl ⟨au,x,bM,a1,a2,a6,a8,bu,bw,bx,bO⟩;refine⟨au,x,bM,?_,a2,a6,a8,bu,bw,λr W=>(bx r W).imp id λh=>Ω,bO⟩;refine gU (gU ((aB.aa _).trans (bt.mono λr _ h=>.inl h)) af λr W he=>?_) a1 λr W he=>?_
  .exact he.elim .inl λhe=>Ω
  .rcases he with he|he|he|he
   .exact .inl he
   .exact .inr he
   .omega
   .omega
 have bP:∀ {X:x3} {x:cm},ae (gu g J.heap.size) ag X->cX all s=ν->bD X g J.heap.size H 100000 ν->gJ X J.heap.size an x->
   (U x7 (u5 aY (Γ an)) X λbQ=>
    ax x7 (o7 aY (Γ ak) bQ) X λ(_:Unit) bz=>
    U x7 (do loadVar aY (<-asAddr (Γ ak))) bz λbS=>ws w g H (cX all s) bS bz):=by
  intro X x af bA ba bT;obtain⟨aJ,szv,bZ,g1,bU,bV,a1,a2,a6,a8,bu,bw,bx⟩:=bT;let au:iB:=⟨aJ,szv,x.other,bZ⟩;have bB:gq X au x:=⟨⟨g1,a2⟩,⟨bU,a6⟩,rfl,bV,a8⟩;have bb:=aT.aa af λI=>I.elim aQ λh=>Ω
  rw[bI aY.p aY.i rfl (show X.rangeAt an 0 (eM au) from a1.range)];refine cc (vs:=eM au) aY.i rfl rfl bB.one bb λcr be ct bW=>?_;rw[fB aY.p aY.i rfl bW.range];have bX:∀r,r=ak->gI X r\/X.heap.size<=r:=λr W=>by subst W;exact .inl ⟨_,_,bb,Φ,Φ⟩
  have cu:=af.size;refine aX af rfl ⟨au,x,H,be.mono λr _ h=>.inr (.inr (.inl h)),rfl,bB.dC be bX,?_,(λq ab=>by rw[bA] at ab;cases ab),λ_ h=>h,λ_ h=>.inl h,λr W=>by have:=aA r W;omega⟩;rw[bA];have bY:bD X g J.heap.size H 100001 ν:=by
   obtain⟨cw,w0,bo,b0,gs,sv,L,b1,ad,am,bad,bp,big,bq,told,h1,aM,Y,b2,b4,bh,bC⟩:=ba;exact⟨Ω,w0,bo,b0,gs,sv,L,b1,ad,am,bad,bp,big,bq,told,h1,aM,Y,b2,b4,bh,bC.1,by have:=bC.2;omega⟩
  refine bY.dC be λr W=>.inl ?_;have W:r=ak:=W;subst W;exact⟨_,_,bb,Φ,Φ,Φ,Φ,λaC=>by have:=aA _ aC;omega⟩
 have aq:=CU (all:=all) (s:=s);have b5:a7 (-4611686018427387904) 4611686018427387904 (σ s)=bc (-ao) ao s:=rfl;rw[b5] at Y aN aO;have cz: -4611686018427387904<=a/\a<=4611686018427387904:=by
  cases ab:bc (-ao) ao s with
  |none=>have:=aO ab;omega
  |some q=>have:=aN q ab;rw[this];exact (hx (n:=q.1) (s':=q.2) ab).1
 refine aR (λv b6=>ag=b6/\v=Δ (a.natAbs:Int)) ?_ ?_
 rotate_left
 .intro av bE;rw[ai];refine⟨λcA=>?_,λcB=>bE _ _ ⟨rfl,by congr 1;omega⟩⟩;rw[lu,wrap_i64 Ω Ω];exact bE _ _ ⟨rfl,by congr 1;omega⟩
 rintro _ _ ⟨rfl,rfl⟩;have bF:∀r,H r->r<J.heap.size:=λr W=>by have:=aA r W;omega
 have bG:¬H ak:=λaC=>by have:=aA _ aC;omega
 have b7:∀ {scope:Λ},(∀v∈scope,0<=v/\v<(all.length:Int))-> ∀z∈scope.map (λv=>all.getD v.toNat 0),1<=z/\z<=ao:=λb8 z b9=>by
  obtain⟨v,ca,rfl⟩:=o8.1 b9;have:=b8 v ca;refine aL _ ?_;rw[u4,x6 Ω];exact R5 _
 cases ab:bc (-ao) ao s with
 |none=>
  rw[ab] at Y aq;have cb:=aO ab;subst cb;refine CQ (s:=s) (ar:=(0:Int).natAbs) Y (.inr ⟨rfl,rfl⟩) aU aV bm br bk Φ (λh=>by cases h) ?_ ?_ ?_
  .intro h;cases h
  .intro _;exact CT (neg:=decide ((0:Int)<0)) Y aU aV (λz aL=>by cases aL) Ξ aT bl bG bF (λcd I=>by cases I) λv w' bi=>aX (ae.refl _ _) (by rw[aq];rfl) bi
  .intro h;cases h
 |some q=>
  obtain⟨a',bH⟩:=q;rw[ab] at Y aq;have:=aN _ ab;subst this;simp only at aq;have Y:bD ag g J.heap.size H 100000 (σ bH):=Y;have ce:=dw ab;refine CQ (s:=bH) (ar:=a.natAbs) Y (.inl rfl) aU aV bm br bk Ω (λ_=>(sP Y).1) ?_ ?_ ?_
  .intro _ X x af aI ba bj;exact bP af (by rw[aq,aI]) ba bj
  .intro h;cases h
  .intro _ X scope s' af aI bh bj cg;obtain⟨cC,ch,t3,t4,t5⟩:=CV aI;rw[aI] at aq;obtain⟨ad,am,cD⟩:=ce.eqs;refine CT (neg:=decide (a<0)) bh bj cg (b7 t5) ?_ (aT.aa af λI=>I.elim aQ λh=>Ω) bl bG bF (λcd I=>?_) λv w' bi=>aX af aq.symm bi
   .rw[u7];have:=(sP Y).1;omega
   .cases I;intro aH;rw[t3,am] at aH;rw[ch,ad];exact bJ aH
theorem MO {s s':az} {l:List (Λ×Int)} (h:dL sizes s=σ (l,s')) (W:jz s):jz s':=by
 unfold dL at h;cases U:bc (-ao) ao s with
 |none=>rw[U] at h;cases h
 |some q=>
  obtain⟨n,I⟩:=q;obtain⟨X,Y,t3⟩:=(dw U).eqs;have V:jz I:=λJ=>by rw[X];exact W (by rw[<-Y];exact J)
  rw[U] at h;simp only at h;split at h
  .split at h
   .cases h
   .split at h
    .cases h;exact V
    .cases h
  .rename_i ah;have h':cI (dK sizes) n.toNat [] (a8 (decide (16384<min (I.told+n) ao)) {I with told:=min (I.told+n) ao})=σ (l,s'):=h;have:=j1 (f:=dK sizes) (λ_ t=>jz t) (λacc t a bp aa ab=>by
    obtain⟨_,_,_,ac⟩:=oy ab;obtain⟨ad,ae,ai⟩:=ac.eqs;intro J;rw[ad];exact aa (by rw[<-ae];exact J)) n.toNat [] (a8 (decide (16384<min (I.told+n) ao)) {I with told:=min (I.told+n) ao}) l s' (λJ=>by
     obtain⟨af,ag⟩:=T7.1 J;have aj:=V af;have ak:=of_decide_eq_false ag;show 0<=min (I.told+n) ao/\min (I.told+n) ao<=16384;unfold ao at*;omega) h'
   exact this.1
theorem MP {s s':az} {x:cm} (h:cX all s=σ (x,s')):s'.toks.length+1<=s.toks.length/\(jz s->jz s'):=by
 rw[CU] at h;cases V:bc (-ao) ao s with
 |none=>rw[V] at h;cases h
 |some q=>
  obtain⟨a,ae⟩:=q;rw[V] at h;simp only at h;have aa:=dw V;cases I:eQ all.length a.natAbs ae with
  |none=>rw[I] at h;cases h
  |some p=>
   obtain⟨scope,J⟩:=p;rw[I] at h;simp only at h;obtain⟨aw,af,t3,_⟩:=CV I;unfold jA at h;have e:a7 0 ao ((σ J).map (a8 (decide (6<a.natAbs)||de (scope.map λv=>all.getD v.toNat 0))))=bc 0 ao (a8 (decide (6<a.natAbs)||de (scope.map λv=>all.getD v.toNat 0)) J):=rfl;rw[e] at h;cases W:bc 0 ao (a8 (decide (6<a.natAbs)||de (scope.map λv=>all.getD v.toNat 0)) J) with
   |none=>rw[W] at h;cases h
   |some ag=>
    obtain⟨o,ab⟩:=ag;rw[W] at h;simp only at h;have ac:=dw W;cases U:dL (scope.map λv=>all.getD v.toNat 0) ab with
    |none=>rw[U] at h;cases h
    |some ah=>
     obtain⟨ls,X⟩:=ah;rw[U] at h;simp only[Y6,T4] at h;obtain⟨_,ai⟩:=h;have ax:=CR U;have aj:(a8 (decide (6<a.natAbs)||de (scope.map λv=>all.getD v.toNat 0)) J).toks=J.toks:=rfl;have ak:=ac.1;rw[aj] at ak;have ay:=aa.1;obtain⟨al,am,_⟩:=aa.eqs;obtain⟨f1,f2,_⟩:=ac.eqs;have Y:s'.toks=X.toks/\s'.told=X.told/\s'.big=X.big:=by
      rw[<-ai];split<;>exact⟨rfl,rfl,rfl⟩
     refine⟨by rw[Y.1];omega,λan=>?_⟩;have ap:jz ab:=λad=>by
      rw[f2] at ad;rw[f1];have aq:J.big=false:=(T7.1 ad).1;show 0<=J.told/\J.told<=16384;rw[af,al];exact an (by rw[<-am,<-t3];exact aq)
     have au:=MO U ap;intro av;rw[Y.2.1];exact au (by rw[<-Y.2.2];exact av)
theorem bD.shrink {g:Nat} {H:ah} {so:Option az} (h:bD w g B H N so):∃I,bD w g B I N so/\(∀r,I r->H r)/\ ∀r,I r-> ∃c,ac w r aY c:=by
 obtain⟨Y,w0,ab,ad,gs,sv,L,ae,af,ag,bad,ai,big,aj,told,h1,U,V,ak,W,al,am⟩:=h;refine⟨λr=>leadsTo sv r,⟨Y,w0,ab,ad,gs,sv,L,ae,af,ag,bad,ai,big,aj,told,h1,U,V,ak,W,λr J=>J,am⟩,al,λr J=>?_⟩;obtain⟨rfl,c,X⟩:=dV W.2.1 J;refine⟨c,X.aa U λhe=>?_⟩;obtain⟨ao,an⟩:=V;subst he;exact absurd (eZ X an) Φ
theorem bD.low {g:Nat} {H:ah} {s:az} (h:bD w g B H N (σ s)):bD w g B H 100000 (σ s):=by
 obtain⟨ag,w0,I,J,gs,sv,L,U,V,W,bad,X,big,Y,told,h1,aa,ab,ac,ad,ae,af⟩:=h;exact⟨p9 _,w0,I,J,gs,sv,L,U,V,W,bad,X,big,Y,told,h1,aa,ab,ac,ad,ae,af⟩
theorem bD.up {g M:Nat} {H:ah} {so:Option az} (h:bD w g B H N so) (ag:N<=M):bD w g B H M so:=by
 obtain⟨ai,w0,J,U,gs,sv,L,V,W,X,bad,Y,big,aa,told,h1,ab,ac,ad,ae,af,I⟩:=h;refine⟨Ω,w0,J,U,gs,sv,L,V,W,X,bad,Y,big,aa,told,h1,ab,ac,ad,ae,af,?_⟩;cases so with
 |none=>exact⟨I.1,by have:=I.2;omega⟩
 |some s=>exact I
def kX {α:Type} (f:List α->az->Option (α×az)) (cnt i:Nat) (I:Option az) (A:List α) (so:Option az):Prop:=I.bind (cI f cnt [])=(match so with
 |none=>ν
 |some s=>cI f (cnt-i) A s)
theorem kX.step {α:Type} {f:List α->az->Option (α×az)} {cnt i:Nat} {J:Option az} {A:List α} {s:az} {a:α} {U:Option az} (h:kX f cnt i J A (σ s)) (hi:i<cnt) (h1:U=(f A s).map (·.2)) (V:∀q,f A s=σ q->a=q.1):kX f cnt (i+1) J (A++[a]) U:=by
 unfold kX at*;rw[h,show cnt-i=(cnt-(i+1))+1 by omega];simp only;cases I:f A s with
 |none=>rw[oB I,h1,I];rfl
 |some q=>
  obtain⟨a',s'⟩:=q;have:=V _ I;subst this;rw[r1 I,h1,I];rfl
theorem MQ {s0:az} {t acc:Λ} {n most X k:Int} {aj:List cm} {ab ac ad ae ak so6 J:Option az} (h1:ab=((dJ s0).map (·.2)).map (a8 (decide (64<t.length)))) (ax:∀q,dJ s0=σ q->t=q.1)
  (Y:ac=((a7 1 ao ab).map (·.2)).map (a8 (decide (64<n)))) (au:∀q,a7 1 ao ab=σ q->n=q.1) (V:ad=(a7 1 ao ac).map (·.2)) (hm:∀q,a7 1 ao ac=σ q->most=q.1)
  (U:ae=((a7 0 ao ad).map (·.2)).map (a8 (decide (256<X)))) (av:∀q,a7 0 ao ad=σ q->X=q.1) (I:ak=((a7 1 ao ae).map (·.2)).map (a8 (decide (2147483648<k)))) (hk:∀q,a7 1 ao ae=σ q->k=q.1)
  (aa:ak.bind (cI (fC most) n.toNat [])=so6.map λs=>(acc,s)) (W:so6.bind (cI (λ_ s=>cX acc s) X.toNat [])=J.map λs=>(aj,s)):hr s0=J.map λs=>(⟨t,k,acc,aj⟩,s):=by
 unfold hr;cases al:dJ s0 with
 |none=>
  rw[al] at h1;subst h1;subst Y;subst V;subst U;subst I;have:so6=ν:=by cases so6 with|none=>rfl|some s=>cases aa
  subst this;cases J with|none=>rfl|some s=>cases W
 |some ay=>
 obtain⟨bp,af⟩:=ay;have:=ax _ al;subst this;rw[al] at h1;have h1:ab=σ (a8 (decide (64<t.length)) af):=h1;subst h1;simp only;have aA:a7 1 ao (σ (a8 (decide (64<t.length)) af))=bc 1 ao (a8 (decide (64<t.length)) af):=rfl;rw[aA] at Y au;cases am:bc 1 ao (a8 (decide (64<t.length)) af) with
 |none=>
  rw[am] at Y;subst Y;subst V;subst U;subst I;have:so6=ν:=by cases so6 with|none=>rfl|some s=>cases aa
  subst this;cases J with|none=>rfl|some s=>cases W
 |some aB=>
 obtain⟨aJ,ag⟩:=aB;have:=au _ am;subst this;rw[am] at Y;have Y:ac=σ (a8 (decide (64<n)) ag):=Y;subst Y;simp only;have aC:a7 1 ao (σ (a8 (decide (64<n)) ag))=bc 1 ao (a8 (decide (64<n)) ag):=rfl;rw[aC] at V hm;cases an:bc 1 ao (a8 (decide (64<n)) ag) with
 |none=>
  rw[an] at V;subst V;subst U;subst I;have:so6=ν:=by cases so6 with|none=>rfl|some s=>cases aa
  subst this;cases J with|none=>rfl|some s=>cases W
 |some aD=>
 obtain⟨ch,ah⟩:=aD;have:=hm _ an;subst this;rw[an] at V;have V:ad=σ ah:=V;subst V;simp only;have aE:a7 0 ao (σ ah)=bc 0 ao ah:=rfl;rw[aE] at U av;cases ap:bc 0 ao ah with
 |none=>
  rw[ap] at U;subst U;subst I;have:so6=ν:=by cases so6 with|none=>rfl|some s=>cases aa
  subst this;cases J with|none=>rfl|some s=>cases W
 |some aF=>
 obtain⟨aK,ai⟩:=aF;have:=av _ ap;subst this;rw[ap] at U;have U:ae=σ (a8 (decide (256<X)) ai):=U;subst U;simp only;have aG:a7 1 ao (σ (a8 (decide (256<X)) ai))=bc 1 ao (a8 (decide (256<X)) ai):=rfl;rw[aG] at I hk;cases aq:bc 1 ao (a8 (decide (256<X)) ai) with
 |none=>
  rw[aq] at I;subst I;have:so6=ν:=by cases so6 with|none=>rfl|some s=>cases aa
  subst this;cases J with|none=>rfl|some s=>cases W
 |some aH=>
 obtain⟨aL,aw⟩:=aH;have:=hk _ aq;subst this;rw[aq] at I;have I:ak=σ (a8 (decide (2147483648<k)) aw):=I;subst I;simp only;have aa:cI (fC most) n.toNat [] (a8 (decide (2147483648<k)) aw)=so6.map λs=>(acc,s):=aa;rw[aa];cases so6 with
 |none=>cases J with|none=>rfl|some s=>cases W
 |some aI=>
  simp only[Z2];have W:cI (λ_ s=>cX acc s) X.toNat [] aI=J.map λs=>(aj,s):=W;rw[W];cases J<;>rfl
def oR (w:x3) (gr:Nat) (J:x1) (I:List cm):Prop:=∃L,bd eM 4 aY w gr J L/\I.length=L.length/\ ∀ (i:Nat) h x,L[i]? =σ h->I[i]? =σ x->gq w h x
def nC (w:x3) (J:Nat) (f:bY):Prop:=∃szv gz I gr,ac w J dv [bO f.name,Δ f.k,szv,I]/\ap .i64 al w gz szv f.sizes/\oR w gr I f.funs
theorem oR.ext {gr:Nat} {I:x1} {J:List cm} (h:oR w gr I J) (U:Ext w w'):oR w' gr I J:=by
 obtain⟨L,h1,V,W⟩:=h;exact⟨L,h1.ext U,V,λi aC x hi X=>(W i aC x hi X).ext U⟩
theorem nC.ext {J:Nat} {f:bY} (h:nC w J f) (I:Ext w w'):nC w' J f:=by
 obtain⟨szv,gz,U,gr,h1,V,W⟩:=h;exact⟨szv,gz,U,gr,h1.ext I,V.ext I,W.ext I⟩
def MR (w:x3) (pl:Λ) (v:x1) (w':x3):Prop:=Ext w w'/\ ∃n e:Int,(fS pl=ν->v= .tuple #[.pointer ν,Δ n,Δ e])/\ ∀f,fS pl=σ f-> ∃I,v= .tuple #[Γ I,Δ n,Δ e]/\nC w' I f
theorem MS {w0:x3} {g V:Nat} {so6:Option az} {t acc:Λ} {k au bad:Int} {szv p:x1} {Q:x1->x3->Prop} (dr:ae (λr=>w0.heap.size<=r) w0 w) (cj:ac w V dv [bO t,Δ k,szv,.slice ν 0 0]) (ds:ap .i64 al w gz szv acc)
  (h:bD w g B bo 100000 so6) (dt:∀s,so6=σ s->jz s/\s.toks.length<=100000/\(∀z∈acc,1<=z/\z<=ao)/\acc.length<=100001) (fu:w0.heap.size<=g) (fv:w0.heap.size<=V) (du:aB .u8 w0 p pl) (fw:0<=au/\au<=4611686018427387904)
  (bG:∀v w' af bH,Ext w0 w'->so6.bind (cI (λ_ s=>cX acc s) au.toNat [])=bH.map (λs=>(af,s))->
   (∀s,bH=σ s->s.toks=[]/\¬0<=bad/\s.big=false->v= .tuple #[Γ V,Δ (pl.length:Int),Δ 0]/\nC w' V ⟨t,k,acc,af⟩)->
   ((∀s,bH=σ s->¬(s.toks=[]/\¬0<=bad/\s.big=false))-> ∃n e:Int,v= .tuple #[.pointer ν,Δ n,Δ e])->Q v w'):
  ce (Δ 0) w λck X dw=>
   cg (α:=x1->x3->Prop) (λ(dx:x1) (ak:x3)=>
    Split dx (eh ak λab=>
   U x7 (bF (Γ V)) ab λa7=>
   U x7 (u6 dv a7 3) ab λa8=>
   U x7 (u5 dn a8) ab λbI=>
   U x7 (bF (Γ V)) ab λdy=>
   U x7 (u6 dv dy 2) ab λdz=>
   U x7 (u5 aq dz) ab λdA=>
   aj x7 yM [(Γ g),dA] ab λdD aN=>
    (Ext ab aN\/ct x7 (u5 dn a8) bI aN/\ct x7 (u6 dv a7 3) a8 aN/\ct x7 (bF (Γ V)) a7 aN/\True)/\
   ax x7 (Z9 dn 1 #[(0,dD)]) aN λdE aw=>
    (Ext ab aw\/ct x7 (u5 dn a8) bI aw/\ct x7 (u6 dv a7 3) a8 aw/\ct x7 (bF (Γ V)) a7 aw/\True)/\
    ax x7 (b8 #[dn,dn] dn #[bI,dE]) aw λdF bk=>
     U x7 (bF (Γ V)) bk λdG=>
     U x7 (u6 dv dG 3) bk λdH=>
     ax x7 (o7 dn dH dF) bk λ(_:Unit) ba=>
     U x7 (aE .add al false true ck (Δ 1)) ba λdI=>
   dw dI ba)
     (cg (α:=x3->Prop) (λ(an:x3)=>
   cg (α:=x3->Prop) (λ(Y:x3)=>
    U x7 (bF (Γ g)) Y λdJ=>
    U x7 (u6 br dJ 3) Y λdK=>
    U x7 (u5 ag dK) Y λdL=>
    U x7 (aE .neq ag false true dL (Δ 0)) Y λdM=>
    Split dM (eh Y λaH=>
     U x7 (bF (Γ g)) aH λdN=>
     U x7 (u6 br dN 4) aH λdO=>
     U x7 (u5 ag dO) aH λdP=>
     U x7 (bF (Γ g)) aH λdQ=>
     U x7 (u6 br dQ 3) aH λdR=>
     U x7 (u5 ag dR) aH λdS=>
     Q (.tuple #[(.pointer ν),dP,dS]) aH)
     (U x7 (bF (Γ g)) Y λdT=>
    U x7 (u6 br dT 5) Y λdU=>
    U x7 (u5 ag dU) Y λdW=>
    U x7 (aE .neq ag false true dW (Δ 0)) Y λdX=>
    Split dX (eh Y λaI=>
     U x7 (bF (Γ g)) aI λdY=>
     U x7 (u6 br dY 6) aI λdZ=>
     U x7 (u5 ag dZ) aI λea=>
     U x7 (bF (Γ g)) aI λeb=>
     U x7 (u6 br eb 5) aI λec=>
     U x7 (u5 ag ec) aI λed=>
     Q (.tuple #[(.pointer ν),ea,ed]) aI)
     (U x7 (W3 #[cH] ag #[p]) Y λee=>
    Q (.tuple #[(Γ V),ee,(Δ 0)]) Y))) λcl=>
   cg (α:=x1->x3->Prop) (λ(ef:x1) (bl:x3)=>
    Split ef (aj x7 mS [(Γ g),(Δ 11),(Δ bad)] bl λfx cm=>
     cl cm)
     (cl bl)) λcn=>
   U x7 (bF (Γ g)) an λeg=>
   U x7 (u6 br eg 3) an λei=>
   U x7 (u5 ag ei) an λej=>
   U x7 (aE .eql ag false true ej (Δ 0)) an λek=>
   Split ek (U x7 (aE .geq ag false true (Δ bad) (Δ 0)) an λem=>
   cn em an)
    (cn (.bool false) an)) λcp=>
  cg (α:=x1->x3->Prop) (λ(en:x1) (ay:x3)=>
   Split en (U x7 (bF (Γ g)) ay λeo=>
    U x7 (u6 br eo 0) ay λep=>
    U x7 (u5 e6 ep) ay λes=>
    U x7 (j5 e6 es (Δ 0)) ay λet=>
    U x7 (u6 ci et 1) ay λeu=>
    U x7 (u5 ag eu) ay λev=>
    aj x7 mS [(Γ g),(Δ 4),ev] ay λfy bJ=>
    cp bJ)
    (cp ay)) λcq=>
  U x7 (bF (Γ g)) ak λew=>
  U x7 (u6 br ew 3) ak λey=>
  U x7 (u5 ag ey) ak λez=>
  U x7 (aE .eql ag false true ez (Δ 0)) ak λeA=>
  Split eA (U x7 (bF (Γ g)) ak λeB=>
  U x7 (u6 br eB 0) ak λeD=>
  U x7 (u5 e6 eD) ak λeE=>
  U x7 (W3 #[e6] ag #[eE]) ak λeF=>
  U x7 (aE .gtr ag false true eF (Δ 0)) ak λeH=>
  cq eH ak)
   (cq (.bool false) ak))) λcr=>
   U x7 (aE .lss al false false ck (Δ au)) X λeI=>
   Split eI (U x7 (bF (Γ g)) X λeJ=>
   U x7 (u6 br eJ 3) X λeK=>
   U x7 (u5 ag eK) X λeL=>
   U x7 (aE .eql ag false true eL (Δ 0)) X λeN=>
   cr eN X)
    (cr (.bool false) X):=by
 have cu:V≠g:=λhe=>by
  obtain⟨aO,aJ,aK,bad,aQ,big,aU,told,sv,W,_⟩:=hD h;subst he;exact absurd (eZ W cj) Φ
 refine⟨λbK X=>∃i:Nat,bK=Δ (i:Int)/\i<=au.toNat/\ae (λr=>w0.heap.size<=r) w0 X/\ ∃am gr af so,∃H:ah,ac X V dv [bO t,Δ k,szv,am]/\ap .i64 al X gz szv acc/\oR X gr am af/\(∀r,leadsTo am r->w0.heap.size<=r/\¬H r)/\¬H V/\(∀r,leads szv r->¬H r)/\(∀r,H r->w0.heap.size<=r)/\bD X g X.heap.size H 100001 so/\kX (λ_ s=>cX acc s) au.toNat i so6 af so/\
   ∀s,so=σ s->jz s/\af.length+s.toks.length<=100000/\(∀z∈acc,1<=z/\z<=ao)/\acc.length<=100001,λbK _=>au.toNat-(bV bK).toNat,
  ⟨0,rfl,X2 _,dr,_,0,[],so6,bo,cj,ds,⟨[],bd.nil _ _ _ _ _,rfl,λi h x hi=>by simp at hi⟩,λr J=>(fa J).elim,id,λr _ h=>h,λr h=>h.elim,h.base.up Ω,?_,λs I=>?_⟩,?_⟩
 .unfold kX;cases so6<;>rfl
 .obtain⟨eO,eP,a3,a4⟩:=dt s I;exact⟨eO,by simpa using eP,a3,a4⟩
 rintro _ X ⟨i,rfl,hi,bm,am,gr,af,so,H,cw,cz,cA,bb,bL,eQ,cB,aG,bN,eR⟩;refine aR (λv ak=>X=ak/\((v= .bool true/\i<au.toNat/\ ∃s,so=σ s)\/(v= .bool false/\(so=ν\/i=au.toNat)))) ?_ ?_
 rotate_left
 .intro av bP;rw[aP,ai];refine⟨λcC=>?_,λfz=>bP _ _ ⟨rfl,.inr ⟨rfl,.inr Ω⟩⟩⟩;rw[kW aG];cases so with
  |none=>exact bP _ _ ⟨rfl,.inr ⟨rfl,.inl rfl⟩⟩
  |some s=>exact bP _ _ ⟨rfl,.inl ⟨rfl,Ω,s,rfl⟩⟩
 rintro _ _ ⟨rfl,⟨rfl,cC,s,rfl⟩|⟨rfl,eS⟩⟩
 .
  rw[bA];intro ab aW _ _;obtain⟨cD,fA,cE,cF⟩:=eR s rfl;have bc:=cw.ext aW;obtain⟨eU,cG,be,cJ⟩:=(aG.ext aW).low.shrink;have bS:=cz.ext aW;have eV:=cA.ext aW;rw[aM dv.p 3 bc rfl,aM dv.p 2 bc rfl];refine (MN cG bS cE cF (λr J=>by obtain⟨c,W⟩:=cJ r J;exact W.lt) cD).mono ?_;rintro _ aN _ ⟨bT,x,cM,aX,rfl,cN,eW,eX,fB,cO,eY⟩;have cP:∃c,ac ab g br c:=by obtain⟨aO,aJ,aK,bad,aQ,big,aU,told,sv,W,_⟩:=hD cG;exact⟨_,W⟩
  have cQ:∀r,(r=g\/eU r)->gI ab r\/ab.heap.size<=r:=λr J=>by
   rcases J with rfl|J
   .obtain⟨c,W⟩:=cP;exact .inl ⟨_,c,W,Φ,Φ⟩
   .obtain⟨c,W⟩:=cJ r J;exact .inl ⟨_,c,W,Φ,Φ⟩
  have bU:=bc.aa aX λJ=>J.elim (λhe=>cu he) λJ=>bL (be _ J);have st:∀ {w':x3},ac w' V dv [bO t,Δ k,szv,am]->ct x7 (u5 dn (.pointer (σ ⟨V,0+3,ν⟩))) am w'/\ct x7 (u6 dv (Γ V) 3) (.pointer (σ ⟨V,0+3,ν⟩)) w'/\ct x7 (bF (Γ V)) (Γ V) w'/\True:=λW=>
   ⟨zG Ψ (W.cell (o:=0+3) rfl),nj (by rw[aT dv.p rfl]),nj (by rw[bQ]),trivial⟩
  refine⟨.inr (st bU),?_⟩;refine hX (f:=eM) (a:=bT) dn.u aY.i Ω rfl rfl λfD fE aw fF aD e0=>?_;refine⟨.inr (st (bU.ext aD)),?_⟩;obtain⟨L,aZ,bW,bX⟩:=id eV;have e1:bd eM 4 aY aN gr am L:=aZ.aa aX λr J I=>I.elim (λhe=>by
   obtain⟨c,W⟩:=cP;subst he;exact cL aZ W Φ J) λI=>(bb r J).2 (be r I)
  have bY:=e1.ext aD;refine iq (f:=eM) (a:=bT) dn.u aY.i rfl bY (by simpa using e0.sl) (cN.ext aD).one Ω Ω λcR e2 bk bn e3 cS=>?_;have bZ:=bU.ext aD;have cT:=bZ.aa cS λhe=>cL bY bZ Φ he;rw[bQ,aT dv.p rfl];refine bz (g:=V) (o:=3) dn.i (eC bn.sl).1 (eC bn.sl).2 cT Ξ λba cU fG b0=>?_;have b0:ac ba V dv [bO t,Δ k,szv,cR]:=b0;have fH:i<=4611686018427387904:=Ω
  rw[aL,wrap_i64 Ω Ω];have a1:ae (λr=>leadsTo am r\/r=V) aw ba:=(cS.mono λr _ h=>.inl h).trans (cU.mono λr _ h=>.inr h);have cV:∀r,(leadsTo am r\/r=V)-> ∃e c,ac aw r e c/\e≠al/\e≠b2/\e≠ci/\e≠br:=λr J=>by
   rcases J with J|rfl
   .obtain⟨rfl,c,W⟩:=dV bY J;exact⟨_,c,W,Φ,Φ,Φ,Φ⟩
   .exact⟨_,_,bZ,Φ,Φ,Φ,Φ⟩
  have b1:∀r,(leadsTo am r\/r=V)->gI aw r\/aw.heap.size<=r:=λr J=>by
   obtain⟨e,c,W,b3,b4,_⟩:=cV r J;exact .inl ⟨e,c,W,b3,b4⟩
  have fI:=aW.size;have fJ:=aX.size;have fK:=aD.size;have fL:=a1.size;have cW:∀r,leadsTo am r->r<ab.heap.size:=λr J=>by obtain⟨aJ,aK⟩:=aZ.leads J;omega
  have bf:∀r,r<ab.heap.size->¬H r->¬cM r:=λr J e4 b5=>(cO r b5).elim (λh=>e4 (be r h)) λh=>Ω
  have e5:∀r,leads szv r->r<ab.heap.size:=λr J=>by obtain⟨aJ,aK⟩:=bR bS J;omega
  refine⟨⟨i+1,rfl,Ω,?_,cR,e2,af++[x],_,cM,b0,er ((er bS aX cQ).ext aD) a1 b1,⟨L++[bT],bn.aa cU λr J he=>?_,by rw[o5,o5,bW];rfl,λj cY e7 a2 bg=>?_⟩,λr J=>?_,bf V bc.lt bL,λr J=>bf r (e5 r J) (eQ r J),λr J=>?_,?_,bN.step cC rfl λq ad=>eX q ad,λs' aF=>?_⟩,by simp only[bV];omega⟩
  .refine (((bm.trans (aW.aa _)).trans (aX.mono λr _ h=>?_)).trans (aD.aa _)).trans (a1.mono λr _ h=>?_)
   .exact h.elim (λh=>Ω) λh=>cB r (be r h)
   .exact h.elim (λh=>(bb r h).1) λh=>Ω
  .have he:r=V:=he;subst he;exact cL bn cT Φ J
  .by_cases e8:j<L.length
   .rw[Y0 e8] at a2;rw[Y0 Ω] at bg;exact (((bX j cY e7 a2 bg).dC aX cQ).ext aD).dC a1 b1
   .rw[Y1 Ω] at a2;rw[Y1 Ω] at bg;have e9:j-L.length=0:=by have:=(x4.1 a2).1;simp at this;omega
    have fb:j-af.length=0:=Ω
    rw[e9] at a2;rw[fb] at bg;cases a2;cases bg;exact (cN.ext aD).dC a1 b1
  .rcases e3 r J with h|h
   .exact⟨(bb r h).1,bf r (cW r h) (bb r h).2⟩
   .exact⟨by have:=bm.size;omega,λb5=>by have:=eY r b5;omega⟩
  .rcases cO r J with h|h
   .exact cB r (be r h)
   .have:=bm.size;omega
  .refine (eW.ext aD).dC a1 λr J=>.inl ?_;obtain⟨e,c,W,b3,b4,fc,fd⟩:=cV r J;refine⟨e,c,W,b3,b4,fc,fd,?_⟩;rcases J with J|rfl
   .exact bf r (cW r J) (bb r J).2
   .exact bf _ bc.lt bL
  .cases b6:cX acc s with
   |none=>rw[b6] at aF;cases aF
   |some q=>
    obtain⟨fM,cZ⟩:=q;rw[b6] at aF;cases aF;obtain⟨fN,fe⟩:=MP b6;refine⟨fe cD,?_,cE,cF⟩;rw[o5];simp only[S4];omega
 .
  rw[aS];have b7:so6.bind (cI (λ_ s=>cX acc s) au.toNat [])=so.map λs=>(af,s):=by
   unfold kX at bN;rw[bN];cases so with
   |none=>rfl
   |some s=>
    rcases eS with h|rfl
    .cases h
    .simp only[V7];rfl
  have row:∀ {w':x3},ae (λr=>r=g) X w'->oR w' gr am af/\ac w' V dv [bO t,Δ k,szv,am]/\ap .i64 al w' gz szv acc:=λbp=>by
   obtain⟨aO,aJ,aK,bad,aQ,big,aU,told,sv,W,_⟩:=hD aG;have c0:∀r,r=g->gI X r\/X.heap.size<=r:=λr J=>by subst J;exact .inl ⟨_,_,W,Φ,Φ⟩
   obtain⟨L,aZ,bW,bX⟩:=id cA;refine⟨⟨L,aZ.aa bp λr J he=>?_,bW,λi h x hi ff=>(bX i h x hi ff).dC bp c0⟩,cw.aa bp λhe=>cu he,er cz bp c0⟩;have he:r=g:=he;subst he;exact cL aZ W Φ J
  refine db (λan=>ae (λr=>r=g) X an/\bD an g X.heap.size H 100001 (so.bind λs=>if s.toks=[] then σ s else ν)) ?_ ?_
  rotate_left
  .intro fO c1;refine aR (λv ay=>X=ay/\ ∃b:Bool,v= .bool b/\(b=true-> ∃s,so=σ s/\s.toks≠[])/\(b=false-> ∀s,so=σ s->s.toks=[])) ?_ ?_
   .rintro _ _ ⟨rfl,b,rfl,b9,ca⟩;cases b with
    |true=>
     obtain⟨s,rfl,bq⟩:=b9 rfl;rw[bA];obtain⟨c2,c3,aO,bi,gs,sv,L,c4,aJ,aK,cb,aQ,big,aU,told,c5,bt,bu,a6,bw,c6,c7,c8,bx,c9,da,bB,dc,dd,de⟩:=id aG;obtain⟨⟨cc,fg⟩,_⟩:=bw.g bt bu;obtain⟨x,fP,rfl⟩:∃x l,bi=x::l:=by
      cases bi with
      |nil=>exact absurd bB.symm (by simpa using bq)
      |cons x l=>exact⟨x,l,rfl⟩
     rw[aM br.p 0 a6 rfl];refine CM cc λb o fh=>?_;rw[aT ci.p rfl,aA Ψ (fh 1 _ rfl)];refine (nB aG Ω).mono ?_;rintro _ bJ _ ⟨fi,fj⟩;refine c1 _ ⟨fi,?_⟩;show bD bJ g _ H 100001 (if s.toks=[] then σ s else ν);rw[if_neg bq];exact fj
    |false=>
     rw[aS];refine c1 _ ⟨ae.refl _ _,?_⟩;cases so with
     |none=>exact aG
     |some s=>
      show bD _ g _ H 100001 (if s.toks=[] then σ s else ν);rw[if_pos (ca rfl s rfl)];exact aG
   .intro fQ df;rw[kW aG];cases so with
    |none=>
     rw[S0,aS];exact df _ _ ⟨rfl,false,rfl,(λh=>by cases h),λ_ s I=>by cases I⟩
    |some s=>
     rw[T9,bA];obtain⟨c2,c3,aO,bi,gs,sv,L,c4,aJ,aK,cb,aQ,big,aU,told,c5,bt,bu,a6,bw,c6,c7,c8,bx,c9,da,bB,dc,dd,de⟩:=id aG;obtain⟨⟨cc,fg⟩,_⟩:=bw.g bt bu;rw[aM br.p 0 a6 rfl,CL cc,bM];have fR:bi.length=s.toks.length:=by rw[<-bB,u7]
     refine df _ _ ⟨rfl,_,rfl,λh=>⟨s,rfl,λbj=>?_⟩,λh s' aF=>?_⟩
     .have:=of_decide_eq_true h;have cY:s.toks.length=0:=by rw[bj];rfl
      omega
     .cases aF;have:=of_decide_eq_false h;exact j9 Ω
  rintro an ⟨dg,cd⟩;refine db (λY=>ae (λr=>r=g) X Y/\bD Y g X.heap.size H 100001 (so.bind λs=>if s.toks=[]/\¬0<=bad then σ s else ν)) ?_ ?_
  rotate_left
  .intro fS dh;refine aR (λv bl=>an=bl/\ ∃b:Bool,v= .bool b/\(b=true->(so.bind λs=>if s.toks=[]/\¬0<=bad then σ s else ν)=ν)/\(b=false->(so.bind λs=>if s.toks=[]/\¬0<=bad then σ s else ν)=so.bind λs=>if s.toks=[] then σ s else ν)) ?_ ?_
   .rintro _ _ ⟨rfl,b,rfl,b9,ca⟩;cases b with
    |true=>
     rw[bA];refine (nB cd Ω).mono ?_;rintro _ cm _ ⟨fk,fm⟩;exact dh _ ⟨dg.trans fk,by rw[b9 rfl];exact fm⟩
    |false=>
     rw[aS];exact dh _ ⟨dg,by rw[ca rfl];exact cd⟩
   .intro fU di;rw[kW cd];cases ad:(so.bind λs=>if s.toks=[] then σ s else ν) with
    |none=>
     rw[S0,aS];refine di _ _ ⟨rfl,false,rfl,(λh=>by cases h),λ_=>?_⟩;cases so with
     |none=>rfl
     |some s=>
      have ad:(if s.toks=[] then σ s else ν)=ν:=ad;show (if s.toks=[]/\¬0<=bad then σ s else ν)=(if s.toks=[] then σ s else ν);rw[ad];split at ad
      .cases ad
      .rename_i bq;rw[if_neg (λh=>bq h.1)]
    |some s=>
     rw[T9,bA,cK];refine di _ _ ⟨rfl,_,rfl,λh=>?_,λh=>?_⟩
     .have bj:=of_decide_eq_true h;cases so with
      |none=>rfl
      |some s=>exact if_neg λh=>h.2 bj
     .have bj:=of_decide_eq_false h;cases so with
      |none=>rfl
      |some s=>
       show (if s.toks=[]/\¬0<=bad then σ s else ν)=(if s.toks=[] then σ s else ν);by_cases I:s.toks=[]
       .rw[if_pos I,if_pos ⟨I,bj⟩]
       .rw[if_neg I,if_neg λh=>I h.1]
  rintro Y ⟨dj,bC⟩;obtain⟨fo,fp,fq⟩:=row dj;have fs:ae (λr=>w0.heap.size<=r) w0 Y:=bm.trans (dj.mono λr _ h=>by have h:r=g:=h;omega);have bE:Ext w0 Y:=fs.ext λr J he=>Ω
  rw[qj bC];cases ad:(so.bind λs=>if s.toks=[]/\¬0<=bad then σ s else ν) with
  |none=>
   rw[S0,X3,bA];intro aH dk _ _;obtain⟨aO,aJ,aK,cb,aQ,big,aU,told,sv,W,_⟩:=hD (bC.ext dk);rw[aM br.p 4 W rfl,aM br.p 3 W rfl];refine bG _ _ af so (bE.trans dk) b7 (λs I aC=>?_) λ_=>⟨_,_,rfl⟩;subst I;have ad:(if s.toks=[]/\¬0<=bad then σ s else ν)=ν:=ad;rw[if_pos ⟨aC.1,aC.2.1⟩] at ad;cases ad
  |some s=>
   rw[ad] at bC;rw[T9,Z8,aS];obtain⟨s',rfl,aF⟩:∃s',so=σ s'/\(if s'.toks=[]/\¬0<=bad then σ s' else ν)=σ s:=by
    cases so with
    |none=>cases ad
    |some s'=>exact⟨s',rfl,ad⟩
   split at aF
   .rename_i dl;cases aF;obtain⟨c2,c3,aO,bi,gs,sv,L,c4,aJ,aK,cb,aQ,big,aU,told,c5,bt,bu,a6,bw,c6,c7,c8,bx,c9,da,bB,dc,dd,de⟩:=id bC;rw[aM br.p 5 a6 rfl,bh,ai];refine⟨λch=>?_,λch=>?_⟩
    .intro aI dm _ _;have dp:=a6.ext dm;rw[aM br.p 6 dp rfl,aM br.p 5 dp rfl];refine bG _ _ af _ (bE.trans dm) b7 (λcZ dq aC=>?_) λ_=>⟨_,_,rfl⟩;cases dq;rw[bx.1 ch] at aC;cases aC.2.2
    .rw[aV cH.u (du.ext bE)];refine bG _ _ af _ bE b7 (λcZ dq aC=>⟨rfl,szv,gz,am,gr,fp,fq,fo⟩) λft=>?_;refine absurd ⟨dl.1,dl.2,?_⟩ (ft s rfl);cases W:s.big with
     |false=>rfl
     |true=>exact absurd (bx.2 W) ch
   .cases aF
def Zero (so:Option az):Prop:=∀s,so=σ s->s.told=0/\s.toks.length<=100000
theorem Zero.big {so:Option az} (h:Zero so) (b:Bool):Zero (so.map (a8 b)):=λs I=>by
 cases so with
 |none=>cases I
 |some s0=>cases I;exact h s0 rfl
theorem zero_num {lo hi:Int} {so:Option az} (h:Zero so):Zero ((a7 lo hi so).map (·.2)):=λs I=>by
 cases so with
 |none=>cases I
 |some s0=>
  have I:V6 (λx=>x.2) (bc lo hi s0)=σ s:=I;cases J:bc lo hi s0 with
  |none=>rw[J] at I;cases I
  |some q=>
   obtain⟨n,V⟩:=q;rw[J] at I;cases I;have U:=dw J;have:=U.1;obtain⟨h1,W⟩:=h s0 rfl;exact⟨U.eqs.1.trans h1,by show V.toks.length<=100000;omega⟩
theorem MT {so:Option az} (h:Zero so):Zero ((i9 so).map (·.2)):=λs I=>by
 cases so with
 |none=>cases I
 |some s0=>
  have I:V6 (λx=>x.2) (dJ s0)=σ s:=I;cases U:dJ s0 with
  |none=>rw[U] at I;cases I
  |some q=>
   obtain⟨n,W⟩:=q;rw[U] at I;cases I;obtain⟨J,V⟩:=rU U;obtain⟨h1,X⟩:=h s0 rfl;have:s0.toks.length=W.toks.length+1:=by rw[J];rfl
   exact⟨by show W.told=0;rw[V];exact h1,by show W.toks.length<=100000;omega⟩
theorem MU {so:Option az} {f:bY} (h:hr ⟨(lex pl).1,0,false,[]⟩=so.map λs=>(f,s)) (I:¬65536<pl.length):fS pl=so.bind λs=>if s.toks=[]/\(lex pl).2=true/\s.big=false then σ f else ν:=by
 unfold fS;rw[if_neg I,h];cases so<;>rfl
theorem MV (I:pl.length<=60000):(∀t∈(lex pl).1,Bytes t/\t.length<=65536)/\(lex pl).1.length<=60000:=by
 refine⟨λt J=>?_,Y7 (py pl.length pl (p9 _)) I⟩;obtain⟨_,U,W⟩:=rI pl.length pl (p9 _) t J;refine⟨λb V=>?_,Ω⟩;have:=of_decide_eq_true (U b V);omega
theorem CW {p:x1} (aU:aB .u8 w p pl) (cR:Bytes pl) (cS:pl.length<=60000):aj x7 Fj [p] w (MR w pl):=by
 obtain⟨cT,ee⟩:=MV cS;refine aw func35 ?_;rw[aV cH.u aU,bM,ai];refine⟨λh=>Ω,λ_=>?_⟩;refine (MF aU cR Ω).mono ?_;rintro _ J _ ⟨bb,aW,bI,bad,rfl,bJ,bK,cV,ef,bL⟩;rw[bf,bg,aV cH.u (aU.ext bb),dc (cs:=#[aW,Δ (pl.length:Int),Δ 4,Δ 0,Δ 0,Δ 0,Δ 0,Δ 0,.slice ν 0 0]) (by obtain⟨_,_,_,_,_,rfl,_⟩:=bJ;kernel_rfl)];refine bm λg V eg aX aF=>?_;have aF:ac V g br (fW aW (pl.length:Int) 4 0 0 0 0 0 (.slice ν 0 0)):=aF;have eh:=bb.size;have ei:=aX.size;have ej:=aF.lt;refine db (λY=>Ext w Y/\ae (λr=>r=g) V Y/\ ∃aG aH:Int,aH≠0/\ac Y g br (fW aW aG aH 0 0 0 0 0 (.slice ν 0 0))) ?_ ?_
 rotate_left
 .intro av aA;have bP:=bb.trans aX;rw[cK,ai];refine⟨λ_=>?_,λ_=>aA _ ⟨bP,ae.refl _ _,_,_,Ω,aF⟩⟩;rw[bQ,aT br.p rfl];refine bz (g:=g) (o:=1) ag.i rfl rfl aF (by simp[fW]) λek cW em cX=>?_;rw[bQ,aT br.p rfl];refine bz (g:=g) (o:=2) ag.i rfl rfl cX (by simp[fW]) λeo cY ep cZ=>?_;have ab:=cW.trans cY;exact aA _ ⟨bP.then ab λr U he=>by have he:r=g:=he;omega,ab,bad,11,Ω,cZ⟩
 rintro Y ⟨bR,be,aG,aH,c0,bS⟩;have z3:=be.size;have c1:bD Y g Y.heap.size bo 100000 (σ ⟨(lex pl).1,0,false,[]⟩):=by
  refine⟨p9 _,Y,aW,bI,0,_,[],[],aG,aH,0,0,0,0,0,rfl,ae.refl _ _,⟨_,bS⟩,bS,⟨⟨?_,λr U=>?_⟩,bd.nil _ _ _ _ _,rfl,λi h x hi=>by simp at hi⟩,λr U=>fa U,rfl,c0,Ξ,λ_=>rfl,trivial,bK,cT,rfl,?_⟩
  .refine (bJ.aa (aX.aa λ_=>False) λ_ _ h=>h).aa be λr U he=>?_;have he:r=g:=he;obtain⟨c,an⟩:=bL r U;have:=an.lt;omega
  .obtain⟨c,an⟩:=bL r U;exact⟨c,(an.ext aX).aa be λhe=>by have he:r=g:=he;have:=an.lt;omega⟩
  .have:bI.length=(lex pl).1.length:=by rw[<-bK,u7]
   simp only[List.length_nil];omega
 have es:∀ {ay:x3} {c2 N:Nat} {H:ah} {so:Option az},bD ay g c2 H N so->True:=λ_=>trivial;rw[dc (cs:=#[bO [],Δ 0,.slice ν 0 0,.slice ν 0 0]) Ψ];refine bm λW c3 et bh aY=>?_;have aY:ac c3 W dv [bO [],Δ 0,.slice ν 0 0,.slice ν 0 0]:=aY;have eu:Y.heap.size<=W:=Ω
 have ev:=aY.lt;have c4:W≠g:=Ω
 have af:∀ {ay aI:x3} {c:List x1},ac ay W dv c->ae (λr=>r=g) ay aI->ac aI W dv c:=λan ab=>an.aa ab λhe=>c4 he;refine (CN (c1.ext bh)).mono ?_;rintro _ c5 _ ⟨⟨bi,c6⟩,t,bT,rfl,ew,ey,c7⟩;refine bN ci.i λbU ez eA c8 c9=>?_;refine cc (vs:=[bO t,Δ bT]) ci.i rfl rfl (by intro v bW;simp at bW;rcases bW with rfl|rfl<;>rfl) c9 λda dd eB bX=>?_;have aZ:Ext c5 da:=c8.put dd Ω;have de:=(af aY bi).ext aZ;rw[aD ci.p 0 bX rfl,bQ,aT dv.p rfl];refine bz (g:=W) (o:=0) cU.i rfl rfl de Ξ λbj bk eC bl=>?_;have bl:ac bj W dv [bO t,Δ 0,.slice ν 0 0,.slice ν 0 0]:=bl;have df:=(c6.ext aZ).new bk λr U=>by have U:r=W:=U;omega
 have z4:=bh.size;have z5:=bi.size;have eD:=aZ.size;have bY:ac bj bU ci [bO t,Δ bT]:=bX.aa bk λhe=>by have he:bU=W:=he;omega
 rw[aD ci.p 0 bY rfl,m9 cU.u,bM,aD ci.p 1 bY rfl];have dg:ae (λr=>w.heap.size<=r) w bj:=((((bR.aa _).trans (bh.aa _)).trans (bi.mono λr _ h=>by have h:r=g:=h;omega)).trans (aZ.aa _)).trans (bk.mono λr _ h=>by have h:r=W:=h;omega);have up:∀ {ay aI:x3},ae (λr=>w.heap.size<=r) w ay->ae (λr=>r=g) ay aI->ae (λr=>w.heap.size<=r) w aI:=λh k=>h.trans (k.mono λr _ h=>by have h:r=g:=h;omega);refine (mj df).mono ?_;rintro _ eE _ ⟨bZ,aJ⟩;have dh:=up dg bZ;have di:=af bl bZ;generalize bp:(((i9 (σ ⟨(lex pl).1,0,false,[]⟩)).map (·.2)).map (a8 (decide ((64:Int)<(t.length:Int)))))=bq at aJ;refine (kg aJ).mono ?_;rintro _ eF _ ⟨⟨b0,dj⟩,n,eH,rfl,b1,dk⟩;rw[bf,bg,bM];refine (mj dj).mono ?_;rintro _ eI _ ⟨b2,b4⟩;have dl:=up (up dh b0) b2;have dm:=af (af di b0) b2;generalize b5:((a7 1 4611686018427387904 bq).map (·.2)).map (a8 (decide (64<n)))=bt at b4;refine (kg b4).mono ?_;rintro _ eJ _ ⟨⟨b6,b7⟩,most,eK,rfl,hm,dn⟩;rw[bf,bg];generalize b8:(a7 1 4611686018427387904 bt).map (·.2)=bu at b7;refine (kg b7).mono ?_;rintro _ eL _ ⟨⟨b9,dp⟩,bw,eM,rfl,ca,dq⟩;rw[bf,bg,bM];refine (mj dp).mono ?_;rintro _ eN _ ⟨cb,cd⟩;generalize ce:((a7 0 4611686018427387904 bu).map (·.2)).map (a8 (decide (256<bw)))=cg at cd;refine (kg cd).mono ?_;rintro _ eO _ ⟨⟨ch,dr⟩,k,eP,rfl,hk,eQ⟩;rw[bf,bg,bM];refine (mj dr).mono ?_;rintro _ eR _ ⟨cj,ck⟩;generalize cl:((a7 1 4611686018427387904 cg).map (·.2)).map (a8 (decide (2147483648<k)))=aK at ck;have ds:=up (up (up (up (up dl b6) b9) cb) ch) cj;have dt:=af (af (af (af (af dm b6) b9) cb) ch) cj;rw[bQ,aT dv.p rfl];refine bz (g:=W) (o:=1) al.i rfl rfl dt Ξ λcm cn eS bx=>?_;have bx:ac cm W dv [bO t,Δ k,.slice ν 0 0,.slice ν 0 0]:=bx;have du:=ck.new cn λr U=>by have U:r=W:=U;omega
 have cp:ae (λr=>w.heap.size<=r) w cm:=ds.trans (cn.mono λr _ h=>by have h:r=W:=h;omega);have eU:0<=n/\n<=4611686018427387904:=by
  cases X:a7 1 4611686018427387904 bq with
  |none=>have:=dk X;omega
  |some q=>have aJ:=b1 q X;have:=mf (n:=q.1) (s':=q.2) X;omega
 have eV:0<=most/\most<=4611686018427387904:=by
  cases X:a7 1 4611686018427387904 bt with
  |none=>have:=dn X;omega
  |some q=>have aJ:=hm q X;have:=mf (n:=q.1) (s':=q.2) X;omega
 have dx:0<=bw/\bw<=4611686018427387904:=by
  cases X:a7 0 4611686018427387904 bu with
  |none=>have:=dq X;omega
  |some q=>have aJ:=ca q X;have:=mf (n:=q.1) (s':=q.2) X;omega
 have dy:Zero (σ (⟨(lex pl).1,0,false,[]⟩:az)):=λs I=>by cases I;exact⟨rfl,by simp only;omega⟩
 have dz:Zero bq:=by rw[<-bp];exact (MT dy).big _
 have dA:Zero bt:=by rw[<-b5];exact (zero_num dz).big _
 have dC:Zero bu:=by rw[<-b8];exact zero_num dA
 have dD:Zero cg:=by rw[<-ce];exact (zero_num dC).big _
 have cq:Zero aK:=by rw[<-cl];exact (zero_num dD).big _
 have eW:=cp.size;refine⟨λbB au=>∃i:Nat,bB=Δ (i:Int)/\i<=n.toNat/\ae (λr=>w.heap.size<=r) w au/\ ∃szv gz acc so,ac au W dv [bO t,Δ k,szv,.slice ν 0 0]/\ap .i64 al au gz szv acc/\(∀r,leads szv r->Y.heap.size<=r)/\bD au g Y.heap.size bo 100000 so/\kX (fC most) n.toNat i aK acc so/\ ∀s,so=σ s->s.told=0/\acc.length+s.toks.length<=100000/\ ∀z∈acc,1<=z/\z<=ao,λbB _=>n.toNat-(bV bB).toNat,
  ⟨0,rfl,X2 _,cp,_,0,[],aK,bx,ap.nil _ _ _ _,(λr U=>by obtain⟨a,a1,c,aG,aH⟩:=U;cases aG),du,?_,λs I=>⟨(cq s I).1,by simpa using (cq s I).2,λz dE=>by cases dE⟩⟩,?_⟩
 .unfold kX;cases aK<;>rfl
 rintro _ au ⟨i,rfl,hi,bC,szv,gz,acc,so,cr,ct,cu,aN,bE,cw⟩;refine aR (λv dF=>au=dF/\((v= .bool true/\i<n.toNat/\ ∃s,so=σ s)\/(v= .bool false/\(so=ν\/i=n.toNat)))) ?_ ?_
 rotate_left
 .intro av aA;rw[aP,ai];refine⟨λcz=>?_,λeX=>aA _ _ ⟨rfl,.inr ⟨rfl,.inr Ω⟩⟩⟩;rw[kW aN];cases so with
  |none=>exact aA _ _ ⟨rfl,.inr ⟨rfl,.inl rfl⟩⟩
  |some s=>exact aA _ _ ⟨rfl,.inl ⟨rfl,Ω,s,rfl⟩⟩
 rintro _ _ ⟨rfl,⟨rfl,cz,s,rfl⟩|⟨rfl,dG⟩⟩
 .rw[bA];obtain⟨dH,eY,dI⟩:=cw s rfl;refine (kg aN).mono ?_;rintro _ eZ _ ⟨⟨dJ,dK⟩,z,e0,rfl,bF,e1⟩;rw[bf,bg,bM];refine (mj dK).mono ?_;rintro _ e2 _ ⟨dL,dM⟩;have a2:=dJ.trans dL;have cA:=af cr a2;have dN:∀r,r=g->gI au r\/au.heap.size<=r:=λr U=>(kh aN r U).imp (λ⟨e,c,an,dO,dP,_⟩=>⟨e,c,an,dO,dP⟩) id;have cB:=er ct a2 dN;rw[aM dv.p 2 cA rfl];refine en aq.u al.i rfl λa22 e3 dQ e4 aE dR=>?_;refine hc aq.u al.i rfl (cB.ext aE) dR.ls Θ Θ λcC dS e5 a6 dT cD=>?_;have cE:=cA.ext aE;have cF:=cE.aa cD λhe=>b3 (cB.ext aE) cE Φ he rfl;rw[bQ,aT dv.p rfl];refine bz (g:=W) (o:=2) aq.i a6.ls.cells.1 a6.ls.cells.2 cF Ξ λcG cJ e6 bG=>?_;have bG:ac cG W dv [bO t,Δ k,cC,.slice ν 0 0]:=bG;rw[aL,wrap_i64 Ω Ω];have cL:ae (λr=>leads szv r\/r=W) dQ cG:=(cD.mono λr _ h=>.inl h).trans (cJ.mono λr _ h=>.inr h);have cM:∀r,(leads szv r\/r=W)->Y.heap.size<=r:=λr U=>U.elim (cu r) λU=>Ω
  have e7:w.heap.size<=Y.heap.size:=bR.size;have e8:=a2.size;have z22:=aE.size;have e9:=bC.size;have fb:=aN.lt;refine⟨⟨i+1,rfl,Ω,((up bC a2).trans (aE.aa _)).trans (cL.mono λr _ h=>by have:=cM r h;omega),cC,dS,acc++[z],((a7 1 most (σ s)).map (·.2)).map (a8 (decide (32<z))),bG,bn a6 cJ λr U he=>?_,λr U=>?_,(dM.ext aE).new cL cM,?_,λs' ak=>?_⟩,by simp only[bV];omega⟩
  .have he:r=W:=he;subst he;exact b3 a6 cF Φ U rfl
  .rcases dT r U with h|h
   .exact cu r h
   .omega
  .refine bE.step cz ?_ λq X=>?_
   .show (V6 _ (bc 1 most s)).map _=_;unfold fC;cases X:bc 1 most s with
    |none=>rfl
    |some q=>
     have:=bF q X;obtain⟨cN,ba⟩:=q;subst this;rfl
   .unfold fC at X;cases am:bc 1 most s with
    |none=>rw[am] at X;cases X
    |some aO=>
     rw[am] at X;have:=bF aO am;obtain⟨cN,ba⟩:=aO;cases X;exact this
  .cases am:bc 1 most s with
   |none=>
    have ak:(V6 (λx=>x.2) (bc 1 most s)).map (a8 (decide (32<z)))=σ s':=ak;rw[am] at ak;cases ak
   |some aO=>
    have ak:(V6 (λx=>x.2) (bc 1 most s)).map (a8 (decide (32<z)))=σ s':=ak;rw[am] at ak;have dU:=bF aO am;obtain⟨cN,ba⟩:=aO;cases ak;have cO:=dw am;have iC:=(hx am).1;have fc:=cO.1;refine⟨by show ba.told=0;rw[cO.eqs.1];exact dH,?_,λy aQ=>?_⟩
    .rw[o5];show acc.length+1+ba.toks.length<=100000;omega
    .rcases l7.1 aQ with aQ|aQ
     .exact dI y aQ
     .rw[n9.1 aQ,dU];exact⟨iC.1,by unfold ao;have:=iC.2;simp only at*;omega⟩
 .rw[aS];have dV:aK.bind (cI (fC most) n.toNat [])=so.map λs=>(acc,s):=by
   unfold kX at bE;rw[bE];cases so with
   |none=>rfl
   |some s=>
    rcases dG with h|rfl
    .cases h
    .simp only[V7];rfl
  refine MS bC cr ct aN (λs I=>?_) Ω Ω aU dx λv w' dW dX bH dY dZ cP=>?_
  .obtain⟨ea,fd,a3⟩:=cw s I;exact⟨λ_=>by rw[ea];omega,Ω,a3,Ω⟩
  .have eb:(decide ((64:Int)<(t.length:Int)))=decide (64<t.length):=by rw[V5,decide_eq_true_eq,decide_eq_true_eq];omega
   rw[eb] at bp;have ec:=MQ (s0:=⟨(lex pl).1,0,false,[]⟩) bp.symm (λq X=>c7 q X) b5.symm b1 b8.symm hm ce.symm ca cl.symm hk dV dY;have ax:=MU ec Ω;have cQ:¬0<=bad↔(lex pl).2=true:=by
    rw[cV];cases (lex pl).2<;>simp
   cases dX with
   |none=>
    obtain⟨a1,e,rfl⟩:=cP λs I=>by cases I
    exact⟨bH,a1,e,λ_=>rfl,λf ad=>by rw[ax] at ad;cases ad⟩
   |some s=>
    have ax:fS pl=if s.toks=[]/\(lex pl).2=true/\s.big=false then σ ⟨t,k,acc,dW⟩ else ν:=ax;by_cases ab:s.toks=[]/\(lex pl).2=true/\s.big=false
    .rw[if_pos ab] at ax;obtain⟨rfl,ed⟩:=dZ s rfl ⟨ab.1,cQ.2 ab.2.1,ab.2.2⟩;exact⟨bH,_,_,(λad=>by rw[ax] at ad;cases ad),λf ad=>⟨W,rfl,by rw[ax] at ad;cases ad;exact ed⟩⟩
    .rw[if_neg ab] at ax;obtain⟨a1,e,rfl⟩:=cP λs' ak aC=>by
      cases ak;exact ab ⟨aC.1,cQ.1 aC.2.1,aC.2.2⟩
     exact⟨bH,a1,e,λ_=>rfl,λf ad=>by rw[ax] at ad;cases ad⟩
theorem CX {a b:Int}:aj x7 FA [Δ a,Δ b] w λv w'=>v=Δ (min a b)/\Ext w w':=by
 refine aw func61 ?_;rw[aP,ai];exact⟨λh=>⟨by congr 1;omega,Ext.refl _⟩,λh=>⟨by congr 1;omega,Ext.refl _⟩⟩
theorem MW {ab:iB} {x:cm} {aI:x1} {t:Λ} {k:Int} (h:gq w ab x) (au:(x.lines.map (·.1)).Nodup) (ax:aB .i64 w aI t):aj x7 Hk [.agg (eM ab).toArray,aI,Δ k] w λv w'=>v=Δ (jr x k t)/\Ext w w':=by
 obtain⟨⟨g1,ay⟩,⟨aZ,az⟩,aA,a1,L,W,aC,ah⟩:=id h;refine aw func219 ?_;refine bm λaE J a2 ad I=>?_;have I:ac J aE aY (eM ab):=by
  obtain⟨_,_,_,aG⟩:=df ay.ls;obtain⟨_,_,_,aH⟩:=df az.ls;obtain⟨_,_,_,_,_,aJ,_⟩:=W.sl;simp only[eM,aG,aH,aJ] at I ⊢;exact I
 have aK:=W.ext ad;have aM:L.length=x.lines.length:=by rw[<-ah,u7]
 rw[aD aY.p 2 I rfl,aD aY.p 3 I rfl,eY dR.u aK,aA];refine bU.range L.length (λi X V=>Ext J V/\ ∃c:Int,X=Δ c/\min c k=kT x k i t) W.le ⟨Ext.refl _,x.other,rfl,(BJ x k t).symm⟩ ?_ ?_
 .rintro i _ V aN hi ⟨U,c,rfl,Y⟩ aO;obtain⟨y,ae⟩:=aF (l:=L) hi;obtain⟨gy,ak⟩:=aC y (x5 ae);have af:=ad.trans U;have aP:x.lines[i]? =σ (y.t,y.c):=by rw[<-ah,x8,ae];rfl
  have al:=BL (k:=k) au aP t;refine bB Ω ?_;refine aR (λX am=>Ext J am/\ ∃c:Int,X=Δ c/\min c k=kT x k (i+1) t) ?_ ?_
  .rintro X am aQ;rw[aL];exact aO _ _ aQ
  intro av ao;have ap:=W.ext af;rw[dq rfl dR.u b2.i ap hi,bI b2.p b2.i rfl (ap.range ae)];refine bN b2.i λan a6 a7 aS aT=>?_;refine cc (vs:=nA y) b2.i rfl rfl (wr ak) aT λaU aV a8 aq=>?_;have aa:Ext V aU:=aS.put aV Ω;rw[aD b2.p 0 aq rfl];refine (wq ((ak.ls.ext af).ext aa) ((ax.ext af).ext aa)).mono ?_;rintro _ ba _ ⟨rfl,ag⟩;rw[ai];refine⟨λhe=>?_,λaW=>?_⟩
  .rw[aD b2.p 1 (aq.ext ag) rfl];refine ao _ _ ⟨(U.trans aa).trans ag,y.c,rfl,?_⟩;rw[al,if_pos he.symm]
  .refine ao _ _ ⟨(U.trans aa).trans ag,c,rfl,?_⟩;rw[al,if_neg λhe=>aW he.symm,Y]
 .rintro _ V aN ⟨U,c,rfl,Y⟩;rw[aM,BK] at Y;refine b6 Ω ?_;refine CX.mono ?_;rintro _ bb _ ⟨rfl,aX⟩;exact⟨by rw[Y],(ad.trans U).trans aX⟩
theorem MX {an:x1} (h:aB .i64 w an l) (au:l.Nodup) (aU:l.length<=64):aj x7 Hj [an] w λv w'=>Ext w w'/\ ∃g,ap .i64 ag w' g v (bj l)/\ ∀r,leads v r->w.heap.size<=r:=by
 refine aw func218 ?_;have ax:∀i,i<=64->(((W7 i).map λ(v:Nat)=>(v:Int)).filter λv=>decide (v∈l)).length<=i:=λi _=>by
  have:=List.length_filter_le (λv=>decide (v∈l)) ((W7 i).map λ(v:Nat)=>(v:Int));simp at this;omega
 refine bU.range 64 (λi I J=>Ext w J/\ ∃g,ap .i64 ag J g I (((W7 i).map λ(v:Nat)=>(v:Int)).filter λv=>decide (v∈l))/\ ∀r,leads I r->w.heap.size<=r) Ω ⟨Ext.refl _,0,ap.nil _ _ _ _,λr Y=>by obtain⟨a,n,c,ay,aW⟩:=Y;cases ay⟩ ?_ ?_
 .rintro i I J k hi ⟨aa,g,hm,ac⟩ hk;refine bB Ω ?_;rw[aV aq.u (h.ext aa)];have az:=ax i Ω;generalize aA:(((W7 i).map λ(v:Nat)=>(v:Int)).filter λv=>decide (v∈l))=A at hm az;refine bU.range l.length (λj I V=>Ext w V/\ ∃g,ap .i64 ag V g I (A++(if (i:Int)∈l.take j then[(i:Int)] else[]))/\ ∀r,leads I r->w.heap.size<=r) h.le ⟨aa,g,by simpa using hm,ac⟩ ?_ ?_
  .rintro j aD V aE aG ⟨W,ad,U,X⟩ aH;obtain⟨x,ae⟩:=aF (l:=l) aG;refine bB Ω ?_;refine aR (λI ab=>Ext w ab/\ ∃g,ap .i64 ag ab g I (A++(if (i:Int)∈l.take (j+1) then[(i:Int)] else[]))/\ ∀r,leads I r->w.heap.size<=r) ?_ ?_
   .rintro aX ab aI;rw[aL];exact aH _ _ aI
   intro av ao;have af:(i:Int)∈l.take (j+1)↔(i:Int)∈l.take j\/(i:Int)=x:=by
    rw[r8,ae,l9,l7,n9]
   rw[ba aq.u al.i Ψ (h.ext W) ae,be,ai];refine⟨λhe=>?_,λaJ=>?_⟩
   .have aK:(i:Int)∉l.take j:=λhm=>by
     obtain⟨p,ah⟩:=X4.1 hm;have aM:p<j:=by have:=(x4.1 ah).1;rw[j0] at this;omega
     rw[Y3 aM,<-he] at ah;have:=j3 au ah ae;omega
    rw[if_neg aK,U5] at U;refine en (k:=.i64) am.u ag.i rfl λa3 aY ab aZ ak aN=>?_;refine hc am.u ag.i rfl (U.ext ak) aN.ls Θ Θ λa1 aO a2 aQ aS aT=>?_;have a6:=W.size;have z3:=ak.size;refine ao _ _ ⟨(W.trans ak).then aT λr Y he=>by have:=X r he;omega,aO,?_,λr Y=>(aS r Y).elim (X r) λh=>Ω⟩;rw[if_pos (af.2 (.inr he.symm))];exact aQ
   .refine ao _ _ ⟨W,ad,?_,X⟩;have:((i:Int)∈l.take (j+1))=((i:Int)∈l.take j):=propext ⟨λaC=>(af.1 aC).resolve_right λhe=>aJ he.symm,λaC=>af.2 (.inl aC)⟩;simp only[this];exact U
  .rintro aD V aE ⟨W,ad,U,X⟩;rw[o6] at U;refine b6 Ω ?_;rw[aL];refine hk _ _ ⟨W,ad,?_,X⟩;rw[List.range_succ,c8,List.filter_append,aA];by_cases hm:(i:Int)∈l
   .rw[if_pos hm] at U;simpa[hm] using U
   .rw[if_neg hm] at U;simpa[hm] using U
 .rintro I J k ⟨aa,g,hm,ac⟩;rw[aP,ai];exact⟨λh=>Ω,λ_=>⟨aa,g,hm,ac⟩⟩
structure fd where
 aJ:x1
 szv:x1
 aW:x1
 sc:Λ
 cs:Λ
def da (h:fd):List x1:=[h.aJ,h.szv,h.aW]
def oS (h:fd) (r:Nat):Prop:=leads h.aW r\/leads h.aJ r\/leads h.szv r
def fx (w:x3) (sizes:Λ) (h:fd):Prop:=(∃g,ap .i64 ag w g h.aJ h.sc)/\(∃g,ap .i64 ag w g h.szv (bS sizes h.sc))/\ ∃g,ap .i64 al w g h.aW h.cs
theorem fx.ext {h:fd} (aC:fx w sizes h) (I:Ext w w'):fx w' sizes h:=by
 obtain⟨⟨g1,h1⟩,⟨J,U⟩,V,W⟩:=aC;exact⟨⟨g1,h1.ext I⟩,⟨J,U.ext I⟩,V,W.ext I⟩
theorem fx.one {h:fd} (aC:fx w sizes h):∀u∈da h,u.oneCell'=true:=by
 obtain⟨⟨g1,h1⟩,⟨U,I⟩,V,J⟩:=aC;intro u hu;simp[da] at hu;rcases hu with rfl|rfl|rfl
 .exact h1.ls.cells.2
 .exact I.ls.cells.2
 .exact J.ls.cells.2
theorem CY {f:bY} {x:cm} {aN:iB} (h:gq w aN x) (bc:eX N f) (b8:x∈f.funs) (cQ:ap .i64 al w gz sv f.sizes):
  aj x7 GS [.agg (eM aN).toArray,sv,Δ f.k] w λv w'=>Ext w w'/\ ∃c:fd,v= .agg (da c).toArray/\c.sc=bj x.scope/\c.cs=(hy f.sizes f.k x).2/\fx w' f.sizes c/\ ∀r,oS c r->w.heap.size<=r:=by
 obtain⟨aO,cR,eh⟩:=bc.funs x b8;have b9:=sj aO bc.sizes.2.1;have ca:=si b9 aO.scope.1;have cS:(bj x.scope).length<=6:=by rw[ca.length_eq];exact cR
 have cT:=oL bc b8;have cb:=BA x.scope;obtain⟨⟨g1,bd⟩,⟨ei,cU⟩,ej,ek,cV⟩:=id h;refine aw func173 ?_;refine bm λbD J em cd aP=>?_;have aP:ac J bD aY (eM aN):=by
  obtain⟨L,cW,_⟩:=cV;obtain⟨_,_,_,ab⟩:=df bd.ls;obtain⟨_,_,_,ah⟩:=df cU.ls;obtain⟨_,_,_,_,_,cX,_⟩:=cW.sl;simp only[eM,ab,ah,cX] at aP ⊢;exact aP
 refine bN aZ.i λcg V eo bE bF=>?_;have bG:=cd.trans bE;rw[aD aY.p 0 (aP.ext bE) rfl];refine (MX (bd.ls.ext bG) aO.scope.1 Ω).mono ?_;rintro aJ ch _ ⟨bf,gr,bH,cY⟩;rw[dc (cs:=#[aJ,.slice ν 0 0,.slice ν 0 0]) (by obtain⟨_,_,_,rfl⟩:=df bH.ls;kernel_rfl)];refine bN aZ.i λX ep cZ c0 c1=>?_;refine cc (vs:=[aJ,.slice ν 0 0,.slice ν 0 0]) aZ.i rfl rfl (by intro u hu;simp at hu;rcases hu with rfl|rfl;exact bH.ls.cells.2;rfl) c1 λan c2 er aE=>?_;have bg:Ext ch an:=c0.put c2 Ω;have ci:=(bG.trans bf).trans bg;have aA:=bH.ext bg;have bJ:=((aP.ext bE).ext bf).ext bg;have cj:=(bF.ext bf).ext bg;have es:=bG.size;have z3:=bf.size;have et:=ci.size;have eu:=aE.lt;have ev:X=ch.heap.size:=cZ;rw[aD aZ.p 0 aE rfl,aV am.u aA.ls];have ck:∀v∈bj x.scope,0<=v/\v<f.sizes.length:=λv hm=>aO.scope.2 v ((p1 b9).1 hm);have bK:∀ {w':x3},ae (λr=>r=X\/an.heap.size<=r) an w'->Ext w w':=λbL=>ci.then bL λr U he=>Ω
 have bM:(bS f.sizes (bj x.scope)).length=(bj x.scope).length:=by simp[bS]
 refine ce.range (bj x.scope).length (λi ao=>ae (λr=>r=X\/an.heap.size<=r) an ao/\ ∃szv gs,ac ao X aZ [aJ,szv,.slice ν 0 0]/\ap .i64 ag ao gs szv ((bS f.sizes (bj x.scope)).take i)/\ ∀r,leads szv r->an.heap.size<=r) Ω
  ⟨ae.refl _ _,_,0,aE,ap.nil _ _ _ _,λr U=>by obtain⟨a,n,c,ab,ah⟩:=U;cases ab⟩ ?_ ?_
 .rintro i ao c3 hi ⟨au,szv,gs,c4,aQ,bh⟩ c5;obtain⟨v,bO⟩:=aF (l:=(bj x.scope)) hi;have ew:=ck v (x5 bO);have c6:ap .i64 ag ao gr aJ (bj x.scope):=bn aA au λr U I=>by
   rcases I with rfl|I
   .exact b3 aA aE Φ U rfl
   .obtain⟨ab,ah⟩:=bR aA U;omega
  refine bB Ω ?_;rw[ba am.u ag.i Ψ c6.ls bO];intro ey aS _ _;have cl:=c4.ext aS;have c7:f.sizes[v.toNat]? =σ (f.sizes.getD v.toNat 0):=by rw[u4,x6 Ω];rfl
  rw[aD aZ.p 1 cl rfl,fP (y:=v) (i:=v.toNat) Ω aq.u al.i Ψ (cQ.ext ((bK au).trans aS)).ls c7];refine en (k:=.i64) am.u ag.i rfl λez eA c9 eB aU db=>?_;refine⟨.inl aU,?_⟩;have cn:=(aQ.ext aS).ext aU;refine hc am.u ag.i rfl cn db.ls Θ Θ λdd de eC bk dg cp=>?_;have cq:=cl.ext aU;have cr:=cq.aa cp λhe=>b3 cn cq Φ he rfl;rw[aT aZ.p rfl];refine bz (g:=X) (o:=1) am.i bk.ls.cells.1 bk.ls.cells.2 cr Ξ λdh ct eD di=>?_;rw[aL];have dj:ae (λr=>leads szv r\/r=X) c9 dh:=(cp.mono λr _ h=>.inl h).trans (ct.mono λr _ h=>.inr h);have dk:=au.size;have eE:=(aS.trans aU).size;refine c5 _ ⟨((au.trans (aS.aa _)).trans (aU.aa _)).trans (dj.mono λr _ h=>h.elim (λh=>.inr (bh r h)) .inl),dd,de,di,?_,λr U=>(dg r U).elim (bh r) λh=>Ω⟩;have e:(bS f.sizes (bj x.scope)).take (i+1)=(bS f.sizes (bj x.scope)).take i++[f.sizes.getD v.toNat 0]:=by
   unfold bS;rw[<-List.map_take,<-List.map_take,r8,bO,l9,c8];rfl
  rw[e];exact bn bk ct λr U he=>by
   have he:r=X:=he;subst he;exact b3 bk cr Φ U rfl
 rintro ao c3 ⟨au,szv,gs,bP,aQ,bh⟩;rw[<-bM,o6] at aQ;refine b6 Ω ?_;have eF:=bK au;have bl:bX (bS f.sizes (bj x.scope)):=⟨by rw[bM];exact cS,np bc.sizes.2.2 ck⟩;have dl:=cT.small;rw[aD aZ.p 1 bP rfl];refine (u3 _ aQ.ls bl).mono ?_;rintro dm Y _ ⟨bp,cu⟩;have eH:=ij bl.2;have eI:=lB bl.2;have eJ:aG (bS f.sizes (bj x.scope))<=4096:=dl;rw[gj cO.u cu];have bq:ae (λr=>r=X\/an.heap.size<=r) an Y:=au.trans (bp.aa _);have a1:=bP.ext bp;have cw:=aQ.ext bp;have dk:=au.size;have eK:=bp.size;have bQ:ap .i64 ag Y gr aJ (bj x.scope):=bn aA bq λr U I=>by
  rcases I with rfl|I
  .exact b3 aA aE Φ U rfl
  .obtain⟨ab,ah⟩:=bR aA U;omega
 have bT:ac Y bD aY (eM aN):=bJ.aa bq λI=>I.elim (λhe=>by subst he;exact absurd (eZ bJ aE) Φ) λh=>by have:=bJ.lt;omega
 have cz:=cj.aa bq λI=>I.elim (λhe=>by have:=bF.lt;omega) λh=>by have:=cj.lt;omega
 have cA:∀ {w':x3},ae (λr=>r=X\/Y.heap.size<=r) Y w'->Ext w w':=λbL=>(bK bq).then bL λr U he=>by
  have he:r=X\/Y.heap.size<=r:=he;omega
 have eL:X<Y.heap.size:=a1.lt;refine ce.range (bi (bS f.sizes (bj x.scope))).length (λq W=>ae (λr=>r=X\/Y.heap.size<=r) Y W/\ ∃aW a2,ac W X aZ [aJ,szv,aW]/\ap .i64 al W a2 aW (((bi (bS f.sizes (bj x.scope))).take q).map λt=>jr x f.k (oz x.scope (bj x.scope) t))/\ ∀r,leads aW r->Y.heap.size<=r) Ω
  ⟨ae.refl _ _,_,0,a1,ap.nil _ _ _ _,λr U=>by obtain⟨a,n,c,ab,ah⟩:=U;cases ab⟩ ?_ ?_
 .rintro q W dn dq ⟨ad,aW,a2,a6,a7,br⟩ dr;obtain⟨t,bt⟩:∃t,(bi (bS f.sizes (bj x.scope)))[q]? =σ t:=⟨_,x6 dq⟩;have eN:t.length=(bj x.scope).length:=by
   have ds:=pH bl.2 (i:=q) Ω;rw[ds] at bt;cases bt;rw[iT,bM]
  have bV:=cA ad;have dt:ak.rep (α:=List (Λ)) true (dZ ao.heap.size) bo W [dm] (bi (bS f.sizes (bj x.scope))):=ak.aa cu ad λr U h I=>by
   rcases h with h|h
   .have h:ao.heap.size<=r:=h;have:=bP.lt;rcases I with I|I<;>omega
   .exact h
  have aH:∀ {ax:Nat} {ay:x1} {az:Λ},ap .i64 ag Y ax ay az->ap .i64 ag W ax ay az:=λhm=>bn hm ad λr U I=>by
   rcases I with rfl|I
   .exact b3 hm a1 Φ U rfl
   .obtain⟨ab,ah⟩:=bR hm U;omega
  have cB:=aH bQ;have cC:ac W bD aY (eM aN):=bT.aa ad λI=>I.elim (λhe=>by subst he;exact absurd (eZ bT a1) Φ) λh=>by have:=bT.lt;omega
  refine bB Ω ?_;refine hq (α:=Λ) rfl rfl cO.u am.i Ψ dt bt λaI du=>?_;have dv:=dp du;rw[aD aY.p 0 cC rfl,aV aq.u (bd.ls.ext bV)];have z12:=ad.size;refine bU.range x.scope.length (λp af bu=>Ext W bu/\ ∃go,ap .i64 al bu go af ((x.scope.take p).map λv=>t.getD ((bj x.scope).idxOf v) 0)/\ ∀r,leads af r->W.heap.size<=r) Ω ⟨Ext.refl _,0,ap.nil _ _ _ _,λr U=>by obtain⟨a,n,c,ab,ah⟩:=U;cases ab⟩ ?_ ?_
  .rintro p af bu dw dx ⟨aK,go,a8,cD⟩ dy;obtain⟨v,bW⟩:=aF (l:=x.scope) dx;have dz:v∈bj x.scope:=ca.mem_iff.2 (x5 bW);refine bB Ω ?_;have dA:=bV.trans aK;have dC:=a6.ext aK;have dD:=cB.ext aK;rw[ba aq.u al.i Ψ (bd.ls.ext dA) bW,aD aZ.p 0 dC rfl,aV am.u dD.ls];generalize cE:((x.scope.take p).map λv=>t.getD ((bj x.scope).idxOf v) 0)=A at a8;have eO:A.length=p:=by rw[<-cE,u7,j0];omega
   refine bU.range (bj x.scope).length (λj af bw=>Ext W bw/\ ∃go,ap .i64 al bw go af (A++if v∈(bj x.scope).take j then[t.getD ((bj x.scope).idxOf v) 0] else[])/\ ∀r,leads af r->W.heap.size<=r) Ω ⟨aK,go,by simpa using a8,cD⟩ ?_ ?_
   .rintro j dE bw dF dG ⟨aB,bZ,aM,bb⟩ dH;obtain⟨u,hu⟩:=aF (l:=(bj x.scope)) dG;have dI:=cB.ext aB;refine bB Ω ?_;refine aR (λaf b0=>Ext W b0/\ ∃go,ap .i64 al b0 go af (A++if v∈(bj x.scope).take (j+1) then[t.getD ((bj x.scope).idxOf v) 0] else[])/\ ∀r,leads af r->W.heap.size<=r) ?_ ?_
    .rintro eP b0 dJ;rw[aL];exact dH _ _ dJ
    intro av cF;have b1:v∈(bj x.scope).take (j+1)↔v∈(bj x.scope).take j\/v=u:=by
     rw[r8,hu,l9,l7,n9]
    rw[ba am.u ag.i Ψ dI.ls hu,be,ai];refine⟨λhe=>?_,λb2=>?_⟩
    .have dK:v∉(bj x.scope).take j:=λhm=>by
      obtain⟨dL,b4⟩:=X4.1 hm;have dM:dL<j:=by have:=(x4.1 b4).1;rw[j0] at this;omega
      rw[Y3 dM,<-he] at b4;have:=j3 cb b4 hu;omega
     rw[if_neg dK,U5] at aM;have dN:t[j]? =σ (t.getD ((bj x.scope).idxOf v) 0):=by
      have:(bj x.scope).idxOf v=j:=p3 cb (by rw[hu,he]);rw[this,u4,x6 (show j<t.length by omega)];rfl
     rw[ba am.u ag.i Ψ (dv.ext aB) dN];refine en aq.u al.i rfl λeQ eR eS eU b5 dO=>?_;refine hc aq.u al.i rfl (aM.ext b5) dO.ls Θ Θ λeV dP eW dQ dR dS=>?_;have eY:=aB.size;have e0:=b5.size;refine cF _ _ ⟨(aB.trans b5).then dS λr U he=>by have:=bb r he;omega,dP,?_,λr U=>(dR r U).elim (bb r) λh=>Ω⟩;rw[if_pos (b1.2 (.inr he.symm))];exact dQ
    .refine cF _ _ ⟨aB,bZ,?_,bb⟩;have:(v∈(bj x.scope).take (j+1))=(v∈(bj x.scope).take j):=propext ⟨λaC=>(b1.1 aC).resolve_right λhe=>b2 he.symm,λaC=>b1.2 (.inl aC)⟩;simp only[this];exact aM
   .rintro dE bw dF ⟨aB,bZ,aM,bb⟩;rw[o6,if_pos dz] at aM;refine b6 Ω ?_;rw[aL];refine dy _ _ ⟨aB,bZ,?_,bb⟩;rw[r8,bW,l9,c8,cE];exact aM
  .rintro af bu dw ⟨aK,go,a8,cD⟩;rw[o6] at a8;refine b6 Ω ?_;intro e1 cG _ _;have bx:=aK.trans cG;have dT:=a6.ext bx;have dU:=cC.ext bx;rw[aD aZ.p 2 dT rfl,bI aY.p aY.i rfl dU.range];refine (MW (h.ext (bV.trans bx)) aO.lines.1 (a8.ls.ext cG)).mono ?_;rintro _ e2 _ ⟨rfl,b7⟩;refine⟨.inl b7,?_⟩;refine en aq.u al.i rfl λe3 e4 dV e5 cH dW=>?_;refine⟨.inl (b7.trans cH),?_⟩;have bA:=(bx.trans b7).trans cH;have cI:=a7.ext bA;refine hc aq.u al.i rfl cI dW.ls Θ Θ λdX dY e6 bC ea cJ=>?_;have cK:=a6.ext bA;have cL:=cK.aa cJ λhe=>b3 cI cK Φ he rfl;rw[aT aZ.p rfl];refine bz (g:=X) (o:=2) aq.i bC.ls.cells.1 bC.ls.cells.2 cL Ξ λeb cM e7 ec=>?_;rw[aL];have ed:ae (λr=>leads aW r\/r=X) dV eb:=(cJ.mono λr _ h=>.inl h).trans (cM.mono λr _ h=>.inr h);have e8:=bA.size;refine dr _ ⟨(ad.trans (bA.aa _)).trans (ed.mono λr _ h=>h.elim (λh=>.inr (br r h)) .inl),dX,dY,ec,?_,λr U=>(ea r U).elim (br r) λh=>Ω⟩;rw[r8,bt,l9,c8];exact bn bC cM λr U he=>by
    have he:r=X:=he;subst he;exact b3 bC cL Φ U rfl
 .rintro W dn ⟨ad,aW,a2,a6,a7,br⟩;rw[o6] at a7;refine b6 Ω ?_;have aH:∀ {ax:Nat} {ay:x1} {az:Λ},ap .i64 ag Y ax ay az->ap .i64 ag W ax ay az:=λhm=>bn hm ad λr U I=>by
   rcases I with rfl|I
   .exact b3 hm a1 Φ U rfl
   .obtain⟨ab,ah⟩:=bR hm U;omega
  let c:fd:=⟨aJ,szv,aW,bj x.scope,(hy f.sizes f.k x).2⟩;have ee:fx W f.sizes c:=⟨⟨gr,aH bQ⟩,⟨gs,aH cw⟩,a2,a7⟩;rw[bI aZ.p aZ.i rfl (show W.rangeAt X 0 (da c) from a6.range)];have cN:=cz.aa ad λI=>I.elim (λhe=>by have:=bF.lt;omega) λh=>by have:=cz.lt;omega
  refine cc (vs:=da c) aZ.i rfl rfl ee.one cN λef cP e9 eg=>?_;rw[fB aZ.p aZ.i rfl eg.range];have aX:∀ {ax:Nat} {ay:x1} {az:Λ} {e:r9},e≠aZ->ap .i64 e W ax ay az->ap .i64 e ef ax ay az:=λb2 hm=>bn hm cP λr U he=>by
   have he:r=cg:=he;exact b3 hm cN b2 U he
  refine⟨(cA ad).then cP λr U he=>by have he:r=cg:=he;have:=cd.size;omega,c,rfl,rfl,rfl,⟨⟨gr,aX Φ (aH bQ)⟩,⟨gs,aX Φ (aH cw)⟩,a2,aX Φ a7⟩,λr U=>?_⟩;rcases U with U|U|U
  .have:=br r U;omega
  .have:=cY r U;omega
  .have:=bh r U;omega
theorem CZ {h:fd} {g:Nat} (J:fx w sizes h) (I:ac w' g aZ (x1.agg (da h).toArray).cells.toList):ac w' g aZ (da h):=by
 obtain⟨⟨g1,h1⟩,⟨aa,U⟩,ab,V⟩:=J;obtain⟨_,_,_,W⟩:=df h1.ls;obtain⟨_,_,_,X⟩:=df U.ls;obtain⟨_,_,_,Y⟩:=df V.ls;simp only[da,W,X,Y] at I ⊢;exact I
theorem MY {a b:fd} (ax:fx w sizes a) (ay:fx w sizes b) (aB:iY a.sc) (aC:iY b.sc):aj x7 yX [.agg (da a).toArray,.agg (da b).toArray] w λv w'=>v= .bool (decide (cY a.sc<cY b.sc))/\Ext w w':=by
 obtain⟨⟨ga,az⟩,_⟩:=id ax;obtain⟨⟨aX,aE⟩,_⟩:=id ay;have al:=(vF aB aC).1;refine aw func174 ?_;refine bm λg1 J aY aG an=>?_;refine bm λaH V a1 aA ao=>?_;have an:=(CZ ax an).ext aA;have ao:=CZ ay ao;have Y:=aG.trans aA;have aa:=az.ls.ext Y;have ad:=aE.ls.ext Y;have ab:∀ {w':x3},Ext V w'-> ∀ {K:x1->Prop},U x7 (u6 aZ (Γ g1) 0) w' (λt=>U x7 (u5 am t) w' K)=K a.aJ:=λI K=>by
  rw[aD aZ.p 0 (an.ext I) rfl]
 have ae:∀ {w':x3},Ext V w'-> ∀ {K:x1->Prop},U x7 (u6 aZ (Γ aH) 0) w' (λt=>U x7 (u5 am t) w' K)=K b.aJ:=λI K=>by
  rw[aD aZ.p 0 (ao.ext I) rfl]
 rw[ab (Ext.refl _),aV am.u aa,ae (Ext.refl _),aV am.u ad,bh,ai];refine⟨λaI=>?_,λaK=>?_⟩
 .rw[ab (Ext.refl _),aV am.u aa,ae (Ext.refl _),aV am.u ad,aP];refine⟨?_,Y⟩;congr 1;rw[V5,decide_eq_true_eq,decide_eq_true_eq,al];exact⟨λh=>.inl Ω,λh=>by rcases h with h|h<;>omega⟩
 have aM:a.sc.length=b.sc.length:=by have:=Y4.1 aK;omega
 rw[ab (Ext.refl _),aV am.u aa];refine bU.range a.sc.length (λi _ ap=>Ext V ap/\ ∀ (j:Nat) (x y:Int),j<i->a.sc[j]? =σ x->b.sc[j]? =σ y->x=y) az.ls.le ⟨Ext.refl _,λj x y aN=>Ω⟩ ?_ ?_
 .rintro i _ ap k hi ⟨aq,af⟩ hk;obtain⟨x,I⟩:=aF (l:=a.sc) hi;obtain⟨y,ah⟩:=aF (l:=b.sc) (i:=i) Ω;have W:fE a.sc b.sc=fE (a.sc.drop i) (b.sc.drop i):=sz af Ω Ω;have aO:a.sc.drop i=x::a.sc.drop (i+1):=by rw[X7 hi,(x4.1 I).2]
  have aQ:b.sc.drop i=y::b.sc.drop (i+1):=by rw[X7 (show i<b.sc.length by omega),(x4.1 ah).2]
  rw[aO,aQ] at W;simp only[fE] at W;refine bB Ω ?_;intro a2 aR _ _;have X:=aq.trans aR;rw[ab X,ba am.u ag.i Ψ (aa.ext X) I,ae X,ba am.u ag.i Ψ (ad.ext X) ah,bh,ai];refine⟨λaI=>?_,λhe=>?_⟩
  .intro a6 aS _ _;have ac:=X.trans aS;rw[ab ac,ba am.u ag.i Ψ (aa.ext ac) I,ae ac,ba am.u ag.i Ψ (ad.ext ac) ah,aP];refine⟨?_,Y.trans ac⟩;congr 1;rw[V5,decide_eq_true_eq,decide_eq_true_eq,al,W];by_cases ak:x<y
   .rw[if_pos ak];exact⟨λ_=>.inr ⟨aM,Ω⟩,λ_=>ak⟩
   .rw[if_neg ak,if_pos (show y<x by omega)];exact⟨λh=>absurd h ak,λh=>by rcases h with h|h<;>omega⟩
  .rw[aL];refine hk _ _ ⟨X,λj aT aU aN au av=>?_⟩;by_cases aW:j=i
   .subst aW;rw[I] at au;rw[ah] at av;cases au;cases av;exact Y4.1 he
   .exact af j aT aU Ω au av
 .rintro _ ap k ⟨aq,af⟩;rw[aP,ai];refine⟨λh=>Ω,λ_=>⟨?_,Y.trans aq⟩⟩;congr 1;symm;rw[decide_eq_false_iff_not,al];have W:fE a.sc b.sc=fE (a.sc.drop a.sc.length) (b.sc.drop a.sc.length):=sz af (p9 _) Ω;rw[List.drop_length,show b.sc.drop a.sc.length=[] from List.drop_eq_nil_of_le Ω] at W;rw[W];simp only[fE];omega
def di (h:fd):cF:=(h.sc,h.cs)
def ki (w:x3) (B g:Nat) (v:x1) (sizes:Λ) (L:List fd):Prop:=bd da 3 aZ w g v L/\(∀h∈L,fx w sizes h/\ ∀r,oS h r->B<=r)/\(∀ (i j:Nat) x y,L[i]? =σ x->L[j]? =σ y->i≠j-> ∀r,leads x.aW r->¬leads y.aW r)/\ ∀r,leadsTo v r->B<=r
theorem ml {h:fd} (ab:fx w sizes h) (X:ae S w w') (Y:∀r,S r->(∃e c,ac w r e c/\e≠ag/\e≠al)\/w.heap.size<=r\/((∃c,ac w r al c)/\¬leads h.aW r)):fx w' sizes h:=by
 obtain⟨⟨g1,h1⟩,⟨ad,af⟩,ah,V⟩:=ab;have aa:∀ {g:Nat} {v:x1} {l:Λ},ap .i64 ag w g v l->ap .i64 ag w' g v l:=λhm=>bn hm X λr J I=>by
  rcases Y r I with⟨e,c,U,W,_⟩|ai|⟨⟨c,U⟩,_⟩
  .exact b3 hm U (λhe=>W he.symm) J rfl
  .obtain⟨aj,ak⟩:=bR hm J;omega
  .exact b3 hm U Φ J rfl
 refine⟨⟨g1,aa h1⟩,⟨ad,aa af⟩,ah,bn V X λr J I=>?_⟩;rcases Y r I with⟨e,c,U,_,W⟩|ai|⟨_,am⟩
 .exact b3 V U (λhe=>W he.symm) J rfl
 .obtain⟨aj,ak⟩:=bR V J;omega
 .exact am J
theorem ki.ext {g:Nat} {L:List fd} (h:ki w B g v sizes L) (I:Ext w w'):ki w' B g v sizes L:=⟨h.1.ext I,λx J=>⟨(h.2.1 x J).1.ext I,(h.2.1 x J).2⟩,h.2.2⟩
section
variable {α:Type} {f:α->List x1} {k:Nat} {P:W0} {w:x3} {e:r9} {g:Nat} {v:x1} {L:List α}
theorem MZ {M:List α} (h:bd f k e w g v L) (I:L.map f=M.map f):bd f k e w g v M:=by
 have J:L.length=M.length:=by have:=congrArg S9 I;simpa using this
 have hm:L.flatMap f=M.flatMap f:=by rw[List.flatMap_def,List.flatMap_def,I]
 refine⟨by rw[<-J,<-hm];exact h.1,λa U=>?_⟩;obtain⟨b,V,he⟩:=o8.1 (show f a∈L.map f by rw[I];exact o8.2 ⟨a,U,rfl⟩);rw[<-he];exact h.2 b V
theorem C0 {b l h':Nat} {low high:Option x1} (W:P.underlying t=σ (.slice e)) (hi:aO P e k b z) (h:bd f k e w g v L) (h1:lv low l) (X:lx high L.length h') (J:l<=h') (aC:h'<=L.length)
  (Y:∀V,(∀w',bd f k e w' g v L->b5 w' k V ((L.drop l).take (h'-l)).length (((L.drop l).take (h'-l)).flatMap f))->K V):U P (V3 t v low high ν) w K:=by
 have aa:=h.sl;obtain⟨_,ac,o,base,cap,rfl,ad,_⟩:=aa;rw[ii W hi h1 X fO J Ω (p9 _)];refine Y _ λw' I=>?_;have:=b5.part (l:=l) (h:=h') (m:=cap) I.sl J aC Ω (p9 _);rw[r6 l I.2,pV (h'-l) (λa ab=>I.2 a (List.mem_of_mem_drop ab))] at this;have el:((L.drop l).take (h'-l)).length=h'-l:=by rw[j0,List.length_drop];omega
 rw[el];exact this
theorem wu {aj:r9} {b:Nat} {x:x1} {M:List α} {K:x1->x3->Prop} (X:P.underlying t=σ (.slice e)) (hi:aO P e k b z) (ad:z.cells.size=k) (h:bd f k e w g v L) (af:b5 w k x M.length (M.flatMap f)) (ak:∀a∈M,(f a).length=k) (h1:∀a∈M,∀u∈f a,u.oneCell'=true)
  (Y:(L.length+M.length)*b<=140737488355328) (ag:L.length+M.length<=9223372036854775807)
  (ah:∀I J w',bd f k e w' J I (L++M)->(∀r,leadsTo I r->leadsTo v r\/w.heap.size<=r)->ae (λr=>leadsTo v r) w w'->K I w'):ax P (b8 #[t,t] aj #[v,x]) w K:=by
 have ai:∀u∈M.flatMap f,u.oneCell'=true:=λu hu=>by
  obtain⟨a,al,hu⟩:=List.mem_flatMap.1 hu;exact h1 a al u hu
 have aa:∀I J w',bT w' J e k I (L.length+M.length) (L.flatMap f++M.flatMap f)->bd f k e w' J I (L++M):=λI J w' hm=>⟨by simpa using hm,λb Y=>by
  rcases l7.1 Y with h'|h'
  .exact h.2 b h'
  .exact ak b h'⟩
 rcases h.1.2 with⟨U,am⟩|⟨cap,cs,U,an,_⟩
 .have hm:bT w w.heap.size e k v L.length (L.flatMap f):=⟨h.1.1,.inl ⟨U,am⟩⟩;subst U;refine mY X X hi ad hm af ai (by simpa using Y) (by simpa[maxLen] using ag) λI J w' ab V ac=>ah I J w' (aa _ _ _ V) (λr W=>.inr ?_) (ac.mono λr W h=>Ω);have:=((aa _ _ _ V).leads W).1;omega
 .refine mY X X hi ad h.1 af ai (by simpa using Y) (by simpa[maxLen] using ag) λI J w' ab V ac=>ah I J w' (aa _ _ _ V) (λr W=>?_) (ac.mono λr W h=>⟨_,_,_,U,h.symm⟩);have:=((aa _ _ _ V).leads W).1;rcases ab with ab|ab
  .exact .inl ⟨_,_,_,U,by show g=r;omega⟩
  .exact .inr Ω
theorem M0 {b:Nat} {K:x1->x3->Prop} (I:P.underlying t=σ (.slice e)) (hi:aO P e k b z)
  (J:∀v g w',g=w.heap.size->Ext w w'->bd f k e w' g v []->K v w'):ax P (Z9 t 0 #[]) w K:=
 jT I hi Ω (cs:=#[]) (by simp[Instr.fill]) λg w' U V W=>by
  exact J _ g w' U V ⟨by simpa using bT.full (k:=k) (n:=0) W Ξ (by simp[maxLen]),λc X=>by cases X⟩
end
theorem sQ {α:Type} {A B:List α} {s:Nat} {a:α} (I:s<B.length) (J:A[s]? =σ a):(A.take s++B.drop s).set s a=A.take (s+1)++B.drop (s+1):=by
 have U:=(x4.1 J).1;have h1:(A.take s).length=s:=by rw[j0];omega
 rw[U9 _ _ Ω,h1,V7,X7 I,List.set_cons_zero,r8,J,l9,U8];rfl
theorem C1 {α:Type} {A B:List α} {s:Nat} (I:s<=A.length):(A.take s++B.drop s)[s]? =B[s]?:=by
 have h1:(A.take s).length=s:=by rw[j0];omega
 rw[Y1 Ω,h1,V7,List.getElem?_drop,Nat.add_zero]
theorem C2 {g:cF}:∀ {l:List cF} {i:Nat},(∀p<i,∀x,l[p]? =σ x->cY x.1<cY g.1)->i<=l.length->(∀x,l[i]? =σ x->¬cY x.1<cY g.1)->gW g l=l.take i++g::l.drop i
 |[],i,_,I,_=>by
  have:i=0:=by simpa using I
  subst this;rfl
 |x::l,0,_,_,J=>by
  unfold gW;rw[if_neg (J x rfl)];rfl
 |x::l,i+1,h1,I,J=>by
  unfold gW;rw[if_pos (h1 0 Ω x rfl),C2 (i:=i) (λp V y U=>h1 (p+1) Ω y U) (by simpa using I) (λy U=>J y U)];rfl
theorem M1 {g:Nat} {L:List fd} {h:fd} {s:Nat} {n:Int} {K:Unit->x3->Prop} (J:ki w B g v sizes L) (ad:L[j]? =σ h) (I:s<h.cs.length)
  (aw:∀w',ae (λr=>leads h.aW r) w w'->(∀r,leads h.aW r-> ∃c,ac w r al c)->ki w' B g v sizes (L.set j {h with cs:=h.cs.set s n})->K () w'):
  U x7 (j5 aq h.aW (Δ (s:Int))) w λt=>ax x7 (o7 al t (Δ n)) w K:=by
 obtain⟨h1,ak,am,ay⟩:=J;have ai:=(x4.1 ad).1;obtain⟨an,az⟩:=ak h (x5 ad);obtain⟨_,_,ao,af⟩:=id an;have ag:∀r,leads h.aW r-> ∃c,ac w r al c:=λr J=>by
  obtain⟨rfl,_⟩:=bR af J;obtain⟨_,⟨aA,_⟩|⟨cap,full,_,X,_⟩⟩:=af
  .obtain⟨a,n,c,e,_⟩:=J;rw[aA] at e;cases e
  .exact⟨_,X⟩
 have aB:∀r,r=ao->leads h.aW r:=λr he=>by
  subst he;obtain⟨_,⟨_,aP⟩|⟨cap,full,e,X,_⟩⟩:=af
  .omega
  .exact⟨_,_,_,e,rfl⟩
 rw[hs rfl aq.u al.i af I];refine ht al.i af I λw' Y aQ aC=>?_;have Y:=Y.mono (T:=λr=>leads h.aW r) λr _ he=>aB r he;refine aw w' Y ag ⟨?_,λx W=>?_,λp q x y W aD aE r aF aG=>?_,ay⟩
 .refine MZ (h1.aa Y λr J I=>?_) ?_
  .obtain⟨c,X⟩:=ag r I;exact cL h1 X Φ J
  .rw[U1];symm;refine Y8 λp=>?_;rw[X0,x8];by_cases V:j=p
   .subst V;rw[if_pos rfl,if_pos (by simpa using ai),ad];rfl
   .rw[if_neg V]
 .have aH:x={h with cs:=h.cs.set s n}\/ ∃p,p≠j/\L[p]? =σ x:=by
   obtain⟨p,V⟩:=X4.1 W;rw[X0] at V;by_cases ab:j=p
   .subst ab;rw[if_pos rfl,if_pos ai] at V;exact .inl (c9 V).symm
   .rw[if_neg ab] at V;exact .inr ⟨p,λh=>ab h.symm,V⟩
  rcases aH with rfl|⟨p,aI,V⟩
  .obtain⟨⟨g1,ap⟩,⟨aJ,au⟩,_⟩:=an;refine⟨⟨⟨g1,bn ap Y λr J I=>?_⟩,⟨aJ,bn au Y λr J I=>?_⟩,ao,aC⟩,az⟩
   .obtain⟨c,X⟩:=ag r I;exact b3 ap X Φ J rfl
   .obtain⟨c,X⟩:=ag r I;exact b3 au X Φ J rfl
  .obtain⟨aK,aL⟩:=ak x (x5 V);refine⟨ml aK Y λr J=>.inr (.inr ⟨ag r J,λaj=>am p j x h V ad aI r aj J⟩),aL⟩
 .have av:∀ {p:Nat} {x:fd},(L.set j {h with cs:=h.cs.set s n})[p]? =σ x-> ∃ah,L[p]? =σ ah/\ah.aW=x.aW:=λ{p x} W=>by
   rw[X0] at W;by_cases ab:j=p
   .subst ab;rw[if_pos rfl,if_pos ai] at W;cases W;exact⟨h,ad,rfl⟩
   .rw[if_neg ab] at W;exact⟨x,W,rfl⟩
  obtain⟨ah,aj,ex⟩:=av W;obtain⟨aM,aN,aO⟩:=av aD;exact am p q ah aM aj aN aE r (by rw[ex];exact aF) (by rw[aO];exact aG)
def kY (f:bY) (j:Nat):List cF:=(((e9 f).take j).filter fo).foldl (λl g=>gW g l) []
theorem C3 {f:bY} {x:cF} (h:(e9 f)[j]? =σ x):kY f (j+1)=if fo x then gW x (kY f j) else kY f j:=by
 unfold kY;rw[r8,h,l9,List.filter_append,List.foldl_append];cases I:fo x with
 |true=>rw[List.filter_cons_of_pos I];rfl
 |false=>rw[List.filter_cons_of_neg (by simp[I])];rfl
theorem M2 (f:bY):kY f (e9 f).length=fp f:=by unfold kY fp;rw[o6]
theorem C4 (g:cF):∀l,(gW g l).length=l.length+1
 |[]=>rfl
 |h::l=>by
  unfold gW;split
  .rw[b9,C4 g l,b9]
  .rfl
theorem M3 {f:bY} (J:j<=(e9 f).length):(kY f j).length<=j:=by
 induction j with
 |zero=>simp[kY]
 |succ j I=>
  have:=I Ω;rw[C3 (x:=(e9 f)[j]) (x6 Ω)];split
  .rw[C4];omega
  .omega
theorem M4 {g:Nat} {l:x1} {f:bY} {L:List fd} {Q:x1->x3->Prop} (aX:eX N f) (X:ki w B g l f.sizes L) (aY:L.map di=e9 f)
  (b5:∀out w' go W,Ext w w'->bd da 3 aZ w' go out W->(∀h∈W,h∈L)->(∀h∈W,fx w' f.sizes h)->W.map di=fp f->(∀r,leadsTo out r->w.heap.size<=r)->Q out w'):
  U x7 (W3 #[cP] ag #[l]) w λb7=>
 bU (.slice ν 0 0) (Δ 0) w λout a1 am b9=>
  U x7 (aE .lss ag false false a1 b7) am λca=>
  Split ca (cg (α:=x1->x3->Prop) (λ(cb:x1) (an:x3)=>
   U x7 (aE .add ag false true a1 (Δ 1)) an λcd=>
   b9 cb cd an) λbt=>
  U x7 (j5 cP l a1) am λch=>
  U x7 (u5 aZ ch) am λci=>
  ax x7 (R2 aZ true (.tuple #[])) am λaK bw=>
  ax x7 (o7 aZ aK ci) bw λ(_:Unit) af=>
  U x7 (u6 aZ aK 2) af λcj=>
  U x7 (u5 aq cj) af λbx=>
  U x7 (W3 #[aq] ag #[bx]) af λck=>
  bU (.bool false) (Δ 0) af λbz a2 Y cl=>
   U x7 (aE .lss ag false false a2 ck) Y λcm=>
   Split cm (cg (α:=x1->x3->Prop) (λ(cn:x1) (aw:x3)=>
    U x7 (aE .add ag false true a2 (Δ 1)) aw λcp=>
    cl cn cp aw) λbC=>
   U x7 (j5 aq bx a2) Y λcq=>
   U x7 (u5 al cq) Y λcr=>
   Split bz (bC (.bool true) Y)
    (U x7 (aE .gtr al false true cr (Δ 0)) Y λcu=>
   bC cu Y))
    (U x7 (Op.unary .not bz) Y λcw=>
  Split cw (bt out Y)
   (ce (Δ 0) Y λi aM cA=>
   cg (α:=x1->x3->Prop) (λ(cB:x1) (ao:x3)=>
    Split cB (U x7 (aE .add ag false true i (Δ 1)) ao λcC=>
   cA cC ao)
     (eh ao λac=>
  U x7 (u5 aZ aK) ac λcD=>
  U x7 (V3 cP out (σ i) ν ν) ac λbD=>
  ax x7 (Z9 cP 1 #[(0,cD)]) ac λcE ay=>
   (Ext ac ay\/ct x7 (V3 cP out (σ i) ν ν) bD ay/\True)/\
  ax x7 (b8 #[cP,cP] cP #[cE,bD]) ay λcF a6=>
   ax x7 (Z9 cP 0 #[]) a6 λcG aN=>
  U x7 (V3 cP out ν (σ i) ν) aN λcH=>
  ax x7 (b8 #[cP,cP] cP #[cG,cH]) aN λcI a7=>
  ax x7 (b8 #[cP,cP] cP #[cI,cF]) a7 λcJ a8=>
  bt cJ a8)) λbE=>
   eh aM λad=>
   U x7 (W3 #[cP] ag #[out]) ad λcK=>
   U x7 (aE .lss ag false false i cK) ad λcL=>
   Split cL (U x7 (j5 cP out i) ad λcM=>
   U x7 (u5 aZ cM) ad λcN=>
   U x7 (u5 aZ aK) ad λcO=>
   aj x7 yX [cN,cO] ad λcQ bF=>
    bE cQ bF)
    (bE (.bool false) ad))))
   (Q out am):=by
 have cR:L.length=(e9 f).length:=by rw[<-aY,u7]
 have dz:L.length<=256:=by have:=(kS aX).2.2;have:=aX.kM;omega
 have bG:=(kS aX).1;rw[eY cP.u X.1];refine bU.range L.length (λj out J=>∃go W,Ext w J/\bd da 3 aZ J go out W/\(∀h∈W,h∈L)/\W.map di=kY f j/\ ∀r,leadsTo out r->w.heap.size<=r) X.1.le
  ⟨0,[],Ext.refl _,bd.nil _ _ _ _ _,λh aC=>(by cases aC),rfl,λr X=>(fa X).elim⟩ ?_ ?_
 rotate_left
 .rintro out J cS ⟨go,W,bH,az,ah,aA,bb⟩;rw[aP,ai];refine⟨λh=>Ω,λ_=>b5 _ _ go W bH az ah (λh aC=>((X.ext bH).2.1 h (ah h aC)).1) ?_ bb⟩;rw[aA,cR,M2]
 rintro j out am cS bJ ⟨go,W,aO,az,ah,aA,bb⟩ cT;obtain⟨h,aC⟩:=aF (l:=L) bJ;have hm:(e9 f)[j]? =σ (di h):=by rw[<-aY,x8,aC];rfl
 have cU:=bG _ (x5 hm);have dA:W.length<=256:=by
  have:=M3 (f:=f) (j:=j) Ω;rw[<-aA,u7] at this;omega
 have aB:=X.ext aO;obtain⟨bc,_⟩:=aB.2.1 h (x5 aC);obtain⟨_,_,dC,cV⟩:=id bc;refine bB Ω ?_;refine aR (λbe an=>∃bf aG,Ext w an/\bd da 3 aZ an bf be aG/\(∀h∈aG,h∈L)/\aG.map di=kY f (j+1)/\ ∀r,leadsTo be r->w.heap.size<=r) ?_ ?_
 .rintro be an ⟨bf,aG,h1,cW,cX,cZ,c0⟩;rw[aL];exact cT _ _ ⟨bf,aG,h1,cW,cX,cZ,c0⟩
 intro av aH;rw[dq rfl cP.u aZ.i aB.1 bJ,bI aZ.p aZ.i rfl (aB.1.range aC)];refine bN aZ.i λbK bw dD c1 c2=>?_;refine cc (vs:=da h) aZ.i rfl rfl bc.one c2 λaf c3 dE bL=>?_;have bO:Ext am af:=c1.put c3 Ω;have bg:=cV.ext bO;rw[aD aZ.p 2 bL rfl,aV aq.u bg.ls];refine bU.range h.cs.length (λq sv Y=>Ext af Y/\sv= .bool ((h.cs.take q).any λc=>decide (0<c))) bg.ls.le ⟨Ext.refl _,rfl⟩ ?_ ?_
 .rintro q _ Y c4 c5 ⟨ap,rfl⟩ c6;obtain⟨c,bP⟩:=aF (l:=h.cs) c5;have e:(h.cs.take (q+1)).any (λc=>decide (0<c))=((h.cs.take q).any (λc=>decide (0<c))||decide (0<c)):=by
   rw[r8,bP,l9,List.any_append];simp
  refine bB Ω ?_;refine aR (λsv aw=>Ext af aw/\sv= .bool ((h.cs.take (q+1)).any λc=>decide (0<c))) ?_ ?_
  .rintro _ aw ⟨c7,rfl⟩;rw[aL];exact c6 _ _ ⟨c7,rfl⟩
  intro av aH;rw[ba aq.u al.i Ψ (bg.ext ap).ls bP,cz];refine⟨λc8=>aH _ _ ⟨ap,by rw[e,c8];rfl⟩,λc9=>?_⟩;rw[bM];exact aH _ _ ⟨ap,by rw[e,c9];rfl⟩
 rintro _ Y c4 ⟨ap,rfl⟩;have bQ:=bL.ext ap;have ak:=bO.trans ap;rw[o6];refine b6 Ω ?_;rw[bu,cz];have aQ:=C3 hm;have db:(h.cs.any λc=>decide (0<c))=fo (di h):=rfl;rw[db];refine⟨λbh=>?_,λI=>?_⟩
 .have bh:fo (di h)=false:=by simpa using bh
  rw[bh] at aQ;exact aH _ _ ⟨go,W,aO.trans ak,az.ext ak,ah,by rw[aA,aQ];rfl,bb⟩
 have I:fo (di h)=true:=by simpa using I
 rw[I,if_pos rfl] at aQ;refine⟨λbi aM=>∃i:Nat,bi=Δ (i:Int)/\i<=W.length/\Ext Y aM/\ ∀p<i,∀x,W[p]? =σ x->cY x.sc<cY h.sc,λbi _=>W.length-(bV bi).toNat,⟨0,rfl,X2 _,Ext.refl _,λp bj=>Ω⟩,?_⟩;rintro _ aM ⟨i,rfl,hi,dc,bk⟩;refine aR (λaI ao=>Ext Y ao/\((aI= .bool true/\i<W.length/\ ∀x,W[i]? =σ x->cY x.sc<cY h.sc)\/(aI= .bool false/\ ∀x,W[i]? =σ x->¬cY x.sc<cY h.sc))) ?_ ?_
 rotate_left
 .intro dF bl;intro ad dd _ _;have au:=dc.trans dd;have bm:=az.ext (ak.trans au);rw[eY cP.u bm,aP,ai];refine⟨λbk=>?_,λdG=>bl _ _ ⟨au,.inr ⟨rfl,λx V=>absurd (x4.1 V).1 Ω⟩⟩⟩;obtain⟨x,V⟩:=aF (l:=W) (i:=i) Ω;have bR:=ah x (x5 V);have de:iY x.sc:=(bG (di x) (by rw[<-aY];exact o8.2 ⟨x,bR,rfl⟩)).scope;have bS:=aB.ext (ak.trans au);rw[dq rfl cP.u aZ.i bm Ω,bI aZ.p aZ.i rfl (bm.range V),bI aZ.p aZ.i rfl (show ad.rangeAt bK 0 (da h) from (bQ.ext au).range)];refine (MY (bS.2.1 x bR).1 (bS.2.1 h (x5 aC)).1 de cU.scope).mono ?_;rintro _ bF _ ⟨rfl,bT⟩;by_cases aT:cY x.sc<cY h.sc
  .rw[decide_eq_true aT];exact bl _ _ ⟨au.trans bT,.inl ⟨rfl,Ω,λy ab=>by rw[V] at ab;cases ab;exact aT⟩⟩
  .rw[decide_eq_false aT];exact bl _ _ ⟨au.trans bT,.inr ⟨rfl,λy ab=>by rw[V] at ab;cases ab;exact aT⟩⟩
 rintro _ ao ⟨bW,⟨rfl,dH,df⟩|⟨rfl,dg⟩⟩
 .rw[bA,aL,wrap_i64 Ω Ω];refine⟨⟨i+1,rfl,Ω,bW,λp bj x V=>?_⟩,by simp only[bV];omega⟩;by_cases dh:p=i
  .subst dh;exact df x V
  .exact bk p Ω x V
 .rw[aS];intro ac dj _ _;have aJ:=bW.trans dj;have aU:=az.ext (ak.trans aJ);have dk:=aB.ext (ak.trans aJ);have bn:∀x∈W,∀u∈da x,u.oneCell'=true:=λx V=>(dk.2.1 x (ah x V)).1.one;have dl:∀u∈da h,u.oneCell'=true:=bc.one;rw[bI aZ.p aZ.i rfl (show ac.rangeAt bK 0 (da h) from (bQ.ext aJ).range)];refine C0 (h':=W.length) cP.u aZ.i aU (mV i _ rfl) jS hi (p9 _) λdI bX=>?_;refine hX (f:=da) (k:=3) (a:=h) cP.u aZ.i Ω rfl rfl λdJ dK ay dL bo bZ=>?_;refine⟨.inl bo,?_⟩;have dm:(W.drop i).take (W.length-i)=W.drop i:=j6 (by rw[List.length_drop];omega);rw[dm] at bX;refine wu (M:=W.drop i) cP.u aZ.i rfl bZ (bX ay (aU.ext bo)) (λ_ _=>rfl) (λa ae=>bn a (List.mem_of_mem_drop ae)) Θ Θ λdM dN a6 bp dO dn=>?_;have b0:Ext ac a6:=bo.then dn λr X he=>by have:=(bZ.leads he).1;omega
  refine M0 (f:=da) (k:=3) cP.u aZ.i λdP dQ aN dR bq aW=>?_;have br:=b0.trans bq;refine C0 (h':=i) cP.u aZ.i (aU.ext br) jR (mW i _ rfl) (X2 _) hi λdS b1=>?_;rw[List.drop_zero,Nat.sub_zero] at b1;refine wu (M:=W.take i) cP.u aZ.i rfl aW (b1 aN (aU.ext br)) (λ_ _=>rfl) (λa ae=>bn a (S8 ae)) Θ Θ λdp dT a7 dr ds b2=>?_;have dU:=b0.size;have dV:=bq.size;have dt:=(bp.ext bq).aa b2 λr X I=>by have:=(bp.leads X).1;have:=(bp.leads X).2;have:=(aW.leads I).1;omega
  refine wu (M:=[h]++W.drop i) cP.u aZ.i rfl dr dt.sl (λ_ _=>rfl) (λa ae=>?_) Θ Θ λdW du a8 dv dw dx=>?_
  .rcases l7.1 ae with ae|ae
   .rw[n9.1 ae];exact dl
   .exact bn a (List.mem_of_mem_drop ae)
  have b3:Ext ac a7:=br.then b2 λr X he=>by have:=(aW.leads he).1;omega
  have b4:∀r,leadsTo dp r->ac.heap.size<=r:=λr X=>(ds r X).elim (λh=>by have:=(aW.leads h).1;omega) λh=>Ω
  have dy:Ext ac a8:=b3.then dx λr X he=>by have:=b4 r he;omega
  have dX:=(aO.trans (ak.trans aJ)).size;have dY:=b3.size;refine aH _ _ ⟨du,_,(aO.trans (ak.trans aJ)).trans dy,dv,λx V=>?_,?_,λr X=>(dw r X).elim (λh=>by have:=b4 r h;omega) λh=>Ω⟩
  .rcases l7.1 V with V|V
   .exact ah x (S8 (by simpa using V))
   .rcases l7.1 V with V|V
    .rw[n9.1 V];exact x5 aC
    .exact ah x (List.mem_of_mem_drop V)
  .rw[aQ,<-aA,C2 (i:=i) (λp bj x V=>?_) (by simpa using hi) (λx V=>?_)]
   .simp
   .rw[x8] at V;cases ab:W[p]? with
    |none=>rw[ab] at V;cases V
    |some y=>rw[ab] at V;cases V;exact bk p bj y ab
   .rw[x8] at V;cases ab:W[i]? with
    |none=>rw[ab] at V;cases V
    |some y=>rw[ab] at V;cases V;exact dg y ab
end Go.Proofs.YtjjhhcfgfdepdaaGreatDoor
