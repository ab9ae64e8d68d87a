/- own texts, made small by a tool (wip/ holds them as they were written): no statement of the seat. -/
import Derived.Test.YtgbkinibgjmodaaGreatDoorZe
set_option linter.unusedVariables false
set_option linter.unusedSimpArgs false
set_option linter.unnecessarySimpa false
open Array renaming getElem?_eq_some_iff→l7,getElem?_toList→U7
open BitVec renaming ofInt→W6
open Bool renaming not_true→Y1,not_false→X0,eq_iff_iff→X8,and_eq_true→U1,or_eq_false_iff→U5
open Decidable renaming not_not→X2
open Go renaming Value→x4,World→x5,Builtin→u7,TypeId→o6,IntKind→o8,Program→X1,Oper→U8
open Go.Addr renaming add_mid→V9
open Go.Builtin renaming len_→u6,append_→r9
open Go.Instr renaming loadAt→x1,fieldAt→x2,indexAt→x7,storeAt→x8,extract→u5,buildSlice→u9,alloc→n9,sliceAt→c7,build→Z0,box→Z2,index→Y0,lookup→V3,makeSlice→V8
open Go.IntKind renaming i64→Y9,u64→V0
open Go.Op renaming unary→Z5
open Go.Proofs.Tryz renaming prog→y0
open Go.Result renaming andThen→Y4
open Go.Sem renaming run_bind→Y2,run_pure→Y6
open Go.Sort renaming Holds→U4
open Go.Value renaming int→X4
open Int renaming toNat_natCast→c9
open List renaming getElem?_eq_getElem→x3,getElem?_eq_some_iff→x6,mem_of_getElem?→u4,getElem?_map→r8,getD_eq_getElem?_getD→p8,replicate→p9,take_add_one→o3,length_map→o4,length_append→o5,mem_singleton→o9,mem_append→n0,take_length→l5,length_take→l6,mem_map→l9,take_of_length_le→j0,map_append→j4,eq_nil_of_length_eq_zero→j9,length_cons→c8,getElem?_append_left→Z1,getElem?_append_right→Z4,getElem?_take_of_lt→Z6,getElem?_eq_none→Z8,mem_iff_getElem?→Y5,getElem?_set→Y7,drop_eq_getElem_cons→Y8,flatMap_cons→X5,ext_getElem?→X6,range→X7,length_set→W0,pairwise_iff_getElem→W5,length→W8,append_assoc→W9,mem_or_eq_of_mem_set→V1,set_append_right→V2,length_eq_one_iff→V6,getElem?_set_self→V7,append_nil→U3,mem_cons→U6,length_singleton→T0,getElem_mem→T1
open Nat renaming le_refl→o7,zero_le→Z9,le_trans→Y3,mul_le_mul_right→X3,sub_self→W3,add_mul→W7,zero_add→V5,mul_one→U9
open Option renaming toList_some→j5,some→j6,map_some→b6,isNone_some→b8,map_eq_some_iff→Z3,map→X9,getD_some→V4
open Option.some renaming inj→b9,injEq→Z7
open Prod.mk renaming injEq→U2
namespace Go.Proofs.YtgbkinibgjmodaaGreatDoor
open Go Go.Vc Go.RowKit Go.Proofs Go.Proofs.Tryz
set_option maxRecDepth 100000
set_option maxHeartbeats 8000000 in
theorem zb {w:x5} {cl:x4} {n:bY} (c9:um w cl n) (aN:hI n) (eU:n.funs.length≤256):O y0 nV [cl] w fun v w'=>Ext w w'∧eW w.heap.size w' v n.k n.sizes (dQ n):=by
 have eV:=aN.sizes.2.1;have da:=aN.il;apply nV.enter;refine ce fun db dc eX bL dd=>?_;obtain⟨aw,de,cm,eY,cn,cp,eZ,bM,bd,aE,df,cr,be,dg,cu⟩:=F2 c9 dd;refine bO aX.i fun aP dh e0 bf bg=>?_;have bg:ak dh aP aX z12:=bg;have bN:=bd.ext bf;rw[ah bT.p rfl,ai (v:=.int .i64 n.k) (by kernel_rfl) (bN.cell (o:=0+0) rfl),ah bT.p rfl,ai (v:=aw) (by kernel_rfl) (bN.cell (o:=0+1) rfl),ah bT.p rfl,ai (v:=.int .i64 n.zero) (by kernel_rfl) (bN.cell (o:=0+2) rfl),
  cW (cs:=#[.int .i64 n.k,aw,.int .i64 n.zero,.slice none 0 0,.slice none 0 0,.slice none 0 0,.slice none 0 0,.slice none 0 0]) (by obtain⟨_,_,_,e⟩:=c6 aE.ls;rw[e];kernel_rfl)]
 refine bO aX.i fun gs e1 e2 bP di=>?_;refine b4 (vs:=[.int .i64 n.k,aw,.int .i64 n.zero,.slice none 0 0,.slice none 0 0,.slice none 0 0,.slice none 0 0,.slice none 0 0]) aX.i rfl rfl (fun u hu=>?_) di fun bQ bR e3 dj=>?_
 ·simp at hu;rcases hu with rfl|rfl|rfl|rfl
  ·rfl
  ·exact aE.ls.cells.2
  ·rfl
  ·rfl
 have e4:=bL.size;have e5:=bf.size;have e6:=bg.lt;have aQ:aP≠gs:=by omega
 have bS:Ext w bQ:=((bL.trans bf).trans bP).then bR fun r E he=>by have he:r=gs:=he;omega
 have cw:Ext dc bQ:=(bf.trans bP).then bR fun r E he=>by have he:r=gs:=he;omega
 have dk:=(bg.ext bP).ad bR fun he=>aQ he;have e7:w.heap.size≤gs:=by omega
 rw[ah bT.p rfl,ai (v:=aw) (by kernel_rfl) ((bd.ext cw).cell (o:=0+1) rfl),aO ab.u (aE.ext bS).ls];have e8:=bS.size;have e9:=bd.lt;refine bc.range n.sizes.length (fun i I=>Ext w I∧bQ.heap.size≤I.heap.size∧ak I db bT [.int .i64 n.k,aw,.int .i64 n.zero,cm,cp]∧ak I aP aX z12∧ ∃ Z D Y W ap,ak I gs aX [.int .i64 n.k,aw,.int .i64 n.zero,Z,Y,W,.slice none 0 0,.slice none 0 0]∧hQ I w.heap.size Z D∧D.map (·.l)=(n.unary.take i).map (fun u=>hP (newVar u))∧hR I w.heap.size Y (p9 i false)∧gR I w.heap.size W ap∧ap.map (·.l)=n.unary.take i) (by omega)
  ⟨bS,o7 _,bd.ext cw,dk,_,[],_,_,[],dj,⟨0,aW.nil _ _ _ _ _,fun x U=>(by cases U),fun r E=>(dI E).elim⟩,rfl,⟨0,aW.nil _ _ _ _ _,fun r E=>(dI E).elim⟩,⟨0,⟨aW.nil _ _ _ _ _,fun x U=>(by cases U)⟩,fun r E=>(dI E).elim,fun x U=>(by cases U),jI.nil _⟩,rfl⟩ ?_ ?_
 ·rintro i I dl hi ⟨av,z5,bU,bV,Z,D,Y,W,ap,bh,bW,aR,b1,bi,aS⟩ dm;obtain⟨z,b2⟩:∃ z,n.sizes[i]? =some z:=⟨_,x3 hi⟩;obtain⟨u,hu⟩:∃ u,n.unary[i]? =some u:=⟨_,x3 (by omega)⟩;have fb:=aN.sizes.2.2 z (u4 b2);obtain⟨fc,_⟩:=aN.unary i z u b2 hu;have fd:D.length=i:=by have:=congrArg W8 aR;simp only[o4,l6] at this;omega
  have fe:ap.length=i:=by have:=congrArg W8 aS;simp only[o4,l6] at this;omega
  rw[au,ag];refine⟨fun _=>?_,fun h=>by omega⟩;rw[bm ab.u J.i (by kernel_rfl) (aE.ext av).ls b2];obtain⟨cz,rfl⟩:∃ m:Nat,z=m:=⟨z.toNat,by omega⟩;refine a8.range cz (fun j aT bj=>Ext I bj∧ ∃ g,aq .i64 J bj g aT ((X7 j).map fun v:Nat=>(v:Int))∧ ∀ r,leads aT r→I.heap.size≤r) (by omega)
   ⟨Ext.refl _,0,aq.nil _ _ _ _,fun r E=>by obtain⟨a,n,c,ac,al⟩:=E;cases ac⟩ ?_ ?_
  ·rintro j aT bj b3 b5 ⟨X,cA,bk,b6⟩ b7;rw[au,ag];refine⟨fun _=>?_,fun h=>by omega⟩;refine dW (k:=.i64) ab.u J.i rfl fun ff fg fh fi b8 dn=>?_;refine gr ab.u J.i rfl (bk.ext b8) dn.ls (by simp;omega) (by simp;omega) fun fj dp fk dq dr ds=>?_;rw[aK];have dt:=X.size;have fl:=b8.size;refine b7 _ _ ⟨(X.trans b8).then ds fun r E he=>by have:=b6 r he;omega,dp,?_,fun r E=>(dr r E).elim (b6 r) fun h=>by omega⟩;rw[List.range_succ,j4];exact dq
  rintro aT bj b3 ⟨X,cA,bk,b6⟩;rw[au,ag];refine⟨fun h=>by omega,fun _=>?_⟩;have du:(X7 cz).map (fun v:Nat=>(v:Int))=hP (newVar u):=by rw[F7];congr 2;omega
  rw[du] at bk;have dt:=X.size;have dv:=av.size;rw[ah aX.p rfl,ai (v:=Z) (by kernel_rfl) ((bh.ext X).cell (o:=0+3) rfl)];refine F3 (a:=⟨aT,hP (newVar u)⟩) (bW.ext X) (by omega) ⟨cA,bk⟩ (by omega) fun ca fm dw ac al ax aU dy=>?_;have cB:=fK (bh.ext X) ax aU (by decide);rw[ah aX.p rfl];refine bE (g:=gs) (o:=3) cq.i ac al cB (by simp) fun bl aF fo bo=>?_;have bo:ak bl gs aX [.int .i64 n.k,aw,.int .i64 n.zero,ca,Y,W,.slice none 0 0,.slice none 0 0]:=bo;have bp:=kB cB;have cC:Ext w bl:=((av.trans X).then ax fun r E he=>by have:=dy r he;omega).then aF fun r E he=>by have he:r=gs:=he;omega
  have dz:=fK (fK (bU.ext X) ax aU (by decide)) aF bp (by decide);have dA:=(fK (bV.ext X) ax aU (by decide)).ad aF fun he=>aQ he;have dB:=dw.ci aF bp (by decide) (by decide);have dC:=((b1.ext X).ci ax aU (by decide)).ci aF bp (by decide);have dD:=((bi.ext X).ci ax aU (by decide) (by decide)).ci aF bp (by decide) (by decide);have fp:I.heap.size≤bl.heap.size:=by have:=ax.size;omega
  rw[ah aX.p rfl,ai (v:=Y) (by kernel_rfl) (bo.cell (o:=0+4) rfl)];refine F4 (a:=false) dC (by omega) (by simp;omega) fun cD fq dE aV dF ay aY dG=>?_;have cE:=fK bo ay aY (by decide);rw[ah aX.p rfl];refine bE (g:=gs) (o:=4) fa.i aV dF cE (by simp) fun cb aG fr cc=>?_;have cc:ak cb gs aX [.int .i64 n.k,aw,.int .i64 n.zero,ca,cD,W,.slice none 0 0,.slice none 0 0]:=cc;have bq:=kB cE;have fs:=cC.size;have dH:Ext w cb:=(cC.then ay fun r E he=>by have:=dG r he;omega).then aG fun r E he=>by have he:r=gs:=he;omega
  have dJ:=fK (fK dz ay aY (by decide)) aG bq (by decide);have dK:=(fK dA ay aY (by decide)).ad aG fun he=>aQ he;have dL:=(dB.ci ay aY (by decide) (by decide)).ci aG bq (by decide) (by decide);have dM:=dE.ci aG bq (by decide);have cF:=(dD.ci ay aY (by decide) (by decide)).ci aG bq (by decide) (by decide);have ft:bl.heap.size≤cb.heap.size:=by have:=ay.size;omega
  intro br aj _ _;have cG:=cc.ext aj;have cH:=dJ.ext aj;have cK:=dH.trans aj;obtain⟨aH,bt⟩:∃ aH,cn[i]? =some aH:=⟨_,x3 (by have:=congrArg W8 cr;rw[o4] at this;omega)⟩;have dN:aH.l=u:=by
   have cL:(cn.map (·.l))[i]? =some aH.l:=by rw[r8,bt];rfl
   rw[cr,hu] at cL;exact (b9 cL).symm
  have cd:=df.ext cK;obtain⟨fu,cM⟩:=cd.2 aH (u4 bt);rw[dN] at cM;rw[ah aX.p rfl,ai (v:=W) (by kernel_rfl) (cG.cell (o:=0+5) rfl),ah bT.p rfl,ai (v:=cm) (by kernel_rfl) (cH.cell (o:=0+3) rfl),cI rfl bZ.u af.i cd.1 (x6.1 bt).1,ai (v:=aH.v) (o:=i*1) (by kernel_rfl) (cd.1.range bt 0 _ rfl)];refine ur (k:=.i64) af.u ae.i fun dO fv fw fx bu cN=>?_;refine⟨.inl bu,?_⟩;refine gr af.u ae.i rfl cN (cM.ext bu).ls (by simp;omega) (by simp;omega) fun cP dP dR cQ dS dT=>?_;rw[List.nil_append] at cQ;have fy:=aj.size;have fz:=bu.size;have cR:∀ r,leads dO r→br.heap.size≤r:=fun r E=>by have:=(bX cN E).1;omega
  have dU:∀ r,leads cP r→br.heap.size≤r:=fun r E=>(dS r E).elim (cR r) fun h=>by omega
  have aa:Ext br dR:=bu.then dT fun r E he=>by have:=cR r he;omega
  refine⟨.inl aa,?_⟩;have cS:=cK.trans aa;have fA:=aa.size;refine F5 (a:=⟨cP,u⟩) (b0:=br.heap.size) ((cF.ext aj).ext aa) (by omega) (by omega) ⟨dP,cQ⟩ dU (cF.ext aj).lt (by omega) (fun fB dV=>.inl (aa.trans dV)) fun dX fC dY ea eb az aZ ec=>?_;have ed:=cG.ext aa;have cT:=fK ed az aZ (by decide);rw[ah aX.p rfl];refine bE (g:=gs) (o:=5) bZ.i ea eb cT (by simp) fun fD aI fE ef=>?_;have bw:=kB cT;rw[aK];have eg:=(dL.ext aj).ext aa;have eh:=(dM.ext aj).ext aa;have ei:=cH.ext aa;have ej:=(dK.ext aj).ext aa;have fF:=cS.size;have fG:=az.size;refine dm _ ⟨(cS.then az fun r E he=>by have:=ec r he;omega).then aI fun r E he=>by have he:r=gs:=he;omega,by omega,fK (fK ei az aZ (by decide)) aI bw (by decide),(fK ej az aZ (by decide)).ad aI fun he=>aQ he,ca,_,cD,dX,_,ef,(eg.ci az aZ (by decide) (by decide)).ci aI bw (by decide) (by decide),?_,?_,dY.ci aI bw (by decide) (by decide),?_⟩
  ·rw[j4,aR,o3,hu,j5,j4];rfl
  ·have:=(eh.ci az aZ (by decide)).ci aI bw (by decide);rw[List.replicate_succ'];exact this
  ·rw[j4,aS,o3,hu];rfl
 rintro I dl ⟨av,z5,bU,bV,Z,D,Y,W,ap,bh,bW,aR,b1,bi,aS⟩;rw[au,ag];refine⟨fun h=>by omega,fun _=>?_⟩;rw[j0 (by omega)] at aR aS;have fH:=be.ext (bL.trans (Ext.refl _));have fI:bM.length=n.funs.length:=by rw[←cu,o4]
 have ek:=be.ext av;rw[ah bT.p rfl,ai (v:=cp) (by kernel_rfl) (bU.cell (o:=0+4) rfl),dZ bn.u ek];have dv:=av.size;refine bc.range bM.length (fun j V=>Ext w V∧I.heap.size≤V.heap.size∧ak V aP aX z12∧hQ V w.heap.size Z D∧hR V w.heap.size Y (p9 n.sizes.length false)∧gR V w.heap.size W ap∧ ∃ am L,ak V gs aX [.int .i64 n.k,aw,.int .i64 n.zero,Z,Y,W,am,.slice none 0 0]∧ho V I.heap.size n.sizes am L∧L.map nt=(n.funs.take j).map (fun g=>qe (kw n.sizes g))) be.le
  ⟨av,o7 _,bV,bW,b1,bi,_,[],bh,⟨0,aW.nil _ _ _ _ _,fun x U=>(by cases U),fun r E=>(dI E).elim,jI.nil _⟩,rfl⟩ ?_ ?_
 ·rintro j V b3 b5 ⟨aA,em,bx,bz,bA,bB,am,L,bC,a1,a2⟩ b7;obtain⟨y,cg⟩:∃ y,bM[j]? =some y:=⟨_,x3 b5⟩;have cU:n.funs[j]? =some (cO y):=by rw[←cu,r8,cg];rfl
  have cV:=(aN.funs (cO y) (u4 cU)).1;have fJ:y.cs.length≤4096:=by
   have h1:y.cs.length=_:=cV.len;have fL:=cV.small;omega
  have cX:=(dg y (u4 cg)).ext aA;have fM:L.length=j:=by have:=congrArg W8 a2;simp only[o4,l6] at this;omega
  have cY:=be.ext aA;rw[au,ag];refine⟨fun _=>?_,fun h=>by omega⟩;rw[cI rfl bn.u aD.i cY b5,bI aD.p aD.i rfl (cY.range cg)];refine bO aD.i fun en fN fO eo ep=>?_;refine b4 (vs:=ct y) aD.i rfl rfl cX.one ep fun er es fP et=>?_;have eu:Ext V er:=eo.then es fun r E he=>by have he:r=en:=he;omega
  intro bD cZ _ _;have a7:=eu.trans cZ;have ev:=bC.ext a7;have ch:=et.ext cZ;have c0:=cX.ext a7;obtain⟨⟨ew,cj⟩,⟨ey,ck⟩,fQ,ez⟩:=id c0;rw[ah aX.p rfl,ai (v:=am) (by kernel_rfl) (ev.cell (o:=0+6) rfl),ah aD.p rfl,ai (v:=y.a6) (by kernel_rfl) (ch.cell (o:=0+0) rfl),ah aD.p rfl,ai (v:=y.aw) (by kernel_rfl) (ch.cell (o:=0+1) rfl),ah aD.p rfl,ai (v:=y.aM) (by kernel_rfl) (ch.cell (o:=0+2) rfl)];refine ur (k:=.i64) af.u ae.i fun v25 fR fS fT bF c1=>?_;refine⟨.inl bF,?_⟩;refine gr af.u ae.i rfl c1 (ez.ext bF).ls (by simp;omega) (by simp;omega) fun bG eA c2 bH eB eC=>?_;rw[List.nil_append] at bH;have fU:=a7.size;have z25:=bF.size;have c3:∀ r,leads v25 r→bD.heap.size≤r:=fun r E=>by have:=(bX c1 E).1;omega
  have eD:∀ r,leads bG r→bD.heap.size≤r:=fun r E=>(eB r E).elim (c3 r) fun h=>by omega
  have ao:Ext bD c2:=bF.then eC fun r E he=>by have:=c3 r he;omega
  refine⟨.inl ao,?_⟩;have fV:=c0.ext ao;let a:jc:=(⟨y.a6,y.aw,bG,y.sc,y.cs⟩,true);have eE:dx c2 n.sizes a.1:=⟨⟨ew,cj.ext ao⟩,⟨ey,ck.ext ao⟩,eA,bH⟩;rw[cW (cs:=#[y.a6,y.aw,bG]) (by obtain⟨_,_,_,ac⟩:=c6 cj.ls;obtain⟨_,_,_,al⟩:=c6 ck.ls;obtain⟨_,_,_,aV⟩:=c6 bH.ls;rw[ac,al,aV];kernel_rfl),
   cW (cs:=#[y.a6,y.aw,bG,.bool true]) (by obtain⟨_,_,_,ac⟩:=c6 cj.ls;obtain⟨_,_,_,al⟩:=c6 ck.ls;obtain⟨_,_,_,aV⟩:=c6 bH.ls;rw[ac,al,aV];kernel_rfl)]
  have fW:=ao.size;have c4:=a1.ext a7;refine F6 (a:=a) (b0:=bD.heap.size) (c4.ext ao) (by omega) (by omega) eE eD c4.lt (by omega) rfl (fun fX eF=>.inl (ao.trans eF)) fun eG fY eH ac al aB ba eI=>?_;have aC:=a7.trans ao;have c5:=fK (bC.ext aC) aB ba (by decide);rw[ah aX.p rfl];refine bE (g:=gs) (o:=6) ee.i ac al c5 (by simp) fun fZ aJ ga eJ=>?_;have bJ:=kB c5;rw[aK];have c7:=aA.trans aC;have gb:=c7.size;have gc:=aB.size;have gd:=aC.size;refine b7 _ ⟨(c7.then aB fun r E he=>by have:=eI r he;omega).then aJ fun r E he=>by have he:r=gs:=he;omega,by omega,(fK (bx.ext aC) aB ba (by decide)).ad aJ fun he=>aQ he,((bz.ext aC).ci aB ba (by decide) (by decide)).ci aJ bJ (by decide) (by decide),((bA.ext aC).ci aB ba (by decide)).ci aJ bJ (by decide),((bB.ext aC).ci aB ba (by decide) (by decide)).ci aJ bJ (by decide) (by decide),eG,_,eJ,eH.ci aJ bJ (by decide) (by decide) (by decide),?_⟩;rw[j4,a2,o3,cU,j5,j4];rfl
 rintro V b3 ⟨aA,em,bx,bz,bA,bB,am,L,bC,a1,a2⟩;rw[j0 (by omega)] at a2;rw[au,ag];refine⟨fun h=>by omega,fun _=>?_⟩;rw[bI aX.p aX.i rfl (show V.rangeAt gs 0 [.int .i64 n.k,aw,.int .i64 n.zero,Z,Y,W,am,.slice none 0 0] from bC.range)];have one:∀ {α:Type} {f:α→List x4} {k:Nat} {e:o6} {g:Nat} {v:x4} {M:List α},aW f k e V g v M→v.oneCell'=true:=fun h=>(cJ h.sl).2;obtain⟨_,eK,_⟩:=id bz;obtain⟨_,eL,_⟩:=id bA;obtain⟨_,⟨eM,_⟩,_⟩:=id bB;obtain⟨_,eO,_⟩:=id a1;refine b4 (vs:=[.int .i64 n.k,aw,.int .i64 n.zero,Z,Y,W,am,.slice none 0 0]) aX.i rfl rfl (fun u hu=>?_) bx fun ge aL gf eP=>?_
 ·simp at hu;rcases hu with rfl|rfl|rfl|rfl|rfl|rfl|rfl|rfl
  ·rfl
  ·exact aE.ls.cells.2
  ·rfl
  ·exact one eK
  ·exact one eL
  ·exact one eM
  ·exact one eO
  ·rfl
 rw[eN aX.p aX.i rfl eP.range];have bb:=kB bx;have gg:=aA.size;refine⟨aA.then aL fun r E he=>by have he:r=aP:=he;omega,aw,de,Z,D,Y,W,ap,am,L,_,[],rfl,hn (aE.ext aA) aL bb (by decide),bz.ci aL bb (by decide) (by decide),?_,?_,bB.ci aL bb (by decide) (by decide),?_,?_,?_,⟨0,aW.nil _ _ _ _ _,fun x U=>(by cases U),fun r E=>(dI E).elim⟩,rfl,fun h eQ x U r E eR=>?_⟩
 ·rw[aR];show _=(n.unary.map newVar).map hP;rw[List.map_map];rfl
 ·have:=bA.ci aL bb (by decide);have e:(dQ n).vars.map (fun x=>decide (x.gone≠0))=p9 n.sizes.length false:=by
   show (n.unary.map newVar).map _=_;rw[List.map_map,←da];exact List.map_const' ..
  rw[e];exact this
 ·rw[aS];show _=(n.unary.map newVar).map _;rw[List.map_map];exact (List.map_id _).symm
 ·have:=a1.ci aL bb (by decide) (by decide) (by decide);obtain⟨g,c8,bK,eS,eT⟩:=this;exact⟨g,c8,fun x U=>⟨(bK x U).1,fun r E=>by have:=(bK x U).2 r E;omega⟩,fun r E=>by have:=eS r E;omega,eT⟩
 ·rw[a2];show _=(n.funs.map (kw n.sizes)).map qe;rw[List.map_map];rfl
 ·have h1:=bi.lt h eQ r E;obtain⟨g,c8,bK,_⟩:=a1;have:=(bK x U).2 r eR;omega
section
variable {P:X1} {w:x5} {t:o6} {cx cy:Bool} {a b:Nat} {K:x4→Prop}
theorem F8 (E:a<2 ^ 62) (J:b<2 ^ 62):I P (U .or t cx cy (.int .i64 a) (.int .i64 b)) w K=K (.int .i64 ((a ||| b:Nat):Int)):=I.of fun w' _=>by
 have e:(W6 64 (a:Int) ||| W6 64 (b:Int)).toNat=a ||| b:=by
  rw[kl,kl,BitVec.toNat_or,BitVec.toNat_ofNat,BitVec.toNat_ofNat,Nat.mod_eq_of_lt (by omega),Nat.mod_eq_of_lt (by omega)]
 have V:a ||| b<2 ^ 62:=Nat.or_lt_two_pow E J;have hw:Y9.wrap ((a ||| b:Nat):Int)=((a ||| b:Nat):Int):=wrap_i64 (by omega) (by omega);have O:(W6 Y9.bits (a:Int) ||| W6 Y9.bits (b:Int)).toNat=a ||| b:=e;simp only[U,eqGuard,binOp,Op.intBits,O,hw];rfl
theorem F9 (O:a<2 ^ 62) (E:b<2 ^ 62):I P (U .and t cx cy (.int .i64 a) (.int .i64 b)) w K=K (.int .i64 ((a &&& b:Nat):Int)):=I.of fun w' _=>by
 have e:(W6 64 (a:Int) &&& W6 64 (b:Int)).toNat=a &&& b:=by
  rw[kl,kl,BitVec.toNat_and,BitVec.toNat_ofNat,BitVec.toNat_ofNat,Nat.mod_eq_of_lt (by omega),Nat.mod_eq_of_lt (by omega)]
 have V:a &&& b<2 ^ 62:=Nat.and_lt_two_pow _ E;have hw:Y9.wrap ((a &&& b:Nat):Int)=((a &&& b:Nat):Int):=wrap_i64 (by omega) (by omega);have J:(W6 Y9.bits (a:Int) &&& W6 Y9.bits (b:Int)).toNat=a &&& b:=e;simp only[U,eqGuard,binOp,Op.intBits,J,hw];rfl
theorem Ga {k:o8} {n:Nat} (E:n<62):I P (U .shl t cx cy (.int .i64 1) (.int k (n:Int))) w K=K (.int .i64 ((2 ^ n:Nat):Int)):=by
 rw[ve (by omega)];have e:min ((n:Int).toNat) Y9.bits=n:=Nat.min_eq_left (by show n≤64;omega);have J:2 ^ n<2 ^ 62:=Nat.pow_lt_pow_right (by omega) E;rw[e,Int.one_mul,show ((2:Int) ^ n)=((2 ^ n:Nat):Int) by simp];generalize 2 ^ n=q at J ⊢;rw[wrap_i64 (by omega) (by omega)]
end
theorem zc (a n:Nat):(a / 2 ^ n &&& 1=1)↔a.testBit n=true:=by
 rw[Nat.and_one_is_mod,Nat.testBit_eq_decide_div_mod_eq,decide_eq_true_eq]
theorem ut {b n:Nat} {v:Int} {w:x5} (V:pz b n):O y0 kM [iQ b n,.int .i64 v] w fun r w'=>r= .bool (decide (0≤v∧v<n)&&b.testBit v.toNat)∧Ext w w':=by
 apply kM.enter;refine ce fun g aa ab I J=>?_;refine aZ (fun r W=>r= .bool (decide (0≤v∧v<n)&&b.testBit v.toNat)∧Ext w W) (fun _ _ h=>h) fun ac U=>?_;rw[bI bl.p bl.i rfl J.range];refine we.mono ?_;rintro _ ad _ ⟨rfl,E⟩;rw[ag];refine⟨fun h=>?_,fun h=>U _ _ ⟨by rw[decide_eq_false h];rfl,I.trans E⟩⟩;obtain⟨X,ae⟩:=V;obtain⟨s,rfl⟩:∃ s:Nat,v=s:=⟨v.toNat,by omega⟩;have Y:=J.ext E;have af:(2:Nat) ^ n≤2 ^ 32:=Nat.pow_le_pow_right (by omega) X;have Z:b / 2 ^ s<2 ^ 64:=Nat.lt_of_le_of_lt (Nat.div_le_self _ _) (by omega);rw[ah bl.p rfl,ai (v:=.int .u64 (b:Int)) (by kernel_rfl) (Y.cell (o:=0+0) rfl),s6 (by omega),show (1:Int)=((1:Nat):Int) from rfl,u64_and Z (by omega),bQ];refine U _ _ ⟨?_,I.trans E⟩;congr 1;rw[decide_eq_true h,Bool.true_and,X8,decide_eq_true_eq,c9,←zc];omega
theorem zd (m v:Nat):dropped (m:Int) (v:Int)=m.testBit v:=by unfold dropped;rw[c9,c9]
theorem Gb (m v u:Nat):(m ||| 2 ^ v).testBit u=(m.testBit u||decide (u=v)):=by
 rw[Nat.testBit_or,Nat.testBit_two_pow];congr 1;exact decide_eq_decide.2 ⟨fun h=>h.symm,fun h=>h.symm⟩
def dt (w:x5) (aL ay:Nat) (A R:av) (n:bY) (s:ba) (t:aP):Prop:=StateM w aL ay A R n s t∧t.b1=s.cells∧ku t∧gM n.k n.sizes s∧hI n
theorem dt.ext {w w':x5} {aL ay:Nat} {A R:av} {n:bY} {s:ba} {t:aP} (h:dt w aL ay A R n s t) (E:Ext w w'):dt w' aL ay A R n s t:=⟨h.1.ext E,h.2⟩
theorem StateM.parts {w:x5} {aL ay:Nat} {A R:av} {n:bY} {s:ba} {t:aP} (h:StateM w aL ay A R n s t):∃ E I O U V W L X,ak w aL aR [.pointer (some ⟨E,0,none⟩),.pointer (some ⟨ay,0,none⟩),I,O,U]∧eT w E n∧c5 w ay X t∧aq .i64 J w V I (gq s)∧aW jE 3 cz w W O L∧im R w L s:=by
 obtain⟨E,I,O,U,_,V,W,af,L,ag,X,w0,Y,⟨Z,aa,ah⟩,⟨ab,ai,aj,al⟩,ac,⟨ad,ae⟩,am,ao⟩:=h;exact⟨E,I,O,U,V,W,L,X,Y,Z.ext aa,ab,ac,ad,ae⟩
theorem r5 {s:ba} {i:Nat} (h:i<s.vars.length):(gq s)[i]? =some (eU s i:Int):=by
 unfold gq;rw[r8,List.getElem?_range h];rfl
theorem r6 {s:ba} {t:aP} (E:t.b1=s.cells) (I:ku t):s.cells.length≤100000000:=by
 rw[←E];unfold aP.b1;rw[o4];exact I.1
theorem uu {s:ba} {i:Nat} {x:gK} (h:s.vars[i]? =some x):eU s i+x.un.length+2≤s.cells.length:=by
 have h1:=qa h (j:=x.un.length+1) (by omega);have E:(fI x)[x.un.length+1]? ≠none:=by
  rw[Ne,List.getElem?_eq_none_iff];show ¬(x.un.length+1+1≤x.un.length+1);omega
 rw[←h1] at E;have:=(x6.1 (Option.ne_none_iff_exists'.1 E).choose_spec).1;omega
theorem ze {s:ba} {j:Nat} {f:hL} (h:s.funs[j]? =some f):ei s j+f.cs.length+1≤s.cells.length:=by
 have h1:=tV h (j:=f.cs.length) (by omega);have E:(fT f)[f.cs.length]? ≠none:=by
  rw[Ne,List.getElem?_eq_none_iff];show ¬(f.cs.length+1≤f.cs.length);omega
 rw[←h1] at E;have:=(x6.1 (Option.ne_none_iff_exists'.1 E).choose_spec).1;omega
section
variable {w:x5} {aL ay:Nat} {A R:av} {n:bY} {s:ba} {t:aP}
theorem zf (h:dt w aL ay A R n s t):O y0 l4 [.pointer (some ⟨aL,0,none⟩)] w fun v w'=>(∃ E,v= .pointer (some ⟨E,0,none⟩)∧eT w' E n)∧Ext w w':=by
 obtain⟨E,U,V,W,X,Y,L,Z,I,J,aa,ab,ac,ad⟩:=h.1.parts;apply l4.enter;rw[cZ eC.u];simp only[b8,aT];rw[az,ah aR.p rfl,ai (v:=.pointer (some ⟨E,0,none⟩)) (by kernel_rfl) (I.cell (o:=0+0) rfl)];exact⟨⟨E,rfl,J⟩,Ext.refl _⟩
theorem zg (h:dt w aL ay A R n s t):O y0 l8 [.pointer (some ⟨aL,0,none⟩)] w fun v w'=>v= .int .i64 (n.sizes.length:Int)∧Ext w w':=by
 apply l8.enter;refine (zf h).mono ?_;rintro _ U _ ⟨⟨V,rfl,E⟩,I⟩;refine (tX E).mono ?_;rintro _ W _ ⟨rfl,J⟩;exact⟨rfl,I.trans J⟩
theorem uv (h:dt w aL ay A R n s t):O y0 jS [.pointer (some ⟨aL,0,none⟩)] w fun v w'=>v= .int .i64 n.k∧Ext w w':=by
 apply jS.enter;refine (zf h).mono ?_;rintro _ U _ ⟨⟨V,rfl,E⟩,I⟩;refine (E8 E).mono ?_;rintro _ W _ ⟨rfl,J⟩;exact⟨rfl,I.trans J⟩
theorem uw {i:Int} (h:dt w aL ay A R n s t):O y0 kQ [.pointer (some ⟨aL,0,none⟩),.int .i64 i] w fun v w'=>v= .bool (decide (0≤i∧i<n.sizes.length))∧Ext w w':=by
 apply kQ.enter;refine aZ (fun v E=>v= .bool (decide (0≤i∧i<n.sizes.length))∧Ext w E) (fun _ _ h=>h) fun V I=>?_;rw[cV,ag];refine⟨fun J=>?_,fun J=>I _ _ ⟨by rw[decide_eq_false (by omega)],Ext.refl _⟩⟩;refine (zg h).mono ?_;rintro _ E _ ⟨rfl,U⟩;rw[au];refine I _ _ ⟨?_,U⟩;congr 1;exact decide_eq_decide.2 ⟨fun h=>⟨J,h⟩,fun h=>h.2⟩
theorem Gc (h:dt w aL ay A R n s t):O y0 nO [.pointer (some ⟨aL,0,none⟩)] w fun v w'=>v= .int .i64 s.zero∧Ext w w':=by
 obtain⟨U,V,W,X,Y,Z,L,aa,E,ab,I,ac,ad,ae⟩:=h.1.parts;apply nO.enter;rw[cZ eC.u];simp only[b8,aT];rw[az,ah aR.p rfl,ai (v:=.pointer (some ⟨ay,0,none⟩)) (by kernel_rfl) (E.cell (o:=0+1) rfl)];refine (lH (i:=0) I rfl (show t.b1[0]? =some s.zero by rw[h.2.1];exact E4 s)).mono ?_;rintro _ af _ ⟨rfl,J⟩;exact⟨rfl,J⟩
theorem ux (h:dt w aL ay A R n s t):O y0 kO [.pointer (some ⟨aL,0,none⟩)] w fun v w'=>v= .int .i64 (s.funs.length:Int)∧Ext w w':=by
 obtain⟨V,W,E,X,Y,Z,L,aa,I,ab,ac,ad,J,U⟩:=h.1.parts;apply kO.enter;rw[cZ eC.u];simp only[b8,aT];rw[az,ah aR.p rfl,ai (v:=E) (by kernel_rfl) (I.cell (o:=0+3) rfl),dZ bj.u J];exact⟨by rw[U.1],Ext.refl _⟩
def nu (s:ba) (i:Nat):Bool:=match s.vars[i]? with
 |some x=>decide (x.gone≠0)
 |none=>false
theorem Gd {i:Int} (h:dt w aL ay A R n s t):O y0 nQ [.pointer (some ⟨aL,0,none⟩),.int .i64 i] w fun v w'=>v= .bool (decide (0≤i)&&nu s i.toNat)∧Ext w w':=by
 apply nQ.enter;refine aZ (fun v X=>v= .bool (decide (0≤i)&&nu s i.toNat)∧Ext w X) (fun _ _ h=>h) fun ak I=>?_;intro al U _ _;refine (uw (h.ext U)).mono ?_;rintro _ am _ ⟨rfl,Y⟩;have E:=U.trans Y;have ao:=h.2.2.2.1.vars;rw[ag];refine⟨fun Z=>?_,fun ap=>I _ _ ⟨?_,E⟩⟩
 ·obtain⟨aq,aa,au,av,aw,ax,L,aA,V,aB,ac,ad,aC,aD⟩:=(h.ext E).1.parts;obtain⟨x,W⟩:∃ x,s.vars[i.toNat]? =some x:=⟨_,x3 (by omega)⟩;rw[az,ah aR.p rfl,ai (v:=.pointer (some ⟨ay,0,none⟩)) (by kernel_rfl) (V.cell (o:=0+1) rfl),az,ah aR.p rfl,ai (v:=aa) (by kernel_rfl) (V.cell (o:=0+2) rfl),eE (y:=i) (i:=i.toNat) (by omega) ab.u J.i (by kernel_rfl) ad.ls (r5 (by omega))];have ae:t.b1[eU s i.toNat+0]? =some x.gone:=by rw[h.2.1,qa W (by omega)];rfl
  refine (lH (i:=eU s i.toNat) ac rfl ae).mono ?_;rintro _ aE _ ⟨rfl,af⟩;rw[bN];refine I _ _ ⟨?_,E.trans af⟩;rw[decide_eq_true Z.1,Bool.true_and];unfold nu;rw[W]
 ·by_cases aj:0≤i
  ·unfold nu;rw[Z8 (by omega),Bool.and_false]
  ·rw[decide_eq_false aj];rfl
def gS (n:bY) (i v:Int):Prop:=0≤i∧i<n.sizes.length∧0≤v∧v<n.sizes.getD i.toNat 0
instance (n:bY) (i v:Int):Decidable (gS n i v):=inferInstanceAs (Decidable (_∧_))
theorem gS.var {i v:Int} (O:gS n i v) (E:gM n.k n.sizes s):∃ x,s.vars[i.toNat]? =some x∧v.toNat<x.un.length∧x.un.length≤32∧n.sizes.getD i.toNat 0=x.un.length:=by
 obtain⟨h1,V,W,U⟩:=O;have X:=E.vars;obtain⟨x,J⟩:∃ x,s.vars[i.toNat]? =some x:=⟨_,x3 (by omega)⟩;obtain⟨z,I⟩:∃ z,n.sizes[i.toNat]? =some z:=⟨_,x3 (by omega)⟩;have Y:=E.kv.2.2 z (u4 I);have Z:=(E.var i.toNat x z J I).1;rw[p8,I,V4] at U ⊢;exact⟨x,J,by omega,by omega,by omega⟩
theorem zh {i v:Int} (h:dt w aL ay A R n s t):O y0 ma [.pointer (some ⟨aL,0,none⟩),.int .i64 i,.int .i64 v] w fun r w'=>r= .int .i64 (if gS n i v then ((eU s i.toNat+2+v.toNat:Nat):Int) else-1)∧Ext w w':=by
 have aD:=h.2.2.2.1.vars;apply ma.enter;refine aZ (fun r Y=>r= .bool (decide (¬gS n i v))∧Ext w Y) ?_ ?_
 ·rintro _ Y ⟨rfl,W⟩;rw[ag];refine⟨fun af=>⟨by rw[if_neg af],W⟩,fun U=>?_⟩;have U:=X2.1 U;obtain⟨x,aj,aE,aF,_⟩:=U.var h.2.2.2.1;obtain⟨Z,aa,ak,al,am,ao,L,ap,E,ac,aq,ad,av,aw⟩:=(h.ext W).1.parts;have ae:=uu aj;have aG:=r6 h.2.1 h.2.2.1;obtain⟨h1,aH,aI,aJ⟩:=id U;rw[az,ah aR.p rfl,ai (v:=aa) (by kernel_rfl) (E.cell (o:=0+2) rfl),eE (y:=i) (i:=i.toNat) (by omega) ab.u J.i (by kernel_rfl) ad.ls (r5 (by omega)),aK,wrap_i64 (by omega) (by omega),aK,wrap_i64 (by omega) (by omega),if_pos U];refine⟨?_,W⟩;congr 1;omega
 ·intro aM X;refine (uw h).mono ?_;rintro _ aN _ ⟨rfl,V⟩;rw[b3,cE];refine⟨fun E=>?_,fun E=>?_⟩
  ·have E:¬(0≤i∧i<n.sizes.length):=fun ax=>by rw[decide_eq_true ax] at E;cases E
   exact X _ _ ⟨by rw[decide_eq_true];exact fun I=>E ⟨I.1,I.2.1⟩,V⟩
  have E:0≤i∧i<n.sizes.length:=by simpa using E
  rw[au,ag];refine⟨fun aA=>X _ _ ⟨by rw[decide_eq_true];exact fun I=>by have:=I.2.2.1;omega,V⟩,fun aA=>?_⟩;obtain⟨Z,aa,ak,al,am,ao,L,ap,aB,ac,aq,ad,av,aw⟩:=(h.ext V).1.parts;rw[az,ah aR.p rfl,ai (v:=.pointer (some ⟨Z,0,none⟩)) (by kernel_rfl) (aB.cell (o:=0+0) rfl)];refine (yE ac h.2.2.2.2).mono ?_;rintro _ aO _ ⟨aC,rfl⟩;rw[if_pos E.1,cV];refine X _ _ ⟨?_,V.trans aC⟩;congr 1;refine decide_eq_decide.2 ⟨fun h I=>?_,fun h=>?_⟩
  ·have:=I.2.2.2;omega
  ·refine Int.not_lt.1 fun ae=>h ⟨E.1,E.2,by omega,ae⟩
def qg (s:ba) (i v:Nat):Int:=match s.vars[i]? with
 |some x=>x.un.getD v 0
 |none=>0
theorem Ge {i v:Int} (h:dt w aL ay A R n s t):O y0 nM [.pointer (some ⟨aL,0,none⟩),.int .i64 i,.int .i64 v] w fun r w'=>r=(if gS n i v then .tuple #[.int .i64 (qg s i.toNat v.toNat),.int .i64 0] else .tuple #[.int .i64 0,.int .i64 1])∧Ext w w':=by
 apply nM.enter;rw[cZ eC.u];simp only[b8,aT];refine (zh h).mono ?_;rintro _ Z _ ⟨rfl,I⟩;by_cases E:gS n i v
 ·rw[if_pos E,if_pos E,au,ag];refine⟨fun h=>by omega,fun _=>?_⟩;obtain⟨x,J,U,aa,_⟩:=E.var h.2.2.2.1;obtain⟨ab,ac,ad,ae,af,aj,L,ak,V,al,W,am,ao,ap⟩:=(h.ext I).1.parts;rw[az,ah aR.p rfl,ai (v:=.pointer (some ⟨ay,0,none⟩)) (by kernel_rfl) (V.cell (o:=0+1) rfl)];have X:t.b1[eU s i.toNat+2+v.toNat]? =some (x.un.getD v.toNat 0):=by
   rw[h.2.1,Nat.add_assoc,qa J (by omega),show 2+v.toNat=v.toNat+1+1 by omega];show x.un[v.toNat]? =_;rw[p8,x3 U];rfl
  refine (lH (i:=eU s i.toNat+2+v.toNat) W rfl X).mono ?_;rintro _ aq _ ⟨rfl,Y⟩;refine⟨?_,I.trans Y⟩;unfold qg;rw[J]
 ·rw[if_neg E,if_neg E,au,ag];exact⟨fun _=>⟨rfl,I⟩,fun h=>by omega⟩
def eX (s:ba) (j:Nat):Bool:=match s.funs[j]? with
 |some f=>decide (f.live≠0)
 |none=>false
theorem qh {j:Int} (h:dt w aL ay A R n s t):O y0 jm [.pointer (some ⟨aL,0,none⟩),.int .i64 j] w fun v w'=>v= .bool (decide (0≤j)&&eX s j.toNat)∧Ext w w':=by
 apply jm.enter;refine aZ (fun v aa=>v= .bool (decide (0≤j)&&eX s j.toNat)∧Ext w aa) (fun _ _ h=>h) fun ak E=>?_;intro al I _ _;rw[cV,ag];refine⟨fun J=>?_,fun J=>E _ _ ⟨by rw[decide_eq_false J];rfl,I⟩⟩;refine (ux (h.ext I)).mono ?_;rintro _ am _ ⟨rfl,ab⟩;have U:=I.trans ab;rw[au,ag];refine⟨fun ao=>?_,fun ap=>E _ _ ⟨?_,U⟩⟩
 ·obtain⟨aq,av,ac,aw,ax,aA,L,aB,X,aC,ad,aD,Y,V⟩:=(h.ext U).1.parts;obtain⟨f,W⟩:∃ f,s.funs[j.toNat]? =some f:=⟨_,x3 (by omega)⟩;obtain⟨y,Z⟩:∃ y,L[j.toNat]? =some y:=⟨_,x3 (by rw[V.1];omega)⟩;obtain⟨_,_,ae⟩:=V.2 j.toNat y f Z W;rw[az,ah aR.p rfl,ai (v:=.pointer (some ⟨ay,0,none⟩)) (by kernel_rfl) (X.cell (o:=0+1) rfl),az,ah aR.p rfl,ai (v:=ac) (by kernel_rfl) (X.cell (o:=0+3) rfl),cI (i:=j.toNat) (by omega) bj.u cz.i Y (by rw[V.1];omega),ah cz.p rfl,ai (v:=.int .i64 (y.at_:Int)) (by kernel_rfl) (Y.range Z 2 _ rfl)];have af:t.b1[ei s j.toNat+0]? =some f.live:=by rw[h.2.1,tV W (by omega)];rfl
  refine (lH (i:=ei s j.toNat) ad (by rw[ae]) af).mono ?_;rintro _ aE _ ⟨rfl,aj⟩;rw[bN];refine E _ _ ⟨?_,U.trans aj⟩;rw[decide_eq_true J,Bool.true_and];unfold eX;rw[W]
 ·unfold eX;rw[Z8 (by omega),Bool.and_false]
end
def Gf (s:ba) (n:bY) (i:Int) (b m:Nat):Prop:=pz b m∧(¬(0≤i∧i<n.sizes.length)→b=0∧m=0)∧ ∀ x,0≤i→s.vars[i.toNat]? =some x→m=x.un.length∧ ∀ j:Nat,b.testBit j=(decide (j<x.un.length)&& !dropped x.mask (j:Int))
section
variable {w:x5} {aL ay:Nat} {A R:av} {n:bY} {s:ba} {t:aP}
theorem uy {i:Int} (h:dt w aL ay A R n s t):O y0 kL [.pointer (some ⟨aL,0,none⟩),.int .i64 i] w fun v w'=>(∃ b m,v=iQ b m∧Gf s n i b m)∧Ext w w':=by
 have bH:=h.2.2.2.1.vars;apply kL.enter;refine bO bl.i fun I ba bJ aH al=>?_;have al:ak ba I bl [.int .u64 0,.int .i64 0]:=al;refine (uw (h.ext aH)).mono ?_;rintro _ bK _ ⟨rfl,aI⟩;have am:=al.ext aI;have ao:=aH.trans aI;rw[b3,cE];refine⟨fun U=>?_,fun U=>?_⟩
 ·have U:¬(0≤i∧i<n.sizes.length):=fun bb=>by rw[decide_eq_true bb] at U;cases U
  rw[cW (cs:=#[.int .u64 0,.int .i64 0]) (by kernel_rfl)];refine b4 (vs:=[.int .u64 0,.int .i64 0]) bl.i rfl rfl (by intro u hu;simp at hu;rcases hu with rfl|rfl <;> rfl) am fun bL bd bM be=>?_;rw[eN bl.p bl.i rfl be.range];refine⟨⟨0,0,rfl,⟨by omega,by simp⟩,fun _=>⟨rfl,rfl⟩,fun x aJ bf=>?_⟩,ao.then bd fun r ap he=>by have he:r=I:=he;omega⟩;have:=(x6.1 bf).1;exact absurd ⟨aJ,by omega⟩ U
 have U:0≤i∧i<n.sizes.length:=by simpa using U
 obtain⟨x,X⟩:∃ x,s.vars[i.toNat]? =some x:=⟨_,x3 (by omega)⟩;obtain⟨z,aq⟩:∃ z,n.sizes[i.toNat]? =some z:=⟨_,x3 (by omega)⟩;have bg:=h.2.2.2.1.kv.2.2 z (u4 aq);obtain⟨bN,_,bP,bR⟩:=h.2.2.2.1.var i.toNat x z X aq;obtain⟨aM,aN,bh,bi,bj,bk,L,bm,Y,aO,_⟩:=(h.ext ao).1.parts;rw[az,ah aR.p rfl,ai (v:=.pointer (some ⟨aM,0,none⟩)) (by kernel_rfl) (Y.cell (o:=0+0) rfl)];refine (yE aO h.2.2.2.2).mono ?_;rintro _ bS _ ⟨av,rfl⟩;rw[if_pos U.1,p8,aq,V4];refine BB.mono ?_;rintro _ bT _ ⟨aw,rfl⟩;rw[if_pos bg];obtain⟨m,rfl⟩:∃ m:Nat,z=m:=⟨z.toNat,by omega⟩;rw[aC (v:=iQ (2 ^ (m:Int).toNat-1) (m:Int).toNat) rfl,aC (v:=.int .i64 0) rfl,c9];have aP:=(ao.trans av).trans aw;refine bO bl.i fun E bU bV aQ bn=>?_;refine b4 (vs:=[.int .u64 ((2 ^ m-1:Nat):Int),.int .i64 (m:Int)]) bl.i rfl rfl (by intro u hu;simp at hu;rcases hu with rfl|rfl <;> rfl) bn fun aS aT bW bo=>?_;have z5:=aP.size;have aU:Ext w aS:=(aP.trans aQ).then aT fun r ap he=>by have he:r=E:=he;omega
 have bX:=(((am.ext av).ext aw)).lt;have bp:ak aS I bl [.int .u64 0,.int .i64 0]:=(((am.ext av).ext aw).ext aQ).ad aT fun he=>by have he:I=E:=he;omega
 intro bY ax _ _;have aV:=aU.trans ax;obtain⟨aM,aN,bh,bi,bj,bk,L,bm,Y,aO,bq,br,_⟩:=(h.ext aV).1.parts;have bZ:=uu X;have b2:=r6 h.2.1 h.2.2.1;rw[az,ah aR.p rfl,ai (v:=.pointer (some ⟨ay,0,none⟩)) (by kernel_rfl) (Y.cell (o:=0+1) rfl),az,ah aR.p rfl,ai (v:=aN) (by kernel_rfl) (Y.cell (o:=0+2) rfl),eE (y:=i) (i:=i.toNat) (by omega) ab.u J.i (by kernel_rfl) br.ls (r5 (by omega)),aK,wrap_i64 (by omega) (by omega)];have bt:t.b1[eU s i.toNat+1]? =some x.mask:=by rw[h.2.1,qa X (by omega)];rfl
 refine (lH (i:=eU s i.toNat+1) bq (by omega) bt).mono ?_;rintro _ bu _ ⟨rfl,aA⟩;have aW:=(bo.ext ax).ext aA;have bw:=(bp.ext ax).ext aA;obtain⟨mk,aX⟩:∃ mk:Nat,x.mask=mk:=⟨x.mask.toNat,by omega⟩;rw[bI bl.p bl.i rfl (show bu.rangeAt E 0 [.int .u64 ((2 ^ m-1:Nat):Int),.int .i64 (m:Int)] from aW.range)];refine (BA (b:=2 ^ m-1) (n:=m)).mono ?_;rintro _ b5 _ ⟨rfl,aB⟩;have bx:=aV.trans aA;have bz:I≠E:=by omega
 have b6:=aU.size;have b7:w.heap.size≤E:=by omega
 have b8:w.heap.size≤I:=by omega
 refine bc.range m (fun q V=>Ext w V∧ak V I bl [.int .u64 0,.int .i64 0]∧ ∃ b:Nat,ak V E bl [.int .u64 (b:Int),.int .i64 (m:Int)]∧pz b m∧ ∀ j:Nat,b.testBit j=(decide (j<m)&& !(decide (j<q)&&mk.testBit j))) (by omega)
  ⟨bx.trans aB,bw.ext aB,_,aW.ext aB,⟨by omega,by have:=Nat.two_pow_pos m;omega⟩,fun j=>by rw[Bz];simp⟩ ?_ ?_
 ·rintro q V bA b9 ⟨Z,aa,b,W,ac,ae⟩ bB;rw[au,ag];refine⟨fun _=>?_,fun h=>by omega⟩;refine dF (fun af=>Ext w af∧ak af I bl [.int .u64 0,.int .i64 0]∧ ∃ b:Nat,ak af E bl [.int .u64 (b:Int),.int .i64 (m:Int)]∧pz b m∧ ∀ j:Nat,b.testBit j=(decide (j<m)&& !(decide (j<q+1)&&mk.testBit j))) ?_ ?_
  ·rintro af bC;rw[aK];exact bB _ bC
  intro ca aY;have bD:mk / 2 ^ q<2 ^ 62:=Nat.lt_of_le_of_lt (Nat.div_le_self _ _) (by omega);rw[aX,xk (by omega),show (1:Int)=((1:Nat):Int) from rfl,F9 bD (by omega),bQ,ag];have aZ:(((mk / 2 ^ q &&& 1:Nat):Int)=((1:Nat):Int))↔mk.testBit q=true:=by rw[←zc];omega
  refine⟨fun aD=>?_,fun aE=>?_⟩
  ·have aD:=aZ.1 aD;rw[bI bl.p bl.i rfl (show V.rangeAt E 0 [.int .u64 (b:Int),.int .i64 (m:Int)] from W.range)];refine (BC (v:=(q:Int)) ac).mono ?_;rintro _ cb _ ⟨rfl,aF⟩;rw[if_pos ⟨by omega,by omega⟩,c9];refine b4 (vs:=[.int .u64 ((ic b (2 ^ q):Nat):Int),.int .i64 (m:Int)]) bl.i rfl rfl (by intro u hu;simp at hu;rcases hu with rfl|rfl <;> rfl) (W.ext aF) fun cc a1 cd bE=>?_;have a2:∀ j:Nat,(ic b (2 ^ q)).testBit j=(decide (j<m)&& !(decide (j<q+1)&&mk.testBit j)):=fun j=>by
    rw[Bw,ae,Nat.testBit_two_pow];by_cases a6:j<m
    ·by_cases aj:j=q
     ·subst aj;simp[aD]
     ·have aG:decide (j<q+1)=decide (j<q):=decide_eq_decide.2 ⟨fun h=>by omega,fun h=>by omega⟩;rw[aG,decide_eq_true a6,decide_eq_true (show j<64 by omega),decide_eq_false (show ¬q=j from fun h=>aj h.symm)];simp
    ·simp[a6]
   refine aY _ ⟨(Z.trans aF).then a1 fun r ap he=>by have he:r=E:=he;omega,(aa.ext aF).ad a1 fun he=>bz he,_,bE,⟨by omega,Bx fun j a7=>by rw[a2,decide_eq_false (by omega)];rfl⟩,a2⟩
  ·have aE:mk.testBit q=false:=by simpa using fun h=>aE (aZ.2 h)
   refine aY _ ⟨Z,aa,b,W,ac,fun j=>?_⟩;rw[ae];by_cases aj:j=q
   ·subst aj;simp[aE]
   ·have aG:decide (j<q+1)=decide (j<q):=decide_eq_decide.2 ⟨fun h=>by omega,fun h=>by omega⟩;rw[aG]
 ·rintro V bA ⟨Z,aa,b,W,ac,ae⟩;rw[au,ag];refine⟨fun h=>by omega,fun _=>?_⟩;rw[bI bl.p bl.i rfl (show V.rangeAt E 0 [.int .u64 (b:Int),.int .i64 (m:Int)] from W.range)];refine b4 (vs:=[.int .u64 (b:Int),.int .i64 (m:Int)]) bl.i rfl rfl (by intro u hu;simp at hu;rcases hu with rfl|rfl <;> rfl) aa fun ce bF cg bG=>?_;rw[eN bl.p bl.i rfl bG.range];refine⟨⟨b,m,rfl,ac,fun h=>absurd U h,fun y aJ a8=>?_⟩,Z.then bF fun r ap he=>by have he:r=I:=he;omega⟩;rw[X] at a8;cases a8;refine⟨by omega,fun j=>?_⟩;rw[ae,aX,zd,show x.un.length=m by omega];by_cases a7:j<m <;> simp[a7]
theorem uz {k:Int} {sizes:List Int} {f:hL} (I:gM k sizes s) (O:f∈s.funs):bR f.an∧f.cs.length=(aG f.an).toNat∧aG f.an≤4096:=by
 obtain⟨E,U,_⟩:=I.funs f O;rw[U];refine⟨⟨?_,nk I.kv.2.2 fun v J=>⟨(E.scope.1 v J).1,E.vars v J⟩⟩,E.len,E.small⟩;have:=E.scope.2;simp[bF];exact this
def iu (s:ba) (j:Nat) (E:List Int):Option Nat:=match s.funs[j]? with
 |some f=>if f.live≠0 then (cg f.an E 0).map fun m=>ei s j+1+m.toNat else none
 |none=>none
def jd (s:ba) (j:Nat) (E:List Int):Int:=match s.funs[j]? with
 |some f=>cn f.an f.cs E
 |none=>0
theorem Gg {j:Nat} {ad:x4} {W:List Int} (h:dt w aL ay A R n s t) (ak:aH .i64 w ad W):O y0 oc [.pointer (some ⟨aL,0,none⟩),.int .i64 (j:Int),ad] w fun v w'=>v= .int .i64 (match iu s j W with|some p=>(p:Int)|none=>-1)∧Ext w w':=by
 apply oc.enter;refine (qh h).mono ?_;rintro _ al _ ⟨rfl,X⟩;rw[decide_eq_true (by omega),Bool.true_and,c9,b3,cE];refine⟨fun E=>⟨?_,X⟩,fun E=>?_⟩
 ·have E:eX s j=false:=by simpa using E
  have:iu s j W=none:=by
   unfold iu;unfold eX at E;cases I:s.funs[j]? with
   |none=>rfl
   |some f=>
    rw[I] at E;have E:f.live=0:=by simpa using E
    simp[E]
  rw[this]
 have E:eX s j=true:=by simpa using E
 obtain⟨f,I,am⟩:∃ f,s.funs[j]? =some f∧f.live≠0:=by
  unfold eX at E;cases I:s.funs[j]? with
  |none=>rw[I] at E;cases E
  |some f=>rw[I] at E;exact⟨f,rfl,by simpa using E⟩
 obtain⟨ae,aG,aI⟩:=uz h.2.2.2.1 (u4 I);obtain⟨ao,ap,Y,aq,au,af,L,av,Z,ax,aA,aB,U,V⟩:=(h.ext X).1.parts;obtain⟨y,J⟩:∃ y,L[j]? =some y:=⟨_,x3 (by rw[V.1];exact (x6.1 I).1)⟩;have aa:=(x6.1 J).1;obtain⟨_,aD,aj⟩:=V.2 j y f J I;have aE:al.rangeAt af (j*3+1) [y.aw]:=fun q v ab=>by
  match q,ab with
  |0,ab=>cases ab;exact U.range J 1 _ rfl
 rw[az,ah aR.p rfl,ai (v:=Y) (by kernel_rfl) (Z.cell (o:=0+3) rfl),cI rfl bj.u cz.i U aa,ah cz.p rfl,bI (cs:=[y.aw]) aJ.p aJ.i rfl aE];refine (vy aD.ls (ak.ext X) ae).mono ?_;rintro _ aM _ ⟨rfl,aF⟩;have ac:=X.trans aF;unfold iO iu;rw[I];simp only[if_pos am];cases hi:cg f.an W 0 with
 |none=>
  simp only[Option.map_none];rw[aC (v:=.int .i64 0) rfl,aC (v:=.int .i64 3) rfl,bN,ag];exact⟨fun _=>⟨trivial,ac⟩,fun h=>absurd (show (3:Int)≠0 by decide) h⟩
 |some m=>
  simp only[b6];rw[aC (v:=.int .i64 m) rfl,aC (v:=.int .i64 0) rfl,bN,ag];refine⟨fun h=>absurd rfl h,fun _=>?_⟩;have aN:=iM ae.2 hi;have aO:=ze I;have aP:=r6 h.2.1 h.2.2.1;obtain⟨ao,ap,Y,aq,au,af,L,av,Z,ax,aA,aB,U,V⟩:=(h.ext ac).1.parts;obtain⟨y,J⟩:∃ y,L[j]? =some y:=⟨_,x3 (by rw[V.1];exact (x6.1 I).1)⟩;have aa:=(x6.1 J).1;obtain⟨_,_,aj⟩:=V.2 j y f J I;rw[az,ah aR.p rfl,ai (v:=Y) (by kernel_rfl) (Z.cell (o:=0+3) rfl),cI rfl bj.u cz.i U aa,ah cz.p rfl,ai (v:=.int .i64 (y.at_:Int)) (by kernel_rfl) (U.range J 2 _ rfl),aj,aK,wrap_i64 (by omega) (by omega),aK,wrap_i64 (by omega) (by omega)];refine⟨?_,ac⟩;congr 1;omega
theorem zi {k:Int} {sizes:List Int} {j:Nat} {I:List Int} {p:Nat} (J:gM k sizes s) (h:iu s j I=some p):s.cells[p]? =some (jd s j I)∧ ∃ f,s.funs[j]? =some f∧f.live≠0∧ ∃ m:Nat,cg f.an I 0=some (m:Int)∧m<f.cs.length∧p=ei s j+(m+1):=by
 unfold iu at h;cases E:s.funs[j]? with
 |none=>rw[E] at h;cases h
 |some f=>
  rw[E] at h;simp only at h;split at h
  ·rename_i O;obtain⟨m,hm,rfl⟩:=Z3.1 h;obtain⟨U,V,W⟩:=uz J (u4 E);have X:=iM U.2 hm;obtain⟨q,rfl⟩:∃ q:Nat,m=q:=⟨m.toNat,by omega⟩;refine⟨?_,f,rfl,O,q,hm,by omega,by omega⟩;rw[show ei s j+1+(q:Int).toNat=ei s j+(q+1) by omega,tV E (by omega)];unfold jd cn;rw[E];simp only[hm];show f.cs[q]? =_;rw[c9,p8,x3 (by omega)];rfl
  ·cases h
theorem Gh {j:Nat} {J:x4} {E:List Int} (h:dt w aL ay A R n s t) (U:aH .i64 w J E):O y0 nN [.pointer (some ⟨aL,0,none⟩),.int .i64 (j:Int),J] w fun v w'=>v=(if (iu s j E).isSome then .tuple #[.int .i64 (jd s j E),.int .i64 0] else .tuple #[.int .i64 0,.int .i64 1])∧Ext w w':=by
 apply nN.enter;rw[cZ eC.u];simp only[b8,aT];refine (Gg h U).mono ?_;rintro _ Z _ ⟨rfl,I⟩;cases V:iu s j E with
 |none=>
  simp only;rw[au,ag];exact⟨fun _=>⟨rfl,I⟩,fun h=>by omega⟩
 |some p=>
  simp only;rw[au,ag];refine⟨fun h=>by omega,fun _=>?_⟩;obtain⟨aa,ab,ac,ad,ae,af,L,aj,W,ak,X,al,am,ao⟩:=(h.ext I).1.parts;rw[az,ah aR.p rfl,ai (v:=.pointer (some ⟨ay,0,none⟩)) (by kernel_rfl) (W.cell (o:=0+1) rfl)];refine (lH (i:=p) X rfl (by rw[h.2.1];exact (zi h.2.2.2.1 V).1)).mono ?_;rintro _ ap _ ⟨rfl,Y⟩;exact⟨rfl,I.trans Y⟩
end
theorem ej.parts {w:x5} {aL ay E:Nat} {I O X:x4} {A R:av} {n:bY} {s:ba} {t:aP} (h:ej w aL ay E I O X A R n s t):∃ U V L W,ak w aL aR [.pointer (some ⟨E,0,none⟩),.pointer (some ⟨ay,0,none⟩),I,O,X]∧eT w E n∧c5 w ay W t∧aq .i64 J w U I (gq s)∧aW jE 3 cz w V O L∧im R w L s:=by
 obtain⟨_,U,V,af,L,ag,W,w0,Y,⟨Z,aa,ah⟩,⟨ab,ai,aj,al⟩,ac,⟨ad,ae⟩,am,ao⟩:=h;exact⟨U,V,L,W,Y,Z.ext aa,ab,ac,ad,ae⟩
theorem zj {a b k:Int} {w:x5} (E:0≤a∧a≤k) (I:0≤b∧b≤k) (J:1≤k∧k≤2147483648):O y0 jn [.int .i64 a,.int .i64 b,.int .i64 k] w fun v w'=>v= .tuple #[.int .i64 (min (a+b) k),.int .i64 0]∧Ext w w':=by
 refine wM.mono ?_;rintro _ V _ ⟨rfl,U⟩;refine⟨?_,U⟩;unfold pI;rw[if_pos ⟨⟨J,E.1,E.2⟩,J,I.1,I.2⟩]
theorem Gi {k:Int} {sizes:List Int} {s:ba} {j:Nat} {E:List Int} {p:Nat} (I:gM k sizes s) (h:iu s j E=some p):0≤jd s j E∧jd s j E≤k:=by
 obtain⟨_,f,J,_,m,hm,O,_⟩:=zi I h;obtain⟨U,_,_⟩:=I.funs f (u4 J);unfold jd cn;rw[J];simp only[hm];rw[c9,p8,x3 O,V4];exact U.hh _ (T1 O)
set_option maxHeartbeats 4000000 in
theorem uA {w:x5} {aL ay:Nat} {A R:av} {n:bY} {s:ba} {t:aP} {bq:x4} {a:List Int} (h:dt w aL ay A R n s t) (ap:aH .i64 w bq a):O y0 kN [.pointer (some ⟨aL,0,none⟩),bq] w fun v w'=>((jD s a→v= .tuple #[.int .i64 (fV n.k s a),.int .i64 0])∧(¬jD s a→v= .tuple #[.int .i64 0,.int .i64 3]))∧Ext w w':=by
 have aa:=h.2.2.2.1;have dd:=aa.vars;have br:=aa.rY;apply kN.enter;rw[cZ eC.u];simp only[b8,aT];rw[aO ab.u ap];refine (zg h).mono ?_;rintro _ de _ ⟨rfl,aV⟩;rw[bN,ag];refine⟨fun df=>⟨⟨fun al=>absurd al.1 (by omega),fun _=>by trivial⟩,aV⟩,fun dg=>?_⟩;have b5:a.length=s.vars.length:=by omega
 refine (Gc (h.ext aV)).mono ?_;rintro _ dh _ ⟨rfl,b6⟩;have bt:=aV.trans b6;rw[aO ab.u (ap.ext bt)];obtain⟨V,aE⟩:∃ V,V=s.vars.zip a:=⟨_,rfl⟩;have di:V.length=a.length:=by rw[aE,List.length_zip];omega
 refine jj.range a.length (fun i t4 t5 X aF ac=>Ext w ac∧ ∃ E:Int,X= .int .i64 E∧E=(V.take i).foldl (gL n.k) s.zero∧(0≤E∧E≤n.k)∧aF= .bool ((V.take i).all ds)∧ ∀ p<i,∀ x v,s.vars[p]? =some x→a[p]? =some v→x.gone≠0∨(0≤v∧v<x.un.length)) ap.le
  ⟨bt,s.zero,rfl,rfl,aa.zero,rfl,fun p Y=>by omega⟩ ?_ ?_
 ·rintro i t4 t5 _ _ ac b7 hi ⟨W,E,rfl,aG,aI,rfl,aW⟩ b9;obtain⟨x,ae⟩:∃ x,s.vars[i]? =some x:=⟨_,x3 (by omega)⟩;obtain⟨v,af⟩:∃ v,a[i]? =some v:=⟨_,x3 hi⟩;obtain⟨z,aX⟩:∃ z,n.sizes[i]? =some z:=⟨_,x3 (by omega)⟩;have dj:=aa.kv.2.2 z (u4 aX);obtain⟨dk,ca,_⟩:=aa.var i x z ae aX;have cb:V[i]? =some (x,v):=by rw[aE,List.getElem?_zip_eq_some];exact⟨ae,af⟩
  have bu:V.take (i+1)=V.take i++[(x,v)]:=by rw[o3,cb];rfl
  have aw:(V.take (i+1)).foldl (gL n.k) s.zero=gL n.k E (x,v):=by rw[bu,List.foldl_append,←aG];rfl
  have aY:(V.take (i+1)).all ds=((V.take i).all ds&&ds (x,v)):=by rw[bu,List.all_append];simp
  have bw:(x.gone≠0∨(0≤v∧v<x.un.length))→ ∀ p<i+1,∀ x v,s.vars[p]? =some x→a[p]? =some v→x.gone≠0∨(0≤v∧v<x.un.length):=fun cc p Y y u am hu=>by
   by_cases cd:p=i
   ·subst cd;rw[ae] at am;rw[af] at hu;cases am;cases hu;exact cc
   ·exact aW p (by omega) y u am hu
  rw[au,ag];refine⟨fun _=>?_,fun h=>by omega⟩;refine sX (fun t4 t5 X aF ac=>Ext w ac∧ ∃ E:Int,X= .int .i64 E∧E=(V.take (i+1)).foldl (gL n.k) s.zero∧(0≤E∧E≤n.k)∧aF= .bool ((V.take (i+1)).all ds)∧ ∀ p<i+1,∀ x v,s.vars[p]? =some x→a[p]? =some v→x.gone≠0∨(0≤v∧v<x.un.length)) ?_ ?_
  ·rintro t4 t5 X aF dl a1;rw[aK];exact b9 _ _ _ _ _ a1
  intro bx ax;rw[bm ab.u J.i (by kernel_rfl) (ap.ext W) af];refine (Gd (i:=(i:Int)) (h.ext W)).mono ?_;rintro _ dm _ ⟨rfl,bz⟩;have ce:nu s i=decide (x.gone≠0):=by unfold nu;rw[ae]
  rw[decide_eq_true (by omega),Bool.true_and,c9,ce,ag];refine⟨fun a2=>ax _ _ _ _ _ ⟨W.trans bz,E,rfl,?_,aI,?_,bw (.inl a2)⟩,fun a7=>?_⟩
  ·rw[aw];unfold gL;rw[if_pos a2]
  ·rw[aY];unfold ds;rw[decide_eq_true a2,Bool.true_or,Bool.and_true]
  have bA:=W.trans bz;refine (Ge (i:=(i:Int)) (v:=v) (h.ext bA)).mono ?_;rintro _ dn _ ⟨rfl,cg⟩;have aJ:=bA.trans cg;have bB:n.sizes.getD (i:Int).toNat 0=z:=by rw[c9,p8,aX];rfl
  by_cases aM:gS n (i:Int) v
  ·have bC:=id aM;unfold gS at bC;rw[bB] at bC;rw[if_pos aM,aC (v:=.int .i64 (qg s (i:Int).toNat v.toNat)) rfl,aC (v:=.int .i64 0) rfl,bN,ag];refine⟨fun h=>absurd rfl h,fun _=>?_⟩;have ch:qg s (i:Int).toNat v.toNat=x.un.getD v.toNat 0:=by unfold qg;rw[c9,ae]
   have ci:0≤x.un.getD v.toNat 0∧x.un.getD v.toNat 0≤n.k:=by
    rw[p8,x3 (show v.toNat<x.un.length by omega),V4];exact ca _ (T1 _)
   rw[ch];refine aZ (fun cj bD=>Ext w bD∧cj= .bool ((V.take (i+1)).all ds)) ?_ ?_
   ·rintro _ bD ⟨bE,rfl⟩;refine (uv (h.ext bE)).mono ?_;rintro _ dp _ ⟨rfl,ck⟩;refine (zj aI ci br).mono ?_;rintro _ dq _ ⟨rfl,cl⟩;rw[aC (v:=.int .i64 (min (E+x.un.getD v.toNat 0) n.k)) rfl,aC (v:=.int .i64 0) rfl];refine ax _ _ _ _ _ ⟨(bE.trans ck).trans cl,_,rfl,?_,⟨by omega,by omega⟩,rfl,bw (.inr ⟨by omega,by omega⟩)⟩;rw[aw];unfold gL;rw[if_neg a7]
   ·intro dr bF;rw[cE];have cm:ds (x,v)= !dropped x.mask v:=by unfold ds;rw[decide_eq_false a7,Bool.false_or]
    refine⟨fun cp=>?_,fun Z=>bF _ _ ⟨aJ,by rw[aY,Z];rfl⟩⟩;refine (uy (i:=(i:Int)) (h.ext aJ)).mono ?_;rintro _ du _ ⟨⟨b,m,rfl,cq,_,cr⟩,ct⟩;refine (ut cq).mono ?_;rintro _ dv _ ⟨rfl,cu⟩;refine bF _ _ ⟨(aJ.trans ct).trans cu,?_⟩;obtain⟨hm,cw⟩:=cr x (by omega) (by rw[c9];exact ae);rw[aY,cp,cm,Bool.true_and,decide_eq_true (show 0≤v∧v<(m:Int) by omega),Bool.true_and,cw,decide_eq_true (by omega),Bool.true_and];congr 2
  ·rw[if_neg aM,aC (v:=.int .i64 0) rfl,aC (v:=.int .i64 1) rfl,bN,ag];refine⟨fun _=>⟨⟨fun al=>?_,fun _=>by trivial⟩,aJ⟩,fun h=>absurd (show (1:Int)≠0 by decide) h⟩;rcases al.2 i x v ae af with bb|bb
   ·exact absurd bb a7
   ·exact absurd ⟨by omega,by omega,bb.1,by rw[bB];omega⟩ aM
 rintro t4 t5 _ _ ac b7 ⟨W,E,rfl,aG,aI,rfl,aW⟩;have al:jD s a:=⟨b5,fun i x v bd af=>aW i (x6.1 af).1 x v bd af⟩;rw[j0 (by omega)] at aG;rw[j0 (by omega),au,ag];refine⟨fun h=>by omega,fun _=>?_⟩;rw[b3,cE];refine⟨fun aj=>?_,fun aj=>?_⟩
 ·have aj:V.all ds=false:=by simpa using aj
  refine (uv (h.ext W)).mono ?_;rintro _ dw _ ⟨rfl,cA⟩;refine⟨⟨fun _=>?_,fun be=>absurd al be⟩,W.trans cA⟩;unfold fV;rw[←aE,aj];rfl
 have aj:V.all ds=true:=by simpa using aj
 have cB:fV n.k s a=s.funs.foldl (fU n.k a) E:=by
  unfold fV;rw[←aE,aj,if_pos rfl,←aG]
 obtain⟨⟨dx,dy,cC,dz,cD⟩,dA⟩:=id h;have bf:∀ {w':x5},Ext w w'→dt w' aL ay A R n s t:=fun bd=>h.ext bd;obtain⟨dB,dC,L,dD,cF,dE,dF,dG,bg,bG⟩:=(cD.ext W).parts;rw[az,ah aR.p rfl,ai (v:=cC) (by kernel_rfl) (cF.cell (o:=0+3) rfl),dZ bj.u bg];have dH:=bG.1;refine a8.range L.length (fun j X aA=>Ext ac aA∧ ∃ U:Int,X= .int .i64 U∧U=(s.funs.take j).foldl (fU n.k a) E∧0≤U∧U≤n.k) bg.le
  ⟨Ext.refl _,E,rfl,rfl,aI⟩ ?_ ?_
 rotate_left
 ·rintro _ aA cG ⟨ak,U,rfl,aN,_⟩;rw[j0 (by omega)] at aN;rw[au,ag];refine⟨fun h=>by omega,fun _=>⟨⟨fun _=>by rw[cB,aN],fun be=>absurd al be⟩,W.trans ak⟩⟩
 rintro j _ aA cG bH ⟨ak,U,rfl,aN,bJ⟩ cH;obtain⟨y,am⟩:∃ y,L[j]? =some y:=⟨_,x3 bH⟩;obtain⟨f,Z⟩:∃ f,s.funs[j]? =some f:=⟨_,x3 (by omega)⟩;have cJ:im R aA L s:=bG.ad (ak.ad fun _=>False) fun _ _ _ h=>h;obtain⟨aQ,bh,dI⟩:=cJ.2 j y f am Z;have aQ:=aQ.ls;have bh:=bh.ls;obtain⟨bi,dJ,dK⟩:=aa.funs f (u4 Z);have dL:f.sc.length≤6:=bi.scope.2;have aw:(s.funs.take (j+1)).foldl (fU n.k a) E=fU n.k a U f:=by
  rw[o3,Z,j5,List.foldl_append,←aN];rfl
 have cK:=W.trans ak;have bK:=bg.ext ak;rw[au,ag];refine⟨fun _=>?_,fun h=>by omega⟩;refine aZ (fun X bM=>Ext ac bM∧ ∃ U:Int,X= .int .i64 U∧U=(s.funs.take (j+1)).foldl (fU n.k a) E∧0≤U∧U≤n.k) ?_ ?_
 ·rintro X bM a1;rw[aK];exact cH _ _ a1
 intro bx ax;rw[cI rfl bj.u cz.i bK bH,bI cz.p cz.i rfl (bK.range am)];refine bO cz.i fun cL dM dN cM cN=>?_;refine b4 (vs:=jE y) cz.i rfl rfl (fun u hu=>?_) cN fun cO cP dO cQ=>?_
 ·simp[jE] at hu;rcases hu with rfl|rfl|rfl
  ·exact aQ.cells.2
  ·exact bh.cells.2
  ·rfl
 have bP:Ext aA cO:=cM.then cP fun r cR he=>by have he:r=cL:=he;omega
 have bQ:=cK.trans bP;refine (qh (j:=(j:Int)) (bf bQ)).mono ?_;rintro _ cS _ ⟨rfl,bk⟩;have bR:=bQ.trans bk;have bl:=bP.trans bk;have cT:eX s j=decide (f.live≠0):=by unfold eX;rw[Z]
 rw[decide_eq_true (by omega),Bool.true_and,c9,cT,ag];refine⟨fun bS=>?_,fun cU=>ax _ _ ⟨ak.trans bl,U,rfl,by rw[aw];unfold fU;rw[if_neg cU],bJ⟩⟩;have bT:=cQ.ext bk;have bn:=aQ.ext bl;rw[ah cz.p rfl,ai (v:=y.a6) (by kernel_rfl) (bT.cell (o:=0+0) rfl),aO ab.u bn];refine hz (k:=.i64) ab.u J.i (by omega) (by omega) fun aB cV dP bo cW=>?_;have cX:aq .i64 J cV aB (.slice (some ⟨aB,0,none⟩) f.sc.length f.sc.length) (p9 f.sc.length 0):=aq.of (bL.full (k:=1) (n:=f.sc.length) cW (by simp) (by simp[maxLen];omega));rw[ah cz.p rfl,ai (v:=y.a6) (by kernel_rfl) ((bT.ext bo).cell (o:=0+0) rfl),aO ab.u (bn.ext bo)];have dQ:(e5 a f.sc).length=f.sc.length:=by unfold e5;rw[o4]
 refine bc.range f.sc.length (fun q aS=>Ext cS aS∧aq .i64 J aS aB (.slice (some ⟨aB,0,none⟩) f.sc.length f.sc.length) ((e5 a f.sc).take q++(p9 f.sc.length (0:Int)).drop q)) (by omega)
  ⟨bo,by simpa using cX⟩ ?_ ?_
 ·rintro q aS cY bU ⟨ao,aD⟩ c0;obtain⟨u,hu⟩:∃ u,f.sc[q]? =some u:=⟨_,x3 bU⟩;have dR:=bi.vars u (u4 hu);have dS:=bi.scope.1 u (u4 hu);have c1:a[u.toNat]? =some (a.getD u.toNat 0):=by rw[p8,x3 (by omega)];rfl
  have c2:(e5 a f.sc)[q]? =some (a.getD u.toNat 0):=by unfold e5;rw[r8,hu];rfl
  rw[au,ag];refine⟨fun _=>?_,fun h=>by omega⟩;rw[bm ab.u J.i (by kernel_rfl) (bn.ext ao) hu,eE (y:=u) (i:=u.toNat) (by omega) ab.u J.i (by kernel_rfl) (ap.ext (bR.trans ao)) c1,gB rfl ab.u J.i aD (by rw[o5,l6,List.length_drop,List.length_replicate];omega)];refine gC J.i aD (by rw[o5,l6,List.length_drop,List.length_replicate];omega) fun dT c3 dU bV=>?_;rw[aK];refine c0 _ ⟨ao.then c3 fun r cR he=>by have he:r=aB:=he;omega,?_⟩;rw[r4 (by rw[List.length_replicate];exact bU) c2] at bV;exact bV
 rintro aS cY ⟨ao,aD⟩;rw[List.drop_of_length_le (by simp),U3,j0 (by omega)] at aD;rw[au,ag];refine⟨fun h=>by omega,fun _=>?_⟩;have bW:=bR.trans ao;refine (Gh (j:=j) (bf bW) aD.ls).mono ?_;rintro _ bp _ ⟨rfl,bX⟩;have c4:fU n.k a U f=min (U+jd s j (e5 a f.sc)) n.k:=by
  unfold fU jd;rw[if_pos bS,Z]
 have bZ:∀ c e:Int,(0≤c∧c≤n.k)→c=jd s j (e5 a f.sc)→(I y0 (u5 (.tuple #[.int .i64 c,.int .i64 e]) 0) bp fun c5=>
   I y0 (u5 (.tuple #[.int .i64 c,.int .i64 e]) 1) bp fun dV=>
   O y0 jS [.pointer (some ⟨aL,0,none⟩)] bp fun c6 b1=>
   O y0 jn [.int .i64 U,c5,c6] b1 fun b2 aU=>
   I y0 (u5 b2 0) aU fun c7=>
   I y0 (u5 b2 1) aU fun dW=>
   bx c7 aU):=fun c e c8 da=>by
  rw[aC (v:=.int .i64 c) rfl,aC (v:=.int .i64 e) rfl];refine (uv (bf (bW.trans bX))).mono ?_;rintro _ b1 _ ⟨rfl,db⟩;refine (zj bJ c8 br).mono ?_;rintro _ aU _ ⟨rfl,dc⟩;rw[aC (v:=.int .i64 (min (U+c) n.k)) rfl,aC (v:=.int .i64 0) rfl];refine ax _ _ ⟨((((ak.trans bl).trans ao).trans bX).trans db).trans dc,_,rfl,by rw[aw,c4,da],by omega,by omega⟩
 cases Y:iu s j (e5 a f.sc) with
 |some p=>exact bZ _ _ (Gi aa Y) rfl
 |none=>
  refine bZ 0 1 ⟨by omega,by omega⟩ ?_;unfold iu at Y;rw[Z] at Y;simp only[if_pos bS] at Y;have Y:=Option.map_eq_none_iff.1 Y;unfold jd cn;rw[Z];simp only[Y]
def Room (t:aP):Prop:=t.marks=[]∨t.olds.length<100000000
def hp (s:ba) (i v:Nat):ba:=match s.vars[i]? with
 |some x=>{s with vars:=s.vars.set i {x with mask:=((x.mask.toNat ||| 2 ^ v:Nat):Int)}}
 |none=>s
def lQ (s:ba) (j:Nat):ba:=match s.funs[j]? with
 |some f=>{s with funs:=s.funs.set j {f with live:=0}}
 |none=>s
theorem gM.Gj {k:Int} {sizes:List Int} {s:ba} {i:Nat} {x y:gK} (h:gM k sizes s) (I:s.vars[i]? =some x) (U:y.un.length=x.un.length) (V:∀ c∈y.un,0≤c∧c≤k) (hm:0≤y.mask∧y.mask<4294967296):gM k sizes {s with vars:=s.vars.set i y}:=
 ⟨h.rY,h.kv,h.zero,by show (s.vars.set i y).length=_;rw[W0];exact h.vars,fun p z q E J=>by
  have E:(s.vars.set i y)[p]? =some z:=E;rw[Y7] at E;by_cases O:i=p
  ·subst O;rw[if_pos rfl,if_pos (x6.1 I).1] at E;cases E;exact⟨U.trans (h.var i x q I J).1,V,hm⟩
  ·rw[if_neg O] at E;exact h.var p z q E J,h.funs⟩
theorem gM.Gk {k:Int} {sizes:List Int} {s:ba} {j:Nat} {f g:hL} (h:gM k sizes s) (I:s.funs[j]? =some f) (h1:g.sc=f.sc) (J:g.an=f.an) (O:g.cs.length=f.cs.length) (U:∀ c∈g.cs,0≤c∧c≤k):gM k sizes {s with funs:=s.funs.set j g}:=
 ⟨h.rY,h.kv,h.zero,h.vars,h.var,fun x E=>by
  rcases V1 E with E|rfl
  ·exact h.funs x E
  ·obtain⟨⟨V,W,X,Y,Z,ac⟩,aa,ab⟩:=h.funs f (u4 I);refine⟨⟨?_,?_,?_,?_,?_,U⟩,?_,?_⟩
   ·show hg x.sc;rw[h1];exact V
   ·show x.sc.Pairwise _;rw[h1];exact W
   ·show ∀ v∈x.sc,_;rw[h1];exact X
   ·show x.cs.length=(aG (bF sizes x.sc)).toNat;rw[h1,O];exact Y
   ·show aG (bF sizes x.sc)≤_;rw[h1];exact Z
   ·rw[h1,J];exact aa
   ·rw[h1];exact ab⟩
def zk (w:x5) (r:Nat):Prop:=∃ e c,ak w r e c∧(e=cR∨e=dc∨e=gY∨e=dE∨e=aR∨e=cz∨e=pg)
def gT (w:x5) (r:Nat):Prop:=zk w r∨ ∀ o,w.heap[r]? =some o→fw o≠true
theorem Gl {w J:x5} {r:Nat} (V:∀ o,w.heap[r]? =some o→fw o=true→¬gT w r→J.heap[r]? =some o) (h:gT J r):gT w r:=by
 by_cases E:gT w r
 ·exact E
 ·refine absurd (.inr fun o O U=>?_) E;have h1:=V o O U E;rcases h with⟨e,c,I,he⟩|W
  ·refine E (.inl ⟨e,c,?_,he⟩);unfold ak at I ⊢;rw[h1] at I;rw[O];exact I
  ·exact W o h1 U
theorem zl {w E I:x5} (J:Ext w E) (O:aj (gT E) E I):aj (gT w) w I:=(J.ad _).trans (O.mono fun r _ h=>Gl (fun o U V _=>J.bw r o U V) h)
theorem uB {w:x5} {r:Nat} {e:o6} {c:List x4} (E:ak w r e c) (he:¬(e=cR∨e=dc∨e=gY∨e=dE∨e=aR∨e=cz∨e=pg)):¬gT w r:=by
 rintro (⟨U,V,I,J⟩|O)
 ·rw[eK E I] at he;exact he J
 ·exact O _ E rfl
theorem jJ {w w':x5} {k:o8} {e:o6} {g:Nat} {v:x4} {l:List Int} (h:aq k e w g v l) (E:aj (gT w) w w') (he:¬(e=cR∨e=dc∨e=gY∨e=dE∨e=aR∨e=cz∨e=pg)):aq k e w' g v l:=bp h E fun r I=>by
 obtain⟨c,J⟩:=F0 h r I;exact uB J he
theorem qi {α:Type} {f:α→List x4} {k:Nat} {w w':x5} {e:o6} {g:Nat} {v:x4} {L:List α} (h:aW f k e w g v L) (E:aj (gT w) w w') (he:¬(e=cR∨e=dc∨e=gY∨e=dE∨e=aR∨e=cz∨e=pg)):aW f k e w' g v L:=h.ad E fun r I=>by
 obtain⟨c,J⟩:=kA h r I;exact uB J he
theorem Gm {w w':x5} {sizes:List Int} {h:dV} (I:dx w sizes h) (E:aj (gT w) w w'):dx w' sizes h:=by
 obtain⟨⟨J,h1⟩,⟨O,U⟩,V,W⟩:=I;exact⟨⟨J,jJ h1 E (by decide)⟩,⟨O,jJ U E (by decide)⟩,V,jJ W E (by decide)⟩
theorem eW.ty {B:Nat} {w w':x5} {v:x4} {k:Int} {sizes:List Int} {s:ba} (h:eW B w v k sizes s) (E:aj (gT w) w w'):eW B w' v k sizes s:=by
 obtain⟨aw,J,O,D,U,V,W,X,L,Y,Z,h1,aa,⟨ab,ac,ad,a3⟩,ae,⟨af,ag,ah⟩,⟨ai,⟨ak,al⟩,am⟩,ao,⟨ap,d1,d2,d3⟩,aq,⟨au,av,ax,ay⟩,az⟩:=h;refine⟨aw,J,O,D,U,V,W,X,L,Y,Z,h1,jJ aa E (by decide),⟨ab,qi ac E (by decide),fun x I=>?_,a3⟩,ae,⟨af,qi ag E (by decide),ah⟩,⟨ai,⟨qi ak E (by decide),fun x I=>?_⟩,am⟩,ao,⟨ap,qi d1 E (by decide),fun x I=>⟨Gm (d2 x I).1 E,(d2 x I).2⟩,d3⟩,aq,⟨au,qi av E (by decide),fun x I=>?_,ay⟩,az⟩
 ·obtain⟨g,hm⟩:=ad x I;exact⟨g,jJ hm E (by decide)⟩
 ·obtain⟨g,hm⟩:=al x I;exact⟨g,jJ hm E (by decide)⟩
 ·obtain⟨⟨g,hm⟩,aA,aB⟩:=ax x I;exact⟨⟨g,jJ hm E (by decide)⟩,aA,jJ aB E (by decide)⟩
theorem c5.min {w:x5} {ay:Nat} {A:av} {t:aP} (h:c5 w ay A t):c5 w ay (fun r=>A r∧zk w r) t:=by
 obtain⟨V,W,go,X,aM,Y,Z,h1,J,O,U,aa⟩:=h;refine⟨⟨V,_,_,h1,.inl rfl⟩,W,go,X,aM,Y,Z,h1,J,O,U,fun r E=>⟨aa r E,?_⟩⟩;rcases E with E|E|E
 ·obtain⟨rfl,c,I⟩:=dr J E;exact⟨_,c,I,.inr (.inl rfl)⟩
 ·obtain⟨rfl,c,I⟩:=dr O E;exact⟨_,c,I,.inr (.inr (.inl rfl))⟩
 ·obtain⟨rfl,c,I⟩:=dr U E;exact⟨_,c,I,.inr (.inr (.inr (.inl rfl)))⟩
section
variable {w:x5} {aL ay:Nat} {A R:av} {n:bY} {s:ba} {t:aP}
theorem ku.set (h:ku t) (E:Room t) (p:Nat) (x:Int):ku (t.set p x):=by
 refine⟨by rw[aP.yG];exact h.1,?_,by rw[aP.r1];exact h.2.2⟩;rcases E with E|E
 ·rw[aP.tY E];exact h.2.1
 ·have:=aP.yH t p x;omega
theorem zm {s':ba} {p:Nat} {y x:Int} (h:dt w aL ay A R n s t) (X:y=(p:Int)) (E:p<s.cells.length) (Y:s.cells.set p x=s'.cells) (Z:nq s s') (aa:gM n.k n.sizes s') (ab:Room t):
  O y0 iE [.pointer (some ⟨ay,0,none⟩),.int .i64 y,.int .i64 x] w fun r w'=>r= .int .i64 0∧aj (gT w) w w'∧ ∃ I,Grow A w I w'∧dt w' aL ay I R n s' (t.set p x):=by
 obtain⟨ac,V,W,_,ad⟩:=id h;obtain⟨ae,af,ag⟩:=ac.lJ;have ah:p<t.cells.length:=by rw[←V] at E;unfold aP.b1 at E;rw[o4] at E;exact E
 refine (rX af.min X ah W).mono ?_;rintro _ ai _ ⟨rfl,ak,J,al⟩;obtain⟨I,am,ao⟩:=ag (fun r=>ae r∨ak r) ai _ ⟨J.1.mono fun r _ h=>h.1,fun r U=>U.elim .inl fun h=>(J.2.1 r h).imp (fun h=>h.1) id,fun r U=>.inl U⟩ (al.mono fun r h=>.inr h);exact⟨rfl,J.1.mono fun r _ h=>.inl h.2,I,am,ao.same Z,by rw[aP.pu,V,Y],W.set ab p x,aa,ad⟩
theorem zn {i v:Int} (h:dt w aL ay A R n s t) (ae:Room t):O y0 l1 [.pointer (some ⟨aL,0,none⟩),.int .i64 i,.int .i64 v] w fun r w'=>(¬gS n i v→r= .int .i64 1∧Ext w w')∧
  (gS n i v→r= .int .i64 0∧aj (gT w) w w'∧ ∃ U x,Grow A w U w'∧dt w' aL ay U R n (hp s i.toNat v.toNat) (t.set (eU s i.toNat+1) x)):=by
 apply l1.enter;rw[cZ eC.u];simp only[b8,aT];refine (zh h).mono ?_;rintro _ aD _ ⟨rfl,V⟩;by_cases I:gS n i v
 rotate_left
 ·rw[if_neg I,au,ag];exact⟨fun _=>⟨fun _=>⟨by trivial,V⟩,fun h=>absurd h I⟩,fun h=>by omega⟩
 rw[if_pos I,au,ag];refine⟨fun h=>by omega,fun _=>?_⟩;obtain⟨x,E,af,aE,aF⟩:=I.var h.2.2.2.1;obtain⟨h1,aG,aH,aI⟩:=id I;have aJ:=h.2.2.2.1.vars;obtain⟨z,ak⟩:∃ z,n.sizes[i.toNat]? =some z:=⟨_,x3 (by omega)⟩;obtain⟨_,al,aM,aN⟩:=h.2.2.2.1.var i.toNat x z E ak;have aO:=uu E;have aP:=r6 h.2.1 h.2.2.1;obtain⟨aQ,am,aS,aU,ao⟩:=(h.ext V).1;obtain⟨aV,aW,L,aX,Z,aY,ap,aq,aZ,a1⟩:=ao.parts;rw[az,ah aR.p rfl,ai (v:=am) (by kernel_rfl) (Z.cell (o:=0+2) rfl),eE (y:=i) (i:=i.toNat) (by omega) ab.u J.i (by kernel_rfl) aq.ls (r5 (by omega)),aK,wrap_i64 (by omega) (by omega)];intro a2 W _ _;have av:=V.trans W;have aa:=Z.ext W;have aw:=ap.ext W;obtain⟨q,rfl⟩:∃ q:Nat,v=q:=⟨v.toNat,by omega⟩;obtain⟨mk,ac⟩:∃ mk:Nat,x.mask=mk:=⟨x.mask.toNat,by omega⟩;rw[c9] at af;rw[az,ah aR.p rfl,ai (v:=.pointer (some ⟨ay,0,none⟩)) (by kernel_rfl) (aa.cell (o:=0+1) rfl),az,ah aR.p rfl,ai (v:=.pointer (some ⟨ay,0,none⟩)) (by kernel_rfl) (aa.cell (o:=0+1) rfl),Ga (by omega)];have ax:t.b1[eU s i.toNat+1]? =some x.mask:=by rw[h.2.1,qa E (by omega)];rfl
 refine (lH (i:=eU s i.toNat+1) aw (by omega) ax).mono ?_;rintro _ a6 _ ⟨rfl,ad⟩;refine⟨.inl ad,?_⟩;have a7:(2:Nat) ^ q≤2 ^ 31:=Nat.pow_le_pow_right (by omega) (by omega);rw[ac,F8 (by omega) (by omega)];have X:=av.trans ad;have a8:mk ||| 2 ^ q<2 ^ 32:=Nat.or_lt_two_pow (by omega) (by omega);have Y:hp s i.toNat (q:Int).toNat={s with vars:=s.vars.set i.toNat {x with mask:=((mk ||| 2 ^ q:Nat):Int)}}:=by
  unfold hp;rw[E];simp only[ac,c9]
 refine (zm (p:=eU s i.toNat+1) (s':=hp s i.toNat (q:Int).toNat) (h.ext X) (by omega) (by omega) ?_ ?_ ?_ ae).mono ?_
 ·rw[Y,E5 E (by omega)];rfl
 ·rw[Y];exact Fg E rfl
 ·rw[Y];exact h.2.2.2.1.Gj E rfl al ⟨by simp only;omega,by simp only;omega⟩
 rintro _ ba _ ⟨rfl,aA,U,aB,aC⟩;exact⟨fun h=>absurd I h,fun _=>⟨rfl,zl X aA,U,_,(Grow.ext X).trans aB,aC⟩⟩
theorem Gn {j:Int} (h:dt w aL ay A R n s t) (ad:Room t):O y0 nK [.pointer (some ⟨aL,0,none⟩),.int .i64 j] w fun r w'=>(¬(0≤j∧eX s j.toNat=true)→r= .int .i64 1∧Ext w w')∧
  ((0≤j∧eX s j.toNat=true)→r= .int .i64 0∧aj (gT w) w w'∧ ∃ U p,Grow A w U w'∧dt w' aL ay U R n (lQ s j.toNat) (t.set p 0)):=by
 apply nK.enter;rw[cZ eC.u];simp only[b8,aT];refine (qh h).mono ?_;rintro _ au _ ⟨rfl,Y⟩;rw[b3,cE];refine⟨fun I=>⟨fun _=>⟨by trivial,Y⟩,fun Z=>?_⟩,fun I=>?_⟩
 ·rw[decide_eq_true Z.1,Z.2] at I;cases I
 have I:0≤j∧eX s j.toNat=true:=by simpa using I
 obtain⟨av,J⟩:=id I;obtain⟨f,E,aw⟩:∃ f,s.funs[j.toNat]? =some f∧f.live≠0:=by
  unfold eX at J;cases E:s.funs[j.toNat]? with
  |none=>rw[E] at J;cases J
  |some f=>rw[E] at J;exact⟨f,rfl,by simpa using J⟩
 intro ax ae _ _;have V:=Y.trans ae;obtain⟨aA,aB,af,aC,ag⟩:=(h.ext V).1;obtain⟨aD,aE,L,aF,aa,aG,aH,aI,ab,ac⟩:=ag.parts;obtain⟨y,W⟩:∃ y,L[j.toNat]? =some y:=⟨_,x3 (by rw[ac.1];exact (x6.1 E).1)⟩;have ak:=(x6.1 W).1;obtain⟨_,_,al⟩:=ac.2 j.toNat y f W E;have aJ:=ze E;rw[az,ah aR.p rfl,ai (v:=.pointer (some ⟨ay,0,none⟩)) (by kernel_rfl) (aa.cell (o:=0+1) rfl),az,ah aR.p rfl,ai (v:=af) (by kernel_rfl) (aa.cell (o:=0+3) rfl),cI (i:=j.toNat) (by omega) bj.u cz.i ab ak,ah cz.p rfl,ai (v:=.int .i64 (y.at_:Int)) (by kernel_rfl) (ab.range W 2 _ rfl)];have X:lQ s j.toNat={s with funs:=s.funs.set j.toNat {f with live:=0}}:=by
  unfold lQ;rw[E]
 obtain⟨am,_⟩:=h.2.2.2.1.funs f (u4 E);refine (zm (p:=ei s j.toNat+0) (s':=lQ s j.toNat) (h.ext V) (by rw[al];rfl) (by omega) ?_ ?_ ?_ ad).mono ?_
 ·rw[X,E6 E (by omega)];rfl
 ·rw[X];exact Fh E rfl rfl rfl
 ·rw[X];exact h.2.2.2.1.Gk E rfl rfl rfl am.hh
 rintro _ aK _ ⟨rfl,ao,U,ap,aq⟩;exact⟨fun h=>absurd I h,fun _=>⟨rfl,zl V ao,U,_,(Grow.ext V).trans ap,aq⟩⟩
end
theorem Gp {w:x5} {W:x4} {l:List Int} {v:Int} (h:aH .i64 w W l):O y0 nL [W,.int .i64 v] w fun r w'=>r= .bool (decide (v∈l))∧Ext w w':=by
 apply nL.enter;rw[aO ab.u h];refine a8.range l.length (fun i _ U=>Ext w U∧v∉l.take i) h.le ⟨Ext.refl _,by simp⟩ ?_ ?_
 ·rintro i _ U k hi ⟨E,I⟩ X;obtain⟨x,V⟩:∃ x,l[i]? =some x:=⟨_,x3 hi⟩;rw[au,ag];refine⟨fun _=>?_,fun h=>by omega⟩;rw[bm ab.u J.i (by kernel_rfl) (h.ext E) V,bQ,ag];refine⟨fun he=>⟨by rw[decide_eq_true];rw[←he];exact u4 V,E⟩,fun Y=>?_⟩;rw[aK];refine X _ _ ⟨E,fun hm=>?_⟩;rw[o3,V,j5,n0,o9] at hm;rcases hm with hm|hm
  ·exact I hm
  ·exact Y hm.symm
 ·rintro _ U k ⟨E,I⟩;rw[l5] at I;rw[au,ag];exact⟨fun h=>by omega,fun _=>⟨by rw[decide_eq_false I],E⟩⟩
theorem zo:∀ {s t:List Int} {m k v:Int},s.length=t.length→cg (s++[k]) (t++[v]) m=(cg s t m).bind fun r=>if 0≤v∧v<k then some (r*k+v) else none
 |[],[],m,k,v,_=>by simp[cg]
 |x::s,y::t,m,k,v,h=>by
  have h:s.length=t.length:=by simpa using h
  rw[List.cons_append,List.cons_append];simp only[cg];split
  ·exact zo h
  ·rfl
theorem Gq {w:x5} {sizes a:List Int} {k:Int} {c:dV} {aj:x4} (h:dx w sizes c) (I:ey sizes k (cO c)) (Y:∀ z∈sizes,1≤z∧z≤32) (ao:aH .i64 w aj a) (X:∀ v∈c.sc,∃ x,a[v.toNat]? =some x∧0≤x∧x<sizes.getD v.toNat 0):
  O y0 nZ [.agg (ct c).toArray,aj] w fun v w'=>v= .int .i64 (cn (bF sizes c.sc) c.cs (e5 a c.sc))∧Ext w w':=by
 obtain⟨⟨aI,h1⟩,⟨aJ,ap⟩,aL,aq⟩:=id h;have Z:dG (bF sizes c.sc):=nk Y fun v X=>⟨(I.scope.1 v X).1,I.vars v X⟩;have aN:c.sc.length≤6:=I.scope.2;apply nZ.enter;refine ce fun aP av aQ U V=>?_;have V:=uk h V;rw[ah aD.p rfl,ai (v:=c.a6) (by kernel_rfl) (V.cell (o:=0+0) rfl),aO ab.u (h1.ext U).ls];have aR:(e5 a c.sc).length=c.sc.length:=by unfold e5;rw[o4]
 have aS:(bF sizes c.sc).length=c.sc.length:=by unfold bF;rw[o4]
 refine a8.range c.sc.length (fun i ax aa=>Ext av aa∧ ∃ m:Int,ax= .int .i64 m∧cg ((bF sizes c.sc).take i) ((e5 a c.sc).take i) 0=some m) h1.ls.le ⟨Ext.refl _,0,rfl,rfl⟩ ?_ ?_
 ·rintro i _ aa ay hi ⟨E,m,rfl,hm⟩ az;obtain⟨v,W⟩:∃ v,c.sc[i]? =some v:=⟨_,x3 hi⟩;obtain⟨x,ak,aA,aB⟩:=X v (u4 W);have aT:=I.scope.1 v (u4 W);have ac:(bF sizes c.sc)[i]? =some (sizes.getD v.toNat 0):=by unfold bF;rw[r8,W];rfl
  have aC:(e5 a c.sc)[i]? =some x:=by unfold e5;rw[r8,W,b6,p8,ak];rfl
  have aU:=Z _ (u4 ac);have al:∀ z∈(bF sizes c.sc).take i,1≤z∧z≤32:=fun z Y=>Z z (List.mem_of_mem_take Y);have aE:=iM al hm;have aV:=prod_bound (l:=(bF sizes c.sc).take i) ⟨by rw[l6];omega,al⟩;rw[au,ag];refine⟨fun _=>?_,fun h=>by omega⟩;rw[bm ab.u J.i (by kernel_rfl) (h1.ext (U.trans E)).ls W];intro aW ad _ _;have am:=(U.trans E).trans ad;have aX:0≤m*sizes.getD v.toNat 0∧m*sizes.getD v.toNat 0≤1073741824*32:=⟨Int.mul_nonneg (by omega) (by omega),Int.mul_le_mul (by omega) (by omega) (by omega) (by omega)⟩;rw[ah aD.p rfl,ai (v:=c.aw) (by kernel_rfl) ((V.ext (E.trans ad)).cell (o:=0+1) rfl),bm ab.u J.i (by kernel_rfl) (ap.ext am).ls ac,fA,wrap_i64 (by omega) (by omega),eE (y:=v) (i:=v.toNat) (by omega) ab.u J.i (by kernel_rfl) (ao.ext am) ak,aK,wrap_i64 (by omega) (by omega),aK];refine az _ _ ⟨E.trans ad,_,rfl,?_⟩;rw[o3,o3,ac,aC,j5,j5,zo (by rw[l6,l6];omega),hm];simp only[Option.bind_some];rw[if_pos ⟨aA,aB⟩]
 ·rintro _ aa ay ⟨E,m,rfl,hm⟩;rw[j0 (by omega),j0 (by omega)] at hm;have aE:=iM Z hm;have aY:c.cs.length=(aG (bF sizes c.sc)).toNat:=I.len;rw[au,ag];refine⟨fun h=>by omega,fun _=>?_⟩;have aF:c.cs[m.toNat]? =some (c.cs.getD m.toNat 0):=by rw[p8,x3 (by omega)];rfl
  rw[ah aD.p rfl,ai (v:=c.aM) (by kernel_rfl) ((V.ext E).cell (o:=0+2) rfl),eE (y:=m) (i:=m.toNat) (by omega) af.u ae.i (by kernel_rfl) (aq.ext (U.trans E)).ls aF];refine⟨?_,U.trans E⟩;unfold cn;rw[hm]
theorem Gr {B:Nat} {w:x5} {v:x4} {k:Int} {sizes:List Int} {s:ba} (h:eW B w v k sizes s) {w':x5} {g:Nat} (ag:Ext w w') (Z:ak w' g aX v.cells.toList):∃ aw Y E D I O U V L W X,v= .agg #[.int .i64 k,aw,.int .i64 s.zero,E,I,O,V,W]∧ak w' g aX [.int .i64 k,aw,.int .i64 s.zero,E,I,O,V,W]∧aq .i64 J w' Y aw sizes∧hQ w' B E D∧D.map (·.l)=s.vars.map hP∧hR w' B I (s.vars.map fun x=>decide (x.gone≠0))∧
  gR w' B O U∧U.map (·.l)=s.vars.map (·.un)∧ho w' B sizes V L∧L.map nt=s.funs.map qe∧kC w' B W X∧X.map y9=s.lI∧ ∀ h∈U,∀ x∈L,∀ r,leads h.v r→¬leads x.1.aM r:=by
 obtain⟨aw,Y,E,D,I,O,U,V,L,W,X,rfl,aa,ab,ah,ac,ad,ai,ae,aj,af,al⟩:=h.ext ag;obtain⟨_,_,_,am⟩:=c6 aa.ls;obtain⟨_,ao,_⟩:=id ab;obtain⟨_,ap,_⟩:=id ac;obtain⟨_,⟨au,_⟩,_⟩:=id ad;obtain⟨_,av,_⟩:=id ae;obtain⟨_,ax,_⟩:=id af;obtain⟨_,_,_,_,_,ay,_⟩:=ao.sl;obtain⟨_,_,_,_,_,az,_⟩:=ap.sl;obtain⟨_,_,_,_,_,aA,_⟩:=au.sl;obtain⟨_,_,_,_,_,aB,_⟩:=av.sl;obtain⟨_,_,_,_,_,aC,_⟩:=ax.sl;refine⟨aw,Y,E,D,I,O,U,V,L,W,X,rfl,?_,aa,ab,ah,ac,ad,ai,ae,aj,af,al⟩;rw[am,ay,az,aA,aB,aC] at Z ⊢;exact Z
theorem Gs {x:gK} {v:Int} (h:0≤v∧v<x.un.length):v∈hP x↔dropped x.mask v=false:=by
 unfold hP;rw[List.mem_filter,l9];constructor
 ·rintro⟨_,E⟩;simpa using E
 ·intro E;exact⟨⟨v.toNat,List.mem_range.2 (by omega),by omega⟩,by simp[E]⟩
def zp (s:ba):Prop:=∀ f∈s.funs,f.live≠0→ ∀ v∈f.sc,∀ x,s.vars[v.toNat]? =some x→x.gone=0
set_option maxHeartbeats 4000000 in
theorem Gt {B:Nat} {w:x5} {sv aY:x4} {k:Int} {sizes a:List Int} {s:ba} (h:eW B w sv k sizes s) (Y:gM k sizes s) (bJ:zp s) (aE:jD s a) (a1:aH .i64 w aY a):O y0 l2 [sv,aY] w fun v w'=>v= .int .i64 (fV k s a)∧Ext w w':=by
 have cC:=Y.vars;have cD:=Y.rY;apply l2.enter;refine ce fun cF ap cG aq ac=>?_;obtain⟨aw,cH,bK,D,bL,bM,aF,bN,L,cJ,cK,_,ac,cL,⟨cM,a2,bP,_⟩,a6,⟨cN,a7,_⟩,⟨cP,⟨bb,bQ⟩,_⟩,bc,⟨cQ,av,bR,_⟩,bd,_⟩:=Gr h aq ac;have aG:=a1.ext aq;have cR:=aE.1;rw[ah aX.p rfl,ai (v:=.int .i64 s.zero) (by kernel_rfl) (ac.cell (o:=0+2) rfl),aO ab.u aG];obtain⟨W,ax⟩:∃ W,W=s.vars.zip a:=⟨_,rfl⟩;have cS:W.length=a.length:=by rw[ax,List.length_zip];omega
 have cT:D.length=s.vars.length:=by have:=congrArg W8 a6;simpa using this
 have cU:aF.length=s.vars.length:=by have:=congrArg W8 bc;simpa using this
 refine hV.range a.length (fun i _ Z aI=>Ext ap aI∧ ∃ E:Int,Z= .int .i64 E∧E=(W.take i).foldl (gL k) s.zero∧(0≤E∧E≤k)∧(W.take i).all ds=true) a1.le
  ⟨Ext.refl _,s.zero,rfl,rfl,Y.zero,rfl⟩ ?_ ?_
 ·rintro i t4 _ aI bS hi ⟨U,E,rfl,ay,aJ,az⟩ bT;obtain⟨x,X⟩:∃ x,s.vars[i]? =some x:=⟨_,x3 (by omega)⟩;obtain⟨v,I⟩:∃ v,a[i]? =some v:=⟨_,x3 hi⟩;obtain⟨z,aj⟩:∃ z,sizes[i]? =some z:=⟨_,x3 (by omega)⟩;obtain⟨cV,bU,_⟩:=Y.var i x z X aj;have be:W[i]? =some (x,v):=by rw[ax,List.getElem?_zip_eq_some];exact⟨X,I⟩
  have bf:W.take (i+1)=W.take i++[(x,v)]:=by rw[o3,be];rfl
  have ak:(W.take (i+1)).foldl (gL k) s.zero=gL k E (x,v):=by rw[bf,List.foldl_append,←ay];rfl
  have bg:(W.take (i+1)).all ds=ds (x,v):=by rw[bf,List.all_append,az];simp
  have bh:(s.vars.map fun x=>decide (x.gone≠0))[i]? =some (decide (x.gone≠0)):=by rw[r8,X];rfl
  rw[au,ag];refine⟨fun _=>?_,fun h=>by omega⟩;refine h6 (fun _ Z bi=>Ext ap bi∧ ∃ E:Int,Z= .int .i64 E∧E=(W.take (i+1)).foldl (gL k) s.zero∧(0≤E∧E≤k)∧(W.take (i+1)).all ds=true) ?_ ?_
  ·rintro t4 Z bi aL;rw[aK];exact bT _ _ _ aL
  intro bV al;have aM:=ac.ext U;rw[bm ab.u J.i (by kernel_rfl) (aG.ext U) I,ah aX.p rfl,ai (v:=bL) (by kernel_rfl) (aM.cell (o:=0+4) rfl),cI rfl fa.u ga.i (a7.ext U) (x6.1 bh).1,ai (v:=.bool (decide (x.gone≠0))) (o:=i*1) (by kernel_rfl) ((a7.ext U).range bh 0 _ rfl),ag];refine⟨fun bj=>al _ _ _ ⟨U,E,rfl,?_,aJ,?_⟩,fun aN=>?_⟩
  ·rw[ak];unfold gL;rw[if_pos bj]
  ·rw[bg];unfold ds;rw[decide_eq_true bj,Bool.true_or]
  have bW:0≤v∧v<x.un.length:=(aE.2 i x v X I).resolve_left aN;obtain⟨d,aP⟩:∃ d,D[i]? =some d:=⟨_,x3 (by omega)⟩;have bX:d.l=hP x:=by
   have aa:(D.map (·.l))[i]? =some d.l:=by rw[r8,aP];rfl
   rw[a6,r8,X] at aa;exact (b9 aa).symm
  obtain⟨cW,bk⟩:=bP d (u4 aP);rw[bX] at bk;rw[ah aX.p rfl,ai (v:=bK) (by kernel_rfl) (aM.cell (o:=0+3) rfl),cI rfl cq.u ab.i (a2.ext U) (by omega),ai (v:=d.v) (o:=i*1) (by kernel_rfl) ((a2.ext U).range aP 0 _ rfl)];refine (Gp (v:=v) (bk.ext U).ls).mono ?_;rintro _ cX _ ⟨rfl,bl⟩;have bn:=U.trans bl;have bo:=Gs bW;rw[b3,cE];refine⟨fun aQ=>?_,fun aQ=>?_⟩
  ·have bY:v∉hP x:=by simpa using aQ
   rw[ah aX.p rfl,ai (v:=.int .i64 k) (by kernel_rfl) ((aM.ext bl).cell (o:=0+0) rfl)];refine⟨?_,aq.trans bn⟩;unfold fV;rw[←ax,if_neg];intro b1;have:=List.all_eq_true.1 b1 (x,v) (u4 be);unfold ds at this;rw[decide_eq_false aN,Bool.false_or] at this;exact bY (bo.2 (by simpa using this))
  have b2:dropped x.mask v=false:=bo.1 (by simpa using aQ);intro cY b5 _ _;have am:=bn.trans b5;have bp:=ac.ext am;obtain⟨u,hu⟩:∃ u,aF[i]? =some u:=⟨_,x3 (by omega)⟩;have b6:u.l=x.un:=by
   have aa:(aF.map (·.l))[i]? =some u.l:=by rw[r8,hu];rfl
   rw[bc,r8,X] at aa;exact (b9 aa).symm
  obtain⟨cZ,bq⟩:=bQ u (u4 hu);rw[b6] at bq;have br:x.un[v.toNat]? =some (x.un.getD v.toNat 0):=by rw[p8,x3 (show v.toNat<x.un.length by omega)];rfl
  have c0:=bU _ (u4 br);rw[ah aX.p rfl,ai (v:=bM) (by kernel_rfl) (bp.cell (o:=0+5) rfl),cI rfl bZ.u af.i (bb.ext am) (by omega),ai (v:=u.v) (o:=i*1) (by kernel_rfl) ((bb.ext am).range hu 0 _ rfl),eE (y:=v) (i:=v.toNat) (by omega) af.u ae.i (by kernel_rfl) (bq.ext am).ls br,ah aX.p rfl,ai (v:=.int .i64 k) (by kernel_rfl) (bp.cell (o:=0+0) rfl)];refine (ti (by omega) (by omega)).mono ?_;rintro _ c1 _ ⟨rfl,b7⟩;refine al _ _ _ ⟨am.trans b7,_,rfl,?_,⟨by omega,by omega⟩,?_⟩
  ·rw[ak];unfold gL;rw[if_neg aN]
  ·rw[bg];unfold ds;rw[b2];simp
 rintro t4 _ aI bS ⟨U,E,rfl,ay,aJ,az⟩;rw[j0 (by omega)] at ay az;have b8:fV k s a=s.funs.foldl (fU k a) E:=by
  unfold fV;rw[←ax,az,if_pos rfl,←ay]
 rw[au,ag];refine⟨fun h=>by omega,fun _=>?_⟩;have c2:L.length=s.funs.length:=by have:=congrArg W8 bd;simpa using this
 rw[ah aX.p rfl,ai (v:=bN) (by kernel_rfl) ((ac.ext U).cell (o:=0+6) rfl),dZ ee.u (av.ext U)];refine a8.range L.length (fun j Z aA=>Ext ap aA∧ ∃ V:Int,Z= .int .i64 V∧V=(s.funs.take j).foldl (fU k a) E∧0≤V∧V≤k) av.le
  ⟨U,E,rfl,rfl,aJ⟩ ?_ ?_
 rotate_left
 ·rintro _ aA ca ⟨ad,V,rfl,aB,_⟩;rw[j0 (by omega)] at aB;rw[au,ag];exact⟨fun h=>by omega,fun _=>⟨by rw[b8,aB],aq.trans ad⟩⟩
 rintro j _ aA ca bt ⟨ad,V,rfl,aB,cb⟩ cc;obtain⟨y,aR⟩:∃ y,L[j]? =some y:=⟨_,x3 bt⟩;obtain⟨f,ao⟩:∃ f,s.funs[j]? =some f:=⟨_,x3 (by omega)⟩;have aS:nt y=qe f:=by
  have aa:(L.map nt)[j]? =some (nt y):=by rw[r8,aR];rfl
  rw[bd,r8,ao] at aa;exact (b9 aa).symm
 have aT:y.1.sc=f.sc:=congrArg (·.1) aS;have bu:y.1.cs=f.cs:=congrArg (·.2.1) aS;have cd:y.2=decide (f.live≠0):=congrArg (·.2.2) aS;obtain⟨aC,ch,c3⟩:=Y.funs f (u4 ao);have ak:(s.funs.take (j+1)).foldl (fU k a) E=fU k a V f:=by
  rw[o3,ao,j5,List.foldl_append,←aB];rfl
 have bw:=(bR y (u4 aR)).1.ext ad;rw[au,ag];refine⟨fun _=>?_,fun h=>by omega⟩;refine aZ (fun Z bx=>Ext ap bx∧ ∃ V:Int,Z= .int .i64 V∧V=(s.funs.take (j+1)).foldl (fU k a) E∧0≤V∧V≤k) ?_ ?_
 ·rintro Z bx aL;rw[aK];exact cc _ _ aL
 intro bV al;rw[cI rfl ee.u eo.i (av.ext ad) bt,bI eo.p eo.i rfl ((av.ext ad).range aR)];refine bO eo.i fun aU c4 c5 ci cj=>?_;refine b4 (vs:=lP y) eo.i rfl rfl (za bw) cj fun ck cl c6 bz=>?_;have bA:Ext aA ck:=ci.then cl fun r bB he=>by have he:r=aU:=he;omega
 rw[ah eo.p rfl,ai (v:=.bool y.2) (by kernel_rfl) (bz.cell (o:=0+3) rfl),cd,ag];refine⟨fun bC=>?_,fun cm=>al _ _ ⟨ad.trans bA,V,rfl,by rw[ak];unfold fU;rw[if_neg cm],cb⟩⟩;intro bD bE _ _;have bG:=bA.trans bE;have aV:=ad.trans bG;have cp:=ac.ext aV;have aW:=bz.ext bE;have bB:bD.rangeAt aU 0 (ct y.1):=fun q v I=>by
  match q,I with
  |0,I=>cases I;exact aW.cell rfl
  |1,I=>cases I;exact aW.cell rfl
  |2,I=>cases I;exact aW.cell rfl
 rw[ah eo.p rfl,bI aD.p aD.i rfl (show bD.rangeAt aU (0+0) (ct y.1) from bB),ah aX.p rfl,ai (v:=.int .i64 k) (by kernel_rfl) (cp.cell (o:=0+0) rfl)];have cr:cO y.1=(f.sc,f.cs):=by unfold cO;rw[aT,bu]
 refine (Gq (a:=a) (bw.ext bG) (by rw[cr];exact aC) Y.kv.2.2 (aG.ext aV) fun v I=>?_).mono ?_
 ·rw[aT] at I;have c7:=aC.scope.1 v I;have c8:=aC.vars v I;obtain⟨x,X⟩:∃ x,s.vars[v.toNat]? =some x:=⟨_,x3 (by omega)⟩;obtain⟨u,hu⟩:∃ u,a[v.toNat]? =some u:=⟨_,x3 (by omega)⟩;obtain⟨z,aj⟩:∃ z,sizes[v.toNat]? =some z:=⟨_,x3 (by omega)⟩;have c9:=(Y.var _ x z X aj).1;have da:=Y.kv.2.2 z (u4 aj);have cu:=bJ f (u4 ao) bC v I x X;have cw:=(aE.2 _ x u X hu).resolve_left fun h=>h cu;refine⟨u,hu,cw.1,?_⟩;rw[p8,aj,V4];omega
 rintro _ db _ ⟨rfl,bH⟩;refine⟨.inl bH,?_⟩;have cz:cn (bF sizes y.1.sc) y.1.cs (e5 a y.1.sc)=cn f.an f.cs (e5 a f.sc):=by rw[aT,bu,ch]
 rw[cz];have dc:0≤cn f.an f.cs (e5 a f.sc)∧cn f.an f.cs (e5 a f.sc)≤k:=by
  unfold cn;cases hi:cg f.an (e5 a f.sc) 0 with
  |none=>simp only;omega
  |some m=>
   simp only;obtain⟨cA,dd,_⟩:=uz Y (u4 ao);have de:=iM cA.2 hi;rw[p8,x3 (by omega),V4];exact aC.hh _ (T1 _)
 refine (ti (by omega) (by omega)).mono ?_;rintro _ df _ ⟨rfl,cB⟩;refine al _ _ ⟨(aV.trans bH).trans cB,_,rfl,?_,by omega,by omega⟩;rw[ak];unfold fU;rw[if_pos bC]
theorem eT.put {w w':x5} {g W:Nat} {c:List x4} {n:bY} (h:eT w W n) (E:ak w g aX c) (I:aj (fun r=>r=g) w w'):eT w' W n:=by
 have ci:=kB E;have ty:∀ r,r=g→ ∃ e c,ak w r e c∧e≠fl∧e≠bq∧e≠J∧e≠ae∧e≠af:=fun r O=>by
  subst O;exact⟨_,c,E,by decide,by decide,by decide,by decide,by decide⟩
 obtain⟨X,Y,Z,aa,ab,ac,L,ag,aw,ah,ai,h1,al,am,ao,ap,aq,au⟩:=h;refine⟨X,Y,Z,aa,ab,ac,L,ag,aw,ah,ai,fK h1 I ci (by decide),fK al I ci (by decide),hn am I ci (by decide),ao.ad I fun r O=>?_,ap,aq.ad I fun r O=>?_,au⟩
 ·obtain⟨e,c,E,_,_,_,U,V⟩:=ty r O;exact⟨e,c,E,U,V⟩
 ·obtain⟨e,c,E,U,V,av,ax,_⟩:=ty r O;exact⟨e,c,E,U,V,av,ax⟩
theorem Gu:∃ o:Obj,fw o=false:=⟨.deferred none,rfl⟩
theorem StateM.put {w w':x5} {aL ay g:Nat} {A R:av} {n:bY} {s:ba} {t:aP} {c:List x4} (h:StateM w aL ay A R n s t) (O:ak w g aX c) (J:aj (fun r=>r=g) w w') (ah:¬A g):∃ R',StateM w' aL ay A R' n s t:=by
 obtain⟨ai,al,am,ao,⟨h1,ap,aq,au⟩,aw,ax,az,L,aA,aB,w0,aC,⟨aa,V,aD⟩,⟨aE,ab,aF,aG⟩,aH,⟨aI,ac⟩,aJ,ae⟩:=h;obtain⟨db,af⟩:=Gu;have z:=J.size;have ci:=kB O;have U:∀ r,(w0.heap.setIfInBounds g db)[r]? =if g=r then (if g<w0.heap.size then some db else none) else w0.heap[r]?:=fun r=>Array.getElem?_setIfInBounds;have aK:∀ r,A r→r≠g:=fun r E he=>ah (he▸E);have int:∀ {v:x4} {l:List Int},gN R w v l→gN (fun r=>R r∧r≠g) w' v l:=fun⟨⟨aM,hm⟩,aN⟩=>⟨⟨aM,hn hm J ci (by decide)⟩,fun r E=>⟨aN r E,bW hm O (by decide) E⟩⟩;refine⟨fun r=>R r∧r≠g,ai,al,am,ao,⟨h1,fun r E aO=>ap r E aO.1,fun r E=>by have:=aq r E.1;omega,fun r E=>by have:=au r E;omega⟩,aw,ax,az,L,aA,aB,{w0 with heap:=w0.heap.setIfInBounds g db},fK aC J ci (by decide),⟨?_,?_,?_⟩,
  ⟨aE.ad J fun r E=>aK r (ab r E),ab,aF,aG⟩,hn aH J ci (by decide),⟨lO aI J ci (by decide),ac.1,fun j x f W aQ=>?_⟩,lO aJ J ci (by decide),ae.1,fun j x e W he=>?_⟩
 ·by_cases I:∃ o,w0.heap[g]? =some o∧fw o=true
  ·obtain⟨o,ag,aR⟩:=I;have aS:ak w0 g aX c:=by
    unfold ak at O ⊢;have:=V.bw g o ag aR;rw[O] at this;rw[ag,this]
   refine aa.put aS ⟨by simp,fun r o E I aT=>?_⟩;show (w0.heap.setIfInBounds g db)[r]? =some o;rw[U,if_neg fun he=>aT he.symm];exact E
  ·refine aa.ext ⟨by simp,fun r o E aU=>?_⟩;show (w0.heap.setIfInBounds g db)[r]? =some o;rw[U,if_neg fun he=>I ⟨o,by rw[he];exact E,aU⟩];exact E
 ·refine⟨by show (w0.heap.setIfInBounds g db).size≤_;rw[Array.size_setIfInBounds];exact Y3 V.size z,fun r o E I=>?_⟩;have E:(w0.heap.setIfInBounds g db)[r]? =some o:=E;rw[U] at E;by_cases he:g=r
  ·rw[if_pos he] at E;split at E
   ·cases E;rw[af] at I;cases I
   ·cases E
  ·rw[if_neg he] at E;exact J.bw r o (V.bw r o E I) I fun h=>he h.symm
 ·intro r o E I;have E:(w0.heap.setIfInBounds g db)[r]? =some o:=E;rw[U] at E;by_cases he:g=r
  ·rw[if_pos he] at E;split at E
   ·cases E;rw[af] at I;cases I
   ·cases E
  ·rw[if_neg he] at E;exact⟨aD r o E I,fun h=>he h.symm⟩
 ·obtain⟨X,Y,Z⟩:=ac.2 j x f W aQ;exact⟨int X,int Y,Z⟩
 ·obtain⟨X,Y,Z⟩:=ae.2 j x e W he;exact⟨X,int Y,int Z⟩
theorem Gv {E:List Int} {f:bS} (W:E.length≤60000) (h:fd E=some f):∃ N,N≤60000∧eh N f∧f.name≠[]∧ ∀ b∈f.name,bC b=true:=by
 unfold fd at h;rw[if_neg (by omega)] at h;cases I:fP ⟨(lex E).1,0,false,[]⟩ with
 |none=>rw[I] at h;cases h
 |some q=>
  obtain⟨X,s⟩:=q;rw[I] at h;simp only at h;split at h
  ·rename_i J;cases h;obtain⟨h1,O⟩:=wG rfl I J.2.2;have Y:=ps E.length E (o7 _);obtain⟨U,V,_⟩:=qZ E.length E (o7 _) f.name O;exact⟨_,by show (lex E).1.length≤60000;omega,h1,U,V⟩
  ·cases h
theorem Gw {w:x5}:O y0 kP [.pointer none] w fun v w'=>v= .pointer none∧Ext w w':=by
 apply kP.enter;rw[cZ fN.u];simp only[Option.isNone_none,bP];exact⟨by trivial,Ext.refl _⟩
theorem Gx {v:x4} {l:List Int} {w:x5} (h:aH .u8 w v l) (ab:l.length≤100000):O y0 nR [v] w fun I w'=>Ext w w'∧ ∃ g,aq .u8 bb w' g I l:=by
 have E:=h;obtain⟨ac,b,o,base,cap,rfl,ad,hm,V,W⟩:=h;apply nR.enter;rw[qN aV.u,cE];refine⟨fun X=>⟨Ext.refl _,0,?_⟩,fun _=>?_⟩
 ·have:l=[]:=by
   cases base with
   |none=>
        by_cases E:0<l.length
        ·have:=V E;cases this
        ·exact j9 (by omega)
   |some a=>cases X
  subst this;exact aq.nil _ _ _ _
 ·refine ur (k:=.u8) aV.u bb.i fun ae af ag ah J U=>?_;refine gr aV.u bb.i rfl U (E.ext J) (by simp;omega) (by simp;omega) fun I Y ai Z aj aa=>?_;exact⟨J.then aa (fun r W he=>by have:=(bX U he).1;omega),Y,by simpa using Z⟩
theorem kC.ci {w w':x5} {S:Nat→Prop} {e:o6} {B:Nat} {v:x4} {O:List qf} (h:kC w B v O) (E:aj S w w') (I:fJ w S e) (h1:va≠e) (U:J≠e):kC w' B v O:=by
 obtain⟨g,V,W,X⟩:=h;exact⟨g,lO V E I h1,fun x Y=>by obtain⟨⟨Z,aa⟩,ab,ac⟩:=W x Y;exact⟨⟨Z,hn aa E I U⟩,ab,hn ac E I U⟩,X⟩
theorem eW.put {B:Nat} {w w':x5} {S:Nat→Prop} {v:x4} {k:Int} {sizes:List Int} {s:ba} (h:eW B w v k sizes s) (E:aj S w w') (I:fJ w S aX):eW B w' v k sizes s:=by
 obtain⟨aw,J,O,D,U,V,W,X,L,Y,Z,h1,aa,ab,ac,ad,ae,af,ag,ah,ai,ak⟩:=h;exact⟨aw,J,O,D,U,V,W,X,L,Y,Z,h1,hn aa E I (by decide),ab.ci E I (by decide) (by decide),ac,ad.ci E I (by decide),ae.ci E I (by decide) (by decide),af,ag.ci E I (by decide) (by decide) (by decide),ah,ai.ci E I (by decide) (by decide),ak⟩
theorem eW.low {B O:Nat} {w:x5} {v:x4} {k:Int} {sizes:List Int} {s:ba} (h:eW B w v k sizes s) (I:O≤B):eW O w v k sizes s:=by
 obtain⟨aw,U,V,D,W,X,Y,Z,L,aa,ab,h1,ac,⟨ad,ae,af,a3⟩,ag,⟨ah,ai,aj⟩,⟨ak,al,am,ao,ap⟩,aq,⟨au,d1,d2,d3,d4⟩,av,⟨ax,ay,az,aA⟩,aB⟩:=h;exact⟨aw,U,V,D,W,X,Y,Z,L,aa,ab,h1,ac,⟨ad,ae,af,fun r E=>Y3 I (a3 r E)⟩,ag,⟨ah,ai,fun r E=>Y3 I (aj r E)⟩,⟨ak,al,fun r E=>Y3 I (am r E),fun x J r E=>Y3 I (ao x J r E),ap⟩,aq,⟨au,d1,fun x J=>⟨(d2 x J).1,fun r E=>Y3 I ((d2 x J).2 r E)⟩,fun r E=>Y3 I (d3 r E),d4⟩,av,⟨ax,ay,az,fun r E=>Y3 I (aA r E)⟩,aB⟩
def uC (sv:x4):Prop:=∃ cs:List x4,sv= .agg cs.toArray∧cs.length=8∧ ∀ u∈cs,u.oneCell'=true
theorem eW.zq {B:Nat} {w:x5} {v:x4} {k:Int} {sizes:List Int} {s:ba} (h:eW B w v k sizes s):uC v:=by
 obtain⟨aw,W,X,D,Y,Z,aa,ab,L,ac,ad,rfl,E,⟨_,I,_⟩,ae,⟨_,J,_⟩,⟨_,⟨O,_⟩,_⟩,af,⟨_,U,_⟩,ag,⟨_,V,_⟩,ah⟩:=h;refine⟨[_,_,_,_,_,_,_,_],rfl,rfl,fun u hu=>?_⟩;simp at hu;rcases hu with rfl|rfl|rfl|rfl|rfl|rfl|rfl|rfl
 ·rfl
 ·exact E.ls.cells.2
 ·rfl
 ·exact (cJ I.sl).2
 ·exact (cJ J.sl).2
 ·exact (cJ O.sl).2
 ·exact (cJ U.sl).2
 ·exact (cJ V.sl).2
theorem zr:uC (.agg z12.toArray):=⟨z12,rfl,rfl,by intro u hu;simp[z12] at hu;rcases hu with rfl|rfl|rfl|rfl <;> rfl⟩
def zs (B:Nat) (w:x5) (E sv:x4) (f:bS):Prop:=∃ aL ay A R t N,eh N f∧E= .pointer (some ⟨aL,0,none⟩)∧dt w aL ay A R (dq f) (dQ (dq f)) t∧Plain t∧(∀ r,A r→B≤r)∧eW B w sv (dq f).k (dq f).sizes (dQ (dq f))
def Gy (w:x5) (q:List Int) (v:x4) (w':x5):Prop:=Ext w w'∧ ∃ E sv ok,v= .tuple #[E,sv,.bool ok]∧uC sv∧((ok=false∧E= .pointer none)∨(ok=true∧ ∃ f,fd q=some f∧zs w.heap.size w' E sv f))∧ ∀ f,fd q=some f→jB f.funs≤16384→ok=true
theorem Gz {N:Nat} {f:bS} (E:eh N f):(dq f).funs.length≤256:=by
 have h1:=(pY E).2.length_eq;have J:=(iX E).2.2;have O:=List.length_filter_le eF (ev f);have U:=E.iR;have I:=(no f (eG f).length).2.2.2;rw[rV] at I;omega
theorem GA {n:bY} {t:aP} (I:hI n) (J:n.funs.length≤256) (O:t.b1=(dQ n).cells) (E:Plain t):ku t:=by
 have h1:=uc I J n.unary.length n.funs.length;rw[yN,←O] at h1;unfold aP.b1 at h1;rw[o4] at h1;refine⟨by omega,?_,?_⟩
 ·rw[E.2.1];exact Z9 _
 ·rw[E.1];exact Z9 _
set_option maxHeartbeats 4000000 in
theorem zt {w:x5} {p:x4} {I:List Int} (aQ:aH .u8 w p I) (ba:Bytes I) (bc:eI w):O y0 l0 [p] w (Gy w (I.take 300)):=by
 apply l0.enter;refine bO aX.i fun W bd bM au am=>?_;have am:ak bd W aX z12:=am;rw[aO aV.u (aQ.ext au),kb];refine A2 (i:=min I.length 300) (by omega) aV.u bb.i (aQ.ext au) (by omega) fun bR av=>?_;have be:I.take (min I.length 300)=I.take 300:=by
  by_cases h:I.length≤300
  ·rw[Nat.min_eq_left h,l5,j0 h]
  ·rw[Nat.min_eq_right (by omega)]
 rw[be] at av;have ao:Bytes (I.take 300):=fun b bf=>ba b (List.mem_of_mem_take bf);have bg:(I.take 300).length≤300:=by rw[l6];omega
 generalize I.take 300=q at av ao bg;refine (Gx av (by omega)).mono ?_;rintro bS bT _ ⟨aw,bU,ax⟩;have aR:=au.trans aw;refine (DQ ax.ls ao (by omega) (bc.ext aR)).mono ?_;rintro bV bW _ ⟨ai,U⟩;have aS:=aR.trans ai;cases X:fd q with
 |none=>
  rw[X] at U;obtain⟨n,e,rfl,he⟩:=U;rw[aC (v:=.pointer none) rfl,aC (v:=.int .i64 n) rfl,aC (v:=.int .i64 e) rfl];refine (yZ (ax.ext ai).ls ao (by omega)).mono ?_;rintro bh az _ ⟨ac,aA,aB,aD,_⟩;obtain rfl:=aD X;rw[aC (v:=.pointer none) rfl,aC (v:=.int .i64 aA) rfl,aC (v:=.int .i64 aB) rfl];refine aZ (fun v aj=>v= .bool true∧Ext az aj) ?_ ?_
  ·rintro _ aj ⟨rfl,Z⟩;rw[bP,cW (cs:=#[.int .i64 0,.slice none 0 0,.int .i64 0,.slice none 0 0,.slice none 0 0,.slice none 0 0,.slice none 0 0,.slice none 0 0]) (by kernel_rfl)];obtain⟨_,_,E,J⟩:=zr;refine b4 (vs:=z12) aX.i rfl rfl (by intro u hu;simp[z12] at hu;rcases hu with rfl|rfl|rfl|rfl <;> rfl) ((((am.ext aw).ext ai).ext ac).ext Z) fun bX bi bY bj=>?_;rw[eN aX.p aX.i rfl bj.range];refine⟨((aS.trans ac).trans Z).then bi fun r U he=>by have he:r=W:=he;omega,_,_,false,rfl,zr,.inl ⟨rfl,rfl⟩,fun f aU=>?_⟩;rw[X] at aU;cases aU
  ·intro aE aa;rw[bN,ag];exact⟨fun _=>aa _ _ ⟨rfl,Ext.refl _⟩,fun h=>absurd he h⟩
 |some f=>
  rw[X] at U;obtain⟨bk,n,rfl,bl⟩:=U;obtain⟨N,bm,ad,bn,bo⟩:=Gv (by omega) X;have ae:=xL ad;have ap:=Gz ad;rw[aC (v:=.pointer (some ⟨bk,0,none⟩)) rfl,aC (v:=.int .i64 n) rfl,aC (v:=.int .i64 0) rfl];refine (yZ (ax.ext ai).ls ao (by omega)).mono ?_;rintro bh az _ ⟨ac,aA,aB,_,aD⟩;obtain⟨bp,rfl,bq⟩:=aD f X;rw[aC (v:=.pointer (some ⟨bp,0,none⟩)) rfl,aC (v:=.int .i64 aA) rfl,aC (v:=.int .i64 aB) rfl];refine aZ (fun v aj=>v= .bool false∧Ext az aj) ?_ ?_
  rotate_left
  ·intro aE aa;rw[bN,ag];refine⟨fun h=>absurd rfl h,fun _=>?_⟩;rw[cZ qK.u];exact aa _ _ ⟨rfl,Ext.refl _⟩
  rintro _ aj ⟨rfl,Z⟩;rw[aT];have br:=(aS.trans ac).trans Z;refine (EZ ((bl.ext ac).ext Z) ad bm ⟨bn,bo⟩).mono ?_;rintro bZ b1 _ ⟨aF,bt⟩;have aq:=br.trans aF;have aG:=((((am.ext aw).ext ai).ext ac).ext Z).ext aF;have aW:=(bq.ext Z).ext aF;have b2:=aq.size;have b3:w.heap.size≤W:=by omega
  have b5:=aG.lt;rcases bt with⟨bu,e,he,rfl⟩|⟨bw,rfl,bx⟩
  ·rw[aC (v:=.pointer none) rfl,aC (v:=.int .i64 e) rfl];refine Gw.mono ?_;rintro _ aY _ ⟨rfl,Y⟩;refine h6 (fun aI t4 V=>aI= .pointer none∧t4= .bool false∧Ext w V∧ ∃ cs:List x4,ak V W aX cs∧cs.length=8∧ ∀ u∈cs,u.oneCell'=true) ?_ ?_
   ·rintro _ _ V ⟨rfl,rfl,aJ,cs,aK,E,J⟩;rw[eN aX.p aX.i E aK.range];exact⟨aJ,_,_,false,rfl,⟨cs,rfl,E,J⟩,.inl ⟨rfl,rfl⟩,fun b6 a1 bz=>absurd bz (by rw[X] at a1;cases a1;exact bu)⟩
   ·intro aE aa;refine (y8 (aW.ext Y) ad).mono ?_;rintro bA bB _ ⟨ab,aM⟩;refine (zb aM ae.1 ap).mono ?_;rintro bC bD _ ⟨af,ah⟩;obtain⟨cs,rfl,E,J⟩:=ah.zq;rw[bQ,ag];refine⟨fun h=>absurd h he,fun _=>?_⟩;refine b4 (vs:=cs) aX.i E rfl J (((aG.ext Y).ext ab).ext af) fun bE al bF aN=>?_;exact aa _ _ _ ⟨rfl,rfl,(((aq.trans Y).trans ab).trans af).then al fun r U he=>by have he:r=W:=he;omega,cs,aN,E,J⟩
  ·rw[aC (v:=.pointer (some ⟨bw,0,none⟩)) rfl,aC (v:=.int .i64 0) rfl];refine (Fp bx ae.1 ap).mono ?_;rintro _ aY _ ⟨Y,aL,ay,A,R,t,rfl,bG,a2,a6,a7⟩;have bH:dt aY aL ay A R (dq f) (dQ (dq f)) t:=⟨bG,a2,GA ae.1 ap a2 a6,yB ae.1,ae.1⟩;refine h6 (fun aI t4 V=>aI= .pointer (some ⟨aL,0,none⟩)∧t4= .bool true∧Ext w V∧ ∃ cs:List x4,ak V W aX cs∧cs.length=8∧(∀ u∈cs,u.oneCell'=true)∧ ∃ R',dt V aL ay A R' (dq f) (dQ (dq f)) t∧eW w.heap.size V (.agg cs.toArray) (dq f).k (dq f).sizes (dQ (dq f))) ?_ ?_
   ·rintro _ _ V ⟨rfl,rfl,aJ,cs,aK,E,J,R',bI,ah⟩;rw[eN aX.p aX.i E aK.range];exact⟨aJ,_,_,true,rfl,⟨cs,rfl,E,J⟩,.inr ⟨rfl,f,X,aL,ay,A,R',t,N,ad,rfl,bI,a6,fun r U=>by have:=a7 r U;omega,ah⟩,fun _ _ _=>rfl⟩
   ·intro aE aa;refine (y8 (aW.ext Y) ad).mono ?_;rintro bA bB _ ⟨ab,aM⟩;refine (zb aM ae.1 ap).mono ?_;rintro bC bD _ ⟨af,ah⟩;obtain⟨cs,rfl,E,J⟩:=ah.zq;rw[bQ,ag];refine⟨fun _=>?_,fun h=>absurd rfl h⟩;rw[vg eC.u];have aP:=((aG.ext Y).ext ab).ext af;have bJ:=((aq.trans Y).trans ab).trans af;refine b4 (vs:=cs) aX.i E rfl J aP fun bE al bF aN=>?_;have a8:=(bH.ext ab).ext af;obtain⟨R',bK⟩:=a8.1.put aP al fun h=>by have:=a7 W h;omega
    have bL:=((aq.trans Y).trans ab).size;exact aa _ _ _ ⟨rfl,rfl,bJ.then al fun r U he=>by have he:r=W:=he;omega,cs,aN,E,J,R',⟨bK,a8.2⟩,(ah.put al (kB aP)).low bL⟩
def iv:List Int:=[116,32,50,32,50,32,49,32,57,32,50,32,50,10,50,32,48,32,49,32,48,32,49,10,49,32,49,32,53,10]
def e7:bS:=⟨[116],9,[2,2],[⟨[0,1],[2,2],0,[([1,1],5)]⟩]⟩
theorem GB:fd iv=some e7:=by
 have h:(match fd iv with
  |some f=>decide (f.name=e7.name∧f.k=e7.k∧f.sizes=e7.sizes)&&decide (f.funs.map (fun x=>(x.scope,x.sizes,x.other,x.lines))=e7.funs.map fun x=>(x.scope,x.sizes,x.other,x.lines))
  |none=>false)=true:=by decide+kernel
 cases J:fd iv with
 |none=>rw[J] at h;cases h
 |some f=>
  rw[J] at h;simp only[U1,decide_eq_true_eq] at h;obtain⟨⟨h1,O,U⟩,E⟩:=h;obtain⟨W,k,X,I⟩:=f;simp only at h1 O U E;subst h1;subst O;subst U;have:I=e7.funs:=by
   have V:I.length=1:=by have:=congrArg W8 E;simpa[e7] using this
   match I,V with
   |[x],_=>
    obtain⟨a,b,c,d⟩:=x;simp[e7] at E;obtain⟨rfl,rfl,rfl,rfl⟩:=E;rfl
  subst this;rfl
def r7 (s:ba) (a:List Int):Bool:=decide (a.length=s.vars.length)&&(s.vars.zip a).all fun p=>decide (p.1.gone≠0∨(0≤p.2∧p.2<p.1.un.length))
theorem zu {s:ba} {a:List Int}:r7 s a=true↔jD s a:=by
 unfold r7 jD;rw[U1,decide_eq_true_eq,List.all_eq_true];refine and_congr Iff.rfl ⟨fun h i x v E I=>?_,fun h p J=>?_⟩
 ·have:=h (x,v) (Y5.2 ⟨i,by rw[List.getElem?_zip_eq_some];exact⟨E,I⟩⟩);exact of_decide_eq_true this
 ·obtain⟨i,hi⟩:=Y5.1 J;obtain⟨x,v⟩:=p;rw[List.getElem?_zip_eq_some] at hi;exact decide_eq_true (h i x v hi.1 hi.2)
theorem GC:jB e7.funs≤16384:=by decide+kernel
theorem GD:gS (dq e7) 1 1:=by decide+kernel
theorem GF:r7 (hp (dQ (dq e7)) 1 1) [1,1]=true:=by decide+kernel
theorem GG:r7 (hp (dQ (dq e7)) 1 1) [1,0]=true:=by decide+kernel
theorem GH:fV (dq e7).k (hp (dQ (dq e7)) 1 1) [1,1]=9:=by decide+kernel
theorem GI:fV (dq e7).k (hp (dQ (dq e7)) 1 1) [1,0]=0:=by decide+kernel
theorem GJ {w:x5} {g n c:Nat} {cs:List x4} {K:x4→x5→Prop} (E:ak w g bb cs) (O:∀ w',aj (fun r=>r=g) w w'→(∀ o vs,w.rangeAt g o vs→w'.rangeAt g o vs)→K (.slice (some ⟨g,0,none⟩) n c) w'):
  aa y0 (convert aV aV (.slice (some ⟨g,0,none⟩) n c)) w K:=by
 have J:∀ r,(w.freeze ⟨g,cs.length,none⟩ 1).heap[r]? =if g=r then (w.heap[r]?).map (fun| .cells c U (lo,hi)=>.cells c U (if lo == hi then (cs.length,cs.length+1) else (min lo cs.length,max hi (cs.length+1)))|o=>o) else w.heap[r]?:=fun r=>by
  unfold x5.freeze;rw[if_neg (by decide)];exact Array.getElem?_modify
 have ac:(w.freeze ⟨g,cs.length,none⟩ 1).heap.size=w.heap.size:=by
  unfold x5.freeze;rw[if_neg (by decide)];exact Array.size_modify
 have V:w.shape? g=some (bb,cs.length):=by
  unfold x5.shape?;unfold ak at E;rw[E];simp
 have W:(convert aV aV (.slice (some ⟨g,0,none⟩) n c)).run y0 w= .ok (.slice (some ⟨g,0,none⟩) n c) (w.freeze ⟨g,cs.length,none⟩ 1):=by
  simp[convert,run_underlying aV.u,run_underlying bb.u,markStringish,V]
 unfold ak at E;refine .of W ⟨by unfold x5.freeze;rw[if_neg (by decide)],.iy (by unfold x5.freeze;rw[if_neg (by decide)]) (by unfold x5.freeze;rw[if_neg (by decide)]),by unfold x5.freeze;rw[if_neg (by decide)],by omega,fun r o I X=>?_⟩ (O _ ⟨by omega,fun r o I _ Y=>?_⟩ fun o vs Z j v ab=>?_)
 ·rw[J];by_cases he:g=r
  ·subst he;rw[E] at I;cases I;cases X
  ·rw[if_neg he];exact I
 ·rw[J,if_neg fun he=>Y he.symm];exact I
 ·have h1:=Z j v ab;unfold x5.cell? at h1 ⊢;rw[J,if_pos rfl];rw[E] at h1 ⊢;exact h1
theorem GK {w:x5} (ap:eI w):O y0 nJ [] w fun v w'=>v= .bool true∧Ext w w':=by
 apply nJ.enter;refine h5 (k:=1) (cs:=(ints .u8 iv).toArray) aV.u bb.i (by omega) (by kernel_rfl) fun g au bi E U=>?_;have aa:aq .u8 bb au g (.slice (some ⟨g,0,none⟩) 30 30) iv:=aq.of (n:=30) (bL.full (by simpa using U) (by simp[iv]) (by simp[maxLen]));refine GJ U fun V ac ad=>?_;have E:Ext w V:=E.then ac fun r ae he=>by have he:r=g:=he;omega
 have av:aH .u8 V (.slice (some ⟨g,0,none⟩) 30 30) iv:=by
  obtain⟨aw,b,o,base,cap,ax,az,aA,aB,aD⟩:=aa.ls;cases ax;cases aB (by simp[iv]);exact⟨aw,g,0,_,30,rfl,az,aA,fun _=>rfl,ad _ _ aD⟩
 clear aa U ad ac;refine (zt av (by intro b aE;simp[iv] at aE;omega) (ap.ext E)).mono ?_;rintro _ af _ ⟨aF,aG,sv,ok,rfl,⟨cs,rfl,aI,aJ⟩,aK,aM⟩;have ah:fd (iv.take 300)=some e7:=by
  rw[j0 (by decide)];exact GB
 have aN:ok=true:=aM e7 ah GC;subst aN;obtain⟨f,ai,aL,ay,A,R,t,N,bj,rfl,aO,aP,aQ,bk⟩:∃ f,fd (iv.take 300)=some f∧zs V.heap.size af aG (.agg cs.toArray) f:=by
  rcases aK with⟨h,_⟩|⟨_,h⟩
  ·cases h
  ·exact h
 rw[ah] at ai;cases ai;have aR:=E.trans aF;rw[aC (v:=.pointer (some ⟨aL,0,none⟩)) rfl,aC (v:=.agg cs.toArray) rfl,aC (v:=.bool true) rfl];refine bO aX.i fun aS bl bm aU aW=>?_;refine b4 (vs:=cs) aX.i aI rfl aJ aW fun aY a1 bn bo=>?_;have aj:Ext af aY:=aU.then a1 fun r ae he=>by have he:r=aS:=he;omega
 have a2:=aO.ext aj;refine aZ (fun v W=>v= .bool false∧Ext w W∧ ∃ I ak,dt W aL ay I R (dq e7) (hp (dQ (dq e7)) 1 1) ak) ?_ ?_
 rotate_left
 ·intro a6 X;rw[b3,Y1,aT];refine (zn (i:=1) (v:=1) a2 (.inl aP.1)).mono ?_;rintro bp bq _ ⟨_,a7⟩;obtain⟨rfl,br,I,x,a8,ba⟩:=a7 GD;rw[bN];refine X _ _ ⟨by congr 1,?_,I,_,ba⟩;exact (aR.trans aj).then a8.1 fun r ae h=>by have:=aQ r h;have:=E.size;omega
 rintro _ W ⟨rfl,bc,I,ak,al⟩;rw[aT];refine q3 (l:=[1,1]) ab.u J.i (by omega) rfl (by kernel_rfl) fun bt bu bw bx Y bd=>?_;refine (uA (al.ext Y) bd.ls).mono ?_;rintro _ bz _ ⟨⟨Z,_⟩,am⟩;obtain rfl:=Z (zu.1 GF);rw[GH,aC (v:=.int .i64 9) rfl,aC (v:=.int .i64 0) rfl];refine q3 (l:=[1,0]) ab.u J.i (by omega) rfl (by kernel_rfl) fun bA bB bC bD ao be=>?_;refine (uA (((al.ext Y).ext am).ext ao) be.ls).mono ?_;rintro _ bE _ ⟨⟨Z,_⟩,bf⟩;obtain rfl:=Z (zu.1 GG);rw[GI,aC (v:=.int .i64 0) rfl,aC (v:=.int .i64 0) rfl];have bg:=(((bc.trans Y).trans am).trans ao).trans bf;refine aZ (fun v bh=>v= .bool true∧Ext w bh) (fun _ _ h=>h) fun a6 X=>?_;rw[bQ,ag];refine⟨fun _=>?_,fun h=>absurd rfl h⟩;rw[bQ,ag];refine⟨fun _=>?_,fun h=>absurd rfl h⟩;rw[bQ,ag];refine⟨fun _=>?_,fun h=>absurd rfl h⟩;rw[bQ];exact X _ _ ⟨rfl,bg⟩
theorem GL {α:Type} [ax α] {P:X1} {w:x5} {m:Bool} {S R:av} {t e J:o6} {O:Nat} {U:o8} {i b:Nat} {y:Int} {z v:x4} {l:List α} {a:α} {K:x4→Prop} (hu:P.underlying e=some (.array O J)) (V:y=(i:Int)) (W:P.underlying t=some (.slice e)) (hi:aI P e (ax.n α) b z)
  (h:ax.rep m S R w [v] l) (X:l[i]? =some a) (Y:∀ cs,ax.rep m S R w cs a→K (.agg cs.toArray)):I P (x7 t v (.int U y)) w fun p=>I P (x1 e p) w K:=by
 refine pp V W hi h X fun b o cs Z E=>?_;rw[sJ hu rfl hi (ax.len E) Z];exact Y cs E
def iw (s0 s:ba):Prop:=s.zero=s0.zero∧s.funs=s0.funs∧s.vars.length=s0.vars.length∧ ∀ (i:Nat) x,s.vars[i]? =some x→ ∃ E,s0.vars[i]? =some E∧x.un=E.un∧x.gone=0∧E.gone=0∧E.mask=0
theorem iw.new (n:bY):iw (dQ n) (dQ n):=⟨rfl,rfl,rfl,fun i x E=>by
 refine⟨x,E,rfl,?_⟩;have E:(n.unary.map newVar)[i]? =some x:=E;rw[r8] at E;obtain⟨u,_,rfl⟩:=Z3.1 E;exact⟨rfl,rfl,rfl⟩⟩
theorem iw.drop {s0 s:ba} (h:iw s0 s) (i v:Nat):iw s0 (hp s i v):=by
 unfold hp;cases I:s.vars[i]? with
 |none=>exact h
 |some x=>
  obtain⟨h1,U,V,J⟩:=h;refine⟨h1,U,by show (s.vars.set i _).length=_;rw[W0];exact V,fun j y E=>?_⟩;have E:(s.vars.set i {x with mask:=((x.mask.toNat ||| 2 ^ v:Nat):Int)})[j]? =some y:=E;rw[Y7] at E;by_cases O:i=j
  ·subst O;rw[if_pos rfl,if_pos (x6.1 I).1] at E;cases E;exact J i x I
  ·rw[if_neg O] at E;exact J j y E
theorem zv {β:Type} {f:β→gK×Int→β}:∀ {E I:List gK} {a:List Int} {z:β},E.length=I.length→(∀ (i:Nat) x y,E[i]? =some x→I[i]? =some y→ ∀ b v,f b (x,v)=f b (y,v))→(E.zip a).foldl f z=(I.zip a).foldl f z
 |[],[],_,_,_,_=>rfl
 |x::E,y::I,[],_,_,_=>rfl
 |x::E,y::I,v::a,z,J,h=>by
  rw[List.zip_cons_cons,List.zip_cons_cons,List.foldl_cons,List.foldl_cons,h 0 x y rfl rfl];exact zv (by simpa using J) fun i O U V W=>h (i+1) O U V W
theorem GM {k:Int} {s0 s:ba} {a:List Int} (h:iw s0 s) (W:(s.vars.zip a).all ds=true):fV k s a=fV k s0 a:=by
 obtain⟨h1,X,J,O⟩:=h;have Y:(s0.vars.zip a).all ds=true:=List.all_eq_true.2 fun p Z=>by
  obtain⟨i,hi⟩:=Y5.1 Z;obtain⟨E,v⟩:=p;rw[List.getElem?_zip_eq_some] at hi;obtain⟨x,I⟩:∃ x,s.vars[i]? =some x:=⟨_,x3 (by rw[J];exact (x6.1 hi.1).1)⟩;obtain⟨af,U,_,_,_,hm⟩:=O i x I;have aa:s0.vars[i]? =some E:=hi.1;rw[aa] at U;cases U;have ab:dropped E.mask v=false:=by unfold dropped;rw[hm];simp
  show ds (E,v)=true;unfold ds;rw[ab];simp
 unfold fV;rw[W,Y,if_pos rfl,if_pos rfl,h1,X];congr 1;refine zv J fun i x y I ac b v=>?_;obtain⟨E,V,hu,ad,ae,_⟩:=O i x I;rw[ac] at V;cases V;unfold gL;simp only[hu,ad,ae]
theorem uD {a b:Int} (E:0≤a) (I:0<b):0≤a.tmod b∧a.tmod b<b:=⟨Int.tmod_nonneg _ E,Int.tmod_lt_of_pos _ I⟩
theorem GN (n:bY):zp (dQ n):=fun f _ _ v _ x E=>by
 obtain⟨_,_,_,h,_⟩:=(iw.new n).2.2.2 _ x E;exact h
theorem GO {s0 s:ba} {a:List Int} (h:iw s0 s) (E:jD s a):jD s0 a:=by
 refine⟨by rw[E.1,h.2.2.1],fun i W v I U=>?_⟩;obtain⟨x,J⟩:∃ x,s.vars[i]? =some x:=⟨_,x3 (by rw[h.2.2.1];exact (x6.1 I).1)⟩;obtain⟨X,O,hu,V,_⟩:=h.2.2.2 i x J;rw[I] at O;cases O;have:=E.2 i x v J U;rw[hu] at this;exact .inr (this.resolve_left fun h=>h V)
theorem zw (s:ba) (j:Nat):eX (lQ s j) j=false∧(lQ s j).funs.length=s.funs.length:=by
 unfold lQ eX;cases E:s.funs[j]? with
 |none=>simp[E]
 |some f=>
  have I:=(x6.1 E).1;simp[I]
set_option maxHeartbeats 4000000 in
theorem GP {p bS:x4} {aM:List Int} {L:List (eg .u8×eg .u8)} {j:Int} {w:x5} (bT:aH .u8 w p aM) (cQ:∀ b∈aM,0≤b∧b<256) (eJ:aM.length≤140737488351232) (bh:Seen lk w [bS] L) (cR:∀ a∈L,(0≤a.1.val∧a.1.val<256)∧0≤a.2.val∧a.2.val<256) (bU:eI w):
  O y0 qC [p,bS,.int .i64 j] w fun v w'=>v= .bool true∧Ext w w':=by
 apply qC.enter;refine (GK bU).mono ?_;rintro _ bV _ ⟨rfl,aN⟩;rw[b3,Y1,aT];refine (zt (bT.ext aN) cQ (bU.ext aN)).mono ?_;rintro _ cS _ ⟨cT,cU,sv,ok,rfl,⟨cs,rfl,bW,cW⟩,cX,_⟩;have bX:=aN.trans cT;rw[aC (v:=cU) rfl,aC (v:=.agg cs.toArray) rfl,aC (v:=.bool ok) rfl];refine bO aX.i fun aB eK bi cY c1=>?_;refine b4 (vs:=cs) aX.i bW rfl cW c1 fun bY c2 eL bZ=>?_;have av:Ext cS bY:=cY.then c2 fun r Y he=>by have he:r=aB:=he;omega
 have aQ:=bX.trans av;rcases cX with⟨rfl,rfl⟩|⟨rfl,f,_,aL,ay,c3,aR,t0,N,c4,rfl,b1,c5,c6,b2⟩
 ·rw[b3,X0,bP,cZ eC.u];exact⟨rfl,aQ⟩
 rw[b3,Y1,aT];have bj:=xL c4;obtain⟨n,c7⟩:∃ n,n=dq f:=⟨_,rfl⟩;rw[←c7] at b1 b2 bj;have aD:=bj.1;clear bj;have c8:=yB aD;have eM:=aD.sizes.1;have eN:=aD.sizes.2.1;have da:=b1.ext av;have bk:=b2.ext av;have eO:=aN.size;have eP:=aQ.size;have eQ:w.heap.size≤aB:=by have:=bX.size;omega
 obtain⟨aw,bl,Z,bn⟩:∃ aw,cs[1]? =some aw∧ ∃ Z,aq .i64 J bY Z aw n.sizes:=by
  obtain⟨aw,Z,db,D,dc,dd,de,df,dg,dh,di,h1,aj,_⟩:=bk;have h1:=x4.agg.inj h1;refine⟨aw,?_,Z,aj⟩;have bo:=congrArg (fun a=>a.toList[1]?) h1;simpa using bo
 obtain⟨b5,bp⟩:∃ b5,cs[0]? =some (.int .i64 n.k)∧b5=n.k:=by
  obtain⟨aw,Z,db,D,dc,dd,de,df,dg,dh,di,h1,aj,_⟩:=bk;have h1:=x4.agg.inj h1;refine⟨_,?_,rfl⟩;have bo:=congrArg (fun a=>a.toList[0]?) h1;simpa using bo
 have bp:=bp.1;have eR:aw.cells= #[aw]:=bn.ls.cells.1;rw[ah aX.p rfl,ai (v:=aw) (by kernel_rfl) (bZ.cell (o:=0+1) bl),aO ab.u bn.ls];refine aZ (fun v bq=>Ext w bq∧ ∃ A s t,dt bq aL ay A aR n s t∧t.marks=[]∧ ∀ r,A r→w.heap.size≤r) ?_ ?_
 ·rintro _ bq ⟨dj,A,s,t,aE,W,X⟩;refine (qh (j:=j) aE).mono ?_;rintro _ eS _ ⟨rfl,br⟩;refine (ux (aE.ext br)).mono ?_;rintro _ eT _ ⟨rfl,b6⟩;have b7:=(aE.ext br).ext b6;have b8:=(dj.trans br).trans b6;refine (Gn (j:=j) b7 (.inl W)).mono ?_;rintro dk b9 _ ⟨dl,bt⟩;have dm:∃ e:Int,dk= .int .i64 e∧(decide (e=0) == (decide (0≤j)&&eX s j.toNat))=true∧Ext w b9∧ ∃ al s' ca,dt b9 aL ay al aR n s' ca∧(decide (0≤j)&&eX s' j.toNat)=false∧s'.funs.length=s.funs.length:=by
   by_cases aF:0≤j∧eX s j.toNat=true
   ·obtain⟨rfl,_,al,q,aS,aU⟩:=bt aF;refine⟨0,rfl,by rw[decide_eq_true aF.1,aF.2];rfl,b8.then aS.1 fun r Y h=>by have:=X r h;omega,al,_,_,aU,?_,(zw s j.toNat).2⟩;rw[(zw s j.toNat).1,Bool.and_false]
   ·obtain⟨rfl,cb⟩:=dl aF;have cc:(decide (0≤j)&&eX s j.toNat)=false:=by
     cases bu:(decide (0≤j)&&eX s j.toNat) with
     |false=>rfl
     |true=>
      rw[U1,decide_eq_true_eq] at bu;exact absurd bu aF
    exact⟨1,rfl,by rw[cc];rfl,b8.trans cb,A,s,t,b7.ext cb,cc,rfl⟩
  obtain⟨e,rfl,he,dn,al,s',ca,aU,dp,dr⟩:=dm;refine aZ (fun v du=>v= .bool true∧Ext w du) (fun _ _ h=>h) fun eU dv=>?_;rw[bQ,EK ga.u,he,bP];refine (qh (j:=j) aU).mono ?_;rintro _ eV _ ⟨rfl,cd⟩;rw[dp,b3,X0,bP];refine (ux (aU.ext cd)).mono ?_;rintro _ eY _ ⟨rfl,dw⟩;rw[bQ,dr];exact dv _ _ ⟨by simp,(dn.trans cd).trans dw⟩
 intro eZ ce;rw[h9 mN.u (c0 bh aQ)];refine a8.range L.length (fun i aW aa=>Ext w aa∧ak aa aB aX cs∧eW bV.heap.size aa (.agg cs.toArray) n.k n.sizes (dQ n)∧(∃ Z,aq .i64 J aa Z aw n.sizes)∧ ∃ A s t,dt aa aL ay A aR n s t∧t.marks=[]∧(∀ r,A r→w.heap.size≤r)∧iw (dQ n) s) (qV bh)
  ⟨aQ,bZ,bk,⟨Z,bn⟩,c3,_,t0,da,c5.1,fun r Y=>by have:=c6 r Y;omega,iw.new n⟩ ?_ ?_
 rotate_left
 ·rintro aW aa dx ⟨aG,_,_,_,A,s,t,aE,W,X,_⟩;rw[au,ag];exact⟨fun h=>by omega,fun _=>ce _ _ ⟨aG,A,s,t,aE,W,X⟩⟩
 rintro i aW aa dx hi ⟨aG,dy,dz,⟨cg,ch⟩,A,s,t,ci,W,X,ax⟩ dA;obtain⟨d,cj⟩:∃ d,L[i]? =some d:=⟨_,x3 hi⟩;obtain⟨⟨dB,e0⟩,dC,e1⟩:=cR d (u4 cj);rw[au,ag];refine⟨fun _=>?_,fun h=>by omega⟩;refine GL (α:=eg .u8×eg .u8) fM.u rfl mN.u fM.i (c0 bh aG) cj fun dD bw=>?_;have bw:dD=[.int .u8 d.1.val,.int .u8 d.2.val]:=by
  obtain⟨dE,dF,_,_,rfl,_,_,_,h1,aj⟩:=bw;have h1:dE=[.int .u8 d.1]:=h1;have aj:dF=[.int .u8 d.2]:=aj;rw[h1,aj];rfl
 subst bw;refine bO fM.i fun dG e2 e3 dH dI=>?_;refine b4 (vs:=[.int .u8 d.1.val,.int .u8 d.2.val]) fM.i rfl rfl (by intro u hu;simp at hu;rcases hu with rfl|rfl <;> rfl) dI fun dJ dK e4 ck=>?_;have bx:Ext aa dJ:=dH.then dK fun r Y he=>by have he:r=dG:=he;omega
 rw[cV,ag];refine⟨fun _=>ce _ _ ⟨aG.trans bx,A,s,t,ci.ext bx,W,X⟩,fun e5=>?_⟩;have dL:(0:Int)<n.sizes.length:=by omega
 rw[vi 0 0 fM.u bb.i rfl (by omega),ai (v:=.int .u8 d.1.val) (o:=0+0*1) (by kernel_rfl) (ck.cell rfl),fc bb.u J.u,wrap_i64 (by omega) (by omega),pj (by omega)];obtain⟨bz,cl⟩:=uD dB dL;obtain⟨E,dM⟩:∃ E:Int,E=d.1.val.tmod n.sizes.length:=⟨_,rfl⟩;rw[←dM] at bz cl ⊢;intro e6 cm _ _;have az:=bx.trans cm;have bA:=dy.ext az;obtain⟨z,U⟩:∃ z,n.sizes[E.toNat]? =some z:=⟨_,x3 (by omega)⟩;have dN:=aD.sizes.2.2 z (u4 U);rw[vi 1 1 fM.u bb.i rfl (by omega),ai (v:=.int .u8 d.2.val) (o:=0+1*1) (by kernel_rfl) ((ck.ext cm).cell rfl),fc bb.u J.u,wrap_i64 (by omega) (by omega),ah aX.p rfl,ai (v:=aw) (by kernel_rfl) (bA.cell (o:=0+1) bl),eE (y:=E) (i:=E.toNat) (by omega) ab.u J.i (by kernel_rfl) (ch.ext az).ls U,pj (by omega)];obtain⟨cn,cp⟩:=uD dC (show 0<z by omega);obtain⟨am,dO⟩:∃ am:Int,am=d.2.val.tmod z:=⟨_,rfl⟩;rw[←dO] at cn cp ⊢;have cq:gS n E am:=⟨bz,cl,cn,by rw[p8,U];exact cp⟩;have cr:=aG.trans az;have ct:=ci.ext az;have dP:=dz.ext az;have dR:=ch.ext az;refine aZ (fun v ac=>v= .bool false∧Ext w ac∧ak ac aB aX cs∧eW bV.heap.size ac (.agg cs.toArray) n.k n.sizes (dQ n)∧aq .i64 J ac cg aw n.sizes∧ ∃ A s t,dt ac aL ay A aR n s t∧t.marks=[]∧(∀ r,A r→w.heap.size≤r)∧iw (dQ n) s) ?_ ?_
 rotate_left
 ·intro e7 dS;refine (zn (i:=E) (v:=am) ct (.inl W)).mono ?_;rintro e8 dT _ ⟨_,bt⟩;obtain⟨rfl,bB,al,e9,aS,cu⟩:=bt cq;have fa:=cr.size;have dU:Ext w dT:=cr.then aS.1 fun r Y h=>by have:=X r h;omega
  have dV:∀ r,al r→w.heap.size≤r:=fun r Y=>(aS.2.1 r Y).elim (X r) fun h=>by omega
  have dW:=bA.ad bB (uB bA (by decide));rw[bN,ag];refine⟨fun h=>absurd rfl h,fun _=>?_⟩;refine (uy (i:=E) cu).mono ?_;rintro _ fb _ ⟨⟨b,m,rfl,bC,_,bD⟩,cw⟩;refine (ut bC).mono ?_;rintro _ fd _ ⟨rfl,cz⟩;have aY:=cw.trans cz;obtain⟨x,cA,fe,_,_⟩:=cq.var ct.2.2.2.1;have dX:(hp s E.toNat am.toNat).vars[E.toNat]? =some {x with mask:=((x.mask.toNat ||| 2 ^ am.toNat:Nat):Int)}:=by
   unfold hp;rw[cA];show (s.vars.set E.toNat _)[E.toNat]? =_;rw[V7 (x6.1 cA).1]
  obtain⟨hm,bE⟩:=bD _ bz dX;have dY:b.testBit am.toNat=false:=by
   rw[bE,zd,Gb];simp
  refine dS _ _ ⟨by rw[dY,Bool.and_false],dU.trans aY,dW.ext aY,(dP.ty bB).ext aY,(jJ dR bB (by decide)).ext aY,al,_,_,(cu.ext cw).ext cz,by rw[aP.r1];exact W,dV,ax.drop _ _⟩
 rintro _ ac ⟨rfl,cB,bF,cC,bG,A,s,t,a1,W,X,ax⟩;rw[aT];have cD:=a1.2.2.2.1;have ff:=cD.vars;refine a8.range 10 (fun q aW a2=>Ext ac a2) (by omega) (Ext.refl _) ?_ ?_
 rotate_left
 ·rintro aW a2 dZ V;rw[au,ag];refine⟨fun h=>by omega,fun _=>?_⟩;rw[aK];exact dA _ _ ⟨cB.trans V,bF.ext V,cC.ext V,⟨cg,bG.ext V⟩,A,s,t,a1.ext V,W,X,ax⟩
 rintro q fg a2 dZ bu V ea;rw[au,ag];refine⟨fun _=>?_,fun h=>by omega⟩;refine hz (k:=.i64) ab.u J.i (by omega) (by omega) fun a6 eb fh cF ec=>?_;obtain⟨a7,cG⟩:∃ a7:x4,a7= .slice (some ⟨a6,0,none⟩) n.sizes.length n.sizes.length:=⟨_,rfl⟩;rw[←cG];have ed:aq .i64 J eb a6 a7 (p9 n.sizes.length 0):=by rw[cG];exact aq.of (bL.full (k:=1) (n:=n.sizes.length) ec (by simp) (by simp[maxLen];omega))
 have cH:=V.trans cF;rw[ah aX.p rfl,ai (v:=aw) (by kernel_rfl) ((bF.ext cH).cell (o:=0+1) bl),aO ab.u (bG.ext cH).ls];refine bc.range n.sizes.length (fun c aA=>Ext a2 aA∧ ∃ l:List Int,aq .i64 J aA a6 a7 l∧l.length=n.sizes.length∧ ∀ (e:Nat) x z,e<c→l[e]? =some x→n.sizes[e]? =some z→0≤x∧x<z) (by omega)
  ⟨cF,_,ed,by simp,fun e x z he=>by omega⟩ ?_ ?_
 ·rintro c aA ee ef ⟨ba,l,ae,eh,ei⟩ ej;obtain⟨z,U⟩:∃ z,n.sizes[c]? =some z:=⟨_,x3 ef⟩;have dN:=aD.sizes.2.2 z (u4 U);have aI:=V.trans ba;rw[au,ag];refine⟨fun _=>?_,fun h=>by omega⟩;have fi:0≤(q:Int)*((c:Int)+1)∧(q:Int)*((c:Int)+1)≤10*65:=⟨Int.mul_nonneg (by omega) (by omega),Int.mul_le_mul (by omega) (by omega) (by omega) (by omega)⟩;rw[bm ab.u J.i (by kernel_rfl) (bG.ext aI).ls U,aK,wrap_i64 (by omega) (by omega),fA,wrap_i64 (by omega) (by omega),aO aV.u (bT.ext (cB.trans aI)),aK,wrap_i64 (by omega) (by omega),pj (by omega),gB rfl ab.u J.i ae (by omega)];obtain⟨ek,em⟩:=uD (a:=(q:Int)*((c:Int)+1)+aM.length) (b:=z) (by omega) (by omega);refine gC J.i ae (by omega) fun fj en fk eo=>?_;rw[aK];refine ej _ ⟨ba.then en fun r Y he=>by have he:r=a6:=he;have:=V.size;omega,_,eo,by rw[W0];exact eh,fun e x ep he ao bH=>?_⟩;rw[Y7] at ao;by_cases cI:c=e
  ·subst cI;rw[if_pos rfl,if_pos (by omega)] at ao;cases ao;rw[U] at bH;cases bH;exact⟨ek,em⟩
  ·rw[if_neg cI] at ao;exact ei e x ep (by omega) ao bH
 rintro aA ee ⟨ba,a,ae,fl,er⟩;rw[au,ag];refine⟨fun h=>by omega,fun _=>?_⟩;have bJ:jD s a:=⟨by omega,fun e x v ao bK=>.inr (by
  obtain⟨z,U⟩:∃ z,n.sizes[e]? =some z:=⟨_,x3 (by have:=(x6.1 bK).1;omega)⟩;have h1:=er e v z (by have:=(x6.1 bK).1;omega) bK U;have aj:=(cD.var e x z ao U).1;omega)⟩
 obtain⟨I,bd⟩:∃ I,I=s.vars.zip a:=⟨_,rfl⟩;have fm:I.length=a.length:=by rw[bd,List.length_zip];omega
 have aI:=V.trans ba;rw[aO ab.u ae.ls];refine a8.range a.length (fun e gone bM=>Ext aA bM∧gone= .bool (!(I.take e).all ds)) ae.ls.le ⟨Ext.refl _,rfl⟩ ?_ ?_
 ·rintro e _ bM es he ⟨aJ,rfl⟩ et;obtain⟨x,be⟩:∃ x,s.vars[e]? =some x:=⟨_,x3 (by omega)⟩;obtain⟨v,bR⟩:∃ v,a[e]? =some v:=⟨_,x3 he⟩;obtain⟨fo,_,_,bi,_⟩:=ax.2.2.2 e x be;have fp:=(bJ.2 e x v be bR).resolve_left fun h=>h bi;have eu:I[e]? =some (x,v):=by rw[bd,List.getElem?_zip_eq_some];exact⟨be,bR⟩
  have af:(I.take (e+1)).all ds=((I.take e).all ds&& !dropped x.mask v):=by
   rw[o3,eu,j5,List.all_append];unfold ds;simp[bi]
  rw[au,ag];refine⟨fun _=>?_,fun h=>by omega⟩;refine aZ (fun gone cJ=>Ext aA cJ∧gone= .bool (!(I.take (e+1)).all ds)) ?_ ?_
  ·rintro gone cJ ev;rw[aK];exact et _ _ ev
  intro fq cK;intro fr ew _ _;have bf:=aJ.trans ew;rw[cE];refine⟨fun ap=>⟨.inl (Ext.refl _),cK _ _ ⟨bf,?_⟩⟩,fun ap=>?_⟩
  ·have:(I.take e).all ds=false:=by simpa using ap
   rw[af,this];rfl
  have ey:(I.take e).all ds=true:=by simpa using ap
  refine q4 (y:=(e:Int)) (i:=e) rfl ab.u J.i (ae.ext bf).ls bR fun b0 fs ez=>?_;rw[ai (by kernel_rfl) ez];refine (uy (i:=(e:Int)) (a1.ext (aI.trans bf))).mono ?_;rintro _ ft _ ⟨⟨b,m,rfl,bC,_,bD⟩,av⟩;refine⟨.inl av,?_⟩;refine (ut bC).mono ?_;rintro _ fu _ ⟨rfl,eA⟩;rw[b3];refine cK _ _ ⟨(bf.trans av).trans eA,?_⟩;obtain⟨hm,bE⟩:=bD x (by omega) (by rw[c9];exact be);rw[af,ey,Bool.true_and,decide_eq_true (show 0≤v∧v<(m:Int) by omega),Bool.true_and,bE,decide_eq_true (by omega),Bool.true_and];congr 3
 rintro _ bM es ⟨aJ,rfl⟩;rw[j0 (by omega),au,ag];refine⟨fun h=>by omega,fun _=>?_⟩;have cL:=aI.trans aJ;refine (uA (a1.ext cL) (ae.ext aJ).ls).mono ?_;rintro _ eB _ ⟨⟨eD,_⟩,cM⟩;obtain rfl:=eD bJ;have bg:=cL.trans cM;rw[aC (v:=.int .i64 (fV n.k s a)) rfl,aC (v:=.int .i64 0) rfl];refine aZ (fun v cN=>v= .bool false∧Ext ac cN) ?_ ?_
 ·rintro _ cN ⟨rfl,eF⟩;rw[aT,aK];exact ea _ _ eF
 intro fv cO;have cP:=bF.ext bg;rw[bN,ag];refine⟨fun h=>absurd rfl h,fun _=>?_⟩;rw[cE];refine⟨fun ap=>?_,fun ap=>?_⟩
 ·have af:I.all ds=false:=by simpa using ap
  have eG:fV n.k s a=n.k:=by
   unfold fV;rw[←bd,af];rfl
  rw[ah aX.p rfl,ai (v:=.int .i64 n.k) (by kernel_rfl) (cP.cell (o:=0+0) bp),eG,bN,ag];refine⟨fun h=>absurd rfl h,fun _=>?_⟩;rw[af,b3,X0,Y1,aT];exact cO _ _ ⟨rfl,bg⟩
 ·have af:I.all ds=true:=by simpa using ap
  rw[af,b3,Y1,X0,bP,bI aX.p aX.i bW (show eB.rangeAt aB 0 cs from cP.range)];refine (Gt (cC.ext bg) c8 (GN n) (GO ax bJ) ((ae.ext aJ).ext cM).ls).mono ?_;rintro _ fw _ ⟨rfl,eH⟩;rw[bN,GM ax (by rw[←bd];exact af)];exact cO _ _ ⟨by simp,bg.trans eH⟩
end Go.Proofs.YtgbkinibgjmodaaGreatDoor
