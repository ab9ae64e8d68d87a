/- own texts, made small by a tool (wip/ holds them as they were written): no statement of the seat. -/
import Derived.Test.YtgbkinibgjmodaaGreatDoorZd
set_option linter.unusedVariables false
set_option linter.unusedSimpArgs false
set_option linter.unnecessarySimpa false
open Array renaming getElem?_eq_some_iff→o4,getElem?_toList→V9
open BitVec renaming ofInt→V0
open Bool renaming not_true→Z3,not_false→Y8,and_eq_true→X2,eq_iff_iff→X5,or_eq_false_iff→V7
open Decidable renaming not_not→Z7
open Go renaming Value→x1,World→x2,TypeId→u5,IntKind→r9,Builtin→n0,Program→Y3,Oper→W0,Operand→V5
open Go.Addr renaming add_mid→W5
open Go.Builtin renaming append_→l5,len_→Z8
open Go.Instr renaming loadAt→x7,fieldAt→x8,storeAt→o7,indexAt→j4,buildSlice→j9,extract→c9,sliceAt→Y9
open Go.IntKind renaming i64→X0,u64→X9
open Go.Proofs.Tryz renaming prog→x5
open Go.Result renaming andThen→Z6
open Go.Sem renaming run_bind→Z4,run_pure→Z9
open Go.Sort renaming Holds→V6
open Go.Value renaming int→Y5
open Int renaming toNat_natCast→c8
open List renaming getElem?_eq_getElem→y0,getElem?_eq_some_iff→x3,mem_of_getElem?→x4,getElem?_map→x6,replicate→v8,take_add_one→u4,getD_eq_getElem?_getD→u6,length_map→u7,length_append→r8,mem_singleton→p8,mem_append→p9,take_length→o3,length_take→o5,mem_map→o6,eq_nil_of_length_eq_zero→o8,map_append→o9,length_cons→l6,getElem?_eq_none→c6,getElem?_take_of_lt→c7,take_of_length_le→b6,getElem?_append_left→Z0,getElem?_append_right→Z2,getElem?_set→Y0,range→Y1,drop_eq_getElem_cons→Y2,ext_getElem?→Y4,mem_iff_getElem?→Y6,pairwise_iff_getElem→X3,length_set→X4,length→X7,append_assoc→X8,flatMap_cons→W7,length_eq_one_iff→W8,mem_or_eq_of_mem_set→V2,append_nil→V4,mem_cons→V8,getElem?_set_self→U1,length_singleton→U2
open Nat renaming le_refl→u9,zero_le→Z1,le_trans→Z5,mul_le_mul_right→Y7,sub_self→X6,add_mul→W3,beq→W6,mul_one→W9,zero_add→V3
open Option renaming some→n9,toList_some→l9,map_some→j6,isNone_some→c5,map_eq_some_iff→b8,map→X1
open Option.some renaming inj→j5,injEq→b9
open Prod.mk renaming injEq→V1
namespace Go.Proofs.YtgbkinibgjmodaaGreatDoor
open Go Go.Vc Go.RowKit Go.Proofs Go.Proofs.Tryz
set_option maxRecDepth 100000
def r4 (w:x2) (v:x1) (n:bd):Prop:=∃ au O E U aG J V L,v= .agg #[.int .i64 n.k,au,.int .i64 n.zero,E,J]∧am .i64 ab w O au n.sizes∧fq w U E aG∧aG.map (·.l)=n.unary∧aR cn 3 aS w V J L∧(∀ h∈L,dr w n.sizes h)∧L.map cK=n.funs
def z9:List x1:=[.int .i64 0,.slice none 0 0,.int .i64 0,.slice none 0 0,.slice none 0 0]
def jV (w:x2) (C gt gs go:Nat) (au aH:x1) (f:bx) (E:List dQ) (w':x2):Prop:=Ext w w'∧C≤w'.heap.size∧ad w' gt cL z9∧am .i64 ab w' gs au f.sizes∧aR cn 3 aS w' go aH E∧(∀ r,leadsTo aH r→r<C)∧ ∀ h∈E,dr w' f.sizes h
theorem jV.ext {w w' E:x2} {C gt gs go:Nat} {au aH:x1} {f:bx} {O:List dQ} (h:jV w C gt gs go au aH f O w') (J:Ext w' E):jV w C gt gs go au aH f O E:=by
 obtain⟨h1,aa,U,V,W,X,Y⟩:=h;have:=J.size;exact⟨h1.trans J,by omega,U.ext J,V.ext J,W.ext J,X,fun x Z=>(Y x Z).ext J⟩
def HS (w w':x2) (C gt:Nat) (r:Nat):Prop:=w.heap.size≤r∧r≠gt∧((∃ c,ad w' r cL c)∨(∃ c,ad w' r ap c)∨((∃ c,ad w' r aS c)∧C≤r))
theorem jV.U {w w' Z:x2} {S:Nat→Prop} {C gt gs go:Nat} {au aH:x1} {f:bx} {aa:List dQ} (h:jV w C gt gs go au aH f aa w') (W:af S w' Z) (X:∀ r,S r→HS w w' C gt r):jV w C gt gs go au aH f aa Z:=by
 obtain⟨h1,al,ah,ac,Y,ae,ai⟩:=h;have:=W.size;have ag:∀ r,S r→ ∃ e c,ad w' r e c∧e≠ab∧e≠aj:=fun r O=>by
  obtain⟨_,_,⟨c,E⟩|⟨c,E⟩|⟨⟨c,E⟩,_⟩⟩:=X r O
  ·exact⟨_,c,E,by decide,by decide⟩
  ·exact⟨_,c,E,by decide,by decide⟩
  ·exact⟨_,c,E,by decide,by decide⟩
 refine⟨h1.then W fun r O V=>by have:=(X r V).1;omega,by omega,ah.U W fun V=>(X _ V).2.1 rfl,aX ac W fun r O V=>?_,Y.U W fun r O V=>?_,ae,fun x J=>jl (ai x J) W fun r O=>.inl (ag r O)⟩
 ·obtain⟨e,c,E,ak,_⟩:=ag r V;exact bB ac E (fun he=>ak he.symm) O rfl
 ·obtain⟨_,_,⟨c,E⟩|⟨c,E⟩|⟨_,am⟩⟩:=X r V
  ·exact b4 Y E (by decide) O
  ·exact b4 Y E (by decide) O
  ·have:=ae r O;omega
def yy (w:x2) (C O:Nat) (au:x1) (k:Int) (n:bd) (U:List dQ) (w':x2):Prop:=∃ E V aG J W L,ad w' O cL [.int .i64 k,au,.int .i64 n.zero,E,J]∧fq w' V E aG∧aG.map (·.l)=n.unary∧(∀ r,leadsTo E r→w.heap.size≤r)∧aR cn 3 aS w' W J L∧(∀ h∈L,h∈U)∧L.map cK=n.funs∧ ∀ r,leadsTo J r→C≤r
set_option maxHeartbeats 8000000 in
theorem yz {N:Nat} {w:x2} {ck:Nat} {f:bx} (cl:kP w ck f) (aA:dP N f):ah x5 Aj [.pointer (some ⟨ck,0,none⟩)] w fun v w'=>Ext w w'∧r4 w' v (cJ f):=by
 have ea:=aA.k;have eb:=aA.sizes.2.1;obtain⟨c8,ee,eg,eh,cm,cp,ei⟩:=id cl;refine aq func71 ?_;refine bi cL.i fun gt c9 ej bm bn=>?_;have bn:ad c9 gt cL z9:=bn;rw[ax,ae cM.p rfl,V (v:=.int .i64 f.k) (by kernel_rfl) ((cm.ext bm).cell (o:=0+1) rfl),cI (cs:=#[.int .i64 f.k,.slice none 0 0,.int .i64 0,.slice none 0 0,.slice none 0 0]) (by kernel_rfl)];refine bi cL.i fun Y ek em cq da=>?_;refine bP (vs:=[.int .i64 f.k,.slice none 0 0,.int .i64 0,.slice none 0 0,.slice none 0 0]) cL.i rfl rfl (by intro u hu;simp at hu;rcases hu with rfl|rfl|rfl|rfl <;> rfl) da fun db ct en dc=>?_;have bS:Ext w db:=(bm.trans cq).then ct fun r E he=>by have he:r=Y:=he;have:=bm.size;omega
 have ep:=bn.lt;have ag:Y≠gt:=by omega
 have de:=(bn.ext cq).U ct fun he=>by have he:gt=Y:=he;omega
 rw[ax,ae cM.p rfl,V (v:=c8) (by kernel_rfl) ((cm.ext bS).cell (o:=0+2) rfl),aI ap.u (cp.ext bS).ls];have er:=bm.size;refine bV.range f.sizes.length (fun i aJ=>Ext w aJ∧ad aJ gt cL z9∧ ∃ au gs X ak aG,ad aJ Y cL [.int .i64 f.k,au,.int .i64 0,X,.slice none 0 0]∧am .i64 ab aJ gs au (f.sizes.take i)∧(∀ r,leads au r→w.heap.size≤r)∧fq aJ ak X aG∧aG.map (·.l)=(f.sizes.take i).map (fun z=>v8 z.toNat 0)∧ ∀ r,leadsTo X r→w.heap.size≤r) (by omega)
  ⟨bS,de,_,0,_,0,[],dc,am.nil _ _ _ _,(fun r E=>by obtain⟨a,n,c,df,es⟩:=E;cases df),⟨aR.nil _ _ _ _ _,fun x J=>(by cases J)⟩,rfl,fun r E=>(dp E).elim⟩ ?_ ?_
 ·rintro i aJ dg hi ⟨aK,bT,au,gs,X,ak,aG,a8,bo,bU,bW,ba,bp⟩ dh;obtain⟨z,Z⟩:∃ z,f.sizes[i]? =some z:=⟨_,y0 hi⟩;have et:=aA.sizes.2.2 z (x4 Z);have eu:aG.length=i:=by have:=congrArg X7 ba;simp only[u7,o5] at this;omega
  rw[ao,aa];refine⟨fun _=>?_,fun h=>by omega⟩;rw[a1 ap.u aj.i (by kernel_rfl) (cp.ext aK).ls Z,ae cL.p rfl,V (v:=au) (by kernel_rfl) (a8.cell (o:=0+1) rfl)];refine dC (k:=.i64) al.u ab.i rfl fun a5 ev cw ez aU di=>?_;have bb:=bo.ext aU;refine fF al.u ab.i rfl bb di.ls (by simp;omega) (by simp;omega) fun bX cz eA bq dj cA=>?_;have bY:=a8.ext aU;have cB:=bT.ext aU;have cC:=bY.U cA fun he=>bB bb bY (by decide) he rfl;rw[ae cL.p rfl];refine aZ (g:=Y) (o:=1) al.i bq.ls.cells.1 bq.ls.cells.2 cC (by simp) fun bt cD eB bu=>?_;have bu:ad bt Y cL [.int .i64 f.k,bX,.int .i64 0,X,.slice none 0 0]:=bu;have bZ:af (fun r=>leads au r∨r=Y) cw bt:=(cA.mono fun r _ h=>.inl h).trans (cD.mono fun r _ h=>.inr h);have dl:am .i64 ab bt cz bX (f.sizes.take (i+1)):=by
   rw[u4,Z];exact aX bq cD fun r E he=>by
    have he:r=Y:=he;subst he;exact bB bq cC (by decide) E rfl
  have aV:∀ r,(leads au r∨r=Y)→ ∃ e c,ad cw r e c∧e≠aj∧e≠ap:=fun r E=>by
   rcases E with E|rfl
   ·obtain⟨rfl,_⟩:=bw bb E;obtain⟨_,⟨ac,_⟩|⟨cap,full,_,O,_⟩⟩:=bb
    ·obtain⟨a,n,c,e,_⟩:=E;rw[ac] at e;cases e
    ·exact⟨_,_,O,by decide,by decide⟩
   ·exact⟨_,_,bY,by decide,by decide⟩
  have dm:=(bW.ext aU).U bZ aV;have z4:=aK.size;have z5:=aU.size;have cE:Ext w bt:=(aK.trans aU).then bZ fun r E he=>by
   rcases he with he|he
   ·have:=bU r he;omega
   ·omega
  have dn:=cB.U bZ fun W=>by
   rcases W with W|W
   ·exact bB bb cB (by decide) W rfl
   ·omega
  intro eC cF _ _;have dq:=bu.ext cF;rw[ae cL.p rfl,V (v:=X) (by kernel_rfl) (dq.cell (o:=0+3) rfl)];obtain⟨aL,rfl⟩:∃ n:Nat,z=n:=⟨z.toNat,by omega⟩;refine hN (k:=.i64) ap.u aj.i (by omega) (by omega) fun bz dr eD b1 ds=>?_;refine⟨.inl b1,?_⟩;have dt:am .i64 aj dr bz (.slice (some ⟨bz,0,none⟩) aL aL) (v8 aL 0):=am.of (br.full (k:=1) (n:=aL) ds (by simp) (by simp[maxLen];omega));let a:ey:=⟨.slice (some ⟨bz,0,none⟩) aL aL,v8 aL 0⟩;refine eV (f:=hv) (a:=a) eE.u ap.i (by omega) rfl rfl fun eF eH b2 eI b3 du=>?_;refine⟨.inl (b1.trans b3),?_⟩;have aW:=(cF.trans b1).trans b3;have bd:=dm.ext aW;refine e9 (f:=hv) (a:=a) eE.u ap.i rfl bd.1 (by simpa using du.sl) (fun u hu=>by rw[p8.1 (show u∈[a.v] from hu)];rfl) (by omega) (by omega) fun b6 b7 eJ av b8 cG=>?_;have aY:∀ {r:Nat},leadsTo X r→ ∃ c,ad b2 r ap c:=fun E=>by
   obtain⟨rfl,c,O⟩:=dk bd.1 E;exact⟨c,O⟩
  have b9:=bu.ext aW;have cH:=b9.U cG fun he=>b4 bd.1 b9 (by decide) he;rw[ae cL.p rfl];refine aZ eE.i (cu av.sl).1 (cu av.sl).2 cH (by simp) fun dv cN eK dw=>?_;rw[aF];have aB:af (fun r=>leadsTo X r∨r=Y) b2 dv:=(cG.mono fun r _ h=>.inl h).trans (cN.mono fun r _ h=>.inr h);have ca:∀ r,(leadsTo X r∨r=Y)→ ∃ e c,ad b2 r e c∧e≠aj∧e≠ab:=fun r E=>by
   rcases E with E|rfl
   ·obtain⟨c,O⟩:=aY E;exact⟨_,c,O,by decide,by decide⟩
   ·exact⟨_,_,b9,by decide,by decide⟩
  have cP:=dl.ext aW;have eL:=cE.size;have eM:=aW.size;have cQ:=dn.ext aW;refine dh _ ⟨(cE.trans aW).then aB (fun r E he=>?_),cQ.U aB (fun W=>?_),bX,cz,b6,b7,aG++[a],dw,aX cP aB (fun r E W=>?_),fun r E=>?_,⟨av.U cN fun r E he=>?_,fun y aw=>?_⟩,?_,fun r E=>?_⟩
  ·rcases he with he|rfl
   ·have:=bp r he;omega
   ·omega
  ·rcases W with W|W
   ·exact b4 bd.1 cQ (by decide) W
   ·omega
  ·obtain⟨e,c,O,_,ag⟩:=ca r W;exact bB cP O (fun he=>ag he.symm) E rfl
  ·rcases dj r E with h|h
   ·exact bU r h
   ·omega
  ·have he:r=Y:=he;subst he;exact b4 av cH (by decide) E
  ·rcases p9.1 aw with aw|aw
   ·exact bd.nh aB (fun r E=>by obtain⟨e,c,O,ag,_⟩:=ca r E;exact⟨e,c,O,ag⟩) y aw
   ·rw[p8.1 aw];have cR:=dt.ext b3;exact⟨bz,aX cR aB fun r E W=>by
     obtain⟨e,c,O,ag,_⟩:=ca r W;exact bB cR O (fun he=>ag he.symm) E rfl⟩
  ·rw[o9,ba,u4,Z,l9,o9];rfl
  ·rcases b8 r E with h|h
   ·exact bp r h
   ·omega
 rintro aJ dg ⟨aK,bT,au,gs,X,ak,aG,a8,bo,bU,bW,ba,bp⟩;rw[ao,aa];refine⟨fun h=>by omega,fun _=>?_⟩;rw[o3] at bo ba;refine (HR (cl.ext aK) aA).mono ?_;rintro aH bA _ ⟨a2,go,ay,av,dx,cS,eN⟩;have cT:ay.length=(ed f).length:=by rw[←cS,u7]
 have eO:ay.length≤256:=by
  have h1:=(m4 aA).2.length_eq;have bC:=(iA aA).2.2;have eP:=List.length_filter_le ec (dV f);have eQ:=aA.iu;omega
 have z4:=aK.size;have eR:=a2.size;have eT:=a8.lt;rw[dK b5.u av];refine bV.range ay.length (fun i aM=>jV w bA.heap.size gt gs go au aH f ay aM∧yy w bA.heap.size Y au f.k (cO f i) ay aM) av.le
  ⟨⟨aK.trans a2,u9 _,bT.ext a2,bo.ext a2,av,fun r E=>by have:=av.leads E;omega,fun h cb=>(dx h cb).1⟩,X,ak,aG,_,0,[],a8.ext a2,bW.ext a2,ba,bp,aR.nil _ _ _ _ _,fun x J=>(by cases J),rfl,fun r E=>(dp E).elim⟩ ?_ ?_
 rotate_left
 ·rintro aM dy ⟨a6,X,ak,aG,aC,bD,L,bE,bF,aO,be,bf,bg,aP,bh⟩;obtain⟨dz,eU,cU,cc,eW,eX,dA⟩:=id a6;have bG:=lQ f ay.length;rw[cT,pv] at bG;rw[cT,pv] at bE aO aP;rw[ao,aa];refine⟨fun h=>by omega,fun _=>?_⟩;rw[bj cL.p cL.i rfl (show aM.rangeAt Y 0 [.int .i64 f.k,au,.int .i64 (cJ f).zero,X,aC] from bE.range)];refine bP (vs:=[.int .i64 f.k,au,.int .i64 (cJ f).zero,X,aC]) cL.i rfl rfl (fun u hu=>?_) cU fun eY bk eZ dD=>?_
  ·simp at hu;rcases hu with rfl|rfl|rfl|rfl|rfl
   ·rfl
   ·exact cc.ls.cells.2
   ·rfl
   ·exact (cu bF.1.sl).2
   ·exact (cu bf.sl).2
  rw[eo cL.p cL.i rfl dD.range];have aV:∀ r,r=gt→ ∃ e c,ad aM r e c∧e≠aj∧e≠ap∧e≠ab∧e≠aS:=fun r E=>by
   subst E;exact⟨_,_,cU,by decide,by decide,by decide,by decide⟩
  refine⟨dz.then bk fun r E he=>by have he:r=gt:=he;omega,au,gs,X,ak,aG,aC,bD,L,?_,?_,bF.U bk (fun r E=>?_),aO,bf.U bk (fun r E W=>?_),fun h cb=>?_,aP⟩
  ·rw[bG.1]
  ·rw[bG.2.1];refine aX cc bk fun r E W=>?_;obtain⟨e,c,O,_,_,ag,_⟩:=aV r W;exact bB cc O (fun he=>ag he.symm) E rfl
  ·obtain⟨e,c,O,h1,bC,_⟩:=aV r E;exact⟨e,c,O,h1,bC⟩
  ·obtain⟨e,c,O,_,_,_,ag⟩:=aV r W;exact b4 bf O (fun he=>ag he.symm) E
  ·rw[bG.2.1];exact jl (dA h (bg h cb)) bk fun r E=>by
    obtain⟨e,c,O,h1,_,bC,_⟩:=aV r E;exact .inl ⟨e,c,O,bC,h1⟩
 rintro i aM dy hi ⟨a6,X,ak,aG,aC,bD,L,bE,bF,aO,be,bf,bg,aP,bh⟩ dE;obtain⟨y,aw⟩:∃ y,ay[i]? =some y:=⟨_,y0 hi⟩;have bH:=x4 aw;have cV:(ed f)[i]? =some (cK y):=by rw[←cS,x6,aw];rfl
 have cd:ef f.sizes f.k (cK y):=pc aA _ (x4 cV);have ce:=rL cV;obtain⟨e0,e1,e2,e3⟩:=lQ f i;rw[ao,aa];refine⟨fun _=>?_,fun h=>by omega⟩;refine dd (fun cg=>jV w bA.heap.size gt gs go au aH f ay cg∧yy w bA.heap.size Y au f.k (cO f (i+1)) ay cg) ?_ ?_
 ·rintro cg h;rw[aF];exact dE _ h
 intro e4 ch;rw[cr rfl b5.u aS.i a6.2.2.2.2.1 hi,bj aS.p aS.i rfl (a6.2.2.2.2.1.range aw)];refine bi aS.i fun cW e5 e6 dF dG=>?_;refine bP (vs:=cn y) aS.i rfl rfl (a6.2.2.2.2.2.2 y bH).one dG fun cX dH e7 bJ=>?_;have bK:Ext aM cX:=dF.then dH fun r E he=>by have he:r=cW:=he;omega
 have bL:=a6.ext bK;have aQ:=bE.ext bK;have ci:=bF.ext bK;have bM:=bf.ext bK;obtain⟨e8,fa,cY,fb,fc,fd,cZ⟩:=id bL;obtain⟨⟨fe,c0⟩,_,dI,c1⟩:=cZ y bH;rw[ae aS.p rfl,V (v:=y.aN) (by kernel_rfl) (bJ.cell (o:=0+0) rfl),aI al.u c0.ls];have ff:aG.length=f.sizes.length:=by have:=congrArg X7 aO;rw[u7] at this;omega
 have fg:L.length≤256:=by have:=congrArg X7 aP;rw[u7] at this;omega
 rw[bc,aa];refine⟨fun fh=>?_,fun fi=>?_⟩
 ·
  have aT:y.sc=[]:=o8 (by omega);have ai:cO f (i+1)={cO f i with zero:=y.cs.getD 0 0}:=by rw[ce];unfold gu;simp only[cK,aT]
  have fj:y.cs.length=1:=by have:=cd.len;simpa[cK,aT,bI,aD] using this
  have dJ:y.cs[0]? =some (y.cs.getD 0 0):=by rw[u6,y0 (by omega)];rfl
  rw[ae aS.p rfl,V (v:=y.aH) (by kernel_rfl) (bJ.cell (o:=0+2) rfl),eS (y:=0) (i:=0) rfl ap.u aj.i (by kernel_rfl) c1.ls dJ,ae cL.p rfl];refine aZ aj.i rfl rfl aQ (by simp) fun dL az dM dN=>?_;refine ch _ ⟨bL.U az fun r E=>?_,X,ak,aG,aC,bD,L,?_,ci.U az (fun r E=>?_),by rw[ai];exact aO,be,bM.U az (fun r E W=>?_),bg,by rw[ai];exact aP,bh⟩
  ·have E:r=Y:=E;subst E;exact⟨by omega,ag,.inl ⟨_,aQ⟩⟩
  ·rw[ai];exact dN
  ·have E:r=Y:=E;subst E;exact⟨_,_,aQ,by decide,by decide⟩
  ·have W:r=Y:=W;subst W;exact b4 bM aQ (by decide) E
 rw[bc,aa];refine⟨fun h1=>?_,fun fk=>?_⟩
 ·
  obtain⟨v,aT⟩:∃ v,y.sc=[v]:=W8.1 (by omega);have fl:=cd.scope.1 v (by show v∈y.sc;rw[aT];exact .head _);have fm:=cd.vars v (by show v∈y.sc;rw[aT];exact .head _);have ai:cO f (i+1)={cO f i with unary:=(cO f i).unary.set v.toNat y.cs}:=by rw[ce];unfold gu;simp only[cK,aT]
  intro dO aE _ _;have cj:=aQ.ext aE;have c2:=bJ.ext aE;have bl:=ci.ext aE;have dQ:=bL.ext aE;have c3:=bM.ext aE;rw[ae cL.p rfl,V (v:=X) (by kernel_rfl) (cj.cell (o:=0+3) rfl),ae aS.p rfl,V (v:=y.aN) (by kernel_rfl) (c2.cell (o:=0+0) rfl)];refine oy (y:=0) (i:=0) rfl al.u ab.i (c0.ls.ext aE) (show y.sc[0]? =some v by rw[aT];rfl) fun b o dR=>?_;rw[V (by kernel_rfl) dR,ae aS.p rfl,V (v:=y.aH) (by kernel_rfl) (c2.cell (o:=0+2) rfl)];obtain⟨u,hu⟩:∃ u,aG[v.toNat]? =some u:=⟨_,y0 (by omega)⟩;rw[cr (i:=v.toNat) (by omega) eE.u ap.i bl.1 (by omega)];let a:ey:=⟨y.aH,y.cs⟩;have bN:=c1.ext aE;refine lH (f:=hv) (j:=0) (a:=u) (a':=a) ap.i bN.ls.cells.1 bN.ls.cells.2 bl.1 hu rfl (by omega) fun dL az dM dS=>?_;have aY:∀ {r:Nat},leadsTo X r→ ∃ c,ad dO r ap c:=fun E=>by
   obtain⟨rfl,c,O⟩:=dk bl.1 E;exact⟨c,O⟩
  refine ch _ ⟨dQ.U az fun r E=>?_,X,ak,aG.set v.toNat a,aC,bD,L,?_,⟨dS,fun z Z=>?_⟩,?_,be,c3.U az (fun r E W=>?_),bg,by rw[ai];exact aP,bh⟩
  ·obtain⟨c,O⟩:=aY E;exact⟨be r E,fun he=>(by subst he;exact absurd (ew O (cY.ext aE)) (by decide)),.inr (.inl ⟨c,O⟩)⟩
  ·rw[ai];exact cj.U az fun he=>b4 bl.1 cj (by decide) he
  ·rcases V2 Z with Z|rfl
   ·exact bl.nh az (fun r E=>by obtain⟨c,O⟩:=aY E;exact⟨_,c,O,by decide⟩) z Z
   ·exact⟨dI,aX bN az fun r E W=>by
     obtain⟨c,O⟩:=aY W;exact bB bN O (by decide) E rfl⟩
  ·rw[ai,List.map_set,aO]
  ·obtain⟨c,O⟩:=aY W;exact b4 c3 O (by decide) E
 ·
  have ai:cO f (i+1)={cO f i with funs:=(cO f i).funs++[cK y]}:=by
   rw[ce];unfold gu;have c4:2≤(cK y).1.length:=by show 2≤y.sc.length;omega
   generalize cK y=g at c4 ⊢;obtain⟨sc,cs⟩:=g
   match sc,c4 with
   |_::_::_,_=>rfl
  rw[ae cL.p rfl,V (v:=aC) (by kernel_rfl) (aQ.cell (o:=0+4) rfl),bj aS.p aS.i rfl (show cX.rangeAt cW 0 (cn y) from bJ.range)];refine eV (f:=cn) (k:=3) (a:=y) b5.u aS.i (by omega) rfl rfl fun fo fp dT fs a7 dU=>?_;have bO:=bM.ext a7;have dW:=ci.ext a7;have bQ:=aQ.ext a7;have dX:=bL.ext a7;refine e9 (f:=cn) (a:=y) b5.u aS.i rfl bO (by simpa using dU.sl) (cZ y bH).one (by omega) (by omega) fun b6 b7 ft bR b8 c5=>?_;have c6:=bQ.U c5 fun he=>b4 bO bQ (by decide) he;rw[ae cL.p rfl];refine aZ b5.i (cu bR.sl).1 (cu bR.sl).2 c6 (by simp) fun dY c7 fu dZ=>?_;have aB:af (fun r=>leadsTo aC r∨r=Y) dT dY:=(c5.mono fun r _ h=>.inl h).trans (c7.mono fun r _ h=>.inr h);have fv:=a7.size;refine ch _ ⟨dX.U aB fun r E=>?_,X,ak,aG,b6,b7,L++[y],?_,dW.U aB (fun r E=>?_),by rw[ai];exact aO,be,bR.U c7 (fun r E W=>?_),fun z Z=>?_,?_,fun r E=>?_⟩
  ·rcases E with E|rfl
   ·obtain⟨rfl,c,O⟩:=dk bO E;have:=bh _ E;refine⟨by omega,fun he=>?_,.inr (.inr ⟨⟨c,O⟩,this⟩)⟩;subst he;exact absurd (ew O (cY.ext a7)) (by decide)
   ·exact⟨by omega,ag,.inl ⟨_,bQ⟩⟩
  ·rw[ai];exact dZ
  ·rcases E with E|rfl
   ·obtain⟨rfl,c,O⟩:=dk bO E;exact⟨_,c,O,by decide,by decide⟩
   ·exact⟨_,_,bQ,by decide,by decide⟩
  ·have W:r=Y:=W;subst W;exact b4 bR c6 (by decide) E
  ·rcases p9.1 Z with Z|Z
   ·exact bg z Z
   ·rw[p8.1 Z];exact bH
  ·rw[ai,o9,aP];rfl
  ·rcases b8 r E with h|h
   ·exact bh r h
   ·omega
def fH (w:x2) (S:Nat→Prop) (e:u5):Prop:=∀ r,S r→ ∃ c,ad w r e c
theorem gV {w w':x2} {S:Nat→Prop} {e E:u5} {k:r9} {g:Nat} {v:x1} {l:List Int} (h:am k E w g v l) (J:af S w w') (O:fH w S e) (U:E≠e):am k E w' g v l:=aX h J fun r V W=>by
 obtain⟨c,X⟩:=O r W;exact bB h X U V rfl
theorem kQ {α:Type} {f:α→List x1} {k:Nat} {w w':x2} {S:Nat→Prop} {e E:u5} {g:Nat} {v:x1} {L:List α} (h:aR f k E w g v L) (J:af S w w') (O:fH w S e) (V:E≠e):aR f k E w' g v L:=h.U J fun r W X=>by
 obtain⟨c,Y⟩:=O r X;exact b4 h Y V W
theorem fs {w w':x2} {S:Nat→Prop} {e E:u5} {r:Nat} {c:List x1} (h:ad w r E c) (J:af S w w') (O:fH w S e) (V:E≠e):ad w' r E c:=h.U J fun W=>by
 obtain⟨c,X⟩:=O r W;exact V (ew h X)
theorem kR {α:Type} {f:α→List x1} {k:Nat} {w:x2} {e:u5} {g:Nat} {v:x1} {L:List α} (h:aR f k e w g v L):fH w (fun r=>leadsTo v r) e:=fun r E=>by
 obtain⟨rfl,c,J⟩:=dk h E;exact⟨c,J⟩
theorem jW {w:x2} {e:u5} {g:Nat} {c:List x1} (h:ad w g e c):fH w (fun r=>r=g) e:=fun r E=>by
 have E:r=g:=E;subst E;exact⟨c,h⟩
theorem r5 {w w':x2} {S:Nat→Prop} {e:u5} {sizes:List Int} {h:dQ} (E:dr w sizes h) (J:af S w w') (O:fH w S e) (h1:e≠ab) (U:e≠aj):dr w' sizes h:=jl E J fun r V=>by
 obtain⟨c,W⟩:=O r V;exact .inl ⟨e,c,W,h1,U⟩
def jm {α:Type} (f:α→x1) (L:List α):Prop:=∀ (i j:Nat) x y,L[i]? =some x→L[j]? =some y→i≠j→ ∀ r,leads (f x) r→¬leads (f y) r
theorem jm.nil {α:Type} (f:α→x1):jm f []:=fun i j x y h=>by simp at h
theorem jm.push {α:Type} {f:α→x1} {L:List α} {a:α} {b:Nat} (h:jm f L) (h1:∀ x∈L,∀ r,leads (f x) r→r<b) (V:∀ r,leads (f a) r→b≤r):jm f (L++[a]):=fun i j x y J Z aa r O U=>by
 have W:∀ {p:Nat} {z:α},(L++[a])[p]? =some z→L[p]? =some z∨(p=L.length∧z=a):=fun {p z} E=>by
  rw[List.getElem?_append] at E;split at E
  ·exact .inl E
  ·by_cases ab:p-L.length=0
   ·rw[ab] at E;cases E;exact .inr ⟨by omega,rfl⟩
   ·rw[c6 (by simp;omega)] at E;cases E
 rcases W J with X|⟨ae,ac⟩ <;> rcases W Z with Y|⟨eq,ad⟩
 ·exact h i j x y X Y aa r O U
 ·have:=h1 x (x4 X) r O;have:=V r (by rw[←ad];exact U);omega
 ·have:=h1 y (x4 Y) r U;have:=V r (by rw[←ac];exact O);omega
 ·omega
def r6 (b:Bool):List x1:=[.bool b]
abbrev hA:Type:=dQ×Bool
def lW (h:hA):List x1:=[h.1.aN,h.1.au,h.1.aH,.bool h.2]
def hB (h:hA):List Int×List Int×Bool:=(h.1.sc,h.1.cs,h.2)
def kS (f:gb):List Int×List Int×Bool:=(f.sc,f.cs,decide (f.live≠0))
def bD (x:gv):List Int:=((Y1 x.un.length).map fun v:Nat=>(v:Int)).filter fun v=>!dropped x.mask v
structure np where
 v:Int
 aN:x1
 bv:x1
 sc:List Int
 lP:List Int
def HT (h:np):List x1:=[.int .i64 h.v,h.aN,h.bv]
def yA (h:np):rO:=⟨h.v,h.sc,h.lP⟩
def hC (w:x2) (B:Nat) (v:x1) (D:List ey):Prop:=∃ g,aR hv 1 al w g v D∧(∀ h∈D,∃ g,am .i64 ab w g h.v h.l)∧ ∀ r,leadsTo v r→B≤r
def hD (w:x2) (B:Nat) (v:x1) (G:List Bool):Prop:=∃ g,aR r6 1 gI w g v G∧ ∀ r,leadsTo v r→B≤r
def gB (w:x2) (B:Nat) (v:x1) (aG:List ey):Prop:=∃ g,fq w g v aG∧(∀ r,leadsTo v r→B≤r)∧(∀ h∈aG,∀ r,leads h.v r→B≤r)∧jm (·.v) aG
def gW (w:x2) (B:Nat) (sizes:List Int) (v:x1) (L:List hA):Prop:=∃ g,aR lW 4 fv w g v L∧(∀ h∈L,dr w sizes h.1∧ ∀ r,leads h.1.aH r→B≤r)∧(∀ r,leadsTo v r→B≤r)∧jm (fun h=>h.1.aH) L
def jX (w:x2) (B:Nat) (v:x1) (E:List np):Prop:=∃ g,aR HT 3 ug w g v E∧(∀ h∈E,(∃ g,am .i64 ab w g h.aN h.sc)∧ ∃ g,am .i64 ab w g h.bv h.lP)∧ ∀ r,leadsTo v r→B≤r
theorem hC.ext {w w':x2} {B:Nat} {v:x1} {D:List ey} (h:hC w B v D) (J:Ext w w'):hC w' B v D:=by
 obtain⟨g,h1,E,O⟩:=h;exact⟨g,h1.ext J,fun x U=>by obtain⟨g,hm⟩:=E x U;exact⟨g,hm.ext J⟩,O⟩
theorem hD.ext {w w':x2} {B:Nat} {v:x1} {D:List Bool} (h:hD w B v D) (J:Ext w w'):hD w' B v D:=by
 obtain⟨g,h1,E⟩:=h;exact⟨g,h1.ext J,E⟩
theorem gB.ext {w w':x2} {B:Nat} {v:x1} {D:List ey} (h:gB w B v D) (J:Ext w w'):gB w' B v D:=by
 obtain⟨g,h1,E⟩:=h;exact⟨g,h1.ext J,E⟩
theorem gW.ext {w w':x2} {B:Nat} {sizes:List Int} {v:x1} {L:List hA} (h:gW w B sizes v L) (J:Ext w w'):gW w' B sizes v L:=by
 obtain⟨g,h1,E,U⟩:=h;exact⟨g,h1.ext J,fun x O=>⟨(E x O).1.ext J,(E x O).2⟩,U⟩
theorem jX.ext {w w':x2} {B:Nat} {v:x1} {E:List np} (h:jX w B v E) (J:Ext w w'):jX w' B v E:=by
 obtain⟨g,h1,O,U⟩:=h;exact⟨g,h1.ext J,fun x V=>by obtain⟨⟨W,X⟩,Y,Z⟩:=O x V;exact⟨⟨W,X.ext J⟩,Y,Z.ext J⟩,U⟩
theorem hC.bW {w w':x2} {S:Nat→Prop} {e:u5} {B:Nat} {v:x1} {D:List ey} (h:hC w B v D) (E:af S w w') (J:fH w S e) (h1:al≠e) (O:ab≠e):hC w' B v D:=by
 obtain⟨g,U,V,W⟩:=h;exact⟨g,kQ U E J h1,fun x X=>by obtain⟨g,hm⟩:=V x X;exact⟨g,gV hm E J O⟩,W⟩
theorem hD.bW {w w':x2} {S:Nat→Prop} {e:u5} {B:Nat} {v:x1} {D:List Bool} (h:hD w B v D) (E:af S w w') (J:fH w S e) (h1:gI≠e):hD w' B v D:=by
 obtain⟨g,O,U⟩:=h;exact⟨g,kQ O E J h1,U⟩
theorem gB.bW {w w':x2} {S:Nat→Prop} {e:u5} {B:Nat} {v:x1} {D:List ey} (h:gB w B v D) (E:af S w w') (J:fH w S e) (h1:ap≠e) (U:aj≠e):gB w' B v D:=by
 obtain⟨g,O,V⟩:=h;exact⟨g,⟨kQ O.1 E J h1,fun x W=>by obtain⟨g,hm⟩:=O.2 x W;exact⟨g,gV hm E J U⟩⟩,V⟩
theorem gW.bW {w w':x2} {S:Nat→Prop} {e:u5} {B:Nat} {sizes:List Int} {v:x1} {L:List hA} (h:gW w B sizes v L) (E:af S w w') (J:fH w S e) (h1:fv≠e) (V:e≠ab) (W:e≠aj):gW w' B sizes v L:=by
 obtain⟨g,X,O,Y⟩:=h;exact⟨g,kQ X E J h1,fun x U=>⟨r5 (O x U).1 E J V W,(O x U).2⟩,Y⟩
def ft (B:Nat) (w:x2) (v:x1) (k:Int) (sizes:List Int) (s:aU):Prop:=∃ au X E D J O aG U L V W,v= .agg #[.int .i64 k,au,.int .i64 s.zero,E,J,O,U,V]∧am .i64 ab w X au sizes∧hC w B E D∧D.map (·.l)=s.vars.map bD∧hD w B J (s.vars.map fun x=>decide (x.gone≠0))∧
 gB w B O aG∧aG.map (·.l)=s.vars.map (·.un)∧gW w B sizes U L∧L.map hB=s.funs.map kS∧jX w B V W∧W.map yA=s.kK∧ ∀ h∈aG,∀ x∈L,∀ r,leads h.v r→¬leads x.1.aH r
theorem ft.ext {B:Nat} {w w':x2} {v:x1} {k:Int} {sizes:List Int} {s:aU} (h:ft B w v k sizes s) (J:Ext w w'):ft B w' v k sizes s:=by
 obtain⟨au,E,O,D,U,V,aG,W,L,X,Y,h1,Z,aa,ab,ac,ad,ae,af,ag,ah,ai⟩:=h;exact⟨au,E,O,D,U,V,aG,W,L,X,Y,h1,Z.ext J,aa.ext J,ab,ac.ext J,ad.ext J,ae,af.ext J,ag,ah.ext J,ai⟩
theorem r7 {P:Y3} {w:x2} {k:r9} {t e:u5} {b:Nat} {z:x1} {K:x1→x2→Prop} (E:P.underlying t=some (.slice e)) (hi:aE P e 1 b z)
  (J:∀ v g w',g=w.heap.size→Ext w w'→am k e w' g v []→K v w'):aA P (j9 t 0 #[]) w K:=
 hM E hi (by omega) (cs:=#[]) (by simp[Instr.fill]) fun g w' O U V=>J _ g w' O U (am.of (n:=0) (br.full (by simpa using V) (by simp) (by simp[maxLen])))
theorem HU {w:x2} {v:x1} {n:bd} (h:r4 w v n) {w':x2} {g:Nat} (W:ad w' g cL v.cells.toList):∃ au O E U aG J V L,ad w' g cL [.int .i64 n.k,au,.int .i64 n.zero,E,J]∧am .i64 ab w O au n.sizes∧fq w U E aG∧aG.map (·.l)=n.unary∧aR cn 3 aS w V J L∧(∀ h∈L,dr w n.sizes h)∧L.map cK=n.funs:=by
 obtain⟨au,O,E,U,aG,J,V,L,rfl,X,Y,aa,Z,ac,ae⟩:=h;obtain⟨_,_,_,af⟩:=ct X.ls;obtain⟨_,_,_,_,_,ag,_⟩:=Y.1.sl;obtain⟨_,_,_,_,_,ah,_⟩:=Z.sl;refine⟨au,O,E,U,aG,J,V,L,?_,X,Y,aa,Z,ac,ae⟩;rw[af,ag,ah] at W ⊢;exact W
def z12:List x1:=[.int .i64 0,.slice none 0 0,.int .i64 0,.slice none 0 0,.slice none 0 0,.slice none 0 0,.slice none 0 0,.slice none 0 0]
theorem HV {w:x2} {B:Nat} {v:x1} {D:List ey} {a:ey} {ac:u5} {K:x1→x2→Prop} (h:hC w B v D) (ao:B≤w.heap.size) (V:∃ g,am .i64 ab w g a.v a.l) (ap:D.length≤1000)
  (ad:∀ E w',hC w' B E (D++[a])→E.cells= #[E]→E.oneCell'=true→af (fun r=>leadsTo v r) w w'→fH w (fun r=>leadsTo v r) al→(∀ r,leadsTo v r→B≤r)→K E w'):
  aA x5 (j9 dO 1 #[(0,a.v)]) w fun x Y=>aA x5 (l5 #[dO,dO] ac #[v,x]) Y K:=by
 obtain⟨g,h1,ae,Z⟩:=h;obtain⟨ag,V⟩:=V;refine eV (f:=hv) (k:=1) (a:=a) dO.u al.i (by omega) V.ls.cells.1 rfl fun aq au Y av O ah=>?_;refine e9 (f:=hv) (a:=a) dO.u al.i rfl (h1.ext O) (by simpa using ah.sl) (fun u hu=>by rw[p8.1 (show u∈[a.v] from hu)];exact V.ls.cells.2) (by omega) (by omega) fun E ai w' W aj X=>?_;have aa:=kR (h1.ext O);have aw:=O.size;refine ad E w' ⟨ai,W,fun x J=>?_,fun r ak=>(aj r ak).elim (Z r) fun h=>by omega⟩ (cu W.sl).1 (cu W.sl).2 ((O.U _).trans X) (kR h1) Z;rcases p9.1 J with J|J
 ·obtain⟨aJ,hm⟩:=ae x J;exact⟨aJ,gV (hm.ext O) X aa (by decide)⟩
 ·rw[p8.1 J];exact⟨ag,gV (V.ext O) X aa (by decide)⟩
theorem HW {w:x2} {B:Nat} {v:x1} {G:List Bool} {a:Bool} {X:u5} {K:x1→x2→Prop} (h:hD w B v G) (ae:B≤w.heap.size) (ag:G.length≤1000)
  (Y:∀ E w',hD w' B E (G++[a])→E.cells= #[E]→E.oneCell'=true→af (fun r=>leadsTo v r) w w'→fH w (fun r=>leadsTo v r) gI→(∀ r,leadsTo v r→B≤r)→K E w'):
  aA x5 (j9 ii 1 #[(0,.bool a)]) w fun x V=>aA x5 (l5 #[ii,ii] X #[v,x]) V K:=by
 obtain⟨g,h1,W⟩:=h;refine eV (f:=r6) (k:=1) (a:=a) ii.u gI.i (by omega) rfl rfl fun ah ai V aj J Z=>?_;refine e9 (f:=r6) (a:=a) ii.u gI.i rfl (h1.ext J) (by simpa using Z.sl) (fun u hu=>by rw[p8.1 (show u∈[.bool a] from hu)];rfl) (by omega) (by omega) fun E aa w' O ab ac=>?_;have ak:=J.size;exact Y E w' ⟨aa,O,fun r ad=>(ab r ad).elim (W r) fun h=>by omega⟩ (cu O.sl).1 (cu O.sl).2 ((J.U _).trans ac) (kR h1) W
theorem HX {w:x2} {B b0:Nat} {v:x1} {aG:List ey} {a:ey} {ac:u5} {P:x2→Prop} {K:x1→x2→Prop} (h:gB w B v aG) (aw:B≤b0) (ax:b0≤w.heap.size) (W:∃ g,am .i64 aj w g a.v a.l) (ag:∀ r,leads a.v r→b0≤r) (ad:∀ x∈aG,∀ r,leads x.v r→r<b0) (ay:aG.length≤1000) (ae:∀ E,Ext w E→P E)
  (ah:∀ O w',gB w' B O (aG++[a])→O.cells= #[O]→O.oneCell'=true→af (fun r=>leadsTo v r) w w'→fH w (fun r=>leadsTo v r) ap→(∀ r,leadsTo v r→B≤r)→K O w'):
  aA x5 (j9 eE 1 #[(0,a.v)]) w fun x E=>P E∧aA x5 (l5 #[eE,eE] ac #[v,x]) E K:=by
 obtain⟨g,⟨h1,ai⟩,aa,ak,al⟩:=h;obtain⟨ao,W⟩:=W;refine eV (f:=hv) (k:=1) (a:=a) eE.u ap.i (by omega) W.ls.cells.1 rfl fun az aB E aC V aq=>⟨ae E V,?_⟩;refine e9 (f:=hv) (a:=a) eE.u ap.i rfl (h1.ext V) (by simpa using aq.sl) (fun u hu=>by rw[p8.1 (show u∈[a.v] from hu)];exact W.ls.cells.2) (by omega) (by omega) fun O au w' Y av Z=>?_;have ab:=kR (h1.ext V);have aD:=V.size;refine ah O w' ⟨au,⟨Y,fun x J=>?_⟩,fun r X=>(av r X).elim (aa r) fun h=>by omega,fun x J r X=>?_,al.push ad ag⟩ (cu Y.sl).1 (cu Y.sl).2 ((V.U _).trans Z) (kR h1) aa
 ·rcases p9.1 J with J|J
  ·obtain⟨aJ,hm⟩:=ai x J;exact⟨aJ,gV (hm.ext V) Z ab (by decide)⟩
  ·rw[p8.1 J];exact⟨ao,gV (W.ext V) Z ab (by decide)⟩
 ·rcases p9.1 J with J|J
  ·exact ak x J r X
  ·rw[p8.1 J] at X;have:=ag r X;omega
theorem HY {w:x2} {sizes:List Int} {h:hA} (E:dr w sizes h.1):∀ u∈lW h,u.oneCell'=true:=fun u hu=>by
 have:=E.one;simp[lW] at hu;rcases hu with rfl|rfl|rfl|rfl
 ·exact this _ (by simp[cn])
 ·exact this _ (by simp[cn])
 ·exact this _ (by simp[cn])
 ·rfl
theorem HZ {w:x2} {B b0:Nat} {sizes:List Int} {v Z:x1} {L:List hA} {a:hA} {ae:u5} {P:x2→Prop} {K:x1→x2→Prop} (h:gW w B sizes v L) (aq:B≤b0) (au:b0≤w.heap.size) (aa:dr w sizes a.1) (ag:∀ r,leads a.1.aH r→b0≤r) (ah:∀ x∈L,∀ r,leads x.1.aH r→r<b0) (av:L.length≤1000) (ai:Z.cells=(lW a).toArray) (aj:∀ E,Ext w E→P E)
  (ak:∀ O w',gW w' B sizes O (L++[a])→O.cells= #[O]→O.oneCell'=true→af (fun r=>leadsTo v r) w w'→fH w (fun r=>leadsTo v r) fv→(∀ r,leadsTo v r→B≤r)→K O w'):
  aA x5 (j9 fN 1 #[(0,Z)]) w fun x E=>P E∧aA x5 (l5 #[fN,fN] ae #[v,x]) E K:=by
 obtain⟨g,h1,ab,ac,al⟩:=h;refine eV (f:=lW) (k:=4) (a:=a) fN.u fv.i (by omega) ai rfl fun aw ax E ay V am=>⟨aj E V,?_⟩;refine e9 (f:=lW) (a:=a) fN.u fv.i rfl (h1.ext V) (by simpa using am.sl) (HY aa) (by omega) (by omega) fun O ao w' W ap X=>?_;have ad:=kR (h1.ext V);have az:=V.size;refine ak O w' ⟨ao,W,fun x J=>?_,fun r Y=>(ap r Y).elim (ac r) fun h=>by omega,al.push ah ag⟩ (cu W.sl).1 (cu W.sl).2 ((V.U _).trans X) (kR h1) ac;rcases p9.1 J with J|J
 ·exact⟨r5 ((ab x J).1.ext V) X ad (by decide) (by decide),(ab x J).2⟩
 ·rw[p8.1 J];exact⟨r5 (aa.ext V) X ad (by decide) (by decide),fun r Y=>by have:=ag r Y;omega⟩
theorem H0 (u:List Int):bD (newVar u)=(Y1 u.length).map fun v:Nat=>(v:Int):=by
 unfold bD newVar dropped;rw[List.filter_eq_self.2];intro a _;simp
theorem gB.lt {w:x2} {B:Nat} {v:x1} {aG:List ey} (h:gB w B v aG):∀ x∈aG,∀ r,leads x.v r→r<w.heap.size:=fun x J r E=>by
 obtain⟨g,⟨h1,O⟩,_⟩:=h;obtain⟨aJ,hm⟩:=O x J;have:=bw hm E;omega
theorem gW.lt {w:x2} {B:Nat} {sizes:List Int} {v:x1} {L:List hA} (h:gW w B sizes v L):∀ x∈L,∀ r,leads x.1.aH r→r<w.heap.size:=fun x J r E=>by
 obtain⟨g,h1,O,_⟩:=h;obtain⟨_,_,aJ,hm⟩:=(O x J).1;have:=bw hm E;omega
set_option maxHeartbeats 8000000 in
theorem yB {w:x2} {cm:x1} {n:bd} (db:r4 w cm n) (aQ:gR n) (ag:n.funs.length≤256):ah x5 Ai [cm] w fun v w'=>Ext w w'∧ft w.heap.size w' v n.k n.sizes (cD n):=by
 have eX:=aQ.sizes.2.1;have dc:=aQ.hs;refine aq func70 ?_;refine a7 fun dd de eY bQ df=>?_;obtain⟨au,dg,cp,eZ,cq,cw,e0,bR,bf,aJ,dh,cz,bg,di,cA⟩:=HU db df;refine bi bq.i fun gt dj e1 bh bk=>?_;have bk:ad dj gt bq z12:=bk;have bS:=bf.ext bh;rw[ae cL.p rfl,V (v:=.int .i64 n.k) (by kernel_rfl) (bS.cell (o:=0+0) rfl),ae cL.p rfl,V (v:=au) (by kernel_rfl) (bS.cell (o:=0+1) rfl),ae cL.p rfl,V (v:=.int .i64 n.zero) (by kernel_rfl) (bS.cell (o:=0+2) rfl),
  cI (cs:=#[.int .i64 n.k,au,.int .i64 n.zero,.slice none 0 0,.slice none 0 0,.slice none 0 0,.slice none 0 0,.slice none 0 0]) (by obtain⟨_,_,_,e⟩:=ct aJ.ls;rw[e];kernel_rfl)]
 refine bi bq.i fun gs e2 e3 bU dk=>?_;refine bP (vs:=[.int .i64 n.k,au,.int .i64 n.zero,.slice none 0 0,.slice none 0 0,.slice none 0 0,.slice none 0 0,.slice none 0 0]) bq.i rfl rfl (fun u hu=>?_) dk fun bX bY e4 dl=>?_
 ·simp at hu;rcases hu with rfl|rfl|rfl|rfl
  ·rfl
  ·exact aJ.ls.cells.2
  ·rfl
  ·rfl
 have e5:=bQ.size;have e6:=bh.size;have e7:=bk.lt;have aT:gt≠gs:=by omega
 have bZ:Ext w bX:=((bQ.trans bh).trans bU).then bY fun r E he=>by have he:r=gs:=he;omega
 have cB:Ext de bX:=(bh.trans bU).then bY fun r E he=>by have he:r=gs:=he;omega
 have dm:=(bk.ext bU).U bY fun he=>aT he;have e8:w.heap.size≤gs:=by omega
 rw[ae cL.p rfl,V (v:=au) (by kernel_rfl) ((bf.ext cB).cell (o:=0+1) rfl),aI al.u (aJ.ext bZ).ls];have e9:=bZ.size;have fa:=bf.lt;refine bV.range n.sizes.length (fun i O=>Ext w O∧bX.heap.size≤O.heap.size∧ad O dd cL [.int .i64 n.k,au,.int .i64 n.zero,cp,cw]∧ad O gt bq z12∧ ∃ ac D Z X aG,ad O gs bq [.int .i64 n.k,au,.int .i64 n.zero,ac,Z,X,.slice none 0 0,.slice none 0 0]∧hC O w.heap.size ac D∧D.map (·.l)=(n.unary.take i).map (fun u=>bD (newVar u))∧hD O w.heap.size Z (v8 i false)∧gB O w.heap.size X aG∧aG.map (·.l)=n.unary.take i) (by omega)
  ⟨bZ,u9 _,bf.ext cB,dm,_,[],_,_,[],dl,⟨0,aR.nil _ _ _ _ _,fun x J=>(by cases J),fun r E=>(dp E).elim⟩,rfl,⟨0,aR.nil _ _ _ _ _,fun r E=>(dp E).elim⟩,⟨0,⟨aR.nil _ _ _ _ _,fun x J=>(by cases J)⟩,fun r E=>(dp E).elim,fun x J=>(by cases J),jm.nil _⟩,rfl⟩ ?_ ?_
 ·rintro i O dn hi ⟨ay,z5,b1,b2,ac,D,Z,X,aG,bl,b3,aU,b4,bm,aV⟩ dq;obtain⟨z,b7⟩:∃ z,n.sizes[i]? =some z:=⟨_,y0 hi⟩;obtain⟨u,hu⟩:∃ u,n.unary[i]? =some u:=⟨_,y0 (by omega)⟩;have fb:=aQ.sizes.2.2 z (x4 b7);obtain⟨fc,_⟩:=aQ.unary i z u b7 hu;have fd:D.length=i:=by have:=congrArg X7 aU;simp only[u7,o5] at this;omega
  have fe:aG.length=i:=by have:=congrArg X7 aV;simp only[u7,o5] at this;omega
  rw[ao,aa];refine⟨fun _=>?_,fun h=>by omega⟩;rw[a1 al.u ab.i (by kernel_rfl) (aJ.ext ay).ls b7];obtain⟨cC,rfl⟩:∃ m:Nat,z=m:=⟨z.toNat,by omega⟩;refine bM.range cC (fun j aW bn=>Ext O bn∧ ∃ g,am .i64 ab bn g aW ((Y1 j).map fun v:Nat=>(v:Int))∧ ∀ r,leads aW r→O.heap.size≤r) (by omega)
   ⟨Ext.refl _,0,am.nil _ _ _ _,fun r E=>by obtain⟨a,n,c,ai,av⟩:=E;cases ai⟩ ?_ ?_
  ·rintro j aW bn b8 b9 ⟨Y,cE,bo,ca⟩ cb;rw[ao,aa];refine⟨fun _=>?_,fun h=>by omega⟩;refine dC (k:=.i64) al.u ab.i rfl fun ff fg fh fi cc ds=>?_;refine fF al.u ab.i rfl (bo.ext cc) ds.ls (by simp;omega) (by simp;omega) fun fj dt fk du dv dw=>?_;rw[aF];have dx:=Y.size;have fl:=cc.size;refine cb _ _ ⟨(Y.trans cc).then dw fun r E he=>by have:=ca r he;omega,dt,?_,fun r E=>(dv r E).elim (ca r) fun h=>by omega⟩;rw[List.range_succ,o9];exact du
  rintro aW bn b8 ⟨Y,cE,bo,ca⟩;rw[ao,aa];refine⟨fun h=>by omega,fun _=>?_⟩;have dy:(Y1 cC).map (fun v:Nat=>(v:Int))=bD (newVar u):=by rw[H0];congr 2;omega
  rw[dy] at bo;have dx:=Y.size;have dz:=ay.size;rw[ae bq.p rfl,V (v:=ac) (by kernel_rfl) ((bl.ext Y).cell (o:=0+3) rfl)];refine HV (a:=⟨aW,bD (newVar u)⟩) (b3.ext Y) (by omega) ⟨cE,bo⟩ (by omega) fun cd fm dA ai av az aX dD=>?_;have cF:=fs (bl.ext Y) az aX (by decide);rw[ae bq.p rfl];refine aZ (g:=gs) (o:=3) dO.i ai av cF (by simp) fun bp aK fo br=>?_;have br:ad bp gs bq [.int .i64 n.k,au,.int .i64 n.zero,cd,Z,X,.slice none 0 0,.slice none 0 0]:=br;have bt:=jW cF;have cG:Ext w bp:=((ay.trans Y).then az fun r E he=>by have:=dD r he;omega).then aK fun r E he=>by have he:r=gs:=he;omega
  have dE:=fs (fs (b1.ext Y) az aX (by decide)) aK bt (by decide);have dF:=(fs (b2.ext Y) az aX (by decide)).U aK fun he=>aT he;have dG:=dA.bW aK bt (by decide) (by decide);have dH:=((b4.ext Y).bW az aX (by decide)).bW aK bt (by decide);have dI:=((bm.ext Y).bW az aX (by decide) (by decide)).bW aK bt (by decide) (by decide);have fp:O.heap.size≤bp.heap.size:=by have:=az.size;omega
  rw[ae bq.p rfl,V (v:=Z) (by kernel_rfl) (br.cell (o:=0+4) rfl)];refine HW (a:=false) dH (by omega) (by simp;omega) fun cH fq dJ aY dL aA a2 dM=>?_;have cJ:=fs br aA a2 (by decide);rw[ae bq.p rfl];refine aZ (g:=gs) (o:=4) ii.i aY dL cJ (by simp) fun ce aL fu cg=>?_;have cg:ad ce gs bq [.int .i64 n.k,au,.int .i64 n.zero,cd,cH,X,.slice none 0 0,.slice none 0 0]:=cg;have bu:=jW cJ;have fv:=cG.size;have dN:Ext w ce:=(cG.then aA fun r E he=>by have:=dM r he;omega).then aL fun r E he=>by have he:r=gs:=he;omega
  have dP:=fs (fs dE aA a2 (by decide)) aL bu (by decide);have dQ:=(fs dF aA a2 (by decide)).U aL fun he=>aT he;have dR:=(dG.bW aA a2 (by decide) (by decide)).bW aL bu (by decide) (by decide);have dS:=dJ.bW aL bu (by decide);have cM:=(dI.bW aA a2 (by decide) (by decide)).bW aL bu (by decide) (by decide);have fw:bp.heap.size≤ce.heap.size:=by have:=aA.size;omega
  intro bx ak _ _;have cN:=cg.ext ak;have cO:=dP.ext ak;have cP:=dN.trans ak;obtain⟨kT,bz⟩:∃ kT,cq[i]? =some kT:=⟨_,y0 (by have:=congrArg X7 cz;rw[u7] at this;omega)⟩;have dT:kT.l=u:=by
   have cQ:(cq.map (·.l))[i]? =some kT.l:=by rw[x6,bz];rfl
   rw[cz,hu] at cQ;exact (j5 cQ).symm
  have ch:=dh.ext cP;obtain⟨fx,cR⟩:=ch.2 kT (x4 bz);rw[dT] at cR;rw[ae bq.p rfl,V (v:=X) (by kernel_rfl) (cN.cell (o:=0+5) rfl),ae cL.p rfl,V (v:=cp) (by kernel_rfl) (cO.cell (o:=0+3) rfl),cr rfl eE.u ap.i ch.1 (x3.1 bz).1,V (v:=kT.v) (o:=i*1) (by kernel_rfl) (ch.1.range bz 0 _ rfl)];refine r7 (k:=.i64) ap.u aj.i fun dU fy fz fA bA cS=>?_;refine⟨.inl bA,?_⟩;refine fF ap.u aj.i rfl cS (cR.ext bA).ls (by simp;omega) (by simp;omega) fun cT dV dW cU dX dY=>?_;rw[List.nil_append] at cU;have fB:=ak.size;have fC:=bA.size;have cV:∀ r,leads dU r→bx.heap.size≤r:=fun r E=>by have:=(bw cS E).1;omega
  have dZ:∀ r,leads cT r→bx.heap.size≤r:=fun r E=>(dX r E).elim (cV r) fun h=>by omega
  have af:Ext bx dW:=bA.then dY fun r E he=>by have:=cV r he;omega
  refine⟨.inl af,?_⟩;have cW:=cP.trans af;have fD:=af.size;refine HX (a:=⟨cT,u⟩) (b0:=bx.heap.size) ((cM.ext ak).ext af) (by omega) (by omega) ⟨dV,cU⟩ dZ (cM.ext ak).lt (by omega) (fun fE ea=>.inl (af.trans ea)) fun eb fG ec ed ee aB a6 ef=>?_;have eg:=cN.ext af;have cX:=fs eg aB a6 (by decide);rw[ae bq.p rfl];refine aZ (g:=gs) (o:=5) eE.i ed ee cX (by simp) fun fH aM fI eh=>?_;have bB:=jW cX;rw[aF];have ei:=(dR.ext ak).ext af;have ej:=(dS.ext ak).ext af;have ek:=cO.ext af;have em:=(dQ.ext ak).ext af;have fJ:=cW.size;have fK:=aB.size;refine dq _ ⟨(cW.then aB fun r E he=>by have:=ef r he;omega).then aM fun r E he=>by have he:r=gs:=he;omega,by omega,fs (fs ek aB a6 (by decide)) aM bB (by decide),(fs em aB a6 (by decide)).U aM fun he=>aT he,cd,_,cH,eb,_,eh,(ei.bW aB a6 (by decide) (by decide)).bW aM bB (by decide) (by decide),?_,?_,ec.bW aM bB (by decide) (by decide),?_⟩
  ·rw[o9,aU,u4,hu,l9,o9];rfl
  ·have:=(ej.bW aB a6 (by decide)).bW aM bB (by decide);rw[List.replicate_succ'];exact this
  ·rw[o9,aV,u4,hu];rfl
 rintro O dn ⟨ay,z5,b1,b2,ac,D,Z,X,aG,bl,b3,aU,b4,bm,aV⟩;rw[ao,aa];refine⟨fun h=>by omega,fun _=>?_⟩;rw[b6 (by omega)] at aU aV;have fL:=bg.ext (bQ.trans (Ext.refl _));have fM:bR.length=n.funs.length:=by rw[←cA,u7]
 have en:=bg.ext ay;rw[ae cL.p rfl,V (v:=cw) (by kernel_rfl) (b1.cell (o:=0+4) rfl),dK b5.u en];have dz:=ay.size;refine bV.range bR.length (fun j W=>Ext w W∧O.heap.size≤W.heap.size∧ad W gt bq z12∧hC W w.heap.size ac D∧hD W w.heap.size Z (v8 n.sizes.length false)∧gB W w.heap.size X aG∧ ∃ aw L,ad W gs bq [.int .i64 n.k,au,.int .i64 n.zero,ac,Z,X,aw,.slice none 0 0]∧gW W O.heap.size n.sizes aw L∧L.map hB=(n.funs.take j).map (fun g=>kS (jS n.sizes g))) bg.le
  ⟨ay,u9 _,b2,b3,b4,bm,_,[],bl,⟨0,aR.nil _ _ _ _ _,fun x J=>(by cases J),fun r E=>(dp E).elim,jm.nil _⟩,rfl⟩ ?_ ?_
 ·rintro j W b8 b9 ⟨aC,ep,bC,bE,bF,bG,aw,L,bH,a8,ba⟩ cb;obtain⟨y,ci⟩:∃ y,bR[j]? =some y:=⟨_,y0 b9⟩;have cY:n.funs[j]? =some (cK y):=by rw[←cA,x6,ci];rfl
  have cZ:=(aQ.funs (cK y) (x4 cY)).1;have fO:y.cs.length≤4096:=by
   have h1:y.cs.length=_:=cZ.len;have fP:=cZ.small;omega
  have c0:=(di y (x4 ci)).ext aC;have fQ:L.length=j:=by have:=congrArg X7 ba;simp only[u7,o5] at this;omega
  have c1:=bg.ext aC;rw[ao,aa];refine⟨fun _=>?_,fun h=>by omega⟩;rw[cr rfl b5.u aS.i c1 b9,bj aS.p aS.i rfl (c1.range ci)];refine bi aS.i fun er fR fS es et=>?_;refine bP (vs:=cn y) aS.i rfl rfl c0.one et fun eu ev fT ew=>?_;have ey:Ext W eu:=es.then ev fun r E he=>by have he:r=er:=he;omega
  intro bI c2 _ _;have bb:=ey.trans c2;have ez:=bH.ext bb;have cj:=ew.ext c2;have c3:=c0.ext bb;obtain⟨⟨eA,ck⟩,⟨eB,cl⟩,fU,eC⟩:=id c3;rw[ae bq.p rfl,V (v:=aw) (by kernel_rfl) (ez.cell (o:=0+6) rfl),ae aS.p rfl,V (v:=y.aN) (by kernel_rfl) (cj.cell (o:=0+0) rfl),ae aS.p rfl,V (v:=y.au) (by kernel_rfl) (cj.cell (o:=0+1) rfl),ae aS.p rfl,V (v:=y.aH) (by kernel_rfl) (cj.cell (o:=0+2) rfl)];refine r7 (k:=.i64) ap.u aj.i fun v25 fV fW fX bJ c4=>?_;refine⟨.inl bJ,?_⟩;refine fF ap.u aj.i rfl c4 (eC.ext bJ).ls (by simp;omega) (by simp;omega) fun bK eD c5 bL eF eH=>?_;rw[List.nil_append] at bL;have fY:=bb.size;have z25:=bJ.size;have c6:∀ r,leads v25 r→bI.heap.size≤r:=fun r E=>by have:=(bw c4 E).1;omega
  have eI:∀ r,leads bK r→bI.heap.size≤r:=fun r E=>(eF r E).elim (c6 r) fun h=>by omega
  have ax:Ext bI c5:=bJ.then eH fun r E he=>by have:=c6 r he;omega
  refine⟨.inl ax,?_⟩;have fZ:=c3.ext ax;let a:hA:=(⟨y.aN,y.au,bK,y.sc,y.cs⟩,true);have eJ:dr c5 n.sizes a.1:=⟨⟨eA,ck.ext ax⟩,⟨eB,cl.ext ax⟩,eD,bL⟩;rw[cI (cs:=#[y.aN,y.au,bK]) (by obtain⟨_,_,_,ai⟩:=ct ck.ls;obtain⟨_,_,_,av⟩:=ct cl.ls;obtain⟨_,_,_,aY⟩:=ct bL.ls;rw[ai,av,aY];kernel_rfl),
   cI (cs:=#[y.aN,y.au,bK,.bool true]) (by obtain⟨_,_,_,ai⟩:=ct ck.ls;obtain⟨_,_,_,av⟩:=ct cl.ls;obtain⟨_,_,_,aY⟩:=ct bL.ls;rw[ai,av,aY];kernel_rfl)]
  have ga:=ax.size;have c7:=a8.ext bb;refine HZ (a:=a) (b0:=bI.heap.size) (c7.ext ax) (by omega) (by omega) eJ eI c7.lt (by omega) rfl (fun gb eK=>.inl (ax.trans eK)) fun eL gc eM ai av aD bc eN=>?_;have aE:=bb.trans ax;have c8:=fs (bH.ext aE) aD bc (by decide);rw[ae bq.p rfl];refine aZ (g:=gs) (o:=6) fN.i ai av c8 (by simp) fun gd aO ge eO=>?_;have bN:=jW c8;rw[aF];have c9:=aC.trans aE;have gf:=c9.size;have gg:=aD.size;have gh:=aE.size;refine cb _ ⟨(c9.then aD fun r E he=>by have:=eN r he;omega).then aO fun r E he=>by have he:r=gs:=he;omega,by omega,(fs (bC.ext aE) aD bc (by decide)).U aO fun he=>aT he,((bE.ext aE).bW aD bc (by decide) (by decide)).bW aO bN (by decide) (by decide),((bF.ext aE).bW aD bc (by decide)).bW aO bN (by decide),((bG.ext aE).bW aD bc (by decide) (by decide)).bW aO bN (by decide) (by decide),eL,_,eO,eM.bW aO bN (by decide) (by decide) (by decide),?_⟩;rw[o9,ba,u4,cY,l9,o9];rfl
 rintro W b8 ⟨aC,ep,bC,bE,bF,bG,aw,L,bH,a8,ba⟩;rw[b6 (by omega)] at ba;rw[ao,aa];refine⟨fun h=>by omega,fun _=>?_⟩;rw[bj bq.p bq.i rfl (show W.rangeAt gs 0 [.int .i64 n.k,au,.int .i64 n.zero,ac,Z,X,aw,.slice none 0 0] from bH.range)];have one:∀ {α:Type} {f:α→List x1} {k:Nat} {e:u5} {g:Nat} {v:x1} {M:List α},aR f k e W g v M→v.oneCell'=true:=fun h=>(cu h.sl).2;obtain⟨_,eP,_⟩:=id bE;obtain⟨_,bT,_⟩:=id bF;obtain⟨_,⟨eQ,_⟩,_⟩:=id bG;obtain⟨_,eR,_⟩:=id a8;refine bP (vs:=[.int .i64 n.k,au,.int .i64 n.zero,ac,Z,X,aw,.slice none 0 0]) bq.i rfl rfl (fun u hu=>?_) bC fun gi aP gj eS=>?_
 ·simp at hu;rcases hu with rfl|rfl|rfl|rfl|rfl|rfl|rfl|rfl
  ·rfl
  ·exact aJ.ls.cells.2
  ·rfl
  ·exact one eP
  ·exact one bT
  ·exact one eQ
  ·exact one eR
  ·rfl
 rw[eo bq.p bq.i rfl eS.range];have be:=jW bC;have gk:=aC.size;refine⟨aC.then aP fun r E he=>by have he:r=gt:=he;omega,au,dg,ac,D,Z,X,aG,aw,L,_,[],rfl,gV (aJ.ext aC) aP be (by decide),bE.bW aP be (by decide) (by decide),?_,?_,bG.bW aP be (by decide) (by decide),?_,?_,?_,⟨0,aR.nil _ _ _ _ _,fun x J=>(by cases J),fun r E=>(dp E).elim⟩,rfl,fun h eT x J r E eU=>?_⟩
 ·rw[aU];show _=(n.unary.map newVar).map bD;rw[List.map_map];rfl
 ·have:=bF.bW aP be (by decide);have e:(cD n).vars.map (fun x=>decide (x.gone≠0))=v8 n.sizes.length false:=by
   show (n.unary.map newVar).map _=_;rw[List.map_map,←dc];exact List.map_const' ..
  rw[e];exact this
 ·rw[aV];show _=(n.unary.map newVar).map _;rw[List.map_map];exact (List.map_id _).symm
 ·have:=a8.bW aP be (by decide) (by decide) (by decide);obtain⟨g,da,bO,eV,eW⟩:=this;exact⟨g,da,fun x J=>⟨(bO x J).1,fun r E=>by have:=(bO x J).2 r E;omega⟩,fun r E=>by have:=eV r E;omega,eW⟩
 ·rw[ba];show _=(n.funs.map (jS n.sizes)).map kS;rw[List.map_map];rfl
 ·have h1:=bm.lt h eT r E;obtain⟨g,da,bO,_⟩:=a8;have:=(bO x J).2 r eU;omega
section
variable {P:Y3} {w:x2} {t:u5} {cx cy:Bool} {a b:Nat} {K:x1→Prop}
theorem H1 (U:a<2 ^ 62) (E:b<2 ^ 62):O P (aB .and t cx cy (.int .i64 a) (.int .i64 b)) w K=K (.int .i64 ((a &&& b:Nat):Int)):=O.of fun w' _=>by
 have e:(V0 64 (a:Int) &&& V0 64 (b:Int)).toNat=a &&& b:=by
  rw[lv,lv,BitVec.toNat_and,BitVec.toNat_ofNat,BitVec.toNat_ofNat,Nat.mod_eq_of_lt (by omega),Nat.mod_eq_of_lt (by omega)]
 have V:a &&& b<2 ^ 62:=Nat.and_lt_two_pow _ E;have hw:X0.wrap ((a &&& b:Nat):Int)=((a &&& b:Nat):Int):=wrap_i64 (by omega) (by omega);have J:(V0 X0.bits (a:Int) &&& V0 X0.bits (b:Int)).toNat=a &&& b:=e;simp only[aB,eqGuard,binOp,Op.intBits,J,hw];rfl
end
theorem yC (a n:Nat):(a / 2 ^ n &&& 1=1)↔a.testBit n=true:=by
 rw[Nat.and_one_is_mod,Nat.testBit_eq_decide_div_mod_eq,decide_eq_true_eq]
theorem H2 {b n:Nat} {v:Int} {w:x2} (W:jL b n):ah x5 zU [gP b n,.int .i64 v] w fun r w'=>r= .bool (decide (0≤v∧v<n)&&b.testBit v.toNat)∧Ext w w':=by
 refine aq func15 ?_;refine a7 fun g ac ad J O=>?_;refine aL (fun r X=>r= .bool (decide (0≤v∧v<n)&&b.testBit v.toNat)∧Ext w X) (fun _ _ h=>h) fun af U=>?_;rw[bj bz.p bz.i rfl O.range];refine vu.mono ?_;rintro _ ag _ ⟨rfl,E⟩;rw[aa];refine⟨fun h=>?_,fun h=>U _ _ ⟨by rw[decide_eq_false h];rfl,J.trans E⟩⟩;obtain⟨Y,ai⟩:=W;obtain⟨s,rfl⟩:∃ s:Nat,v=s:=⟨v.toNat,by omega⟩;have Z:=O.ext E;have aj:(2:Nat) ^ n≤2 ^ 32:=Nat.pow_le_pow_right (by omega) Y;have ab:b / 2 ^ s<2 ^ 64:=Nat.lt_of_le_of_lt (Nat.div_le_self _ _) (by omega);rw[ae bz.p rfl,V (v:=.int .u64 (b:Int)) (by kernel_rfl) (Z.cell (o:=0+0) rfl),oz (by omega),show (1:Int)=((1:Nat):Int) from rfl,u64_and ab (by omega),bc];refine U _ _ ⟨?_,J.trans E⟩;congr 1;rw[decide_eq_true h,Bool.true_and,X5,decide_eq_true_eq,c8,←yC];omega
theorem H3 (m v:Nat):dropped (m:Int) (v:Int)=m.testBit v:=by unfold dropped;rw[c8,c8]
def cz (w:x2) (az gT:Nat) (A R:an) (n:bd) (s:aU) (t:aM):Prop:=StateM w az gT A R n s t∧t.bF=s.cells∧nj t∧hx n.k n.sizes s∧gR n
theorem cz.ext {w w':x2} {az gT:Nat} {A R:an} {n:bd} {s:aU} {t:aM} (h:cz w az gT A R n s t) (J:Ext w w'):cz w' az gT A R n s t:=⟨h.1.ext J,h.2⟩
theorem StateM.parts {w:x2} {az gT:Nat} {A R:an} {n:bd} {s:aU} {t:aM} (h:StateM w az gT A R n s t):∃ E J O U V W L X,ad w az ch [.pointer (some ⟨E,0,none⟩),.pointer (some ⟨gT,0,none⟩),J,O,U]∧eO w E n∧dy w gT X t∧am .i64 ab w V J (gS s)∧aR lT 3 eF w W O L∧ji R w L s:=by
 obtain⟨E,J,O,U,_,V,W,ah,L,ai,X,w0,Y,⟨Z,aa,aj⟩,⟨ac,ak,al,ao⟩,ae,⟨af,ag⟩,ap,aq⟩:=h;exact⟨E,J,O,U,V,W,L,X,Y,Z.ext aa,ac,ae,af,ag⟩
theorem sa {s:aU} {i:Nat} (h:i<s.vars.length):(gS s)[i]? =some (gw s i:Int):=by
 unfold gS;rw[x6,List.getElem?_range h];rfl
theorem nq {s:aU} {t:aM} (ac:t.bF=s.cells) (E:nj t):s.cells.length≤100000000:=by
 rw[←ac];unfold aM.bF;rw[u7];exact E.1
theorem yD {s:aU} {i:Nat} {x:gv} (h:s.vars[i]? =some x):gw s i+x.un.length+2≤s.cells.length:=by
 have h1:=px h (j:=x.un.length+1) (by omega);have E:(iD x)[x.un.length+1]? ≠none:=by
  rw[Ne,List.getElem?_eq_none_iff];show ¬(x.un.length+1+1≤x.un.length+1);omega
 rw[←h1] at E;have:=(x3.1 (Option.ne_none_iff_exists'.1 E).choose_spec).1;omega
theorem yE {s:aU} {j:Nat} {f:gb} (h:s.funs[j]? =some f):e0 s j+f.cs.length+1≤s.cells.length:=by
 have h1:=rP h (j:=f.cs.length) (by omega);have E:(fE f)[f.cs.length]? ≠none:=by
  rw[Ne,List.getElem?_eq_none_iff];show ¬(f.cs.length+1≤f.cs.length);omega
 rw[←h1] at E;have:=(x3.1 (Option.ne_none_iff_exists'.1 E).choose_spec).1;omega
section
variable {w:x2} {az gT:Nat} {A R:an} {n:bd} {s:aU} {t:aM}
theorem yF (h:cz w az gT A R n s t):ah x5 tF [.pointer (some ⟨az,0,none⟩)] w fun v w'=>(∃ E,v= .pointer (some ⟨E,0,none⟩)∧eO w' E n)∧Ext w w':=by
 obtain⟨E,U,W,X,Y,Z,L,aa,J,O,ab,ac,ad,af⟩:=h.1.parts;refine aq func49 ?_;rw[cB dS.u];simp only[c5,aP];rw[ax,ae ch.p rfl,V (v:=.pointer (some ⟨E,0,none⟩)) (by kernel_rfl) (J.cell (o:=0+0) rfl)];exact⟨⟨E,rfl,O⟩,Ext.refl _⟩
theorem H4 (h:cz w az gT A R n s t):ah x5 tI [.pointer (some ⟨az,0,none⟩)] w fun v w'=>v= .int .i64 (n.sizes.length:Int)∧Ext w w':=by
 refine aq func60 ?_;refine (yF h).mono ?_;rintro _ U _ ⟨⟨V,rfl,E⟩,J⟩;refine (rQ E).mono ?_;rintro _ W _ ⟨rfl,O⟩;exact⟨rfl,J.trans O⟩
theorem sb (h:cz w az gT A R n s t):ah x5 Aa [.pointer (some ⟨az,0,none⟩)] w fun v w'=>v= .int .i64 n.k∧Ext w w':=by
 refine aq func59 ?_;refine (yF h).mono ?_;rintro _ U _ ⟨⟨V,rfl,E⟩,J⟩;refine (G3 E).mono ?_;rintro _ W _ ⟨rfl,O⟩;exact⟨rfl,J.trans O⟩
theorem sd {i:Int} (h:cz w az gT A R n s t):ah x5 Am [.pointer (some ⟨az,0,none⟩),.int .i64 i] w fun v w'=>v= .bool (decide (0≤i∧i<n.sizes.length))∧Ext w w':=by
 refine aq func75 ?_;refine aL (fun v E=>v= .bool (decide (0≤i∧i<n.sizes.length))∧Ext w E) (fun _ _ h=>h) fun V J=>?_;rw[ca,aa];refine⟨fun O=>?_,fun O=>J _ _ ⟨by rw[decide_eq_false (by omega)],Ext.refl _⟩⟩;refine (H4 h).mono ?_;rintro _ E _ ⟨rfl,U⟩;rw[ao];refine J _ _ ⟨?_,U⟩;congr 1;exact decide_eq_decide.2 ⟨fun h=>⟨O,h⟩,fun h=>h.2⟩
theorem pD (h:cz w az gT A R n s t):ah x5 zW [.pointer (some ⟨az,0,none⟩)] w fun v w'=>v= .int .i64 (s.funs.length:Int)∧Ext w w':=by
 obtain⟨W,X,E,Y,Z,aa,L,ab,J,ac,ad,af,O,U⟩:=h.1.parts;refine aq func19 ?_;rw[cB dS.u];simp only[c5,aP];rw[ax,ae ch.p rfl,V (v:=E) (by kernel_rfl) (J.cell (o:=0+3) rfl),dK dZ.u O];exact⟨by rw[U.1],Ext.refl _⟩
def kU (s:aU) (i:Nat):Bool:=match s.vars[i]? with
 |some x=>decide (x.gone≠0)
 |none=>false
theorem H5 {i:Int} (h:cz w az gT A R n s t):ah x5 Ac [.pointer (some ⟨az,0,none⟩),.int .i64 i] w fun v w'=>v= .bool (decide (0≤i)&&kU s i.toNat)∧Ext w w':=by
 refine aq func63 ?_;refine aL (fun v X=>v= .bool (decide (0≤i)&&kU s i.toNat)∧Ext w X) (fun _ _ h=>h) fun ak E=>?_;intro am O _ _;refine (sd (h.ext O)).mono ?_;rintro _ ao _ ⟨rfl,Y⟩;have J:=O.trans Y;have ap:=h.2.2.2.1.vars;rw[aa];refine⟨fun Z=>?_,fun au=>E _ _ ⟨?_,J⟩⟩
 ·obtain⟨av,ac,aw,ay,aA,aB,L,aC,U,aD,ad,af,aE,aF⟩:=(h.ext J).1.parts;obtain⟨x,W⟩:∃ x,s.vars[i.toNat]? =some x:=⟨_,y0 (by omega)⟩;rw[ax,ae ch.p rfl,V (v:=.pointer (some ⟨gT,0,none⟩)) (by kernel_rfl) (U.cell (o:=0+1) rfl),ax,ae ch.p rfl,V (v:=ac) (by kernel_rfl) (U.cell (o:=0+2) rfl),eS (y:=i) (i:=i.toNat) (by omega) al.u ab.i (by kernel_rfl) af.ls (sa (by omega))];have ag:t.bF[gw s i.toNat+0]? =some x.gone:=by rw[h.2.1,px W (by omega)];rfl
  refine (ni (i:=gw s i.toNat) ad rfl ag).mono ?_;rintro _ aG _ ⟨rfl,ai⟩;rw[be];refine E _ _ ⟨?_,J.trans ai⟩;rw[decide_eq_true Z.1,Bool.true_and];unfold kU;rw[W]
 ·by_cases aj:0≤i
  ·unfold kU;rw[c6 (by omega),Bool.and_false]
  ·rw[decide_eq_false aj];rfl
def jY (n:bd) (i v:Int):Prop:=0≤i∧i<n.sizes.length∧0≤v∧v<n.sizes.getD i.toNat 0
instance (n:bd) (i v:Int):Decidable (jY n i v):=inferInstanceAs (Decidable (_∧_))
theorem jY.var {i v:Int} (ac:jY n i v) (E:hx n.k n.sizes s):∃ x,s.vars[i.toNat]? =some x∧v.toNat<x.un.length∧x.un.length≤32∧n.sizes.getD i.toNat 0=x.un.length:=by
 obtain⟨h1,V,W,U⟩:=ac;have X:=E.vars;obtain⟨x,J⟩:∃ x,s.vars[i.toNat]? =some x:=⟨_,y0 (by omega)⟩;obtain⟨z,O⟩:∃ z,n.sizes[i.toNat]? =some z:=⟨_,y0 (by omega)⟩;have Y:=E.py.2.2 z (x4 O);have Z:=(E.var i.toNat x z J O).1;rw[u6,O,Option.getD_some] at U ⊢;exact⟨x,J,by omega,by omega,by omega⟩
theorem H6 {i v:Int} (h:cz w az gT A R n s t):ah x5 Ak [.pointer (some ⟨az,0,none⟩),.int .i64 i,.int .i64 v] w fun r w'=>r= .int .i64 (if jY n i v then ((gw s i.toNat+2+v.toNat:Nat):Int) else-1)∧Ext w w':=by
 have aG:=h.2.2.2.1.vars;refine aq func72 ?_;refine aL (fun r Y=>r= .bool (decide (¬jY n i v))∧Ext w Y) ?_ ?_
 ·rintro _ Y ⟨rfl,W⟩;rw[aa];refine⟨fun aj=>⟨by rw[if_neg aj],W⟩,fun O=>?_⟩;have O:=Z7.1 O;obtain⟨x,ak,aH,aI,_⟩:=O.var h.2.2.2.1;obtain⟨Z,ad,am,ap,au,av,L,aw,E,af,ay,ag,aA,aB⟩:=(h.ext W).1.parts;have ai:=yD ak;have aJ:=nq h.2.1 h.2.2.1;obtain⟨h1,aK,aM,aN⟩:=id O;rw[ax,ae ch.p rfl,V (v:=ad) (by kernel_rfl) (E.cell (o:=0+2) rfl),eS (y:=i) (i:=i.toNat) (by omega) al.u ab.i (by kernel_rfl) ag.ls (sa (by omega)),aF,wrap_i64 (by omega) (by omega),aF,wrap_i64 (by omega) (by omega),if_pos O];refine⟨?_,W⟩;congr 1;omega
 ·intro aO X;refine (sd h).mono ?_;rintro _ aP _ ⟨rfl,U⟩;rw[bJ,b3];refine⟨fun E=>?_,fun E=>?_⟩
  ·have E:¬(0≤i∧i<n.sizes.length):=fun aC=>by rw[decide_eq_true aC] at E;cases E
   exact X _ _ ⟨by rw[decide_eq_true];exact fun J=>E ⟨J.1,J.2.1⟩,U⟩
  have E:0≤i∧i<n.sizes.length:=by simpa using E
  rw[ao,aa];refine⟨fun ac=>X _ _ ⟨by rw[decide_eq_true];exact fun J=>by have:=J.2.2.1;omega,U⟩,fun ac=>?_⟩;obtain⟨Z,ad,am,ap,au,av,L,aw,aD,af,ay,ag,aA,aB⟩:=(h.ext U).1.parts;rw[ax,ae ch.p rfl,V (v:=.pointer (some ⟨Z,0,none⟩)) (by kernel_rfl) (aD.cell (o:=0+0) rfl)];refine (xW af h.2.2.2.2).mono ?_;rintro _ aQ _ ⟨aE,rfl⟩;rw[if_pos E.1,ca];refine X _ _ ⟨?_,U.trans aE⟩;congr 1;refine decide_eq_decide.2 ⟨fun h J=>?_,fun h=>?_⟩
  ·have:=J.2.2.2;omega
  ·refine Int.not_lt.1 fun ai=>h ⟨E.1,E.2,by omega,ai⟩
def pE (s:aU) (i v:Nat):Int:=match s.vars[i]? with
 |some x=>x.un.getD v 0
 |none=>0
theorem H7 {i v:Int} (h:cz w az gT A R n s t):ah x5 tG [.pointer (some ⟨az,0,none⟩),.int .i64 i,.int .i64 v] w fun r w'=>r=(if jY n i v then .tuple #[.int .i64 (pE s i.toNat v.toNat),.int .i64 0] else .tuple #[.int .i64 0,.int .i64 1])∧Ext w w':=by
 refine aq func52 ?_;rw[cB dS.u];simp only[c5,aP];refine (H6 h).mono ?_;rintro _ ab _ ⟨rfl,J⟩;by_cases E:jY n i v
 ·rw[if_pos E,if_pos E,ao,aa];refine⟨fun h=>by omega,fun _=>?_⟩;obtain⟨x,O,U,ac,_⟩:=E.var h.2.2.2.1;obtain⟨ad,af,ag,ai,aj,ak,L,al,W,am,X,ap,au,av⟩:=(h.ext J).1.parts;rw[ax,ae ch.p rfl,V (v:=.pointer (some ⟨gT,0,none⟩)) (by kernel_rfl) (W.cell (o:=0+1) rfl)];have Y:t.bF[gw s i.toNat+2+v.toNat]? =some (x.un.getD v.toNat 0):=by
   rw[h.2.1,Nat.add_assoc,px O (by omega),show 2+v.toNat=v.toNat+1+1 by omega];show x.un[v.toNat]? =_;rw[u6,y0 U];rfl
  refine (ni (i:=gw s i.toNat+2+v.toNat) X rfl Y).mono ?_;rintro _ aw _ ⟨rfl,Z⟩;refine⟨?_,J.trans Z⟩;unfold pE;rw[O]
 ·rw[if_neg E,if_neg E,ao,aa];exact⟨fun _=>⟨rfl,J⟩,fun h=>by omega⟩
def eA (s:aU) (j:Nat):Bool:=match s.funs[j]? with
 |some f=>decide (f.live≠0)
 |none=>false
theorem se {j:Int} (h:cz w az gT A R n s t):ah x5 zV [.pointer (some ⟨az,0,none⟩),.int .i64 j] w fun v w'=>v= .bool (decide (0≤j)&&eA s j.toNat)∧Ext w w':=by
 refine aq func18 ?_;refine aL (fun v ab=>v= .bool (decide (0≤j)&&eA s j.toNat)∧Ext w ab) (fun _ _ h=>h) fun al E=>?_;intro am O _ _;rw[ca,aa];refine⟨fun U=>?_,fun U=>E _ _ ⟨by rw[decide_eq_false U];rfl,O⟩⟩;refine (pD (h.ext O)).mono ?_;rintro _ ap _ ⟨rfl,ac⟩;have J:=O.trans ac;rw[ao,aa];refine⟨fun au=>?_,fun av=>E _ _ ⟨?_,J⟩⟩
 ·obtain⟨aw,ay,ad,aA,aB,aC,L,aD,X,aE,af,aF,Y,W⟩:=(h.ext J).1.parts;obtain⟨f,ag⟩:∃ f,s.funs[j.toNat]? =some f:=⟨_,y0 (by omega)⟩;obtain⟨y,Z⟩:∃ y,L[j.toNat]? =some y:=⟨_,y0 (by rw[W.1];omega)⟩;obtain⟨_,_,ai⟩:=W.2 j.toNat y f Z ag;rw[ax,ae ch.p rfl,V (v:=.pointer (some ⟨gT,0,none⟩)) (by kernel_rfl) (X.cell (o:=0+1) rfl),ax,ae ch.p rfl,V (v:=ad) (by kernel_rfl) (X.cell (o:=0+3) rfl),cr (i:=j.toNat) (by omega) dZ.u eF.i Y (by rw[W.1];omega),ae eF.p rfl,V (v:=.int .i64 (y.at_:Int)) (by kernel_rfl) (Y.range Z 2 _ rfl)];have aj:t.bF[e0 s j.toNat+0]? =some f.live:=by rw[h.2.1,rP ag (by omega)];rfl
  refine (ni (i:=e0 s j.toNat) af (by rw[ai]) aj).mono ?_;rintro _ aG _ ⟨rfl,ak⟩;rw[be];refine E _ _ ⟨?_,J.trans ak⟩;rw[decide_eq_true U,Bool.true_and];unfold eA;rw[ag]
 ·unfold eA;rw[c6 (by omega),Bool.and_false]
end
def sf (s:aU) (n:bd) (i:Int) (b m:Nat):Prop:=jL b m∧(¬(0≤i∧i<n.sizes.length)→b=0∧m=0)∧ ∀ x,0≤i→s.vars[i.toNat]? =some x→m=x.un.length∧ ∀ j:Nat,b.testBit j=(decide (j<x.un.length)&& !dropped x.mask (j:Int))
section
variable {w:x2} {az gT:Nat} {A R:an} {n:bd} {s:aU} {t:aM}
theorem pF {i:Int} (h:cz w az gT A R n s t):ah x5 zT [.pointer (some ⟨az,0,none⟩),.int .i64 i] w fun v w'=>(∃ b m,v=gP b m∧sf s n i b m)∧Ext w w':=by
 have bL:=h.2.2.2.1.vars;refine aq func14 ?_;refine bi bz.i fun O bb bM aL au=>?_;have au:ad bb O bz [.int .u64 0,.int .i64 0]:=au;refine (sd (h.ext aL)).mono ?_;rintro _ bN _ ⟨rfl,aM⟩;have aw:=au.ext aM;have ay:=aL.trans aM;rw[bJ,b3];refine⟨fun W=>?_,fun W=>?_⟩
 ·have W:¬(0≤i∧i<n.sizes.length):=fun bd=>by rw[decide_eq_true bd] at W;cases W
  rw[cI (cs:=#[.int .u64 0,.int .i64 0]) (by kernel_rfl)];refine bP (vs:=[.int .u64 0,.int .i64 0]) bz.i rfl rfl (by intro u hu;simp at hu;rcases hu with rfl|rfl <;> rfl) aw fun bO be bQ bf=>?_;rw[eo bz.p bz.i rfl bf.range];refine⟨⟨0,0,rfl,⟨by omega,by simp⟩,fun _=>⟨rfl,rfl⟩,fun x aN J=>?_⟩,ay.then be fun r aA he=>by have he:r=O:=he;omega⟩;have:=(x3.1 J).1;exact absurd ⟨aN,by omega⟩ W
 have W:0≤i∧i<n.sizes.length:=by simpa using W
 obtain⟨x,Z⟩:∃ x,s.vars[i.toNat]? =some x:=⟨_,y0 (by omega)⟩;obtain⟨z,aB⟩:∃ z,n.sizes[i.toNat]? =some z:=⟨_,y0 (by omega)⟩;have bg:=h.2.2.2.1.py.2.2 z (x4 aB);obtain⟨bR,_,bS,bT⟩:=h.2.2.2.1.var i.toNat x z Z aB;obtain⟨aO,aP,bh,bk,bl,bm,L,bn,ac,aQ,_⟩:=(h.ext ay).1.parts;rw[ax,ae ch.p rfl,V (v:=.pointer (some ⟨aO,0,none⟩)) (by kernel_rfl) (ac.cell (o:=0+0) rfl)];refine (xW aQ h.2.2.2.2).mono ?_;rintro _ bU _ ⟨aC,rfl⟩;rw[if_pos W.1,u6,aB,Option.getD_some];refine Ds.mono ?_;rintro _ bW _ ⟨aD,rfl⟩;rw[if_pos bg];obtain⟨m,rfl⟩:∃ m:Nat,z=m:=⟨z.toNat,by omega⟩;rw[av (v:=gP (2 ^ (m:Int).toNat-1) (m:Int).toNat) rfl,av (v:=.int .i64 0) rfl,c8];have aR:=(ay.trans aC).trans aD;refine bi bz.i fun E bX bY aS bo=>?_;refine bP (vs:=[.int .u64 ((2 ^ m-1:Nat):Int),.int .i64 (m:Int)]) bz.i rfl rfl (by intro u hu;simp at hu;rcases hu with rfl|rfl <;> rfl) bo fun aT aU bZ bp=>?_;have z5:=aR.size;have aV:Ext w aT:=(aR.trans aS).then aU fun r aA he=>by have he:r=E:=he;omega
 have b1:=(((aw.ext aC).ext aD)).lt;have bq:ad aT O bz [.int .u64 0,.int .i64 0]:=(((aw.ext aC).ext aD).ext aS).U aU fun he=>by have he:O=E:=he;omega
 intro b2 aE _ _;have aW:=aV.trans aE;obtain⟨aO,aP,bh,bk,bl,bm,L,bn,ac,aQ,br,bt,_⟩:=(h.ext aW).1.parts;have b4:=yD Z;have b5:=nq h.2.1 h.2.2.1;rw[ax,ae ch.p rfl,V (v:=.pointer (some ⟨gT,0,none⟩)) (by kernel_rfl) (ac.cell (o:=0+1) rfl),ax,ae ch.p rfl,V (v:=aP) (by kernel_rfl) (ac.cell (o:=0+2) rfl),eS (y:=i) (i:=i.toNat) (by omega) al.u ab.i (by kernel_rfl) bt.ls (sa (by omega)),aF,wrap_i64 (by omega) (by omega)];have bu:t.bF[gw s i.toNat+1]? =some x.mask:=by rw[h.2.1,px Z (by omega)];rfl
 refine (ni (i:=gw s i.toNat+1) br (by omega) bu).mono ?_;rintro _ bw _ ⟨rfl,aG⟩;have aX:=(bp.ext aE).ext aG;have bx:=(bq.ext aE).ext aG;obtain⟨mk,aY⟩:∃ mk:Nat,x.mask=mk:=⟨x.mask.toNat,by omega⟩;rw[bj bz.p bz.i rfl (show bw.rangeAt E 0 [.int .u64 ((2 ^ m-1:Nat):Int),.int .i64 (m:Int)] from aX.range)];refine (vv (b:=2 ^ m-1) (n:=m)).mono ?_;rintro _ b6 _ ⟨rfl,aH⟩;have bA:=aW.trans aG;have bB:O≠E:=by omega
 have b7:=aV.size;have b8:w.heap.size≤E:=by omega
 have b9:w.heap.size≤O:=by omega
 refine bV.range m (fun q X=>Ext w X∧ad X O bz [.int .u64 0,.int .i64 0]∧ ∃ b:Nat,ad X E bz [.int .u64 (b:Int),.int .i64 (m:Int)]∧jL b m∧ ∀ j:Nat,b.testBit j=(decide (j<m)&& !(decide (j<q)&&mk.testBit j))) (by omega)
  ⟨bA.trans aH,bx.ext aH,_,aX.ext aH,⟨by omega,by have:=Nat.two_pow_pos m;omega⟩,fun j=>by rw[vt];simp⟩ ?_ ?_
 ·rintro q X bC ca ⟨af,ai,b,Y,aj,ak⟩ bD;rw[ao,aa];refine⟨fun _=>?_,fun h=>by omega⟩;refine dd (fun am=>Ext w am∧ad am O bz [.int .u64 0,.int .i64 0]∧ ∃ b:Nat,ad am E bz [.int .u64 (b:Int),.int .i64 (m:Int)]∧jL b m∧ ∀ j:Nat,b.testBit j=(decide (j<m)&& !(decide (j<q+1)&&mk.testBit j))) ?_ ?_
  ·rintro am bE;rw[aF];exact bD _ bE
  intro cb aZ;have bG:mk / 2 ^ q<2 ^ 62:=Nat.lt_of_le_of_lt (Nat.div_le_self _ _) (by omega);rw[aY,wN (by omega),show (1:Int)=((1:Nat):Int) from rfl,H1 bG (by omega),bc,aa];have a1:(((mk / 2 ^ q &&& 1:Nat):Int)=((1:Nat):Int))↔mk.testBit q=true:=by rw[←yC];omega
  refine⟨fun aI=>?_,fun ag=>?_⟩
  ·have aI:=a1.1 aI;rw[bj bz.p bz.i rfl (show X.rangeAt E 0 [.int .u64 (b:Int),.int .i64 (m:Int)] from Y.range)];refine (Du (v:=(q:Int)) aj).mono ?_;rintro _ cc _ ⟨rfl,aJ⟩;rw[if_pos ⟨by omega,by omega⟩,c8];refine bP (vs:=[.int .u64 ((hh b (2 ^ q):Nat):Int),.int .i64 (m:Int)]) bz.i rfl rfl (by intro u hu;simp at hu;rcases hu with rfl|rfl <;> rfl) (Y.ext aJ) fun cd a2 ce bH=>?_;have a6:∀ j:Nat,(hh b (2 ^ q)).testBit j=(decide (j<m)&& !(decide (j<q+1)&&mk.testBit j)):=fun j=>by
    rw[vk,ak,Nat.testBit_two_pow];by_cases a7:j<m
    ·by_cases ap:j=q
     ·subst ap;simp[aI]
     ·have aK:decide (j<q+1)=decide (j<q):=decide_eq_decide.2 ⟨fun h=>by omega,fun h=>by omega⟩;rw[aK,decide_eq_true a7,decide_eq_true (show j<64 by omega),decide_eq_false (show ¬q=j from fun h=>ap h.symm)];simp
    ·simp[a7]
   refine aZ _ ⟨(af.trans aJ).then a2 fun r aA he=>by have he:r=E:=he;omega,(ai.ext aJ).U a2 fun he=>bB he,_,bH,⟨by omega,Dk fun j a8=>by rw[a6,decide_eq_false (by omega)];rfl⟩,a6⟩
  ·have ag:mk.testBit q=false:=by simpa using fun h=>ag (a1.2 h)
   refine aZ _ ⟨af,ai,b,Y,aj,fun j=>?_⟩;rw[ak];by_cases ap:j=q
   ·subst ap;simp[ag]
   ·have aK:decide (j<q+1)=decide (j<q):=decide_eq_decide.2 ⟨fun h=>by omega,fun h=>by omega⟩;rw[aK]
 ·rintro X bC ⟨af,ai,b,Y,aj,ak⟩;rw[ao,aa];refine⟨fun h=>by omega,fun _=>?_⟩;rw[bj bz.p bz.i rfl (show X.rangeAt E 0 [.int .u64 (b:Int),.int .i64 (m:Int)] from Y.range)];refine bP (vs:=[.int .u64 (b:Int),.int .i64 (m:Int)]) bz.i rfl rfl (by intro u hu;simp at hu;rcases hu with rfl|rfl <;> rfl) ai fun cg bI ci bK=>?_;rw[eo bz.p bz.i rfl bK.range];refine⟨⟨b,m,rfl,aj,fun h=>absurd W h,fun y aN ba=>?_⟩,af.then bI fun r aA he=>by have he:r=O:=he;omega⟩;rw[Z] at ba;cases ba;refine⟨by omega,fun j=>?_⟩;rw[ak,aY,H3,show x.un.length=m by omega];by_cases a8:j<m <;> simp[a8]
theorem yG {k:Int} {sizes:List Int} {f:gb} (J:hx k sizes s) (ag:f∈s.funs):bu f.ai∧f.cs.length=(aD f.ai).toNat∧aD f.ai≤4096:=by
 obtain⟨E,O,_⟩:=J.funs f ag;rw[O];refine⟨⟨?_,m3 J.py.2.2 fun v ac=>⟨(E.scope.1 v ac).1,E.vars v ac⟩⟩,E.len,E.small⟩;have:=E.scope.2;simp[bI];exact this
def iI (s:aU) (j:Nat) (tl:List Int):Option Nat:=match s.funs[j]? with
 |some f=>if f.live≠0 then (cd f.ai tl 0).map fun m=>e0 s j+1+m.toNat else none
 |none=>none
def lX (s:aU) (j:Nat) (tl:List Int):Int:=match s.funs[j]? with
 |some f=>cC f.ai f.cs tl
 |none=>0
theorem H8 {j:Nat} {ad:x1} {tl:List Int} (h:cz w az gT A R n s t) (al:aC .i64 w ad tl):ah x5 AR [.pointer (some ⟨az,0,none⟩),.int .i64 (j:Int),ad] w fun v w'=>v= .int .i64 (match iI s j tl with|some p=>(p:Int)|none=>-1)∧Ext w w':=by
 refine aq func137 ?_;refine (se h).mono ?_;rintro _ am _ ⟨rfl,W⟩;rw[decide_eq_true (by omega),Bool.true_and,c8,bJ,b3];refine⟨fun E=>⟨?_,W⟩,fun E=>?_⟩
 ·have E:eA s j=false:=by simpa using E
  have:iI s j tl=none:=by
   unfold iI;unfold eA at E;cases ag:s.funs[j]? with
   |none=>rfl
   |some f=>
    rw[ag] at E;have E:f.live=0:=by simpa using E
    simp[E]
  rw[this]
 have E:eA s j=true:=by simpa using E
 obtain⟨f,ag,ao⟩:∃ f,s.funs[j]? =some f∧f.live≠0:=by
  unfold eA at E;cases ag:s.funs[j]? with
  |none=>rw[ag] at E;cases E
  |some f=>rw[ag] at E;exact⟨f,rfl,by simpa using E⟩
 obtain⟨af,aK,aL⟩:=yG h.2.2.2.1 (x4 ag);obtain⟨ap,aw,X,ay,aA,aj,L,aB,Y,aD,aE,aG,O,U⟩:=(h.ext W).1.parts;obtain⟨y,J⟩:∃ y,L[j]? =some y:=⟨_,y0 (by rw[U.1];exact (x3.1 ag).1)⟩;have Z:=(x3.1 J).1;obtain⟨_,aH,ak⟩:=U.2 j y f J ag;have aI:am.rangeAt aj (j*3+1) [y.au]:=fun q v ac=>by
  match q,ac with
  |0,ac=>cases ac;exact O.range J 1 _ rfl
 rw[ax,ae ch.p rfl,V (v:=X) (by kernel_rfl) (Y.cell (o:=0+3) rfl),cr rfl dZ.u eF.i O Z,ae eF.p rfl,bj (cs:=[y.au]) a6.p a6.i rfl aI];refine (uH aH.ls (al.ext W) af).mono ?_;rintro _ aM _ ⟨rfl,aJ⟩;have ab:=W.trans aJ;unfold iq iI;rw[ag];simp only[if_pos ao];cases hi:cd f.ai tl 0 with
 |none=>
  simp only[Option.map_none];rw[av (v:=.int .i64 0) rfl,av (v:=.int .i64 3) rfl,be,aa];exact⟨fun _=>⟨trivial,ab⟩,fun h=>absurd (show (3:Int)≠0 by decide) h⟩
 |some m=>
  simp only[j6];rw[av (v:=.int .i64 m) rfl,av (v:=.int .i64 0) rfl,be,aa];refine⟨fun h=>absurd rfl h,fun _=>?_⟩;have aN:=kr af.2 hi;have aO:=yE ag;have aP:=nq h.2.1 h.2.2.1;obtain⟨ap,aw,X,ay,aA,aj,L,aB,Y,aD,aE,aG,O,U⟩:=(h.ext ab).1.parts;obtain⟨y,J⟩:∃ y,L[j]? =some y:=⟨_,y0 (by rw[U.1];exact (x3.1 ag).1)⟩;have Z:=(x3.1 J).1;obtain⟨_,_,ak⟩:=U.2 j y f J ag;rw[ax,ae ch.p rfl,V (v:=X) (by kernel_rfl) (Y.cell (o:=0+3) rfl),cr rfl dZ.u eF.i O Z,ae eF.p rfl,V (v:=.int .i64 (y.at_:Int)) (by kernel_rfl) (O.range J 2 _ rfl),ak,aF,wrap_i64 (by omega) (by omega),aF,wrap_i64 (by omega) (by omega)];refine⟨?_,ab⟩;congr 1;omega
theorem yH {k:Int} {sizes:List Int} {j:Nat} {tl:List Int} {p:Nat} (E:hx k sizes s) (h:iI s j tl=some p):s.cells[p]? =some (lX s j tl)∧ ∃ f,s.funs[j]? =some f∧f.live≠0∧ ∃ m:Nat,cd f.ai tl 0=some (m:Int)∧m<f.cs.length∧p=e0 s j+(m+1):=by
 unfold iI at h;cases ag:s.funs[j]? with
 |none=>rw[ag] at h;cases h
 |some f=>
  rw[ag] at h;simp only at h;split at h
  ·rename_i J;obtain⟨m,hm,rfl⟩:=b8.1 h;obtain⟨O,U,V⟩:=yG E (x4 ag);have W:=kr O.2 hm;obtain⟨q,rfl⟩:∃ q:Nat,m=q:=⟨m.toNat,by omega⟩;refine⟨?_,f,rfl,J,q,hm,by omega,by omega⟩;rw[show e0 s j+1+(q:Int).toNat=e0 s j+(q+1) by omega,rP ag (by omega)];unfold lX cC;rw[ag];simp only[hm];show f.cs[q]? =_;rw[c8,u6,y0 (by omega)];rfl
  ·cases h
theorem H9 {j:Nat} {J:x1} {tl:List Int} (h:cz w az gT A R n s t) (O:aC .i64 w J tl):ah x5 tH [.pointer (some ⟨az,0,none⟩),.int .i64 (j:Int),J] w fun v w'=>v=(if (iI s j tl).isSome then .tuple #[.int .i64 (lX s j tl),.int .i64 0] else .tuple #[.int .i64 0,.int .i64 1])∧Ext w w':=by
 refine aq func53 ?_;rw[cB dS.u];simp only[c5,aP];refine (H8 h O).mono ?_;rintro _ Z _ ⟨rfl,E⟩;cases U:iI s j tl with
 |none=>
  simp only;rw[ao,aa];exact⟨fun _=>⟨rfl,E⟩,fun h=>by omega⟩
 |some p=>
  simp only;rw[ao,aa];refine⟨fun h=>by omega,fun _=>?_⟩;obtain⟨ab,ac,ad,af,ag,ai,L,aj,W,ak,X,al,am,ap⟩:=(h.ext E).1.parts;rw[ax,ae ch.p rfl,V (v:=.pointer (some ⟨gT,0,none⟩)) (by kernel_rfl) (W.cell (o:=0+1) rfl)];refine (ni (i:=p) X rfl (by rw[h.2.1];exact (yH h.2.2.2.1 U).1)).mono ?_;rintro _ au _ ⟨rfl,Y⟩;exact⟨rfl,E.trans Y⟩
end
theorem Ia {w:x2} {V:x1} {l:List Int} {v:Int} (h:aC .i64 w V l):ah x5 z7 [V,.int .i64 v] w fun r w'=>r= .bool (decide (v∈l))∧Ext w w':=by
 refine aq func32 ?_;rw[aI al.u h];refine bM.range l.length (fun i _ O=>Ext w O∧v∉l.take i) h.le ⟨Ext.refl _,by simp⟩ ?_ ?_
 ·rintro i _ O k hi ⟨J,E⟩ W;obtain⟨x,U⟩:∃ x,l[i]? =some x:=⟨_,y0 hi⟩;rw[ao,aa];refine⟨fun _=>?_,fun h=>by omega⟩;rw[a1 al.u ab.i (by kernel_rfl) (h.ext J) U,bc,aa];refine⟨fun he=>⟨by rw[decide_eq_true];rw[←he];exact x4 U,J⟩,fun X=>?_⟩;rw[aF];refine W _ _ ⟨J,fun hm=>?_⟩;rw[u4,U,l9,p9,p8] at hm;rcases hm with hm|hm
  ·exact E hm
  ·exact X hm.symm
 ·rintro _ O k ⟨J,E⟩;rw[o3] at E;rw[ao,aa];exact⟨fun h=>by omega,fun _=>⟨by rw[decide_eq_false E],J⟩⟩
theorem sg {B:Nat} {w:x2} {v:x1} {k:Int} {sizes:List Int} {s:aU} (h:ft B w v k sizes s) {w':x2} {g:Nat} (J:Ext w w') (Z:ad w' g bq v.cells.toList):∃ au Y E D O U aG V L W X,v= .agg #[.int .i64 k,au,.int .i64 s.zero,E,O,U,V,W]∧ad w' g bq [.int .i64 k,au,.int .i64 s.zero,E,O,U,V,W]∧am .i64 ab w' Y au sizes∧hC w' B E D∧D.map (·.l)=s.vars.map bD∧hD w' B O (s.vars.map fun x=>decide (x.gone≠0))∧
  gB w' B U aG∧aG.map (·.l)=s.vars.map (·.un)∧gW w' B sizes V L∧L.map hB=s.funs.map kS∧jX w' B W X∧X.map yA=s.kK∧ ∀ h∈aG,∀ x∈L,∀ r,leads h.v r→¬leads x.1.aH r:=by
 obtain⟨au,Y,E,D,O,U,aG,V,L,W,X,rfl,aa,ac,ai,ae,af,aj,ag,ak,ah,al⟩:=h.ext J;obtain⟨_,_,_,ao⟩:=ct aa.ls;obtain⟨_,ap,_⟩:=id ac;obtain⟨_,bT,_⟩:=id ae;obtain⟨_,⟨aq,_⟩,_⟩:=id af;obtain⟨_,av,_⟩:=id ag;obtain⟨_,aw,_⟩:=id ah;obtain⟨_,_,_,_,_,ax,_⟩:=ap.sl;obtain⟨_,_,_,_,_,ay,_⟩:=bT.sl;obtain⟨_,_,_,_,_,az,_⟩:=aq.sl;obtain⟨_,_,_,_,_,aA,_⟩:=av.sl;obtain⟨_,_,_,_,_,aB,_⟩:=aw.sl;refine⟨au,Y,E,D,O,U,aG,V,L,W,X,rfl,?_,aa,ac,ai,ae,af,aj,ag,ak,ah,al⟩;rw[ao,ax,ay,az,aA,aB] at Z ⊢;exact Z
theorem Ib {x:gv} {v:Int} (h:0≤v∧v<x.un.length):v∈bD x↔dropped x.mask v=false:=by
 unfold bD;rw[List.mem_filter,o6];constructor
 ·rintro⟨_,E⟩;simpa using E
 ·intro E;exact⟨⟨v.toNat,List.mem_range.2 (by omega),by omega⟩,by simp[E]⟩
theorem eO.put {w w':x2} {g X:Nat} {c:List x1} {n:bd} (h:eO w X n) (E:ad w g bq c) (J:af (fun r=>r=g) w w'):eO w' X n:=by
 have bW:=jW E;have Y:∀ r,r=g→ ∃ e c,ad w r e c∧e≠fO∧e≠ci∧e≠ab∧e≠aj∧e≠ap:=fun r O=>by
  subst O;exact⟨_,c,E,by decide,by decide,by decide,by decide,by decide⟩
 obtain⟨Z,aa,ac,ae,ag,aG,L,ah,au,ai,ak,h1,al,am,ao,aq,av,aw⟩:=h;refine⟨Z,aa,ac,ae,ag,aG,L,ah,au,ai,ak,fs h1 J bW (by decide),fs al J bW (by decide),gV am J bW (by decide),ao.U J fun r O=>?_,aq,av.U J fun r O=>?_,aw⟩
 ·obtain⟨e,c,E,_,_,_,V,W⟩:=Y r O;exact⟨e,c,E,V,W⟩
 ·obtain⟨e,c,E,V,W,ax,ay,_⟩:=Y r O;exact⟨e,c,E,V,W,ax,ay⟩
theorem Ic:∃ o:Obj,fJ o=false:=⟨.deferred none,rfl⟩
theorem StateM.put {w w':x2} {az gT g:Nat} {A R:an} {n:bd} {s:aU} {t:aM} {c:List x1} (h:StateM w az gT A R n s t) (W:ad w g bq c) (V:af (fun r=>r=g) w w') (al:¬A g):∃ R',(∀ r,R' r→R r∧r≠g)∧StateM w' az gT A R' n s t:=by
 obtain⟨am,ao,ap,aq,⟨h1,au,av,aw⟩,ax,ay,aA,L,aB,aC,w0,aD,⟨ac,Y,aE⟩,⟨aF,ae,aG,aH⟩,aI,⟨aJ,ah⟩,aK,ai⟩:=h;obtain⟨cR,aj⟩:=Ic;have z:=V.size;have bW:=jW W;have X:∀ r,(w0.heap.setIfInBounds g cR)[r]? =if g=r then (if g<w0.heap.size then some cR else none) else w0.heap[r]?:=fun r=>Array.getElem?_setIfInBounds;have aL:∀ r,A r→r≠g:=fun r E he=>al (he▸E);have int:∀ {v:x1} {l:List Int},gx R w v l→gx (fun r=>R r∧r≠g) w' v l:=fun⟨⟨aN,hm⟩,aO⟩=>⟨⟨aN,gV hm V bW (by decide)⟩,fun r E=>⟨aO r E,bB hm W (by decide) E⟩⟩;refine⟨fun r=>R r∧r≠g,fun r h=>h,am,ao,ap,aq,⟨h1,fun r E aP=>au r E aP.1,fun r E=>by have:=av r E.1;omega,fun r E=>by have:=aw r E;omega⟩,ax,ay,aA,L,aB,aC,{w0 with heap:=w0.heap.setIfInBounds g cR},fs aD V bW (by decide),⟨?_,?_,?_⟩,
  ⟨aF.U V fun r E=>aL r (ae r E),ae,aG,aH⟩,gV aI V bW (by decide),⟨kQ aJ V bW (by decide),ah.1,fun j x f J ag=>?_⟩,kQ aK V bW (by decide),ai.1,fun j x e J he=>?_⟩
 ·by_cases O:∃ o,w0.heap[g]? =some o∧fJ o=true
  ·obtain⟨o,ak,aQ⟩:=O;have aR:ad w0 g bq c:=by
    unfold ad at W ⊢;have:=Y.aW g o ak aQ;rw[W] at this;rw[ak,this]
   refine ac.put aR ⟨by simp,fun r o E O aS=>?_⟩;show (w0.heap.setIfInBounds g cR)[r]? =some o;rw[X,if_neg fun he=>aS he.symm];exact E
  ·refine ac.ext ⟨by simp,fun r o E aT=>?_⟩;show (w0.heap.setIfInBounds g cR)[r]? =some o;rw[X,if_neg fun he=>O ⟨o,by rw[he];exact E,aT⟩];exact E
 ·refine⟨by show (w0.heap.setIfInBounds g cR).size≤_;rw[Array.size_setIfInBounds];exact Z5 Y.size z,fun r o E O=>?_⟩;have E:(w0.heap.setIfInBounds g cR)[r]? =some o:=E;rw[X] at E;by_cases he:g=r
  ·rw[if_pos he] at E;split at E
   ·cases E;rw[aj] at O;cases O
   ·cases E
  ·rw[if_neg he] at E;exact V.aW r o (Y.aW r o E O) O fun h=>he h.symm
 ·intro r o E O;have E:(w0.heap.setIfInBounds g cR)[r]? =some o:=E;rw[X] at E;by_cases he:g=r
  ·rw[if_pos he] at E;split at E
   ·cases E;rw[aj] at O;cases O
   ·cases E
  ·rw[if_neg he] at E;exact⟨aE r o E O,fun h=>he h.symm⟩
 ·obtain⟨Z,aa,ab⟩:=ah.2 j x f J ag;exact⟨int Z,int aa,ab⟩
 ·obtain⟨Z,aa,ab⟩:=ai.2 j x e J he;exact⟨Z,int aa,int ab⟩
theorem Ie {E:List Int} {f:bx} (X:E.length≤60000) (h:eT E=some f):∃ N,N≤60000∧dP N f∧f.name≠[]∧ ∀ b∈f.name,bg b=true:=by
 unfold eT at h;rw[if_neg (by omega)] at h;cases J:fA ⟨(lex E).1,0,false,[]⟩ with
 |none=>rw[J] at h;cases h
 |some q=>
  obtain⟨Y,s⟩:=q;rw[J] at h;simp only at h;split at h
  ·rename_i O;cases h;obtain⟨h1,U⟩:=vW rfl J O.2.2;have Z:=mw E.length E (u9 _);obtain⟨V,W,_⟩:=oq E.length E (u9 _) f.name U;exact⟨_,by show (lex E).1.length≤60000;omega,h1,V,W⟩
  ·cases h
theorem If {w:x2}:ah x5 tE [.pointer none] w fun v w'=>v= .pointer none∧Ext w w':=by
 refine aq func48 ?_;rw[cB iX.u];simp only[Option.isNone_none,bh];exact⟨by trivial,Ext.refl _⟩
theorem Ig {v:x1} {l:List Int} {w:x2} (h:aC .u8 w v l) (ab:l.length≤100000):ah x5 Ae [v] w fun J w'=>Ext w w'∧ ∃ g,am .u8 bY w' g J l:=by
 have E:=h;obtain⟨ac,b,o,base,cap,rfl,ad,hm,V,W⟩:=h;refine aq func66 ?_;rw[mo bZ.u,b3];refine⟨fun X=>⟨Ext.refl _,0,?_⟩,fun _=>?_⟩
 ·have:l=[]:=by
   cases base with
   |none=>
        by_cases E:0<l.length
        ·have:=V E;cases this
        ·exact o8 (by omega)
   |some a=>cases X
  subst this;exact am.nil _ _ _ _
 ·refine r7 (k:=.u8) bZ.u bY.i fun ae af ag ai O U=>?_;refine fF bZ.u bY.i rfl U (E.ext O) (by simp;omega) (by simp;omega) fun J Y aj Z ak aa=>?_;exact⟨O.then aa (fun r W he=>by have:=(bw U he).1;omega),Y,by simpa using Z⟩
theorem jX.bW {w w':x2} {S:Nat→Prop} {e:u5} {B:Nat} {v:x1} {U:List np} (h:jX w B v U) (E:af S w w') (O:fH w S e) (h1:ug≠e) (V:ab≠e):jX w' B v U:=by
 obtain⟨g,W,X,Y⟩:=h;exact⟨g,kQ W E O h1,fun x J=>by obtain⟨⟨Z,aa⟩,ac,ad⟩:=X x J;exact⟨⟨Z,gV aa E O V⟩,ac,gV ad E O V⟩,Y⟩
theorem ft.put {B:Nat} {w w':x2} {S:Nat→Prop} {v:x1} {k:Int} {sizes:List Int} {s:aU} (h:ft B w v k sizes s) (E:af S w w') (J:fH w S bq):ft B w' v k sizes s:=by
 obtain⟨au,O,U,D,V,W,aG,X,L,Y,Z,h1,aa,ab,ac,ad,ae,ag,ah,ai,aj,ak⟩:=h;exact⟨au,O,U,D,V,W,aG,X,L,Y,Z,h1,gV aa E J (by decide),ab.bW E J (by decide) (by decide),ac,ad.bW E J (by decide),ae.bW E J (by decide) (by decide),ag,ah.bW E J (by decide) (by decide) (by decide),ai,aj.bW E J (by decide) (by decide),ak⟩
theorem ft.low {B U:Nat} {w:x2} {v:x1} {k:Int} {sizes:List Int} {s:aU} (h:ft B w v k sizes s) (O:U≤B):ft U w v k sizes s:=by
 obtain⟨au,V,W,D,X,Y,aG,Z,L,aa,ab,h1,ac,⟨ad,ae,af,a3⟩,ag,⟨ah,ai,aj⟩,⟨ak,al,am,ao,ap⟩,aq,⟨av,d1,d2,d3,d4⟩,aw,⟨ax,ay,az,aA⟩,aB⟩:=h;exact⟨au,V,W,D,X,Y,aG,Z,L,aa,ab,h1,ac,⟨ad,ae,af,fun r E=>Z5 O (a3 r E)⟩,ag,⟨ah,ai,fun r E=>Z5 O (aj r E)⟩,⟨ak,al,fun r E=>Z5 O (am r E),fun x J r E=>Z5 O (ao x J r E),ap⟩,aq,⟨av,d1,fun x J=>⟨(d2 x J).1,fun r E=>Z5 O ((d2 x J).2 r E)⟩,fun r E=>Z5 O (d3 r E),d4⟩,aw,⟨ax,ay,az,fun r E=>Z5 O (aA r E)⟩,aB⟩
def sh (sv:x1):Prop:=∃ cs:List x1,sv= .agg cs.toArray∧cs.length=8∧ ∀ u∈cs,u.oneCell'=true
theorem ft.yI {B:Nat} {w:x2} {v:x1} {k:Int} {sizes:List Int} {s:aU} (h:ft B w v k sizes s):sh v:=by
 obtain⟨au,W,X,D,Y,Z,aG,aa,L,ab,ac,rfl,E,⟨_,J,_⟩,ad,⟨_,bT,_⟩,⟨_,⟨O,_⟩,_⟩,ae,⟨_,U,_⟩,af,⟨_,V,_⟩,ag⟩:=h;refine⟨[_,_,_,_,_,_,_,_],rfl,rfl,fun u hu=>?_⟩;simp at hu;rcases hu with rfl|rfl|rfl|rfl|rfl|rfl|rfl|rfl
 ·rfl
 ·exact E.ls.cells.2
 ·rfl
 ·exact (cu J.sl).2
 ·exact (cu bT.sl).2
 ·exact (cu O.sl).2
 ·exact (cu U.sl).2
 ·exact (cu V.sl).2
theorem yJ:sh (.agg z12.toArray):=⟨z12,rfl,rfl,by intro u hu;simp[z12] at hu;rcases hu with rfl|rfl|rfl|rfl <;> rfl⟩
def yK (B:Nat) (w:x2) (E sv:x1) (f:bx):Prop:=∃ az gT A R t N,dP N f∧E= .pointer (some ⟨az,0,none⟩)∧cz w az gT A R (cJ f) (cD (cJ f)) t∧Plain t∧(∀ r,A r→B≤r)∧ft B w sv (cJ f).k (cJ f).sizes (cD (cJ f))
def Ih (w:x2) (q:List Int) (v:x1) (w':x2):Prop:=Ext w w'∧ ∃ E sv ok,v= .tuple #[E,sv,.bool ok]∧sh sv∧((ok=false∧E= .pointer none)∨(ok=true∧ ∃ f,eT q=some f∧yK w.heap.size w' E sv f))∧ ∀ f,eT q=some f→jg f.funs≤16384→ok=true
theorem Ii {N:Nat} {f:bx} (E:dP N f):(cJ f).funs.length≤256:=by
 have h1:=(m4 E).2.length_eq;have O:=(iA E).2.2;have U:=List.length_filter_le ec (dV f);have V:=E.iu;have J:=(lQ f (ed f).length).2.2.2;rw[pv] at J;omega
theorem Ij {n:bd} {t:aM} (J:gR n) (ag:n.funs.length≤256) (ac:t.bF=(cD n).cells) (E:Plain t):nj t:=by
 have h1:=rU J ag n.unary.length n.funs.length;rw[ye,←ac] at h1;unfold aM.bF at h1;rw[u7] at h1;refine⟨by omega,?_,?_⟩
 ·rw[E.2.1];exact Z1 _
 ·rw[E.1];exact Z1 _
section
variable {w:x2} {i v j c:x1}
theorem Ik:ah x5 tF [.pointer none] w fun r w'=>r= .pointer none∧Ext w w':=by
 refine aq func49 ?_;rw[cB dS.u];simp only[Option.isNone_none,bh];exact⟨by trivial,Ext.refl _⟩
theorem Il:ah x5 tN [.pointer none] w fun r w'=>r= .int .i64 0∧Ext w w':=by
 refine aq func129 ?_;rw[cB iX.u];simp only[Option.isNone_none,bh];exact⟨by trivial,Ext.refl _⟩
theorem Im:ah x5 tI [.pointer none] w fun r w'=>r= .int .i64 0∧Ext w w':=by
 refine aq func60 ?_;refine Ik.mono ?_;rintro _ O _ ⟨rfl,E⟩;refine Il.mono ?_;rintro _ U _ ⟨rfl,J⟩;exact⟨rfl,E.trans J⟩
end
section
variable {w:x2} {az gT:Nat} {A R:an} {n:bd} {s:aU} {t:aM}
theorem In {j:Int} (h:cz w az gT A R n s t) (V:¬(0≤j∧j<s.funs.length)):ah x5 qo [.pointer (some ⟨az,0,none⟩),.int .i64 j] w fun r w'=>r= .slice none 0 0∧Ext w w':=by
 refine aq func50 ?_;refine aL (fun v E=>v= .bool true∧Ext w E) ?_ ?_
 ·rintro _ E ⟨rfl,O⟩;rw[bh];exact⟨rfl,O⟩
 intro W J;rw[ao,aa];refine⟨fun _=>J _ _ ⟨rfl,Ext.refl _⟩,fun X=>?_⟩;refine (pD h).mono ?_;rintro _ Y _ ⟨rfl,U⟩;rw[ca];exact J _ _ ⟨by rw[decide_eq_true (by omega)],U⟩
end
section
variable {w:x2} {B:Nat} {sv:x1} {k:Int} {sizes:List Int} {s:aU}
theorem yL {i:Int} (h:ft B w sv k sizes s):ah x5 z8 [sv,.int .i64 i] w fun v w'=>v= .bool (decide (0≤i∧i<sizes.length))∧Ext w w':=by
 refine aq func33 ?_;refine a7 fun Y Z ab E J=>?_;obtain⟨au,ac,ad,D,af,ag,aG,ai,L,aj,ak,_,J,W,_⟩:=sg h E J;refine aL (fun v X=>v= .bool (decide (0≤i∧i<sizes.length))∧Ext w X) (fun _ _ h=>h) fun am O=>?_;rw[ca,aa];refine⟨fun U=>?_,fun U=>O _ _ ⟨by rw[decide_eq_false];omega,E⟩⟩;rw[ae bq.p rfl,V (v:=au) (by kernel_rfl) (J.cell (o:=0+1) rfl),aI al.u W.ls,ao];refine O _ _ ⟨?_,E⟩;congr 1;exact decide_eq_decide.2 ⟨fun h=>⟨U,h⟩,fun h=>h.2⟩
theorem Io {j:Int} (h:ft B w sv k sizes s):ah x5 z6 [sv,.int .i64 j] w fun v w'=>v= .bool (decide (0≤j)&&eA s j.toNat)∧Ext w w':=by
 refine aq func31 ?_;refine a7 fun ai aj ak E J=>?_;obtain⟨au,al,am,D,ap,av,aG,X,L,aw,ax,_,J,ay,_,_,_,_,_,⟨az,O,aA,_⟩,Y,_⟩:=sg h E J;have aB:L.length=s.funs.length:=by have:=congrArg X7 Y;simpa using this
 refine aL (fun v ac=>v= .bool (decide (0≤j)&&eA s j.toNat)∧Ext w ac) (fun _ _ h=>h) fun aC U=>?_;rw[ca,aa];refine⟨fun W=>?_,fun W=>U _ _ ⟨by rw[decide_eq_false W];rfl,E⟩⟩;rw[ae bq.p rfl,V (v:=X) (by kernel_rfl) (J.cell (o:=0+6) rfl),dK fN.u O,ao,aa];refine⟨fun aD=>?_,fun aE=>U _ _ ⟨?_,E⟩⟩
 ·obtain⟨y,Z⟩:∃ y,L[j.toNat]? =some y:=⟨_,y0 (by omega)⟩;obtain⟨f,ag⟩:∃ f,s.funs[j.toNat]? =some f:=⟨_,y0 (by omega)⟩;have ad:hB y=kS f:=by
   have ab:(L.map hB)[j.toNat]? =some (hB y):=by rw[x6,Z];rfl
   rw[Y,x6,ag] at ab;exact (j5 ab).symm
  have af:y.2=decide (f.live≠0):=congrArg (·.2.2) ad;rw[ae bq.p rfl,V (v:=X) (by kernel_rfl) (J.cell (o:=0+6) rfl),cr (i:=j.toNat) (by omega) fN.u fv.i O (by omega),ae fv.p rfl,V (v:=.bool y.2) (by kernel_rfl) (O.range Z 3 _ rfl)];refine U _ _ ⟨?_,E⟩;rw[decide_eq_true W,Bool.true_and,af];unfold eA;rw[ag]
 ·unfold eA;rw[c6 (by omega),Bool.and_false]
end
def jZ (of:Int→Int) (p:Int×Int) (v:Int):Int×Int:=if p.2= -1∨of v<p.1 then (of v,v) else p
def dh (k:Int) (l:List Int) (of:Int→Int):Int×Int:=l.foldl (jZ of) (k,-1)
theorem yM {s:aU} {n:bd} {i:Int} {b m:Nat} {x:gv} (h:sf s n i b m) (O:0≤i) (J:s.vars[i.toNat]? =some x):(e8 b m).map (fun v:Nat=>(v:Int))=bD x:=by
 obtain⟨_,_,U⟩:=h;obtain⟨rfl,V⟩:=U x O J;unfold e8 bD;rw[List.filter_map];congr 1;refine List.filter_congr fun q E=>?_;have E:=List.mem_range.1 E;rw[V,decide_eq_true E,Bool.true_and];rfl
section
variable {w:x2} {az gT:Nat} {A R:an} {n:bd} {s:aU} {t:aM}
theorem yN {a b:Int} (h:cz w az gT A R n s t) (J:0≤a∧a≤n.k) (O:0≤b∧b≤n.k):ah x5 AD [.pointer (some ⟨az,0,none⟩),.int .i64 a,.int .i64 b] w fun v w'=>v= .int .i64 (min (a+b) n.k)∧Ext w w':=by
 refine aq func104 ?_;refine (sb h).mono ?_;rintro _ W _ ⟨rfl,U⟩;refine (wb (a:=a) (b:=b) (k:=n.k)).mono ?_;rintro _ X _ ⟨rfl,V⟩;have E:=h.2.2.2.1.lR;have e:lE a b n.k= .tuple #[.int .i64 (min (a+b) n.k),.int .i64 0]:=by
  unfold lE;rw[if_pos (show cj a n.k∧cj b n.k from⟨⟨E,J⟩,⟨E,O⟩⟩)]
 rw[e,av (v:=.int .i64 (min (a+b) n.k)) rfl,av (v:=.int .i64 0) rfl];exact⟨rfl,U.trans V⟩
def eB (n:bd) (s:aU) (i:Int):Bool:=decide (0≤i∧i<n.sizes.length)&& !kU s i.toNat
theorem yO {i:Int} (h:cz w az gT A R n s t):ah x5 tK [.pointer (some ⟨az,0,none⟩),.int .i64 i] w fun v w'=>v= .int .i64 (if eB n s i=true then 0 else 1)∧Ext w w':=by
 refine aq func94 ?_;rw[cB dS.u];simp only[c5,aP];refine aL (fun v U=>v= .bool (!eB n s i)∧Ext w U) ?_ ?_
 ·rintro _ U ⟨rfl,E⟩;rw[b3];refine⟨fun V=>⟨by rw[if_neg (by simpa using V)],E⟩,fun V=>⟨by rw[if_pos (by simpa using V)],E⟩⟩
 intro ad W;refine (H5 h).mono ?_;rintro _ U _ ⟨rfl,E⟩;rw[b3];refine⟨fun J=>W _ _ ⟨?_,E⟩,fun J=>?_⟩
 ·rw[X2] at J;unfold eB;rw[J.2,Z3,Bool.and_false];rfl
 refine (pF (i:=i) (h.ext E)).mono ?_;rintro _ ae _ ⟨⟨b,m,rfl,af,Z,aa⟩,ab⟩;refine (vv (b:=b) (n:=m)).mono ?_;rintro _ ag _ ⟨rfl,ac⟩;rw[bc];refine W _ _ ⟨?_,(E.trans ab).trans ac⟩;congr 1;have ai:=h.2.2.2.1.vars;unfold eB;by_cases O:0≤i∧i<n.sizes.length
 ·obtain⟨x,X⟩:∃ x,s.vars[i.toNat]? =some x:=⟨_,y0 (by omega)⟩;obtain⟨z,Y⟩:∃ z,n.sizes[i.toNat]? =some z:=⟨_,y0 (by omega)⟩;have h1:=(h.2.2.2.1.var i.toNat x z X Y).1;have aj:=h.2.2.2.1.py.2.2 z (x4 Y);have hm:=(aa x O.1 X).1;rw[decide_eq_true O.1,Bool.true_and] at J;rw[decide_eq_true O,J,decide_eq_false (by omega)];rfl
 ·rw[decide_eq_false O,(Z O).2];rfl
def lY (w:x2) (E:Nat) (cap:Array x1) (l:List Int) (of:Int→Int):Prop:=∀ (w':x2) (v:Int),Ext w w'→v∈l→ah x5 E (.int .i64 v::cap.toList) w' fun r J=>r= .int .i64 (of v)∧Ext w' J
set_option maxHeartbeats 1000000 in
theorem si {i:Int} {x:gv} {of:Int→Int} {ag:Nat} {cap:Array x1} (h:cz w az gT A R n s t) (au:Laid w) (ba:0≤i) (J:s.vars[i.toNat]? =some x) (bb:lY w ag cap (bD x) of):
  ah x5 Ay [.pointer (some ⟨az,0,none⟩),.int .i64 i,.func (.func ag) #[] cap] w fun r w'=>Ext w w'∧r= .tuple #[.int .i64 (dh n.k (bD x) of).1,.int .i64 (dh n.k (bD x) of).2]:=by
 refine jB func95 ?_;refine a7 fun aM bd bA av ai=>?_;have ai:ad bd aM lb [.func (.func ag) #[] cap]:=ai;refine (sb (h.ext av)).mono ?_;rintro _ be _ ⟨rfl,ak⟩;refine bi aj.i fun aw bB bC aN aO=>?_;refine bi ab.i fun ax bE bF ay aP=>?_;have bG:=(av.trans ak).size;have z3:=aN.size;have z4:=ay.size;refine aZ (v:=.int .i64 n.k) aj.i rfl rfl (aO.ext ay) (by decide) fun bH aQ bI bf=>?_;have bJ:=aO.lt;have bK:=aP.lt;refine aZ (v:=.int .i64 (-1)) ab.i rfl rfl (aP.U aQ (by omega)) (by decide) fun bg aR bL bh=>?_;have bj:=bf.U aR (by omega);have aS:Ext be bg:=((aN.trans ay).then aQ fun r E he=>by have he:r=aw:=he;omega).then aR fun r E he=>by have he:r=ax:=he;omega
 have aT:=(av.trans ak).trans aS;refine (pF (i:=i) (h.ext aT)).mono ?_;rintro _ bM _ ⟨⟨b,m,rfl,aA⟩,aU⟩;refine (vy (b:=b) (n:=m)).mono ?_;rintro _ aB _ ⟨bk,aC,rfl,bN,aD⟩;have bO:=aA.1;have aV:=yM aA ba J;have Z:=aU.trans bk;have X:=aT.trans Z;have bP:=X.size;have bQ:=Z.size;have bR:=ai.lt;have bS:=aU.size;have z12:=ak.size;obtain⟨S,al⟩:∃ S:an,S=fun r=>r=aw∨r=ax:=⟨_,rfl⟩;have am:∀ r,S r→w.heap.size≤r:=fun r E=>by rw[al] at E;rcases E with rfl|rfl <;> omega
 have aE:∀ r,S r→r≠aM∧r≠aC:=fun r E=>by rw[al] at E;rcases E with rfl|rfl <;> omega
 let st:Nat→Int×Int:=fun j=>((bD x).take j).foldl (jZ of) (n.k,-1);have bl:=ai.ext (ak.trans (aS.trans Z));refine⟨_,false,jy,#[.pointer (some ⟨aC,0,none⟩)],_,_,_,_,fun j w'=>af S aB w'∧ad w' aw aj [.int .i64 (st j).1]∧ad w' ax ab [.int .i64 (st j).2],fun _ _ _=>False,rfl,(vx (g:=aC) aA.1).s,?_,
  fun _ _ J h=>⟨h.1.ext J,h.2.ext J⟩,fun _ _ _ J h=>⟨h.1.trans (J.U S),h.2.1.ext J,h.2.2.ext J⟩,fun _ _ _ _ _ h=>h,⟨aD,au.ext X⟩,⟨af.refl _ _,bj.ext Z,bh.ext Z⟩,?_,?_,fun _ _ h=>h.elim,fun _ _ _ h=>h.elim⟩
 ·rintro _ _ _ _ ⟨_,_,_,_,rfl⟩;rfl
 ·rintro _ j _ bm ⟨_,_⟩ ⟨bT,rfl,v,ac,bn⟩ ⟨Y,ap,aq⟩;cases bn;intro aF O _ _;have aW:(bD x)[j]? =some (v:Int):=by rw[←aV,x6,ac];rfl
  have aX:st (j+1)=jZ of (st j) v:=by
   show ((bD x).take (j+1)).foldl _ _=_;rw[u4,aW,List.foldl_append];rfl
  have bo:Ext w aF:=((X.then Y fun r E h=>by have:=am r h;omega)).trans O;have bp:=(bl.U Y fun h=>(aE _ h).1 rfl).ext O;rw[V (v:=.func (.func ag) #[] cap) (by kernel_rfl) (bp.cell (o:=0) rfl)];refine ah.mono (bb aF v bo (x4 aW)) ?_;rintro _ aY _ ⟨rfl,aG⟩;have aH:=O.trans aG;have aI:=ap.ext aH;have aJ:=aq.ext aH;refine aL (fun r aK=>r= .bool (decide ((st j).2= -1∨of v<(st j).1))∧Ext aY aK) ?_ ?_
  ·rintro _ aK ⟨rfl,ae⟩;have a1:=aH.trans ae;rw[aa];refine⟨fun bq=>?_,fun br=>?_⟩
   ·refine aZ (v:=.int .i64 (of v)) aj.i rfl rfl (aI.ext ae) (by simp) fun bU a2 bV bt=>?_;refine aZ (v:=.int .i64 (v:Int)) ab.i rfl rfl ((aJ.ext ae).U a2 (by omega)) (by simp) fun bu a6 bW bw=>?_;have bx:=bt.U a6 (by omega);have W:af S aB bu:=((Y.trans (a1.U S)).trans (a2.mono fun r _ h=>by rw[al];exact .inl h)).trans (a6.mono fun r _ h=>by rw[al];exact .inr h);have e:st (j+1)=(of v,(v:Int)):=by rw[aX];unfold jZ;rw[if_pos bq]
    refine⟨⟨aD.U W fun h=>(aE _ h).2 rfl,(au.ext (X.then W fun r E h=>by have:=am r h;omega))⟩,⟨W,?_,?_⟩,fun h=>by cases h⟩
    ·rw[e];exact bx
    ·rw[e];exact bw
   ·have e:st (j+1)=st j:=by rw[aX];unfold jZ;rw[if_neg br]
    have W:af S aB aK:=Y.trans (a1.U S);refine⟨⟨aD.U W fun h=>(aE _ h).2 rfl,(au.ext (X.then W fun r E h=>by have:=am r h;omega))⟩,⟨W,?_,?_⟩,fun h=>by cases h⟩
    ·rw[e];exact aI.ext ae
    ·rw[e];exact aJ.ext ae
  ·intro bX a8;rw[V (v:=.int .i64 (st j).2) (by kernel_rfl) (aJ.cell (o:=0) rfl),bc,aa];refine⟨fun h1=>a8 _ _ ⟨by rw[decide_eq_true (.inl h1)],Ext.refl _⟩,fun h1=>?_⟩;rw[V (v:=.int .i64 (st j).1) (by kernel_rfl) (aI.cell (o:=0) rfl),ao];refine a8 _ _ ⟨?_,Ext.refl _⟩;congr 1;exact decide_eq_decide.2 ⟨.inr,fun h=>h.resolve_left h1⟩
 ·rintro k bm rfl ⟨Y,ap,aq⟩;intro aF O _ _;have bz:st (e8 b m).length=dh n.k (bD x) of:=by
   show ((bD x).take _).foldl _ _=_;rw[b6 (by rw[←aV,u7];exact u9 _)];rfl
  rw[bz] at ap aq;rw[V (v:=.int .i64 (dh n.k (bD x) of).1) (by kernel_rfl) ((ap.ext O).cell (o:=0) rfl),V (v:=.int .i64 (dh n.k (bD x) of).2) (by kernel_rfl) ((aq.ext O).cell (o:=0) rfl)];intro aY aG _;exact⟨((X.then Y fun r E h=>by have:=am r h;omega).trans O).trans aG,rfl⟩
end
theorem Ip {x:gv} {v:Int} (h:v∈bD x):0≤v∧v<x.un.length:=by
 unfold bD at h;obtain⟨h,_⟩:=List.mem_filter.1 h;obtain⟨q,E,rfl⟩:=o6.1 h;have:=List.mem_range.1 E;omega
theorem Iq {s:aU} {n:bd} {i v:Int} {b m:Nat} {x:gv} (h:sf s n i b m) (O:0≤i) (J:s.vars[i.toNat]? =some x):(decide (0≤v∧v<m)&&b.testBit v.toNat)=decide (v∈bD x):=by
 obtain⟨_,_,U⟩:=h;obtain⟨rfl,V⟩:=U x O J;by_cases ac:0≤v∧v<x.un.length
 ·rw[decide_eq_true ac,Bool.true_and,V,decide_eq_true (show v.toNat<x.un.length by omega),Bool.true_and,show ((v.toNat:Nat):Int)=v by omega];have:=Ib ac;cases E:dropped x.mask v with
  |false=>rw[decide_eq_true (this.2 E)];rfl
  |true=>rw[decide_eq_false fun h=>by rw[this.1 h] at E;cases E];rfl
 ·rw[decide_eq_false ac,decide_eq_false fun h=>ac (Ip h)];rfl
def dz (s:aU) (j:Nat) (tl:List Int):Int:=if (iI s j tl).isSome then lX s j tl else 0
def e3 (n:bd) (s:aU) (i v:Int):Int:=if jY n i v then pE s i.toNat v.toNat else 0
theorem yP {k:Int} {sizes:List Int} {s:aU} {j:Nat} {tl:List Int} (E:hx k sizes s):0≤dz s j tl∧dz s j tl≤k:=by
 have U:=E.lR;unfold dz;cases O:iI s j tl with
 |none=>simp;omega
 |some p=>
  obtain⟨V,f,ag,W,m,hm,J,rfl⟩:=yH E O;rw[Option.isSome_some,if_pos rfl];have e:lX s j tl=f.cs.getD m 0:=by
   unfold lX cC;rw[ag];simp only;rw[hm];rfl
  rw[e,u6,y0 J];exact (E.funs f (x4 ag)).1.hZ _ (List.getElem_mem J)
theorem sj {n:bd} {s:aU} {i v:Int} (E:hx n.k n.sizes s):0≤e3 n s i v∧e3 n s i v≤n.k:=by
 have W:=E.lR;have X:=E.vars;unfold e3;split
 ·rename_i U;obtain⟨x,J,O,_⟩:=U.var E;obtain⟨z,V⟩:∃ z,n.sizes[i.toNat]? =some z:=⟨_,y0 (by have:=(x3.1 J).1;omega)⟩;have:=(E.var i.toNat x z J V).2.1;unfold pE;rw[J];simp only;rw[u6,y0 O];exact this _ (List.getElem_mem O)
 ·omega
section
variable {w:x2} {az gT:Nat} {A R:an} {n:bd} {s:aU} {t:aM}
theorem yQ {K:x1→x2→Prop} {j:Nat} {J:x1} {tl:List Int} (h:cz w az gT A R n s t) (V:aC .i64 w J tl) (W:∀ e w',Ext w w'→K (.tuple #[.int .i64 (dz s j tl),.int .i64 e]) w'):ah x5 tH [.pointer (some ⟨az,0,none⟩),.int .i64 (j:Int),J] w K:=by
 refine (H9 h V).mono ?_;rintro _ O _ ⟨rfl,U⟩;have:=W;unfold dz at this;split
 ·rename_i E;rw[if_pos E] at this;exact this 0 O U
 ·rename_i E;rw[if_neg E] at this;exact this 1 O U
theorem yR {K:x1→x2→Prop} {i v:Int} (h:cz w az gT A R n s t) (U:∀ e w',Ext w w'→K (.tuple #[.int .i64 (e3 n s i v),.int .i64 e]) w'):ah x5 tG [.pointer (some ⟨az,0,none⟩),.int .i64 i,.int .i64 v] w K:=by
 refine (H7 h).mono ?_;rintro _ J _ ⟨rfl,O⟩;have:=U;unfold e3 at this;split
 ·rename_i E;rw[if_pos E] at this;exact this 0 J O
 ·rename_i E;rw[if_neg E] at this;exact this 1 J O
theorem yS {i:Int} (h:cz w az gT A R n s t):ah x5 Az [.pointer (some ⟨az,0,none⟩),.int .i64 i] w fun r w'=>Ext w w'∧ ∃ cap,r= .func (.func nX) #[] cap∧ ∀ l,lY w' nX cap l (e3 n s i):=by
 refine aq func96 ?_;refine a7 fun X Y af Z E=>?_;refine a7 fun aa ac ag U J=>?_;rw[hL];have W:=Z.trans U;refine⟨W,_,rfl,fun l w' v O _=>?_⟩;refine aq func176 ?_;have E:ad Y X dS [.pointer (some ⟨az,0,none⟩)]:=E;have J:ad ac aa ab [.int .i64 i]:=J;rw[V (v:=.pointer (some ⟨az,0,none⟩)) (by kernel_rfl) (((E.ext U).ext O).cell (o:=0) rfl),V (v:=.int .i64 i) (by kernel_rfl) ((J.ext O).cell (o:=0) rfl)];refine yR (h.ext (W.trans O)) fun e ai ae=>?_;rw[av (v:=.int .i64 (e3 n s i v)) rfl,av (v:=.int .i64 e) rfl];exact⟨rfl,ae⟩
theorem pG {i:Int} (O:hx n.k n.sizes s) (h:eB n s i=true):0≤i∧ ∃ x,s.vars[i.toNat]? =some x∧x.gone=0:=by
 unfold eB at h;rw[X2] at h;have h1:=of_decide_eq_true h.1;have U:=O.vars;obtain⟨x,J⟩:∃ x,s.vars[i.toNat]? =some x:=⟨_,y0 (by omega)⟩;have E:=h.2;unfold kU at E;rw[J] at E;exact⟨h1.1,x,J,by simpa using E⟩
theorem Ir {i:Int} (h:cz w az gT A R n s t) (V:Laid w):ah x5 ql [.pointer (some ⟨az,0,none⟩),.int .i64 i] w fun r w'=>Ext w w'∧(eB n s i=false→r= .tuple #[.int .i64 0,.int .i64 (-1),.int .i64 1])∧
  ∀ x,eB n s i=true→s.vars[i.toNat]? =some x→r= .tuple #[.int .i64 (dh n.k (bD x) (e3 n s i)).1,.int .i64 (dh n.k (bD x) (e3 n s i)).2,.int .i64 0]:=by
 refine aq func25 ?_;refine (yO h).mono ?_;rintro _ ab _ ⟨rfl,E⟩;cases ac:eB n s i with
 |false=>
  rw[if_neg (by decide),be,aa];exact⟨fun _=>⟨E,fun _=>rfl,fun _ h=>by cases h⟩,fun h=>absurd (by decide) h⟩
 |true=>
  obtain⟨W,x,O,_⟩:=pG h.2.2.2.1 ac;rw[if_pos rfl,be,aa];refine⟨fun h=>absurd rfl h,fun _=>?_⟩;refine (yS (i:=i) (h.ext E)).mono ?_;rintro _ ad _ ⟨X,cap,rfl,Y⟩;have J:=E.trans X;refine (si (h.ext J) (V.ext J) W O (Y _)).mono ?_;rintro _ ae _ ⟨Z,rfl⟩;rw[av (v:=.int .i64 (dh n.k (bD x) (e3 n s i)).1) rfl,av (v:=.int .i64 (dh n.k (bD x) (e3 n s i)).2) rfl];exact⟨J.trans Z,(fun h=>by cases h),fun af _ U=>by rw[O] at U;cases U;rfl⟩
theorem kV {j:Nat} {f:gb} (h:cz w az gT A R n s t) (ag:s.funs[j]? =some f):ah x5 qo [.pointer (some ⟨az,0,none⟩),.int .i64 (j:Int)] w fun r w'=>Ext w w'∧ ∃ g,w.heap.size≤g∧am .i64 ab w' g r f.sc:=by
 have ai:=(x3.1 ag).1;refine aq func50 ?_;refine aL (fun v O=>v= .bool false∧Ext w O) ?_ ?_
 ·rintro _ O ⟨rfl,E⟩;rw[aP];obtain⟨aj,ak,X,al,ap,au,L,av,Y,aw,ay,aA,U,J⟩:=(h.ext E).1.parts;obtain⟨y,W⟩:∃ y,L[j]? =some y:=⟨_,y0 (by rw[J.1];omega)⟩;obtain⟨Z,_,_⟩:=J.2 j y f W ag;rw[ax,ae ch.p rfl,V (v:=X) (by kernel_rfl) (Y.cell (o:=0+3) rfl),cr rfl dZ.u eF.i U (by rw[J.1];omega),ae eF.p rfl,V (v:=y.aN) (by kernel_rfl) (U.range W 0 _ rfl)];have aB:f.sc.length≤6:=(h.2.2.2.1.funs f (x4 ag)).1.scope.2;refine (hQ Z.ls (by omega)).mono ?_;rintro v aC _ ⟨ac,g,aD,hm⟩;have:=E.size;exact⟨E.trans ac,g,by omega,hm⟩
 intro aE ad;rw[ao,aa];refine⟨fun aF=>by omega,fun _=>?_⟩;refine (pD h).mono ?_;rintro _ aG _ ⟨rfl,af⟩;rw[ca];exact ad _ _ ⟨by rw[decide_eq_false (by omega)],af⟩
structure gX (s:aU) (j pos v:Int) (f:gb) (u:Int) (x:gv):Prop where
 pH:0≤j
 ag:s.funs[j.toNat]? =some f
 live:f.live≠0
 kW:0≤pos
 hu:f.sc[pos.toNat]? =some u
 kT:0≤u
 J:s.vars[u.toNat]? =some x
 ac:v∈bD x
theorem yT {j pos v:Int} (h:cz w az gT A R n s t):ah x5 tL [.pointer (some ⟨az,0,none⟩),.int .i64 j,.int .i64 pos,.int .i64 v] w fun r w'=>Ext w w'∧ ∃ e:Int,r= .int .i64 e∧(e=0∨e=1)∧(e=0↔ ∃ f u x,gX s j pos v f u x):=by
 have aN:=h.2.2.2.1.vars;refine aq func97 ?_;rw[cB dS.u];simp only[c5,aP];have key:∀ (K:x1→x2→Prop),(∀ r w',Ext w w'→(∀ f,0≤j→s.funs[j.toNat]? =some f→aC .i64 w' r f.sc)→K r w')→ah x5 qo [.pointer (some ⟨az,0,none⟩),.int .i64 j] w K:=fun K aj=>by
  by_cases ak:0≤j∧j<s.funs.length
  ·obtain⟨f,ag⟩:∃ f,s.funs[j.toNat]? =some f:=⟨_,y0 (by omega)⟩;have:=kV h ag;rw[show ((j.toNat:Nat):Int)=j by omega] at this;refine this.mono ?_;rintro r X _ ⟨O,g,_,hm⟩;exact aj r X O fun U _ am=>by rw[ag] at am;cases am;exact hm.ls
  ·refine (In h ak).mono ?_;rintro r X _ ⟨rfl,O⟩;exact aj _ X O fun f Y ag=>absurd ⟨Y,by have:=(x3.1 ag).1;omega⟩ ak
 refine key _ fun r X O aG=>?_;refine aL (fun aH ap=>∃ b,aH= .bool b∧(b=false↔ ∃ f u x,gX s j pos v f u x)∧Ext w ap) ?_ ?_
 ·rintro _ ap ⟨b,rfl,Z,au⟩;rw[b3];refine⟨fun av=>⟨au,1,rfl,.inr rfl,⟨(fun h=>by cases h),fun h=>by rw[Z.2 h] at av;cases av⟩⟩,fun ag=>⟨au,0,rfl,.inl rfl,⟨fun _=>Z.1 ag,fun _=>rfl⟩⟩⟩
 intro aO ad;refine (se (j:=j) (h.ext O)).mono ?_;rintro _ aQ _ ⟨rfl,aw⟩;have V:=O.trans aw;rw[bJ,b3];refine⟨fun ae=>ad _ _ ⟨true,rfl,⟨(fun h=>by cases h),fun⟨f,u,x,E⟩=>?_⟩,V⟩,fun af=>?_⟩
 ·rw[decide_eq_true E.pH,Bool.true_and] at ae;unfold eA at ae;rw[E.ag] at ae;simp[E.live] at ae
 have af:0≤j∧eA s j.toNat=true:=by simpa using af
 obtain⟨Y,W⟩:=af;obtain⟨f,ag,aJ⟩:∃ f,s.funs[j.toNat]? =some f∧f.live≠0:=by
  unfold eA at W;cases ag:s.funs[j.toNat]? with
  |none=>rw[ag] at W;cases W
  |some f=>rw[ag] at W;exact⟨f,rfl,by simpa using W⟩
 have ax:=(aG f Y ag).ext aw;have ay:=(h.2.2.2.1.funs f (x4 ag)).1;have same:∀ {U u x},gX s j pos v U u x→U=f:=fun E=>by have:=E.ag;rw[ag] at this;cases this;rfl
 rw[ao,aa];refine⟨fun aR=>ad _ _ ⟨true,rfl,⟨(fun h=>by cases h),fun⟨f,u,x,E⟩=>by have:=E.kW;omega⟩,V⟩,fun aS=>?_⟩;rw[aI al.u ax,ca,aa];refine⟨fun aT=>ad _ _ ⟨true,rfl,⟨(fun h=>by cases h),fun⟨U,u,x,E⟩=>?_⟩,V⟩,fun aU=>?_⟩
 ·obtain rfl:=same E;have:=(x3.1 E.hu).1;omega
 obtain⟨u,hu⟩:∃ u,f.sc[pos.toNat]? =some u:=⟨_,y0 (by omega)⟩;have aA:=x4 hu;have aB:=(ay.scope.1 u aA).1;have aV:=ay.vars u aA;obtain⟨x,ai⟩:∃ x,s.vars[u.toNat]? =some x:=⟨_,y0 (by omega)⟩;rw[eS (y:=pos) (i:=pos.toNat) (by omega) al.u ab.i (by kernel_rfl) ax hu];refine (pF (i:=u) (h.ext V)).mono ?_;rintro _ aW _ ⟨⟨b,m,rfl,aD⟩,aK⟩;refine (H2 (v:=v) aD.1).mono ?_;rintro _ aX _ ⟨rfl,aM⟩;rw[Iq aD aB ai,bJ];refine ad _ _ ⟨_,rfl,⟨fun Z=>⟨f,u,x,Y,ag,aJ,by omega,hu,aB,ai,by simpa using Z⟩,fun⟨U,aY,aZ,E⟩=>?_⟩,(V.trans aK).trans aM⟩;obtain rfl:=same E;have aE:=E.hu;rw[hu] at aE;cases aE;have aF:=E.J;rw[ai] at aF;cases aF;rw[decide_eq_true E.ac];rfl
end
def fg (n:bd) (s:aU) (j:Nat) (pos v o u:Int):Int:=min (dz s j (if pos=1 then[u,v] else[v,u])+e3 n s o u) n.k
section
variable {w:x2} {az gT:Nat} {A R:an} {n:bd} {s:aU} {t:aM}
theorem Is {j:Nat} {pos v o:Int} {af ag ah ai aj:Nat} (h:cz w az gT A R n s t) (h1:ad w af ab [.int .i64 v]) (ao:ad w ag ab [.int .i64 pos]) (W:ad w ah dS [.pointer (some ⟨az,0,none⟩)]) (ap:ad w ai ab [.int .i64 (j:Int)]) (au:ad w aj ab [.int .i64 o]) (l:List Int):
  lY w A6 #[.pointer (some ⟨af,0,none⟩),.pointer (some ⟨ag,0,none⟩),.pointer (some ⟨ah,0,none⟩),.pointer (some ⟨ai,0,none⟩),.pointer (some ⟨aj,0,none⟩)] l (fg n s j pos v o):=fun w' u J _=>by
 have h:=h.ext J;refine aq func177 ?_;rw[V (v:=.int .i64 v) (by kernel_rfl) ((h1.ext J).cell (o:=0) rfl)];refine ox (l:=[v,u]) al.u ab.i (by simp) rfl (by kernel_rfl) fun aE aF aG aH X aw=>?_;have ak:=J.trans X;refine aL (fun r O=>Ext w' O∧aC .i64 O r (if pos=1 then[u,v] else[v,u])) ?_ ?_
 ·rintro aI O ⟨E,ax⟩;have Y:=J.trans E;rw[V (v:=.pointer (some ⟨az,0,none⟩)) (by kernel_rfl) ((W.ext Y).cell (o:=0) rfl),V (v:=.int .i64 (j:Int)) (by kernel_rfl) ((ap.ext Y).cell (o:=0) rfl)];refine yQ (h.ext E) ax fun e aJ U=>?_;have Z:=Y.trans U;rw[av (v:=.int .i64 (dz s j (if pos=1 then[u,v] else[v,u]))) rfl,av (v:=.int .i64 e) rfl,V (v:=.pointer (some ⟨az,0,none⟩)) (by kernel_rfl) ((W.ext Z).cell (o:=0) rfl),V (v:=.int .i64 o) (by kernel_rfl) ((au.ext Z).cell (o:=0) rfl)];refine yR (h.ext (E.trans U)) fun ay aK ac=>?_;have aA:=Z.trans ac;rw[av (v:=.int .i64 (e3 n s o u)) rfl,av (v:=.int .i64 ay) rfl,V (v:=.pointer (some ⟨az,0,none⟩)) (by kernel_rfl) ((W.ext aA).cell (o:=0) rfl)];refine (yN (h.ext ((E.trans U).trans ac)) (yP h.2.2.2.1) (sj h.2.2.2.1)).mono ?_;rintro _ aM _ ⟨rfl,aB⟩;exact⟨rfl,((E.trans U).trans ac).trans aB⟩
 intro aN am;rw[V (v:=.int .i64 pos) (by kernel_rfl) ((ao.ext ak).cell (o:=0) rfl),bc,aa];refine⟨fun ae=>?_,fun ae=>am _ _ ⟨X,by rw[if_neg ae];exact aw.ls⟩⟩;rw[V (v:=.int .i64 v) (by kernel_rfl) ((h1.ext ak).cell (o:=0) rfl)];refine ox (l:=[u,v]) al.u ab.i (by simp) rfl (by kernel_rfl) fun aO aP O aQ E aD=>?_;exact am _ _ ⟨X.trans E,by rw[if_pos ae];exact aD.ls⟩
theorem yU {j:Nat} {pos v o:Int} {f:gb} {x:gv} (h:cz w az gT A R n s t) (aC:Laid w) (ag:s.funs[j]? =some f) (aW:0≤pos∧pos≤1) (aX:f.sc.length=2) (aj:f.sc[(1-pos).toNat]? =some o) (J:s.vars[o.toNat]? =some x):
  ah x5 AB [.pointer (some ⟨az,0,none⟩),.int .i64 (j:Int),.int .i64 pos,.int .i64 v] w fun r w'=>Ext w w'∧r= .tuple #[.int .i64 (dh n.k (bD x) (fg n s j pos v o)).1,.int .i64 (dh n.k (bD x) (fg n s j pos v o)).2]:=by
 have aD:=((h.2.2.2.1.funs f (x4 ag)).1.scope.1 o (x4 aj)).1;have aY:j<4611686018427387904:=by
  have h1:=nq h.2.1 h.2.2.1;have a1:=yE ag;have a2:=(x3.1 ag).1;have a6:j≤e0 s j:=by
   unfold e0;have:j≤((s.funs.take j).flatMap fE).length:=by
    have aE:∀ (L:List gb),L.length≤(L.flatMap fE).length:=fun L=>by
     induction L with
     |nil=>exact u9 _
     |cons a L a8=>rw[W7,r8,l6];have:(fE a).length=a.cs.length+1:=rfl;omega
    have aF:=aE (s.funs.take j);rw[o5] at aF;omega
   omega
  omega
 refine aq func100 ?_;refine a7 fun aG ba bb aH Z=>?_;refine a7 fun aI bc bd ax ac=>?_;refine a7 fun aJ be bf ak ae=>?_;refine a7 fun aK aa bg af am=>?_;have ay:=((aH.trans ax).trans ak).trans af;have Z:ad aa aG dS [.pointer (some ⟨az,0,none⟩)]:=((Z.ext ax).ext ak).ext af;have ac:ad aa aI ab [.int .i64 (j:Int)]:=(ac.ext ak).ext af;have ae:ad aa aJ ab [.int .i64 pos]:=ae.ext af;have am:ad aa aK ab [.int .i64 v]:=am;refine aL (fun r ao=>Ext aa ao∧ ∃ E,r= .pointer (some ⟨E,0,none⟩)∧ad ao E ab [.int .i64 o]) ?_ ?_
 ·rintro _ ao ⟨X,E,rfl,Y⟩;have ai:=ay.trans X;rw[V (v:=.pointer (some ⟨az,0,none⟩)) (by kernel_rfl) ((Z.ext X).cell (o:=0) rfl),V (v:=.int .i64 o) (by kernel_rfl) (Y.cell (o:=0) rfl),hL];refine (si (h.ext ai) (aC.ext ai) aD J (Is (h.ext ai) (am.ext X) (ae.ext X) (Z.ext X) (ac.ext X) Y _)).mono ?_;rintro _ bh _ ⟨aM,rfl⟩;rw[av (v:=.int .i64 (dh n.k (bD x) (fg n s j pos v o)).1) rfl,av (v:=.int .i64 (dh n.k (bD x) (fg n s j pos v o)).2) rfl];exact⟨ai.trans aM,rfl⟩
 intro bj aA bk O _ _;have aB:=ay.trans O;rw[V (v:=.pointer (some ⟨az,0,none⟩)) (by kernel_rfl) ((Z.ext O).cell (o:=0) rfl),V (v:=.int .i64 (j:Int)) (by kernel_rfl) ((ac.ext O).cell (o:=0) rfl),V (v:=.int .i64 pos) (by kernel_rfl) ((ae.ext O).cell (o:=0) rfl),cY,wrap_i64 (by omega) (by omega)];refine⟨?_,?_⟩
 ·refine (kV (h.ext aB) ag).mono ?_;rintro r aN _ ⟨U,aO,aP,ap⟩;refine⟨.inl U,?_⟩;refine oy (y:=1-pos) (i:=(1-pos).toNat) (by omega) al.u ab.i ap.ls aj fun bl co aQ=>?_;rw[V (v:=.int .i64 o) (by kernel_rfl) aQ];refine bi ab.i fun E aR aS W Y=>?_;refine⟨.inl W,.inl (U.trans W),?_⟩;have z9:=((O.trans U).trans W).size;refine aZ (v:=.int .i64 o) ab.i rfl rfl Y (by decide) fun aT au aU aw=>?_;have bm:=(O.trans U).size;exact aA _ _ ⟨((O.trans U).trans W).then au fun r aV he=>by have he:r=E:=he;omega,E,rfl,aw⟩
 ·refine bi ab.i fun E aR aS W Y=>?_;refine⟨.inl W,?_⟩;refine (kV (h.ext (aB.trans W)) ag).mono ?_;rintro r aN _ ⟨U,aO,aP,ap⟩;refine⟨.inl (W.trans U),?_⟩;rw[eS (y:=1-pos) (i:=(1-pos).toNat) (by omega) al.u ab.i (by kernel_rfl) ap.ls aj];have bn:=O.size;refine aZ (v:=.int .i64 o) ab.i rfl rfl (Y.ext U) (by decide) fun aT au aU aw=>?_;exact aA _ _ ⟨((O.trans W).trans U).then au fun r aV he=>by have he:r=E:=he;omega,E,rfl,aw⟩
def It (n:bd) (s:aU) (j pos v:Int) (r:x1):Prop:=((¬∃ f u x,gX s j pos v f u x)→r= .tuple #[.int .i64 0,.int .i64 (-1),.int .i64 1])∧ ∀ f u x,gX s j pos v f u x→(f.sc.length≠2→r= .tuple #[.int .i64 0,.int .i64 (-1),.int .i64 1])∧
 (f.sc.length=2→ ∀ o y,f.sc[(1-pos).toNat]? =some o→s.vars[o.toNat]? =some y→r= .tuple #[.int .i64 (dh n.k (bD y) (fg n s j.toNat pos v o)).1,.int .i64 (dh n.k (bD y) (fg n s j.toNat pos v o)).2,.int .i64 0])
theorem gX.same {j pos v:Int} {f E:gb} {u O:Int} {x U:gv} (h:gX s j pos v f u x) (k:gX s j pos v E O U):E=f∧O=u∧U=x:=by
 have V:=h.ag;rw[k.ag] at V;cases V;have W:=h.hu;rw[k.hu] at W;cases W;have X:=h.J;rw[k.J] at X;cases X;exact⟨rfl,rfl,rfl⟩
theorem Iu {j pos v:Int} (h:cz w az gT A R n s t) (ai:Laid w):ah x5 tC [.pointer (some ⟨az,0,none⟩),.int .i64 j,.int .i64 pos,.int .i64 v] w fun r w'=>Ext w w'∧It n s j pos v r:=by
 refine aq func27 ?_;refine (yT h).mono ?_;rintro _ ay _ ⟨W,e,rfl,he,Y⟩;rw[be,aa];refine⟨fun J=>⟨W,fun _=>by rw[he.resolve_left J],fun f u x E=>absurd (Y.2 ⟨f,u,x,E⟩) J⟩,fun aj=>?_⟩;obtain⟨f,u,x,E⟩:=Y.1 (Z7.1 aj);have Z:=kV (h.ext W) E.ag;have aA:=E.pH;rw[show ((j.toNat:Nat):Int)=j by omega] at Z;refine Z.mono ?_;rintro r aB _ ⟨ak,aC,_,am⟩;have O:=W.trans ak;rw[aI al.u am.ls,be,aa];refine⟨fun J=>⟨O,fun _=>rfl,fun ao ap au X=>⟨fun _=>rfl,fun U=>?_⟩⟩,fun U=>?_⟩
 ·obtain⟨rfl,_⟩:=E.same X;omega
 have U:f.sc.length=2:=by omega
 have aD:=(x3.1 E.hu).1;have aE:=E.kW;obtain⟨o,V⟩:∃ o,f.sc[(1-pos).toNat]? =some o:=⟨_,y0 (by omega)⟩;have ab:=(h.2.2.2.1.funs f (x4 E.ag)).1;have aF:=h.2.2.2.1.vars;have aG:=ab.vars o (x4 V);have aH:=(ab.scope.1 o (x4 V)).1;obtain⟨y,ac⟩:∃ y,s.vars[o.toNat]? =some y:=⟨_,y0 (by omega)⟩;have ad:=yU (v:=v) (h.ext O) (ai.ext O) E.ag ⟨E.kW,by omega⟩ U V ac;rw[show ((j.toNat:Nat):Int)=j by omega] at ad;refine ad.mono ?_;rintro _ aJ _ ⟨aw,rfl⟩;rw[av (v:=.int .i64 (dh n.k (bD y) (fg n s j.toNat pos v o)).1) rfl,av (v:=.int .i64 (dh n.k (bD y) (fg n s j.toNat pos v o)).2) rfl];refine⟨O.trans aw,fun ax=>absurd ⟨f,u,x,E⟩ ax,fun ao ap au X=>?_⟩;obtain⟨rfl,_⟩:=E.same X;refine⟨fun J=>absurd U J,fun _ o' aK ae af=>?_⟩;rw[V] at ae;cases ae;rw[ac] at af;cases af;rfl
end
theorem Iv {sv:x1} {l:List Int} {x:Int} {w:x2} (h:aC .i64 w sv l):ah x5 qp [sv,.int .i64 x] w fun v w'=>Ext w w'∧ ∃ r:Int,v= .int .i64 r∧(x∉l→r= -1)∧(x∈l→0≤r∧l[r.toNat]? =some x):=by
 refine aq func103 ?_;rw[aI al.u h];refine bM.range l.length (fun i _ U=>Ext w U∧x∉l.take i) h.le ⟨Ext.refl _,by simp⟩ ?_ ?_
 ·rintro i _ U k hi ⟨E,J⟩ V;rw[ao,aa];refine⟨fun _=>?_,fun h=>by omega⟩;obtain⟨y,O⟩:∃ y,l[i]? =some y:=⟨_,y0 hi⟩;rw[a1 al.u ab.i (by kernel_rfl) (h.ext E) O,bc,aa];refine⟨fun he=>⟨E,i,rfl,fun hm=>absurd (he▸x4 O) hm,fun _=>⟨by omega,by rw[he,c8];exact O⟩⟩,fun he=>?_⟩;rw[aF];refine V _ _ ⟨E,fun hm=>?_⟩;rw[u4,O] at hm;rcases p9.1 hm with hm|hm
  ·exact J hm
  ·simp at hm;exact he hm
 ·rintro _ U k ⟨E,J⟩;rw[o3] at J;rw[ao,aa];exact⟨fun h=>by omega,fun _=>⟨E,-1,rfl,fun _=>rfl,fun h=>absurd h J⟩⟩
theorem Iw {sv:x1} {l:List Int} {x:Int} {w:x2} (h:aC .i64 w sv l):ah x5 AI [sv,.int .i64 x] w fun v w'=>v= .bool (decide (x∈l))∧Ext w w':=by
 refine aq func119 ?_;refine (Iv h).mono ?_;rintro _ V _ ⟨J,r,rfl,E,O⟩;rw[ca];refine⟨?_,J⟩;congr 1;refine decide_eq_decide.2 ⟨fun W=>?_,fun hm=>(O hm).1⟩;exact Z7.1 fun U=>by have:=E U;omega
set_option maxHeartbeats 1000000 in
theorem Ix {sv:x1} {l:List Int} {g ap:Nat} {cap:Array x1} {p:Int→Bool} {w:x2} (h:am .i64 ab w g sv l) (bb:l.length≤100000000)
  (az:∀ w' x,af (fun r=>leads sv r) w w'→x∈l→ah x5 ap (.int .i64 x::cap.toList) w' fun r aH=>r= .bool (p x)∧Ext w' aH):
  ah x5 Au [sv,.func (.func ap) #[] cap] w fun v w'=>af (fun r=>leads sv r) w w'∧am .i64 ab w' g v (l.filter fun x=>!p x):=by
 have aJ:ah x5 qu [sv,.func (.func ap) #[] cap] w fun v w'=>Ext w w'∧((v= .int .i64 (-1)∧ ∀ x∈l,p x=false)∨ ∃ i:Nat,v= .int .i64 (i:Int)∧i<l.length∧(∀ x∈l.take i,p x=false)∧ ∀ x,l[i]? =some x→p x=true):=by
  refine aq func170 ?_;rw[aI al.u h.ls];refine bM.range l.length (fun i _ ac=>Ext w ac∧ ∀ x∈l.take i,p x=false) h.ls.le ⟨Ext.refl _,by simp⟩ ?_ ?_
  ·rintro i _ ac k hi ⟨O,X⟩ Y;rw[ao,aa];refine⟨fun _=>?_,fun h=>by omega⟩;obtain⟨y,V⟩:∃ y,l[i]? =some y:=⟨_,y0 hi⟩;rw[a1 al.u ab.i (by kernel_rfl) (h.ls.ext O) V];refine ah.mono (az ac y (O.U _) (x4 V)) ?_;rintro _ bd _ ⟨rfl,aA⟩;rw[b3];refine⟨fun au=>⟨O.trans aA,.inr ⟨i,rfl,hi,X,fun x J=>by rw[V] at J;cases J;exact au⟩⟩,fun ag=>?_⟩;rw[aF];refine Y _ _ ⟨O.trans aA,fun x J=>?_⟩;rw[u4,V] at J;rcases p9.1 J with J|J
   ·exact X x J
   ·simp at J;subst J;exact ag
  ·rintro _ ac k ⟨O,X⟩;rw[o3] at X;rw[ao,aa];exact⟨fun h=>by omega,fun _=>⟨O,.inl ⟨rfl,X⟩⟩⟩
 refine aq func85 ?_;refine aJ.mono ?_;rintro _ ac _ ⟨O,⟨rfl,X⟩|⟨i,rfl,hi,X,aK⟩⟩
 ·rw[bc,aa];refine⟨fun _=>⟨O.U _,?_⟩,fun h=>absurd rfl h⟩;rw[List.filter_eq_self.2 fun x J=>by rw[X x J];rfl];exact h.ext O
 rw[bc,aa];refine⟨fun h=>by omega,fun _=>?_⟩;rw[aF,wrap_i64 (by omega) (by omega)];obtain⟨n,av⟩:∃ n,l.length=n:=⟨_,rfl⟩;obtain⟨W,rfl⟩:∃ W,sv= .slice (some ⟨g,0,none⟩) n W:=by
  obtain⟨_,⟨_,h1⟩|⟨W,cs,h1,_⟩⟩:=id h
  ·omega
  ·exact⟨W,by rw[h1,av]⟩
 obtain⟨_,_,_,_,be,aM,_⟩:=nb h (by omega);have aB:∀ r,r=g→leads (.slice (some ⟨g,0,none⟩) n W) r:=fun r aN=>⟨_,_,_,rfl,aN.symm⟩;have aO:(l.take (i+1)).filter (fun x=>!p x)=l.take i:=by
  obtain⟨y,V⟩:∃ y,l[i]? =some y:=⟨_,y0 hi⟩;rw[u4,V,List.filter_append,List.filter_eq_self.2 fun x J=>by rw[X x J];rfl];simp[aK y V]
 refine⟨fun aw ax ad=>∃ (q j:Nat) (E:List Int),aw= .int .i64 (q:Int)∧ax= .int .i64 (j:Int)∧q<j∧j≤n∧af (fun r=>r=g) w ad∧am .i64 ab ad g (.slice (some ⟨g,0,none⟩) n W) E∧E.length=n∧E.take q=(l.take j).filter (fun x=>!p x)∧ ∀ k,j≤k→E[k]? =l[k]?,
  fun _ ax _=>n-(bl ax).toNat,⟨i,i+1,l,rfl,rfl,by omega,by omega,O.U _,h.ext O,av,aO.symm,fun _ _=>rfl⟩,?_⟩
 rintro _ _ ad ⟨q,j,E,rfl,rfl,bf,bg,ae,ai,aC,Z,ay⟩;have bh:q=((l.take j).filter fun x=>!p x).length:=by rw[←Z,o5];omega
 rw[fy al.u,ao,aa];refine⟨fun aP=>?_,fun bi=>?_⟩
 ·have aP:j<n:=by omega
  obtain⟨y,V⟩:∃ y,l[j]? =some y:=⟨_,y0 (by omega)⟩;have aQ:E[j]? =some y:=by rw[ay j (u9 _),V]
  refine aL (fun aw aj=>∃ (q:Nat) (E:List Int),aw= .int .i64 (q:Int)∧q<j+1∧af (fun r=>r=g) w aj∧am .i64 ab aj g (.slice (some ⟨g,0,none⟩) n W) E∧E.length=n∧E.take q=(l.take (j+1)).filter (fun x=>!p x)∧ ∀ k,j+1≤k→E[k]? =l[k]?) ?_ ?_
  ·rintro _ aj ⟨q,E,rfl,h1,aR,aS,aT,aU,aV⟩;rw[aF,wrap_i64 (by omega) (by omega)];exact⟨⟨q,j+1,E,rfl,rfl,h1,by omega,aR,aS,aT,aU,aV⟩,by simp only[bl];omega⟩
  intro bj aD;rw[a1 al.u ab.i (by kernel_rfl) ai.ls aQ];refine ah.mono (az ad y (ae.mono fun r _=>aB r) (x4 V)) ?_;rintro _ aj _ ⟨rfl,ak⟩;have aE:(l.take (j+1)).filter (fun x=>!p x)=(l.take j).filter (fun x=>!p x)++[y].filter (fun x=>!p x):=by rw[u4,V,List.filter_append];rfl
  rw[bJ,b3];refine⟨fun au=>?_,fun ag=>?_⟩
  ·have aG:=ai.ext ak;rw[fR rfl al.u ab.i aG (by omega)];refine fS ab.i aG (by omega) fun bk aW bm aX=>?_;rw[aF,wrap_i64 (by omega) (by omega)];refine aD _ _ ⟨q+1,_,rfl,by omega,(ae.trans (ak.U _)).trans aW,aX,by simpa using aC,?_,fun k Y=>?_⟩
   ·rw[aE,u4,U1 (by omega),List.take_set_of_le (u9 _),Z];simp only[l9];rw[show[y].filter (fun x=>!p x)=[y] by simpa using au]
   ·rw[List.getElem?_set_ne (by omega)];exact ay k (by omega)
  ·refine aD _ _ ⟨q,E,rfl,by omega,ae.trans (ak.U _),ai.ext ak,aC,?_,fun k Y=>ay k (by omega)⟩;rw[aE,show[y].filter (fun x=>!p x)=[] by simpa using ag,V4];exact Z
 ·have aY:j=n:=by omega
  subst aY;rw[←av,o3] at Z;obtain⟨_,_,cs,aZ,_,_,bn,a2⟩:=nb ai (by omega);simp only[maxLen] at aM;rw[fz al.u ab.i (l:=q) (h:=j) (m:=W) mp hd eb (by omega) (by omega) (by omega),if_neg (by omega)];have a6:X1 (fun x:Addr=>x.add (q*1)) (some ⟨g,0,none⟩)=some ⟨g,q,none⟩:=by simp[W5]
  rw[a6];refine uS al.u ab.i rfl rfl aZ (by omega) (by omega) fun bo a7 bp a8=>?_;rw[fz al.u ab.i (l:=0) (h:=q) (m:=W) hc mq eb (by omega) (by omega) (by omega),if_neg (by omega)];have ba:X1 (fun x:Addr=>x.add (0*1)) (some ⟨g,0,none⟩)=some ⟨g,0,none⟩:=by simp[W5]
  rw[ba];refine⟨(ae.trans a7).mono fun r _=>aB r,?_⟩;have bq:(l.filter fun x=>!p x).length=q:=by rw[←Z,o5];omega
  rw[←Z,Nat.sub_zero];refine am.of (n:=q) ⟨by simp;omega,.inr ⟨W,_,by simp,a8,by omega,by simp only[maxLen];omega,by rw[kk];omega,?_⟩⟩;rw[W9];apply Y4;intro k;by_cases Y:k<q
  ·rw[c7 Y,li _ _ _ (by simp;omega),if_neg (by omega),ints,x6,c7 Y];have:(cs.take j)[k]? =(ints .i64 E)[k]?:=by rw[a2]
   rw[c7 (by omega),ints,x6] at this;exact this
  ·rw[c6 (by simp;omega),c6 (by simp;omega)]
def jn (s:aU) (i:Int) (j:Nat):Bool:=match s.funs[j]? with
 |some f=>decide (f.live≠0)&&decide (i∈f.sc)
 |none=>false
def gd (s:aU) (i:Int) (m:Nat):List Int:=((Y1 m).filter (jn s i)).map fun j:Nat=>(j:Int)
theorem Iy {w:x2} {az gT:Nat} {A R:an} {n:bd} {s:aU} {t:aM} {i:Int} (h:cz w az gT A R n s t):ah x5 Ad [.pointer (some ⟨az,0,none⟩),.int .i64 i] w fun v w'=>Ext w w'∧ ∃ g,am .i64 ab w' g v (gd s i s.funs.length)∧ ∀ r,leads v r→w.heap.size≤r:=by
 have aV:=nq h.2.1 h.2.2.1;have aW:s.funs.length≤100000000:=by
  have h1:=nk s;have ap:∀ (L:List gb),L.length≤(L.flatMap fE).length:=fun L=>by
   induction L with
   |nil=>exact u9 _
   |cons a L aX=>rw[W7,r8,l6];have:(fE a).length=a.cs.length+1:=rfl;omega
  have aY:=ap s.funs;omega
 refine aq func64 ?_;refine (pD h).mono ?_;rintro _ aZ _ ⟨rfl,au⟩;refine bM.range s.funs.length (fun j out U=>Ext w U∧ ∃ g,am .i64 ab U g out (gd s i j)∧ ∀ r,leads out r→w.heap.size≤r) (by omega) ⟨au,0,am.nil _ _ _ _,fun r Y=>by obtain⟨a,n,c,av,a1⟩:=Y;cases av⟩ ?_ ?_
 ·rintro j out U aw ay ⟨J,g,hm,W⟩ aA;obtain⟨f,ag⟩:∃ f,s.funs[j]? =some f:=⟨_,y0 ay⟩;have ad:gd s i (j+1)=if jn s i j=true then gd s i j++[(j:Int)] else gd s i j:=by
   unfold gd;rw[List.range_succ,List.filter_append];cases aB:jn s i j <;> simp[aB]
  rw[ao,aa];refine⟨fun _=>?_,fun h=>by omega⟩;refine aL (fun out O=>Ext w O∧ ∃ g,am .i64 ab O g out (gd s i (j+1))∧ ∀ r,leads out r→w.heap.size≤r) ?_ ?_
  ·rintro out O aC;rw[aF];exact aA _ _ aC
  intro a2 af;refine aL (fun r O=>r= .bool (jn s i j)∧Ext U O) ?_ ?_
  ·rintro _ O ⟨rfl,E⟩;rw[b3];refine⟨fun aD=>?_,fun ag=>af _ _ ⟨J.trans E,g,by rw[ad,if_neg (by rw[ag];decide)];exact hm.ext E,W⟩⟩;refine dC (k:=.i64) al.u ab.i rfl fun v4 a6 aE a7 X aG=>?_;have a8:(gd s i j).length≤j:=by unfold gd;rw[u7];have:=List.length_filter_le (jn s i) (Y1 j);rw[List.length_range] at this;exact this
   refine fF al.u ab.i rfl ((hm.ext E).ext X) aG.ls (by simp;omega) (by simp;omega) fun v5 aH aI aJ aK aO=>?_;have z3:=J.size;have aP:Ext w aI:=((J.trans E).trans X).then aO fun r Y he=>by have:=W r he;omega
   have z4:=((J.trans E).trans X).size;exact af _ _ ⟨aP,aH,by rw[ad,if_pos aD];exact aJ,fun r Y=>(aK r Y).elim (W r) fun h=>by omega⟩
  intro ba ai;refine (se (j:=(j:Int)) (h.ext J)).mono ?_;rintro _ O _ ⟨rfl,E⟩;rw[decide_eq_true (by omega),Bool.true_and,c8];have aQ:eA s j=decide (f.live≠0):=by unfold eA;rw[ag]
  rw[aQ,aa];refine⟨fun Z=>?_,fun Z=>ai _ _ ⟨by unfold jn;rw[ag];simp only;rw[decide_eq_false Z];rfl,E⟩⟩;obtain⟨bb,bc,aR,be,bf,bg,L,bh,aS,bi,bj,bk,aj,ac⟩:=(h.ext (J.trans E)).1.parts;obtain⟨y,ak⟩:∃ y,L[j]? =some y:=⟨_,y0 (by rw[ac.1];omega)⟩;obtain⟨aT,_,_⟩:=ac.2 j y f ak ag;rw[ax,ae ch.p rfl,V (v:=aR) (by kernel_rfl) (aS.cell (o:=0+3) rfl),cr rfl dZ.u eF.i aj (by rw[ac.1];omega),ae eF.p rfl,V (v:=y.aN) (by kernel_rfl) (aj.range ak 0 _ rfl)];refine (Iw (x:=i) aT.ls).mono ?_;rintro _ aE _ ⟨rfl,X⟩;exact ai _ _ ⟨by unfold jn;rw[ag];simp only;rw[decide_eq_true Z,Bool.true_and],E.trans X⟩
 ·rintro out U aw ⟨J,g,hm,W⟩;rw[ao,aa];exact⟨fun h=>by omega,fun _=>⟨J,g,hm,W⟩⟩
def nr (s:aU) (j:Int):Bool:=match s.funs[j.toNat]? with
 |some f=>decide (f.sc.length=2)
 |none=>false
def h5 (s:aU) (i:Int):List Int:=(gd s i s.funs.length).filter (nr s)
def hE (n:bd) (s:aU) (i v j:Int):Int:=match s.funs[j.toNat]? with
 |some f=>match f.sc[(1-eY f.sc i).toNat]? with
  |some o=>match s.vars[o.toNat]? with
   |some x=>(dh n.k (bD x) (fg n s j.toNat (eY f.sc i) v o)).1
   |none=>0
  |none=>0
 |none=>0
def ns (n:bd) (s:aU) (i v:Int):Int:=(h5 s i).foldl (fun c j=>min (c+hE n s i v j) n.k) (e3 n s i v)
theorem yV {k:Int} {l:List Int} {of:Int→Int} (O:0≤k) (h:∀ v∈l,0≤of v∧of v≤k):0≤(dh k l of).1∧(dh k l of).1≤k:=by
 unfold dh;have:∀ (l:List Int) (p:Int×Int),(0≤p.1∧p.1≤k)→(∀ v∈l,0≤of v∧of v≤k)→0≤(l.foldl (jZ of) p).1∧(l.foldl (jZ of) p).1≤k:=fun l=>by
  induction l with
  |nil=>exact fun p E _=>E
  |cons v l U=>
   intro p E J;refine U _ ?_ fun u hu=>J u (.tail _ hu);unfold jZ;split
   ·exact J v (.head _)
   ·exact E
 exact this l (k,-1) ⟨O,Int.le_refl _⟩ h
theorem yW {n:bd} {s:aU} {j:Nat} {pos v o u:Int} (E:hx n.k n.sizes s):0≤fg n s j pos v o u∧fg n s j pos v o u≤n.k:=by
 have h1:=yP (j:=j) (tl:=if pos=1 then[u,v] else[v,u]) E;have J:=sj (i:=o) (v:=u) E;have O:=E.lR;unfold fg;omega
theorem Iz {n:bd} {s:aU} {i j:Int} (U:hx n.k n.sizes s) (O:j∈h5 s i):0≤j∧ ∃ f,s.funs[j.toNat]? =some f∧f.live≠0∧i∈f.sc∧f.sc.length=2:=by
 unfold h5 gd at O;obtain⟨h1,J⟩:=List.mem_filter.1 O;obtain⟨q,E,rfl⟩:=o6.1 h1;obtain⟨_,E⟩:=List.mem_filter.1 E;unfold jn at E;unfold nr at J;rw[c8] at J;cases ag:s.funs[q]? with
 |none=>rw[ag] at E;cases E
 |some f=>
  rw[ag] at E J;simp only[X2,decide_eq_true_eq] at E J;exact⟨by omega,f,by rw[c8];exact ag,E.1,E.2,J⟩
section
variable {w:x2} {az gT:Nat} {A R:an} {n:bd} {s:aU} {t:aM}
theorem IA {i v:Int} (E:hx n.k n.sizes s) (m:Nat):0≤((h5 s i).take m).foldl (fun c j=>min (c+hE n s i v j) n.k) (e3 n s i v)∧((h5 s i).take m).foldl (fun c j=>min (c+hE n s i v j) n.k) (e3 n s i v)≤n.k:=by
 have U:=E.lR;have J:∀ j,0≤hE n s i v j∧hE n s i v j≤n.k:=fun j=>by
  unfold hE;split
  ·split
   ·split
    ·exact yV (by omega) fun u _=>yW E
    ·omega
   ·omega
  ·omega
 have:∀ (l:List Int) (c:Int),(0≤c∧c≤n.k)→0≤l.foldl (fun c j=>min (c+hE n s i v j) n.k) c∧l.foldl (fun c j=>min (c+hE n s i v j) n.k) c≤n.k:=fun l=>by
  induction l with
  |nil=>exact fun c h=>h
  |cons j l O=>exact fun c h=>O (min (c+hE n s i v j) n.k) (by have:=J j;omega)
 exact this _ _ (sj E)
theorem IB {i:Int} {ax ay aA aB aS X:Nat} {Y:x1} {cap:Array x1} (h:cz w az gT A R n s t) (aT:Laid w) (h1:ad w ax lb [.func (.func X) #[] cap]) (aU:∀ l,lY w X cap l (e3 n s i)) (aV:ad w ay al [Y]) (aC:am .i64 ab w aS Y (h5 s i))
  (Z:ad w aA dS [.pointer (some ⟨az,0,none⟩)]) (aW:ad w aB ab [.int .i64 i]) (l:List Int):
  lY w AC #[.pointer (some ⟨ax,0,none⟩),.pointer (some ⟨ay,0,none⟩),.pointer (some ⟨aA,0,none⟩),.pointer (some ⟨aB,0,none⟩)] l (ns n s i):=fun w' v ae ac=>by
 refine aq func102 ?_;rw[V (v:=.func (.func X) #[] cap) (by kernel_rfl) ((h1.ext ae).cell (o:=0) rfl)];refine ah.mono (aU [v] w' v ae (.head _)) ?_;rintro _ aX _ ⟨rfl,aD⟩;have af:=ae.trans aD;have ai:=aC.ext af;obtain⟨_,_,_,bb⟩:=ct ai.ls;rw[V (v:=Y) (by kernel_rfl) ((aV.ext af).cell (o:=0) rfl),aI al.u ai.ls];have E:=h.2.2.2.1;refine bM.range (h5 s i).length (fun q aH aj=>Ext aX aj∧aH= .int .i64 (((h5 s i).take q).foldl (fun c j=>min (c+hE n s i v j) n.k) (e3 n s i v))) ai.ls.le ⟨Ext.refl _,rfl⟩ ?_ ?_
 ·rintro q _ aj aY aZ ⟨O,rfl⟩ a2;obtain⟨j,ak⟩:∃ j,(h5 s i)[q]? =some j:=⟨_,y0 aZ⟩;obtain⟨bc,f,ag,bd,a6,a7⟩:=Iz E (x4 ak);have ap:=(E.funs f (x4 ag)).1;have aE:eX f.sc:=rG ap.up;obtain⟨p,aG⟩:=Y6.1 a6;have be:=(x3.1 aG).1;have aJ:=rC aE aG;obtain⟨o,U⟩:∃ o,f.sc[(1-(p:Int)).toNat]? =some o:=⟨_,y0 (by omega)⟩;have bf:=E.vars;have bg:=ap.vars o (x4 U);have bh:=(ap.scope.1 o (x4 U)).1;obtain⟨y,aK⟩:∃ y,s.vars[o.toNat]? =some y:=⟨_,y0 (by omega)⟩;have aL:=af.trans O;rw[ao,aa];refine⟨fun _=>?_,fun h=>by omega⟩;rw[a1 al.u ab.i (by kernel_rfl) (aC.ext aL).ls ak];intro bi aM _ _;have J:=aL.trans aM;rw[V (v:=.pointer (some ⟨az,0,none⟩)) (by kernel_rfl) ((Z.ext J).cell (o:=0) rfl),V (v:=.pointer (some ⟨az,0,none⟩)) (by kernel_rfl) ((Z.ext J).cell (o:=0) rfl),V (v:=.int .i64 i) (by kernel_rfl) ((aW.ext J).cell (o:=0) rfl)];have aN:=kV (h.ext J) ag;rw[show ((j.toNat:Nat):Int)=j by omega] at aN;refine aN.mono ?_;rintro r bj _ ⟨W,bk,_,a8⟩;refine⟨.inl W,?_⟩;refine (pm (x:=i) a8.ls aE).mono ?_;rintro _ bl _ ⟨rfl,au⟩;refine⟨.inl (W.trans au),?_⟩;rw[aJ];have aw:=(J.trans W).trans au;have aO:=yU (v:=v) (pos:=(p:Int)) (h.ext aw) (aT.ext aw) ag ⟨by omega,by omega⟩ a7 U aK;rw[show ((j.toNat:Nat):Int)=j by omega] at aO;refine aO.mono ?_;rintro _ bm _ ⟨aP,rfl⟩;have aQ:=aw.trans aP;have aR:hE n s i v j=(dh n.k (bD y) (fg n s j.toNat (p:Int) v o)).1:=by
   unfold hE;rw[ag];simp only;rw[aJ,U];simp only;rw[aK]
  rw[av (v:=.int .i64 (dh n.k (bD y) (fg n s j.toNat p v o)).1) rfl,av (v:=.int .i64 (dh n.k (bD y) (fg n s j.toNat p v o)).2) rfl,V (v:=.pointer (some ⟨az,0,none⟩)) (by kernel_rfl) ((Z.ext aQ).cell (o:=0) rfl),←aR];refine (yN (h.ext aQ) (IA E q) (by rw[aR];exact yV (by have:=E.lR;omega) fun u _=>yW E)).mono ?_;rintro _ bn _ ⟨rfl,ba⟩;rw[aF];refine a2 _ _ ⟨((((O.trans aM).trans W).trans au).trans aP).trans ba,?_⟩;rw[u4,ak,l9,List.foldl_append];rfl
 ·rintro _ aj aY ⟨O,rfl⟩;rw[ao,aa];refine⟨fun h=>by omega,fun _=>⟨?_,aD.trans O⟩⟩;rw[o3];rfl
theorem IC {i:Int} (h:cz w az gT A R n s t) (aD:Laid w):ah x5 qn [.pointer (some ⟨az,0,none⟩),.int .i64 i] w fun r w'=>Ext w w'∧(eB n s i=false→r= .tuple #[.int .i64 0,.int .i64 (-1),.int .i64 1])∧
  ∀ x,eB n s i=true→s.vars[i.toNat]? =some x→r= .tuple #[.int .i64 (dh n.k (bD x) (ns n s i)).1,.int .i64 (dh n.k (bD x) (ns n s i)).2,.int .i64 0]:=by
 refine aq func28 ?_;refine a7 fun aW bC bE aX J=>?_;refine a7 fun aY aE bG aF O=>?_;have J:ad aE aW dS [.pointer (some ⟨az,0,none⟩)]:=J.ext aF;have O:ad aE aY ab [.int .i64 i]:=O;have au:=aX.trans aF;rw[V (v:=.pointer (some ⟨az,0,none⟩)) (by kernel_rfl) (J.cell (o:=0) rfl),V (v:=.int .i64 i) (by kernel_rfl) (O.cell (o:=0) rfl)];refine (yO (h.ext au)).mono ?_;rintro _ a1 _ ⟨rfl,W⟩;have aw:=au.trans W;cases ac:eB n s i with
 |false=>
  rw[if_neg (by decide),be,aa];exact⟨fun _=>⟨aw,fun _=>rfl,fun _ h=>by cases h⟩,fun h=>absurd (by decide) h⟩
 |true=>
  obtain⟨a2,x,aG,_⟩:=pG h.2.2.2.1 ac;rw[if_pos rfl,be,aa];refine⟨fun h=>absurd rfl h,fun _=>?_⟩;rw[V (v:=.pointer (some ⟨az,0,none⟩)) (by kernel_rfl) ((J.ext W).cell (o:=0) rfl),V (v:=.int .i64 i) (by kernel_rfl) ((O.ext W).cell (o:=0) rfl)];refine (Iy (i:=i) (h.ext aw)).mono ?_;rintro aH ax _ ⟨aj,bH,a6,aJ⟩;have aK:=aw.trans aj;rw[hL];have aL:=(J.ext W).ext aj;have a8:=(O.ext W).ext aj;have bI:=au.size;have z3:=W.size;have z4:=aj.size;have ba:(gd s i s.funs.length).length≤100000000:=by
   have h1:=(h.ext aK).2.2.1.1;have ay:=nk s;have bJ:t.cells.length=s.cells.length:=by have:=congrArg X7 h.2.1;unfold aM.bF at this;rw[u7] at this;exact this
   have bb:∀ (L:List gb),L.length≤(L.flatMap fE).length:=fun L=>by
    induction L with
    |nil=>exact u9 _
    |cons a L bK=>rw[W7,r8,l6];have:(fE a).length=a.cs.length+1:=rfl;omega
   have bL:=bb s.funs;unfold gd;rw[u7];have:=List.length_filter_le (jn s i) (Y1 s.funs.length);rw[List.length_range] at this;omega
  have low:∀ {Y:x2},af (fun r=>leads aH r) ax Y→Ext w Y:=fun X=>aK.then X fun r aN he=>by have:=aJ r he;omega
  have aA:∀ {Y:x2} {g:Nat} {e:u5} {cs:List x1},g<a1.heap.size→ad ax g e cs→af (fun r=>leads aH r) ax Y→ad Y g e cs:=fun bM bc X=>bc.U X fun he=>by have:=aJ _ he;omega
  have bN:=J.lt;have bO:=O.lt;refine (Ix (p:=fun j=>!nr s j) a6 ba fun w' j X ak=>?_).mono ?_
  ·have ak:0≤j∧ ∃ f,s.funs[j.toNat]? =some f:=by
    unfold gd at ak;obtain⟨q,Z,rfl⟩:=o6.1 ak;obtain⟨Z,_⟩:=List.mem_filter.1 Z;have Z:=List.mem_range.1 Z;exact⟨by omega,_,y0 (by rw[c8];exact Z)⟩
   obtain⟨bP,f,ag⟩:=ak;refine aq func101 ?_;have bd:=low X;rw[V (v:=.pointer (some ⟨az,0,none⟩)) (by kernel_rfl) ((aA (by omega) aL X).cell (o:=0) rfl)];have aO:=kV (h.ext bd) ag;rw[show ((j.toNat:Nat):Int)=j by omega] at aO;refine aO.mono ?_;rintro r aP _ ⟨bf,bQ,_,ae⟩;rw[aI al.u ae.ls,be];refine⟨?_,bf⟩;unfold nr;rw[ag];simp only;congr 1;by_cases ay:f.sc.length=2
   ·rw[decide_eq_true ay,decide_eq_false (by omega)];rfl
   ·rw[decide_eq_false ay,decide_eq_true (by omega)];rfl
  rintro bg aP _ ⟨am,ae⟩;have bh:(gd s i s.funs.length).filter (fun j=>!!nr s j)=h5 s i:=by unfold h5;congr 1;funext j;rw[Bool.not_not]
  rw[bh] at ae;have bj:=low am;have bk:=aA (by omega) aL am;have bl:=aA (by omega) a8 am;refine bi al.i fun bm bR bS aQ bn=>?_;obtain⟨_,_,_,aR⟩:=ct ae.ls;have z5:=am.size;have bT:=aQ.size;refine aZ (v:=bg) al.i (by rw[aR];rfl) (by rw[aR];rfl) bn (by decide) fun bo bp bU bq=>?_;have ao:Ext aP bo:=aQ.then bp fun r aN he=>by have he:r=bm:=he;omega
  have aS:=bj.trans ao;have aB:=bk.ext ao;have aC:=bl.ext ao;rw[V (v:=.pointer (some ⟨az,0,none⟩)) (by kernel_rfl) (aB.cell (o:=0) rfl),V (v:=.int .i64 i) (by kernel_rfl) (aC.cell (o:=0) rfl)];refine (yS (i:=i) (h.ext aS)).mono ?_;rintro _ br _ ⟨aT,cap,rfl,bt⟩;refine bi lb.i fun go bV bW bu bw=>?_;have bX:=aT.size;refine aZ (v:=.func (.func nX) #[] cap) lb.i rfl rfl bw (by decide) fun aU bx bY bz=>?_;have aV:Ext br aU:=bu.then bx fun r aN he=>by have he:r=go:=he;omega
  have E:=aT.trans aV;have ai:=aS.trans E;rw[V (v:=.pointer (some ⟨az,0,none⟩)) (by kernel_rfl) ((aB.ext E).cell (o:=0) rfl),V (v:=.int .i64 i) (by kernel_rfl) ((aC.ext E).cell (o:=0) rfl),hL];have bA:∀ l,lY aU nX cap l (e3 n s i):=fun l w' v ap ac=>bt l w' v (aV.trans ap) ac;refine (si (h.ext ai) (aD.ext ai) a2 aG (IB (h.ext ai) (aD.ext ai) bz bA (bq.ext E) (ae.ext (ao.trans E)) (aB.ext E) (aC.ext E) _)).mono ?_;rintro _ bZ _ ⟨bB,rfl⟩;rw[av (v:=.int .i64 (dh n.k (bD x) (ns n s i)).1) rfl,av (v:=.int .i64 (dh n.k (bD x) (ns n s i)).2) rfl];exact⟨ai.trans bB,(fun h=>by cases h),fun b1 _ ap=>by rw[aG] at ap;cases ap;rfl⟩
end
def sk (s:aU) (i:Int):List Int:=match s.vars[i.toNat]? with
 |some x=>bD x
 |none=>[]
def eC (s:aU) (sc:List Int) (pos:Int):Nat→Nat→List Int→List (List Int)
 |0,_,tl=>[tl]
 |m+1,p,tl=>if (p:Int)=pos then eC s sc pos m (p+1) tl else (sk s (sc.getD p 0)).flatMap fun v=>eC s sc pos m (p+1) (tl.set p v)
def lZ (p:Nat) (pos:Int) (a b:List Int):Prop:=a.length=b.length∧ ∀ q:Nat,q<p∨(q:Int)=pos→a[q]? =b[q]?
theorem lZ.set {p:Nat} {pos:Int} {a b:List Int} (h:lZ p pos a b) (E:(p:Int)≠pos) (v:Int):lZ (p+1) pos (a.set p v) (b.set p v):=by
 refine⟨by rw[X4,X4,h.1],fun q J=>?_⟩;rw[Y0,Y0,h.1];by_cases e:p=q
 ·rw[if_pos e,if_pos e]
 ·rw[if_neg e,if_neg e];exact h.2 q (by omega)
theorem sm {s:aU} {sc:List Int} {pos:Int}:∀ (m p:Nat) (a b:List Int),a.length=p+m→lZ p pos a b→eC s sc pos m p a=eC s sc pos m p b
 |0,p,a,b,O,h=>by
  unfold eC;congr 1;refine Y4 fun q=>?_;by_cases E:q<p
  ·exact h.2 q (.inl E)
  ·rw[c6 (by omega),c6 (by have:=h.1;omega)]
 |m+1,p,a,b,O,h=>by
  unfold eC;split
  ·rename_i J;refine sm m (p+1) a b (by omega) ⟨h.1,fun q E=>h.2 q ?_⟩;omega
  ·rename_i J;congr 1;funext v;exact sm m (p+1) _ _ (by rw[X4];omega) (h.set J v)
section
variable {az gT:Nat} {A R:an} {n:bd} {s:aU} {t:aM}
set_option maxHeartbeats 1000000 in
theorem ID {sc:List Int} {pos:Int} {gt au:Nat} {aN Y:x1} {cap:Array x1} {M:an} {I:List (List Int)→x2→Prop} (bJ:hx n.k n.sizes s) (bK:∀ u∈sc,0≤u∧u<n.sizes.length) (ci:sc.length≤6)
  (bh:∃ c,Y= .slice (some ⟨gt,0,none⟩) sc.length c) (bL:M gt) (aX:∀ d w,I d w→cz w az gT A R n s t∧Laid w∧aC .i64 w aN sc∧ ∀ r,M r→r<w.heap.size) (J:∀ d w w',Ext w w'→I d w→I d w') (bM:∀ d w w',af (fun r=>r=gt) w w'→I d w→I d w')
  (bN:∀ d tl w,I d w→am .i64 ab w gt Y tl→tl.length=sc.length→ah x5 au cap.toList w fun _ w'=>I (d++[tl]) w'∧am .i64 ab w' gt Y tl∧af M w w'):
  ∀ (m p:Nat) (tl:List Int) (d:List (List Int)) (w:x2),sc.length=p+m→tl.length=sc.length→I d w→am .i64 ab w gt Y tl→
   ah x5 AA [.pointer (some ⟨az,0,none⟩),aN,Y,.int .i64 (p:Int),.int .i64 pos,.func (.func au) #[] cap] w fun _ w'=>∃ aB,lZ p pos aB tl∧I (d++eC s sc pos m p tl) w'∧am .i64 ab w' gt Y aB∧af M w w':=by
 intro m;induction m with
 |zero=>
  intro p tl d w bO aY aD hm;obtain⟨bi,bj,aE,bk⟩:=aX d w aD;obtain⟨_,_,_,aZ⟩:=ct aE;obtain⟨c,bl⟩:=id bh;refine jB func98 ?_;refine a7 fun bm bP bQ aR aG=>?_;refine a7 fun aK bR bS aL W=>?_;refine a7 fun aS bT bU av aw=>?_;refine a7 fun a2 bV bW ao X=>?_;refine a7 fun bn bX bY ai aH=>?_;refine a7 fun a6 E bZ Z ap=>?_;have ae:=((((aR.trans aL).trans av).trans ao).trans ai).trans Z;have W:ad E aK al [aN]:=by rw[aZ] at W ⊢;exact (((W.ext av).ext ao).ext ai).ext Z
  have X:ad E a2 ab [.int .i64 (p:Int)]:=(X.ext ai).ext Z;have ap:ad E a6 uf [.func (.func au) #[] cap]:=ap;rw[V (v:=.int .i64 (p:Int)) (by kernel_rfl) (X.cell (o:=0) rfl),V (v:=aN) (by kernel_rfl) (W.cell (o:=0) rfl),aI al.u (aE.ext ae),bc,aa];refine⟨fun _=>?_,fun h=>absurd (by omega) h⟩;rw[V (v:=.func (.func au) #[] cap) (by kernel_rfl) (ap.cell (o:=0) rfl)];refine ah.mono (bN d tl E (J d w E ae aD) (hm.ext ae) aY) ?_;rintro _ bo _ ⟨h1,ag,ax⟩;intro bp aj _;exact⟨tl,⟨rfl,fun _ _=>rfl⟩,J _ _ _ aj h1,ag.ext aj,((ae.U M).trans ax).trans (aj.U M)⟩
 |succ m bq=>
  intro p tl d w bO aY aD hm;obtain⟨bi,bj,aE,bk⟩:=aX d w aD;obtain⟨_,_,_,aZ⟩:=ct aE;obtain⟨c,bl⟩:=id bh;refine jB func98 ?_;refine a7 fun bm bP bQ aR aG=>?_;refine a7 fun aK bR bS aL W=>?_;refine a7 fun aS bT bU av aw=>?_;refine a7 fun a2 bV bW ao X=>?_;refine a7 fun bn bX bY ai aH=>?_;refine a7 fun a6 E bZ Z ap=>?_;have ae:=((((aR.trans aL).trans av).trans ao).trans ai).trans Z;have aG:ad E bm dS [.pointer (some ⟨az,0,none⟩)]:=((((aG.ext aL).ext av).ext ao).ext ai).ext Z;have W:ad E aK al [aN]:=by rw[aZ] at W ⊢;exact (((W.ext av).ext ao).ext ai).ext Z
  have aw:ad E aS al [Y]:=by rw[bl] at aw ⊢;exact ((aw.ext ao).ext ai).ext Z
  have X:ad E a2 ab [.int .i64 (p:Int)]:=(X.ext ai).ext Z;have aH:ad E bn ab [.int .i64 pos]:=aH.ext Z;have ap:ad E a6 uf [.func (.func au) #[] cap]:=ap;have aT:∀ {aq:x2} {K:x1→Prop},ad aq aK al [aN]→K aN→O x5 (x7 al (.pointer (some ⟨aK,0,none⟩))) aq K:=fun aM a8=>by rw[V (v:=aN) (by kernel_rfl) (aM.cell (o:=0) rfl)];exact a8
  have ba:∀ {aq:x2} {K:x1→Prop},ad aq aS al [Y]→K Y→O x5 (x7 al (.pointer (some ⟨aS,0,none⟩))) aq K:=fun aM a8=>by rw[V (v:=Y) (by kernel_rfl) (aM.cell (o:=0) rfl)];exact a8
  rw[V (v:=.int .i64 (p:Int)) (by kernel_rfl) (X.cell (o:=0) rfl)];refine aT W ?_;rw[aI al.u (aE.ext ae),bc,aa];refine⟨fun h=>by omega,fun _=>?_⟩;rw[V (v:=.int .i64 (p:Int)) (by kernel_rfl) (X.cell (o:=0) rfl),V (v:=.int .i64 pos) (by kernel_rfl) (aH.cell (o:=0) rfl),bc,aa];refine⟨fun he=>?_,fun br=>?_⟩
  ·rw[V (v:=.pointer (some ⟨az,0,none⟩)) (by kernel_rfl) (aG.cell (o:=0) rfl)];refine aT W (ba aw ?_);rw[V (v:=.int .i64 (p:Int)) (by kernel_rfl) (X.cell (o:=0) rfl),aF,wrap_i64 (by omega) (by omega),V (v:=.int .i64 pos) (by kernel_rfl) (aH.cell (o:=0) rfl),V (v:=.func (.func au) #[] cap) (by kernel_rfl) (ap.cell (o:=0) rfl)];refine (bq (p+1) tl d E (by omega) aY (J d w E ae aD) (hm.ext ae)).mono ?_;rintro _ bo _ ⟨aB,h1,ag,ax,aO⟩;intro bp aj _;refine⟨aB,⟨h1.1,fun q bt=>h1.2 q (by omega)⟩,?_,ax.ext aj,((ae.U M).trans aO).trans (aj.U M)⟩;have:eC s sc pos (m+1) p tl=eC s sc pos m (p+1) tl:=by rw[eC,if_pos he]
   rw[this];exact J _ _ _ aj ag
  intro bo aJ _ _;have bu:=ae.trans aJ;obtain⟨u,hu⟩:∃ u,sc[p]? =some u:=⟨_,y0 (by omega)⟩;obtain⟨b1,cj⟩:=bK u (x4 hu);have ck:=bJ.vars;obtain⟨x,bw⟩:∃ x,s.vars[u.toNat]? =some x:=⟨_,y0 (by omega)⟩;have b2:sk s (sc.getD p 0)=bD x:=by unfold sk;rw[u6,hu,Option.getD_some,bw]
  rw[V (v:=.pointer (some ⟨az,0,none⟩)) (by kernel_rfl) ((aG.ext aJ).cell (o:=0) rfl)];refine aT (W.ext aJ) ?_;rw[V (v:=.int .i64 (p:Int)) (by kernel_rfl) ((X.ext aJ).cell (o:=0) rfl),a1 al.u ab.i (by kernel_rfl) (aE.ext bu) hu];refine (pF (i:=u) (bi.ext bu)).mono ?_;rintro _ bp _ ⟨⟨b,b3,rfl,bx⟩,aj⟩;refine (vy (b:=b) (n:=b3)).mono ?_;rintro _ aP _ ⟨b4,bz,rfl,cl,bA⟩;have bB:=yM bx b1 bw;have bb:=(aJ.trans aj).trans b4;have aU:=ae.trans bb;have cm:=aR.size;have cn:=aL.size;have z3:=av.size;have z4:=ao.size;have z5:=ai.size;have cp:=Z.size;have cq:=bb.size;have cr:=(aJ.trans aj).size;have out:∀ {r:Nat},w.heap.size≤r→¬M r:=fun h1 ag=>by have:=bk _ ag;omega
  have b5:∀ j v,(bD x)[j]? =some v→((bD x).take (j+1)).flatMap (fun v=>eC s sc pos m (p+1) (tl.set p v))=((bD x).take j).flatMap (fun v=>eC s sc pos m (p+1) (tl.set p v))++eC s sc pos m (p+1) (tl.set p v):=fun j v bC=>by
   rw[u4,bC,l9,List.flatMap_append,List.flatMap_singleton]
  have b7:eC s sc pos (m+1) p tl=(bD x).flatMap fun v=>eC s sc pos m (p+1) (tl.set p v):=by rw[eC,if_neg br,b2]
  refine⟨_,false,jy,#[.pointer (some ⟨bz,0,none⟩)],_,_,_,_,fun j w'=>∃ ak,lZ p pos ak tl∧I (d++((bD x).take j).flatMap fun v=>eC s sc pos m (p+1) (tl.set p v)) w'∧am .i64 ab w' gt Y ak∧af M aP w',fun _ _ _=>False,rfl,(vx (g:=bz) bx.1).s,?_,
   fun _ _ J h=>⟨h.1.ext J,h.2.ext J⟩,fun _ _ _ bd ⟨ak,h1,ag,ax,aO⟩=>⟨ak,h1,J _ _ _ bd ag,ax.ext bd,aO.trans (bd.U M)⟩,fun _ _ _ _ _ h=>h,⟨bA,bj.ext aU⟩,⟨tl,⟨rfl,fun _ _=>rfl⟩,by simpa using J d w aP aU aD,hm.ext aU,af.refl _ _⟩,?_,?_,fun _ _ h=>h.elim,fun _ _ _ h=>h.elim⟩
  ·rintro _ _ _ _ ⟨_,_,_,_,rfl⟩;rfl
  ·rintro _ j _ b8 ⟨_,_⟩ ⟨bC,rfl,v,ac,b9⟩ ⟨ak,aQ,aV,be,bf⟩;cases b9;intro bE ay _ _;have ca:(bD x)[j]? =some (v:Int):=by rw[←bB,x6,ac];rfl
   have bg:af M aP bE:=bf.trans (ay.U M);have aW:∀ {aq:x2} {g:Nat} {e:u5} {cs:List x1},af M aP aq→w.heap.size≤g→ad E g e cs→ad aq g e cs:=fun cb cc aM=>(aM.ext bb).U cb (out cc);have bF:=be.ext ay;have cd:=aQ.1;refine ba (aW bg (by omega) aw) ?_;rw[V (v:=.int .i64 (p:Int)) (by kernel_rfl) ((aW bg (by omega) X).cell (o:=0) rfl),fR rfl al.u ab.i bF (by omega)];refine fS ab.i bF (by omega) fun bG bH cu ce=>?_;have aA:af M aP bG:=bg.trans (bH.mono fun r _ h=>by have h:r=gt:=h;rw[h];exact bL);have cg:=bM _ _ _ bH (J _ _ _ ay aV);rw[V (v:=.pointer (some ⟨az,0,none⟩)) (by kernel_rfl) ((aW aA (by omega) aG).cell (o:=0) rfl)];refine aT (aW aA (by omega) W) (ba (aW aA (by omega) aw) ?_);rw[V (v:=.int .i64 (p:Int)) (by kernel_rfl) ((aW aA (by omega) X).cell (o:=0) rfl),aF,wrap_i64 (by omega) (by omega),V (v:=.int .i64 pos) (by kernel_rfl) ((aW aA (by omega) aH).cell (o:=0) rfl),V (v:=.func (.func au) #[] cap) (by kernel_rfl) ((aW aA (by omega) ap).cell (o:=0) rfl)];refine (bq (p+1) (ak.set p v) _ bG (by omega) (by rw[X4];omega) cg ce).mono ?_;rintro _ cw _ ⟨aB,h1,ag,ax,aO⟩;have bI:=aA.trans aO;have hw:=sm (s:=s) (sc:=sc) m (p+1) (ak.set p (v:Int)) (tl.set p (v:Int)) (by rw[X4];omega) (aQ.set br v);rw[hw,X8,←b5 j v ca] at ag;refine⟨⟨bA.U bI (out (by omega)),(aX _ _ ag).2.1⟩,⟨aB,⟨by rw[h1.1,X4];exact cd,fun q bt=>?_⟩,ag,ax,bI⟩,fun h=>by cases h⟩;have ch:p≠q:=by omega
   rw[h1.2 q (by omega),Y0,if_neg ch];exact aQ.2 q bt
  ·rintro k b8 rfl ⟨ak,aQ,aV,be,bf⟩;intro bE ay _;rw[b6 (by rw[←bB,u7];exact u9 _),←b7] at aV;exact⟨ak,aQ,J _ _ _ ay aV,be.ext ay,((aU.U M).trans bf).trans (ay.U M)⟩
end
def simpStep (of:List Int→Int) (p:Int×Option (List Int)) (tl:List Int):Int×Option (List Int):=if p.2=none∨of tl<p.1 then (of tl,some tl) else p
def fI (k:Int) (of:List Int→Int) (l:List (List Int)):Int×Option (List Int):=l.foldl (simpStep of) (k,none)
def iJ (w:x2) (B:Nat) (v:x1):Option (List Int)→Prop
 |none=>v= .slice none 0 0
 |some tl=>tl≠[]∧ ∃ g,B≤g∧am .i64 ab w g v tl
theorem iJ.U {w w':x2} {B:Nat} {v:x1} {o:Option (List Int)} {S:an} (h:iJ w B v o) (J:af S w w') (O:∀ r,B≤r→r<w.heap.size→¬S r):iJ w' B v o:=by
 cases o with
 |none=>exact h
 |some tl=>
  obtain⟨h1,g,V,E⟩:=h;exact⟨h1,g,V,aX E J fun r W=>by obtain⟨X,Y⟩:=bw E W;exact O r (by omega) (by omega)⟩
theorem iJ.ext {w w':x2} {B:Nat} {v:x1} {o:Option (List Int)} (h:iJ w B v o) (J:Ext w w'):iJ w' B v o:=h.U (J.U fun _=>False) fun _ _ _ h=>h
theorem iJ.one {w:x2} {B:Nat} {v:x1} {o:Option (List Int)} (h:iJ w B v o):∃ a n c,v= .slice a n c:=by
 cases o with
 |none=>exact⟨none,0,0,h⟩
 |some tl=>
  obtain⟨_,g,_,E⟩:=h;exact ct E.ls
def IE (n:bd) (s:aU) (B:Nat) (w':x2) (j pos v:Int) (r:x1):Prop:=((¬∃ f u x,gX s j pos v f u x)→r= .tuple #[.int .i64 0,.slice none 0 0,.int .i64 1])∧ ∀ f u x,gX s j pos v f u x→
 ∃ E,r= .tuple #[.int .i64 (fI n.k (dz s j.toNat) (eC s f.sc pos f.sc.length 0 ((v8 f.sc.length 0).set pos.toNat v))).1,E,.int .i64 0]∧iJ w' B E (fI n.k (dz s j.toNat) (eC s f.sc pos f.sc.length 0 ((v8 f.sc.length 0).set pos.toNat v))).2
section
variable {w:x2} {az gT:Nat} {A R:an} {n:bd} {s:aU} {t:aM}
set_option maxHeartbeats 1000000 in
theorem IF {j pos v:Int} (h:cz w az gT A R n s t) (bU:Laid w) (cM:∀ r,A r∨R r→r<w.heap.size):ah x5 qm [.pointer (some ⟨az,0,none⟩),.int .i64 j,.int .i64 pos,.int .i64 v] w fun r w'=>Ext w w'∧IE n s w.heap.size w' j pos v r:=by
 refine aq func26 ?_;refine a7 fun bV cN cO bW aA=>?_;refine a7 fun bX bn cP bo aB=>?_;have aA:ad bn bV dS [.pointer (some ⟨az,0,none⟩)]:=aA.ext bo;have aB:ad bn bX ab [.int .i64 j]:=aB;have aU:=bW.trans bo;rw[V (v:=.pointer (some ⟨az,0,none⟩)) (by kernel_rfl) (aA.cell (o:=0) rfl),V (v:=.int .i64 j) (by kernel_rfl) (aB.cell (o:=0) rfl)];refine (yT (h.ext aU)).mono ?_;rintro _ cQ _ ⟨aK,e,rfl,he,bp⟩;have aV:=aU.trans aK;rw[be,aa];refine⟨fun aM=>⟨aV,fun _=>by rw[he.resolve_left aM],fun f u x ac=>absurd (bp.2 ⟨f,u,x,ac⟩) aM⟩,fun bY=>?_⟩;obtain⟨f,u,x,ac⟩:=bp.1 (Z7.1 bY);have ay:=aA.ext aK;have bq:=aB.ext aK;rw[V (v:=.pointer (some ⟨az,0,none⟩)) (by kernel_rfl) (ay.cell (o:=0) rfl),V (v:=.int .i64 j) (by kernel_rfl) (bq.cell (o:=0) rfl)];have bt:=kV (h.ext aV) ac.ag;have cR:=ac.pH;rw[show ((j.toNat:Nat):Int)=j by omega] at bt;refine bt.mono ?_;rintro aN bZ _ ⟨aO,cS,cT,aP⟩;have b1:=aV.trans aO;obtain⟨aW,_,cU⟩:=h.2.2.2.1.funs f (x4 ac.ag);have b2:f.sc.length≤6:=aW.scope.2;obtain⟨m,hm⟩:∃ m,m=f.sc.length:=⟨_,rfl⟩;rw[aI al.u aP.ls,←hm];refine hN (k:=.i64) al.u ab.i (by omega) (by omega) fun gt bu cV bx bz=>?_;have bA:am .i64 ab bu gt (.slice (some ⟨gt,0,none⟩) m m) (v8 m 0):=am.of (n:=m) (br.full (by simpa using bz) (by simp) (by simp[maxLen];omega));refine bi al.i fun b4 cW cX bB b5=>?_;have cY:=aU.size;have z3:=aK.size;have z4:=aO.size;have z5:=bx.size;have cZ:=bB.size;refine aZ (v:=.slice (some ⟨gt,0,none⟩) m m) al.i rfl rfl b5 (by decide) fun b6 b7 c0 aY=>?_;have aQ:Ext bu b6:=bB.then b7 fun r X he=>by have he:r=b4:=he;omega
 have c1:=(x3.1 ac.hu).1;have c2:=ac.kW;rw[V (v:=.slice (some ⟨gt,0,none⟩) m m) (by kernel_rfl) (aY.cell (o:=0) rfl),fR (i:=pos.toNat) (by omega) al.u ab.i (bA.ext aQ) (by simp;omega)];refine fS ab.i (bA.ext aQ) (by simp;omega) fun b8 bC b9 ca=>?_;have c3:=bz.lt;have c4:=aQ.size;have aD:Ext bZ b8:=(bx.trans aQ).then bC fun r X he=>by have he:r=gt:=he;omega
 have bD:=b1.trans aD;have bE:=(ay.ext aO).ext aD;have cb:=(bq.ext aO).ext aD;have cc:=aY.U bC (by omega);rw[V (v:=.pointer (some ⟨az,0,none⟩)) (by kernel_rfl) (bE.cell (o:=0) rfl)];refine (sb (h.ext bD)).mono ?_;rintro _ cd _ ⟨rfl,bF⟩;refine bi aj.i fun aE c5 c6 bG bH=>?_;refine aZ (v:=.int .i64 n.k) aj.i rfl rfl bH (by decide) fun c7 ce c8 cg=>?_;have c9:=b9;have z9:=bF.size;have da:=bG.size;have db:=bH.lt;refine bi al.i fun aF ae dc a1 aR=>?_;have aR:ad ae aF al [.slice none 0 0]:=aR;have ch:Ext cd ae:=(bG.then ce fun r X he=>by have he:r=aE:=he;omega).trans a1;have ap:=bF.trans ch;have bI:=bD.trans ap;have bJ:=bE.ext ap;have ci:=cb.ext ap;have bK:=cc.ext ap;have cj:=ca.ext ap;have ck:=cg.ext a1;have dd:=aR.lt;have de:=aY.lt;have df:=aA.lt;have dg:=aB.lt;have z12:=a1.size;have dh:=bI.size;rw[V (v:=.pointer (some ⟨az,0,none⟩)) (by kernel_rfl) (bJ.cell (o:=0) rfl),V (v:=.slice (some ⟨gt,0,none⟩) m m) (by kernel_rfl) (bK.cell (o:=0) rfl),hL];obtain⟨M,cl⟩:∃ M:an,M=fun r=>r=gt∨r=aE∨r=aF:=⟨_,rfl⟩;have au:∀ r,M r↔r=gt∨r=aE∨r=aF:=fun r=>by rw[cl]
 have a2:∀ r,M r→w.heap.size≤r∧r<ae.heap.size:=fun r X=>by rcases (au r).1 X with rfl|rfl|rfl <;> omega
 have di:aC .i64 ae aN f.sc:=aP.ls.ext (aD.trans ap);have aS:∀ {bL:x2},af M ae bL→Ext w bL:=fun E=>bI.then E fun r X he=>by have:=a2 r he;omega
 have cm:∀ r,leads aN r→¬M r:=fun r X he=>by
  obtain⟨dj,bM⟩:=bw aP X;rcases (au r).1 he with W|W|W <;> omega
 let I:List (List Int)→x2→Prop:=fun d w'=>af M ae w'∧ad w' aE aj [.int .i64 (fI n.k (dz s j.toNat) d).1]∧ ∃ Y,ad w' aF al [Y]∧iJ w' ae.heap.size Y (fI n.k (dz s j.toNat) d).2;have step:∀ d tl,fI n.k (dz s j.toNat) (d++[tl])=simpStep (dz s j.toNat) (fI n.k (dz s j.toNat) d) tl:=fun d tl=>by unfold fI;rw[List.foldl_append];rfl
 have bN:=h.2.2.2.1;have dk:=bN.vars;refine (ID (gT:=gT) (sc:=f.sc) (pos:=pos) (gt:=gt) (M:=M) (I:=I) (A:=A) (R:=R) (t:=t) (n:=n) bN (fun u hu=>⟨(aW.scope.1 u hu).1,aW.vars u hu⟩) b2 ⟨m,by rw[hm]⟩ ((au _).2 (.inl rfl)) ?_ ?_ ?_ ?_ f.sc.length 0 ((v8 m 0).set pos.toNat v) [] ae (by omega) (by rw[X4,List.length_replicate,hm]) ?_ cj).mono ?_
 ·rintro d w' ⟨E,ai,_⟩;refine⟨h.ext (aS E),bU.ext (aS E),(aX (aP.ext (aD.trans ap)) E fun r X=>cm r X).ls,fun r X=>?_⟩;have:=(a2 r X).2;have:=E.size;omega
 ·rintro d w' cn J ⟨E,ai,Y,aw,Z⟩;exact⟨E.trans (J.U M),ai.ext J,Y,aw.ext J,Z.ext J⟩
 ·rintro d w' cn aT ⟨E,ai,Y,aw,Z⟩;have z:=E.size;exact⟨E.trans (aT.mono fun r _ he=>(au r).2 (.inl he)),ai.U aT (by omega),Y,aw.U aT (by omega),Z.U aT fun r X _ he=>by have he:r=gt:=he;omega⟩
 ·rintro d tl w' ⟨E,ai,Y,aw,Z⟩ bO a6;refine aq func99 ?_;have cp:=aS E;have a8:∀ {r:Nat},r≠gt→r≠aE→r≠aF→¬M r:=fun a b c he=>by rcases (au _).1 he with W|W|W <;> omega
  have cq:=bJ.U E (a8 (by omega) (by omega) (by omega));have cr:=ci.U E (a8 (by omega) (by omega) (by omega));have bP:=bK.U E (a8 (by omega) (by omega) (by omega));rw[V (v:=.pointer (some ⟨az,0,none⟩)) (by kernel_rfl) (cq.cell (o:=0) rfl),V (v:=.int .i64 j) (by kernel_rfl) (cr.cell (o:=0) rfl),V (v:=.slice (some ⟨gt,0,none⟩) m m) (by kernel_rfl) (bP.cell (o:=0) rfl),show j=((j.toNat:Nat):Int) by omega];refine yQ (h.ext cp) bO.ls fun bM bQ ak=>?_;rw[av (v:=.int .i64 (dz s j.toNat tl)) rfl,av (v:=.int .i64 bM) rfl];have cu:=E.trans (ak.U M);have ay:=ai.ext ak;have ba:=aw.ext ak;have cw:=Z.ext ak;obtain⟨dl,fn,dm,bb⟩:=Z.one;have bc:=bO.ext ak;refine aL (fun r bd=>r= .bool (decide ((fI n.k (dz s j.toNat) d).2=none∨dz s j.toNat tl<(fI n.k (dz s j.toNat) d).1))∧Ext bQ bd) ?_ ?_
  ·rintro _ bd ⟨rfl,O⟩;have bf:=cu.trans (O.U M);rw[aa];refine⟨fun cA=>?_,fun bg=>?_⟩
   ·rw[V (v:=.slice (some ⟨gt,0,none⟩) m m) (by kernel_rfl) (((bP.ext ak).ext O).cell (o:=0) rfl)];rw[←hm] at a6;refine (hQ (bc.ext O).ls (by omega)).mono ?_;rintro aH cB _ ⟨aG,cC,dn,bh⟩;obtain⟨_,_,_,bR⟩:=ct bh.ls;have cD:=bf.trans (aG.U M);have dp:=bf.size;refine aZ (v:=.int .i64 (dz s j.toNat tl)) aj.i rfl rfl ((ay.ext O).ext aG) (by simp) fun dq bj dr cE=>?_;refine aZ (v:=aH) al.i (by rw[bR];rfl) (by rw[bR];rfl) (((ba.ext O).ext aG).U bj (by omega)) (by simp) fun cF bk ds cG=>?_;have bl:af M cB cF:=(bj.mono fun r _ he=>(au r).2 (.inr (.inl he))).trans (bk.mono fun r _ he=>(au r).2 (.inr (.inr he)));have aJ:fI n.k (dz s j.toNat) (d++[tl])=(dz s j.toNat tl,some tl):=by rw[step];unfold simpStep;rw[if_pos cA]
    refine⟨⟨cD.trans bl,?_,aH,cG,?_⟩,?_,?_⟩
    ·rw[aJ];exact cE.U bk (by omega)
    ·rw[aJ];refine⟨fun W=>by rw[W] at a6;simp at a6;omega,cC,by omega,aX bh bl fun r X he=>?_⟩;obtain⟨dt,du⟩:=bw bh X;have:=(a2 r he).2;omega
    ·exact ((((bc.ext O).ext aG).U bj (by omega)).U bk (by omega))
    ·exact ((ak.U M).trans (O.U M)).trans ((aG.U M).trans bl)
   ·have aJ:fI n.k (dz s j.toNat) (d++[tl])=fI n.k (dz s j.toNat) d:=by rw[step];unfold simpStep;rw[if_neg bg]
    refine⟨⟨bf,?_,Y,ba.ext O,?_⟩,bc.ext O,(ak.U M).trans (O.U M)⟩
    ·rw[aJ];exact ay.ext O
    ·rw[aJ];exact cw.ext O
  intro dv bS;rw[V (v:=Y) (by kernel_rfl) (ba.cell (o:=0) rfl),bb,mo al.u];cases ax:(fI n.k (dz s j.toNat) d).2 with
  |none=>
   rw[ax] at Z;have:Y= .slice none 0 0:=Z;rw[bb] at this;cases this;rw[b3];exact⟨fun _=>bS _ _ ⟨by rw[decide_eq_true (.inl ax)],Ext.refl _⟩,fun W=>by cases W⟩
  |some dw=>
   rw[ax] at Z;obtain⟨aM,dx,_,cH⟩:=Z;obtain⟨_,⟨rfl,W⟩|⟨dy,_,bT,_⟩⟩:=cH
   ·exact absurd (o8 W) aM
   rw[bb] at bT;cases bT;rw[b3];refine⟨fun W=>by simp at W,fun _=>?_⟩;rw[V (v:=.int .i64 (fI n.k (dz s j.toNat) d).1) (by kernel_rfl) (ay.cell (o:=0) rfl),ao];refine bS _ _ ⟨?_,Ext.refl _⟩;congr 1;exact decide_eq_decide.2 ⟨.inr,fun W=>W.resolve_left (by rw[ax];simp)⟩
 ·exact⟨af.refl _ _,ck,_,aR,rfl⟩
 rintro _ bQ _ ⟨dA,_,⟨E,ai,Y,aw,Z⟩,_,_⟩;intro bd O _ _;rw[V (v:=.int .i64 (fI n.k (dz s j.toNat) ([]++eC s f.sc pos f.sc.length 0 ((v8 m 0).set pos.toNat v))).1) (by kernel_rfl) ((ai.ext O).cell (o:=0) rfl),V (v:=Y) (by kernel_rfl) ((aw.ext O).cell (o:=0) rfl)];refine⟨(aS E).trans O,fun bg=>absurd ⟨f,u,x,ac⟩ bg,fun bm dC dD cI=>?_⟩;obtain⟨rfl,_⟩:=ac.same cI;rw[List.nil_append,hm] at Z ⊢;refine⟨Y,rfl,?_⟩;have:=Z.ext O;cases ax:(fI n.k (dz s j.toNat) (eC s bm.sc pos bm.sc.length 0 ((v8 bm.sc.length 0).set pos.toNat v))).2 with
 |none=>rw[ax] at this;exact this
 |some tl=>rw[ax] at this;obtain⟨cJ,cK,dE,cL⟩:=this;exact⟨cJ,cK,by omega,cL⟩
end
section
variable {w:x2} {i j pos v:x1}
theorem yX:ah x5 tK [.pointer none,i] w fun r w'=>r= .int .i64 2∧Ext w w':=by
 refine aq func94 ?_;rw[cB dS.u];simp only[Option.isNone_none,bh];exact⟨by trivial,Ext.refl _⟩
theorem IG:ah x5 ql [.pointer none,i] w fun r w'=>r= .tuple #[.int .i64 0,.int .i64 (-1),.int .i64 2]∧Ext w w':=by
 refine aq func25 ?_;refine yX.mono ?_;rintro _ J _ ⟨rfl,E⟩;rw[be,aa];exact⟨fun _=>⟨rfl,E⟩,fun h=>absurd (by decide) h⟩
theorem yY:ah x5 tL [.pointer none,j,pos,v] w fun r w'=>r= .int .i64 2∧Ext w w':=by
 refine aq func97 ?_;rw[cB dS.u];simp only[Option.isNone_none,bh];exact⟨by trivial,Ext.refl _⟩
theorem IH {j:Int}:ah x5 qm [.pointer none,.int .i64 j,pos,v] w fun r w'=>r= .tuple #[.int .i64 0,.slice none 0 0,.int .i64 2]∧Ext w w':=by
 refine aq func26 ?_;refine a7 fun W ac ae X E=>?_;refine a7 fun Y O af U J=>?_;have E:ad O W dS [.pointer none]:=E.ext U;have J:ad O Y ab [.int .i64 j]:=J;rw[V (v:=.pointer none) (by kernel_rfl) (E.cell (o:=0) rfl),V (v:=.int .i64 j) (by kernel_rfl) (J.cell (o:=0) rfl)];refine yY.mono ?_;rintro _ ag _ ⟨rfl,Z⟩;rw[be,aa];exact⟨fun _=>⟨rfl,(X.trans U).trans Z⟩,fun h=>absurd (by decide) h⟩
theorem II:ah x5 tC [.pointer none,j,pos,v] w fun r w'=>r= .tuple #[.int .i64 0,.int .i64 (-1),.int .i64 2]∧Ext w w':=by
 refine aq func27 ?_;refine yY.mono ?_;rintro _ J _ ⟨rfl,E⟩;rw[be,aa];exact⟨fun _=>⟨rfl,E⟩,fun h=>absurd (by decide) h⟩
theorem IJ {i:Int}:ah x5 qn [.pointer none,.int .i64 i] w fun r w'=>r= .tuple #[.int .i64 0,.int .i64 (-1),.int .i64 2]∧Ext w w':=by
 refine aq func28 ?_;refine a7 fun W ac ae X E=>?_;refine a7 fun Y O af U J=>?_;have E:ad O W dS [.pointer none]:=E.ext U;have J:ad O Y ab [.int .i64 i]:=J;rw[V (v:=.pointer none) (by kernel_rfl) (E.cell (o:=0) rfl),V (v:=.int .i64 i) (by kernel_rfl) (J.cell (o:=0) rfl)];refine yX.mono ?_;rintro _ ag _ ⟨rfl,Z⟩;rw[be,aa];exact⟨fun _=>⟨rfl,(X.trans U).trans Z⟩,fun h=>absurd (by decide) h⟩
theorem IK:ah x5 zZ [.pointer none] w fun r w'=>r= .tuple #[.int .i64 0,.int .i64 2]∧Ext w w':=by
 refine aq func29 ?_;rw[cB dS.u];simp only[Option.isNone_none,bh];exact⟨by trivial,Ext.refl _⟩
theorem IL:ah x5 z1 [.pointer none] w fun r w'=>r= .bool false∧Ext w w':=by
 refine aq func30 ?_;refine Im.mono ?_;rintro _ U _ ⟨rfl,J⟩;refine bM.range 0 (fun _ _ E=>Ext w E) (by omega) J (fun i _ _ _ h=>by omega) ?_;rintro _ E V O;rw[ao,aa];exact⟨fun h=>absurd h (by decide),fun _=>⟨rfl,O⟩⟩
end
set_option maxHeartbeats 4000000 in
theorem yZ {w:x2} {p:x1} {J:List Int} (aV:aC .u8 w p J) (a8:Bytes J) (ba:dW w):ah x5 zY [p] w (Ih w (J.take 300)):=by
 refine aq func24 ?_;refine bi bq.i fun W bb bQ aA au=>?_;have au:ad bb W bq z12:=au;rw[aI bZ.u (aV.ext aA),i7];refine CU (i:=min J.length 300) (by omega) bZ.u bY.i (aV.ext aA) (by omega) fun bR aB=>?_;have bd:J.take (min J.length 300)=J.take 300:=by
  by_cases h:J.length≤300
  ·rw[Nat.min_eq_left h,o3,b6 h]
  ·rw[Nat.min_eq_right (by omega)]
 rw[bd] at aB;have aw:Bytes (J.take 300):=fun b bf=>a8 b (List.mem_of_mem_take bf);have bg:(J.take 300).length≤300:=by rw[o5];omega
 generalize J.take 300=q at aB aw bg;refine (Ig aB (by omega)).mono ?_;rintro bS bT _ ⟨aD,bU,aE⟩;have aW:=aA.trans aD;refine (FL aE.ls aw (by omega) (ba.ext aW)).mono ?_;rintro bV bW _ ⟨am,U⟩;have aX:=aW.trans am;cases X:eT q with
 |none=>
  rw[X] at U;obtain⟨n,e,rfl,he⟩:=U;rw[av (v:=.pointer none) rfl,av (v:=.int .i64 n) rfl,av (v:=.int .i64 e) rfl];refine (yq (aE.ext am).ls aw (by omega)).mono ?_;rintro bj aF _ ⟨af,aG,aH,aJ,_⟩;obtain rfl:=aJ X;rw[av (v:=.pointer none) rfl,av (v:=.int .i64 aG) rfl,av (v:=.int .i64 aH) rfl];refine aL (fun v ao=>v= .bool true∧Ext aF ao) ?_ ?_
  ·rintro _ ao ⟨rfl,Z⟩;rw[bh,cI (cs:=#[.int .i64 0,.slice none 0 0,.int .i64 0,.slice none 0 0,.slice none 0 0,.slice none 0 0,.slice none 0 0,.slice none 0 0]) (by kernel_rfl)];obtain⟨_,_,E,O⟩:=yJ;refine bP (vs:=z12) bq.i rfl rfl (by intro u hu;simp[z12] at hu;rcases hu with rfl|rfl|rfl|rfl <;> rfl) ((((au.ext aD).ext am).ext af).ext Z) fun bX bk b1 bl=>?_;rw[eo bq.p bq.i rfl bl.range];refine⟨((aX.trans af).trans Z).then bk fun r U he=>by have he:r=W:=he;omega,_,_,false,rfl,yJ,.inl ⟨rfl,rfl⟩,fun f ag=>?_⟩;rw[X] at ag;cases ag
  ·intro aK ab;rw[be,aa];exact⟨fun _=>ab _ _ ⟨rfl,Ext.refl _⟩,fun h=>absurd he h⟩
 |some f=>
  rw[X] at U;obtain⟨bm,n,rfl,bn⟩:=U;obtain⟨N,bo,ai,bp,br⟩:=Ie (by omega) X;have aj:=xe ai;have ax:=Ii ai;rw[av (v:=.pointer (some ⟨bm,0,none⟩)) rfl,av (v:=.int .i64 n) rfl,av (v:=.int .i64 0) rfl];refine (yq (aE.ext am).ls aw (by omega)).mono ?_;rintro bj aF _ ⟨af,aG,aH,_,aJ⟩;obtain⟨bt,rfl,bu⟩:=aJ f X;rw[av (v:=.pointer (some ⟨bt,0,none⟩)) rfl,av (v:=.int .i64 aG) rfl,av (v:=.int .i64 aH) rfl];refine aL (fun v ao=>v= .bool false∧Ext aF ao) ?_ ?_
  rotate_left
  ·intro aK ab;rw[be,aa];refine⟨fun h=>absurd rfl h,fun _=>?_⟩;rw[cB qB.u];exact ab _ _ ⟨rfl,Ext.refl _⟩
  rintro _ ao ⟨rfl,Z⟩;rw[aP];have bw:=(aX.trans af).trans Z;refine (GV ((bn.ext af).ext Z) ai bo ⟨bp,br⟩).mono ?_;rintro b2 b3 _ ⟨aM,bx⟩;have ay:=bw.trans aM;have aN:=((((au.ext aD).ext am).ext af).ext Z).ext aM;have aY:=(bu.ext Z).ext aM;have b4:=ay.size;have b5:w.heap.size≤W:=by omega
  have b7:=aN.lt;rcases bx with⟨bz,e,he,rfl⟩|⟨bA,rfl,bB⟩
  ·rw[av (v:=.pointer none) rfl,av (v:=.int .i64 e) rfl];refine If.mono ?_;rintro _ aZ _ ⟨rfl,Y⟩;refine gH (fun aO t4 V=>aO= .pointer none∧t4= .bool false∧Ext w V∧ ∃ cs:List x1,ad V W bq cs∧cs.length=8∧ ∀ u∈cs,u.oneCell'=true) ?_ ?_
   ·rintro _ _ V ⟨rfl,rfl,aQ,cs,aR,E,O⟩;rw[eo bq.p bq.i E aR.range];exact⟨aQ,_,_,false,rfl,⟨cs,rfl,E,O⟩,.inl ⟨rfl,rfl⟩,fun b8 a1 bC=>absurd bC (by rw[X] at a1;cases a1;exact bz)⟩
   ·intro aK ab;refine (yz (aY.ext Y) ai).mono ?_;rintro bD bE _ ⟨ae,aS⟩;refine (yB aS aj.1 ax).mono ?_;rintro bF bG _ ⟨ak,al⟩;obtain⟨cs,rfl,E,O⟩:=al.yI;rw[bc,aa];refine⟨fun h=>absurd h he,fun _=>?_⟩;refine bP (vs:=cs) bq.i E rfl O (((aN.ext Y).ext ae).ext ak) fun bH ap bI aT=>?_;exact ab _ _ _ ⟨rfl,rfl,(((ay.trans Y).trans ae).trans ak).then ap fun r U he=>by have he:r=W:=he;omega,cs,aT,E,O⟩
  ·rw[av (v:=.pointer (some ⟨bA,0,none⟩)) rfl,av (v:=.int .i64 0) rfl];refine (Hi bB aj.1 ax).mono ?_;rintro _ aZ _ ⟨Y,az,gT,A,R,t,rfl,bJ,ac,a2,a6⟩;have bK:cz aZ az gT A R (cJ f) (cD (cJ f)) t:=⟨bJ,ac,Ij aj.1 ax ac a2,G2 aj.1,aj.1⟩;refine gH (fun aO t4 V=>aO= .pointer (some ⟨az,0,none⟩)∧t4= .bool true∧Ext w V∧ ∃ cs:List x1,ad V W bq cs∧cs.length=8∧(∀ u∈cs,u.oneCell'=true)∧ ∃ R',cz V az gT A R' (cJ f) (cD (cJ f)) t∧ft w.heap.size V (.agg cs.toArray) (cJ f).k (cJ f).sizes (cD (cJ f))) ?_ ?_
   ·rintro _ _ V ⟨rfl,rfl,aQ,cs,aR,E,O,R',bL,al⟩;rw[eo bq.p bq.i E aR.range];exact⟨aQ,_,_,true,rfl,⟨cs,rfl,E,O⟩,.inr ⟨rfl,f,X,az,gT,A,R',t,N,ai,rfl,bL,a2,fun r U=>by have:=a6 r U;omega,al⟩,fun _ _ _=>rfl⟩
   ·intro aK ab;refine (yz (aY.ext Y) ai).mono ?_;rintro bD bE _ ⟨ae,aS⟩;refine (yB aS aj.1 ax).mono ?_;rintro bF bG _ ⟨ak,al⟩;obtain⟨cs,rfl,E,O⟩:=al.yI;rw[bc,aa];refine⟨fun _=>?_,fun h=>absurd rfl h⟩;rw[ul dS.u];have aU:=((aN.ext Y).ext ae).ext ak;have bM:=((ay.trans Y).trans ae).trans ak;refine bP (vs:=cs) bq.i E rfl O aU fun bH ap bI aT=>?_;have a7:=(bK.ext ae).ext ak;obtain⟨R',_,bN⟩:=a7.1.put aU ap fun h=>by have:=a6 W h;omega
    have bO:=((ay.trans Y).trans ae).size;exact ab _ _ _ ⟨rfl,rfl,bM.then ap fun r U he=>by have he:r=W:=he;omega,cs,aT,E,O,R',⟨bN,a7.2⟩,(al.put ap (jW aU)).low bO⟩
theorem IM {w:x2} {g n c:Nat} {cs:List x1} {K:x1→x2→Prop} (E:ad w g bY cs) (U:∀ w',af (fun r=>r=g) w w'→(∀ o vs,w.rangeAt g o vs→w'.rangeAt g o vs)→K (.slice (some ⟨g,0,none⟩) n c) w'):
  aA x5 (convert bZ bZ (.slice (some ⟨g,0,none⟩) n c)) w K:=by
 have O:∀ r,(w.freeze ⟨g,cs.length,none⟩ 1).heap[r]? =if g=r then (w.heap[r]?).map (fun| .cells c V (lo,hi)=>.cells c V (if lo == hi then (cs.length,cs.length+1) else (min lo cs.length,max hi (cs.length+1)))|o=>o) else w.heap[r]?:=fun r=>by
  unfold x2.freeze;rw[if_neg (by decide)];exact Array.getElem?_modify
 have ab:(w.freeze ⟨g,cs.length,none⟩ 1).heap.size=w.heap.size:=by
  unfold x2.freeze;rw[if_neg (by decide)];exact Array.size_modify
 have W:w.shape? g=some (bY,cs.length):=by
  unfold x2.shape?;unfold ad at E;rw[E];simp
 have X:(convert bZ bZ (.slice (some ⟨g,0,none⟩) n c)).run x5 w= .ok (.slice (some ⟨g,0,none⟩) n c) (w.freeze ⟨g,cs.length,none⟩ 1):=by
  simp[convert,run_underlying bZ.u,run_underlying bY.u,markStringish,W]
 unfold ad at E;refine .of X ⟨by unfold x2.freeze;rw[if_neg (by decide)],.h8 (by unfold x2.freeze;rw[if_neg (by decide)]) (by unfold x2.freeze;rw[if_neg (by decide)]),by unfold x2.freeze;rw[if_neg (by decide)],by omega,fun r o J Y=>?_⟩ (U _ ⟨by omega,fun r o J _ Z=>?_⟩ fun o vs ac j v aa=>?_)
 ·rw[O];by_cases he:g=r
  ·subst he;rw[E] at J;cases J;cases Y
  ·rw[if_neg he];exact J
 ·rw[O,if_neg fun he=>Z he.symm];exact J
 ·have h1:=ac j v aa;unfold x2.cell? at h1 ⊢;rw[O,if_pos rfl];rw[E] at h1 ⊢;exact h1
def h6:List Int:=[116,32,50,32,50,32,50,32,57,32,49,32,50,32,50,32,48,32,49,32,48,32,49,32,48,32,49,32,53,32,49,32,49,32,48,32,49,32,48,32,52]
def dN:bx:=⟨[116],9,[1,2],[⟨[0,1],[1,2],0,[([0,1],5)]⟩,⟨[1],[2],0,[([0],4)]⟩]⟩
theorem IN:eT h6=some dN:=by
 have h:(match eT h6 with
  |some f=>decide (f.name=dN.name∧f.k=dN.k∧f.sizes=dN.sizes)&&decide (f.funs.map (fun x=>(x.scope,x.sizes,x.other,x.lines))=dN.funs.map fun x=>(x.scope,x.sizes,x.other,x.lines))
  |none=>false)=true:=by decide+kernel
 cases O:eT h6 with
 |none=>rw[O] at h;cases h
 |some f=>
  rw[O] at h;simp only[X2,decide_eq_true_eq] at h;obtain⟨⟨h1,U,V⟩,E⟩:=h;obtain⟨X,k,Y,J⟩:=f;simp only at h1 U V E;subst h1;subst U;subst V;have:J=dN.funs:=by
   have W:J.length=2:=by have:=congrArg X7 E;simpa[dN] using this
   match J,W with
   |[x,y],_=>
    obtain⟨a,b,c,d⟩:=x;obtain⟨a',Z,aa,ab⟩:=y;simp[dN] at E;obtain⟨⟨rfl,rfl,rfl,rfl⟩,rfl,rfl,rfl,rfl⟩:=E;rfl
  subst this;rfl
theorem IP:jg dN.funs≤16384:=by decide+kernel
theorem IQ:∃ f u x o y,gX (cD (cJ dN)) 0 0 0 f u x∧f.sc.length=2∧f.sc[(1-(0:Int)).toNat]? =some o∧(cD (cJ dN)).vars[o.toNat]? =some y∧dh (cJ dN).k (bD y) (fg (cJ dN) (cD (cJ dN)) (0:Int).toNat 0 0 o)=(4,0):=by
 have h:(match (cD (cJ dN)).funs[0]? with
  |some f=>match f.sc[0]?,f.sc[1]? with
   |some u,some o=>match (cD (cJ dN)).vars[u.toNat]?,(cD (cJ dN)).vars[o.toNat]? with
    |some x,some y=>decide (f.live≠0∧0≤u∧(0:Int)∈bD x∧f.sc.length=2)&&decide (dh (cJ dN).k (bD y) (fg (cJ dN) (cD (cJ dN)) 0 0 0 o)=(4,0))
    |_,_=>false
   |_,_=>false
  |none=>false)=true:=by decide+kernel
 cases ag:(cD (cJ dN)).funs[0]? with
 |none=>rw[ag] at h;cases h
 |some f=>
  rw[ag] at h;simp only at h;cases hu:f.sc[0]? with
  |none=>rw[hu] at h;cases h
  |some u=>
   rw[hu] at h;cases E:f.sc[1]? with
   |none=>rw[E] at h;cases h
   |some o=>
    rw[E] at h;simp only at h;cases J:(cD (cJ dN)).vars[u.toNat]? with
    |none=>rw[J] at h;cases h
    |some x=>
     rw[J] at h;cases O:(cD (cJ dN)).vars[o.toNat]? with
     |none=>rw[O] at h;cases h
     |some y=>
      rw[O] at h;simp only[X2,decide_eq_true_eq] at h;obtain⟨⟨h1,U,V,W⟩,X⟩:=h;exact⟨f,u,x,o,y,⟨by omega,ag,h1,by omega,hu,U,J,V⟩,W,E,O,X⟩
theorem IR {w:x2} (ae:dW w) (af:Laid w):ah x5 zX [] w fun v w'=>v= .bool true∧Ext w w':=by
 refine aq func23 ?_;refine hM (k:=1) (cs:=(ints .u8 h6).toArray) bZ.u bY.i (by omega) (by kernel_rfl) fun g ai aW J O=>?_;have W:am .u8 bY ai g (.slice (some ⟨g,0,none⟩) 41 41) h6:=am.of (n:=41) (br.full (by simpa using O) (by simp[h6]) (by simp[maxLen]));refine IM O fun U X Y=>?_;have J:Ext w U:=J.then X fun r E he=>by have he:r=g:=he;omega
 have V:aC .u8 U (.slice (some ⟨g,0,none⟩) 41 41) h6:=by
  obtain⟨aj,b,o,base,cap,ak,al,ao,ap,au⟩:=W.ls;cases ak;cases ap (by simp[h6]);exact⟨aj,g,0,_,41,rfl,al,ao,fun _=>rfl,Y _ _ au⟩
 clear W O Y X;refine (yZ V (by intro b aw;simp[h6] at aw;omega) (ae.ext J)).mono ?_;rintro _ Z _ ⟨ax,ay,sv,ok,rfl,⟨cs,rfl,aA,aB⟩,aD,aE⟩;have ab:eT (h6.take 300)=some dN:=by
  rw[b6 (by decide)];exact IN
 have aF:ok=true:=aE dN ab IP;subst aF;obtain⟨f,ag,az,gT,A,R,t,N,aX,rfl,aG,aY,aZ,a1⟩:∃ f,eT (h6.take 300)=some f∧yK U.heap.size Z ay (.agg cs.toArray) f:=by
  rcases aD with⟨h,_⟩|⟨_,h⟩
  ·cases h
  ·exact h
 rw[ab] at ag;cases ag;have aH:=J.trans ax;rw[av (v:=.pointer (some ⟨az,0,none⟩)) rfl,av (v:=.agg cs.toArray) rfl,av (v:=.bool true) rfl];refine bi bq.i fun aJ a2 a6 aI aK=>?_;refine bP (vs:=cs) bq.i aA rfl aB aK fun aM aN a7 a8=>?_;have ac:Ext Z aM:=aI.then aN fun r E he=>by have he:r=aJ:=he;omega
 have ad:=aH.trans ac;rw[bJ,Z3,aP];refine (Iu (j:=0) (pos:=0) (v:=0) (aG.ext ac) (af.ext ad)).mono ?_;rintro r ba _ ⟨aO,_,E⟩;obtain⟨f,u,x,o,y,V,aQ,aR,aS,aT⟩:=IQ;have E:=(E f u x V).2 aQ o y aR aS;rw[aT] at E;subst E;rw[av (v:=.int .i64 4) rfl,av (v:=.int .i64 0) rfl,av (v:=.int .i64 0) rfl];refine aL (fun v aU=>v= .bool true∧Ext w aU) (fun _ _ h=>h) fun bb aV=>?_;rw[bc,aa];refine⟨fun _=>?_,fun h=>absurd rfl h⟩;rw[bc,aa];refine⟨fun _=>?_,fun h=>absurd rfl h⟩;rw[bc];exact aV _ _ ⟨rfl,ad.trans aO⟩
theorem IS {n:bd} {i:Int} (E:gR n):eB n (cD n) i=decide (0≤i∧i<n.sizes.length):=by
 unfold eB kU;by_cases h:0≤i∧i<n.sizes.length
 ·have hu:=E.hs;obtain⟨u,hu⟩:∃ u,n.unary[i.toNat]? =some u:=⟨_,y0 (by omega)⟩;have e:(cD n).vars[i.toNat]? =some (newVar u):=by show (n.unary.map newVar)[i.toNat]? =_;rw[x6,hu];rfl
  rw[e,decide_eq_true h];rfl
 ·rw[decide_eq_false h];rfl
section
variable {w:x2} {az gT aJ B:Nat} {A R:an} {n:bd} {s:aU} {t:aM}
theorem IT {i:Int} (h:cz w az gT A R n s t) (E:Laid w):ah x5 ql [.pointer (some ⟨az,0,none⟩),.int .i64 i] w fun r w'=>Ext w w'∧ ∃ a b:Int,r= .tuple #[.int .i64 a,.int .i64 b,.int .i64 (if eB n s i=true then 0 else 1)]:=by
 refine (Ir h E).mono ?_;rintro r w' _ ⟨J,h1,O⟩;refine⟨J,?_⟩;cases ac:eB n s i with
 |false=>exact⟨_,_,h1 ac⟩
 |true=>
  obtain⟨_,x,U,_⟩:=pG h.2.2.2.1 ac;exact⟨_,_,O x ac U⟩
theorem IU {i:Int} (h:cz w az gT A R n s t) (E:Laid w):ah x5 qn [.pointer (some ⟨az,0,none⟩),.int .i64 i] w fun r w'=>Ext w w'∧ ∃ a b:Int,r= .tuple #[.int .i64 a,.int .i64 b,.int .i64 (if eB n s i=true then 0 else 1)]:=by
 refine (IC h E).mono ?_;rintro r w' _ ⟨J,h1,O⟩;refine⟨J,?_⟩;cases ac:eB n s i with
 |false=>exact⟨_,_,h1 ac⟩
 |true=>
  obtain⟨_,x,U,_⟩:=pG h.2.2.2.1 ac;exact⟨_,_,O x ac U⟩
theorem IV {j pos v:Int} (h:cz w az gT A R n s t) (V:Laid w) (W:∀ r,A r∨R r→r<w.heap.size):ah x5 qm [.pointer (some ⟨az,0,none⟩),.int .i64 j,.int .i64 pos,.int .i64 v] w fun r w'=>Ext w w'∧ ∃ (a:Int) (E:x1) (e:Int),r= .tuple #[.int .i64 a,E,.int .i64 e]∧(e=0∨e=1)∧(e=0↔ ∃ f u x,gX s j pos v f u x):=by
 refine (IF h V W).mono ?_;rintro r w' _ ⟨J,h1,X⟩;refine⟨J,?_⟩;by_cases O:∃ f u x,gX s j pos v f u x
 ·obtain⟨f,u,x,U⟩:=O;obtain⟨E,Y,_⟩:=X f u x U;exact⟨_,E,0,Y,.inl rfl,fun _=>⟨f,u,x,U⟩,fun _=>rfl⟩
 ·exact⟨0,_,1,h1 O,.inr rfl,⟨(fun h=>by cases h),fun h=>absurd h O⟩⟩
theorem IW (h:cz w az gT A R n s t):∀ r,A r∨R r→r<w.heap.size:=fun r E=>by
 obtain⟨U,V,W,X,⟨_,_,J,O⟩,_⟩:=h.1;exact E.elim (O r) (J r)
end
set_option maxHeartbeats 8000000 in
theorem IX {p:x1} {bp:List Int} {i j pos v:Int} {w:x2} (b5:aC .u8 w p bp) (b6:∀ b∈bp,0≤b∧b<256) (br:dW w) (bt:Laid w):ah x5 zS [p,.int .i64 i,.int .i64 j,.int .i64 pos,.int .i64 v] w fun r w'=>r= .bool true∧Ext w w':=by
 refine aq func5 ?_;refine (IR br bt).mono ?_;rintro _ c1 _ ⟨rfl,aU⟩;rw[bJ,Z3,aP];refine (yZ (b5.ext aU) b6 (br.ext aU)).mono ?_;rintro _ b7 _ ⟨b8,b9,sv,ok,rfl,⟨cs,rfl,aD,cb⟩,cc,_⟩;have cd:=aU.trans b8;rw[av (v:=b9) rfl,av (v:=.agg cs.toArray) rfl,av (v:=.bool ok) rfl];refine bi bq.i fun aJ c2 c3 ce cg=>?_;refine bP (vs:=cs) bq.i aD rfl cb cg fun bu ch c4 ci=>?_;have aV:Ext b7 bu:=ce.then ch fun r c5 he=>by have he:r=aJ:=he;omega
 have cj:=cd.trans aV;refine IG.mono ?_;rintro _ c6 _ ⟨rfl,ck⟩;rw[av (v:=.int .i64 0) rfl,av (v:=.int .i64 (-1)) rfl,av (v:=.int .i64 2) rfl];refine IH.mono ?_;rintro _ c7 _ ⟨rfl,cl⟩;rw[av (v:=.int .i64 0) rfl,av (v:=.slice none 0 0) rfl,av (v:=.int .i64 2) rfl];refine II.mono ?_;rintro _ c8 _ ⟨rfl,cm⟩;rw[av (v:=.int .i64 0) rfl,av (v:=.int .i64 (-1)) rfl,av (v:=.int .i64 2) rfl];refine IJ.mono ?_;rintro _ c9 _ ⟨rfl,cn⟩;rw[av (v:=.int .i64 0) rfl,av (v:=.int .i64 (-1)) rfl,av (v:=.int .i64 2) rfl];refine IK.mono ?_;rintro _ cp _ ⟨rfl,cq⟩;rw[av (v:=.int .i64 0) rfl,av (v:=.int .i64 2) rfl];have ct:=(((ck.trans cl).trans cm).trans cn).trans cq;refine aL (fun v aW=>v= .bool false∧Ext bu aW) ?_ ?_
 rotate_left
 ·intro bw Z;have no:∀ {A B:Prop} {a:Int},B→((a≠a→A)∧(¬a≠a→B)):=fun aE=>⟨fun h=>absurd rfl h,fun _=>aE⟩;rw[be,aa];refine no ?_;rw[be,aa];refine no ?_;rw[aI al.u (am.nil .i64 ab cp 0).ls,be,aa];refine⟨fun h=>absurd rfl h,fun _=>?_⟩;rw[be,aa];refine no ?_;rw[be,aa];refine no ?_;rw[be,aa];refine no ?_;rw[be,aa];refine no ?_;rw[be,aa];refine no ?_;rw[be,aa];refine no ?_;refine IL.mono ?_;rintro _ aW _ ⟨rfl,af⟩;exact Z _ _ ⟨rfl,ct.trans af⟩
 rintro _ aW ⟨rfl,af⟩;rw[aP,bJ];have aX:=cj.trans af;rcases cc with⟨rfl,rfl⟩|⟨rfl,f,_,az,gT,da,db,t0,N,cu,rfl,bx,dc,dd,bz⟩
 ·rw[Y8,bh,cB dS.u];exact⟨rfl,aX⟩
 rw[Z3,aP];have bA:=xe cu;obtain⟨n,cw⟩:∃ n,n=cJ f:=⟨_,rfl⟩;rw[←cw] at bx bz bA;have cz:=bA.1;have aF:=(bx.ext aV).ext af;have bB:=(bz.ext aV).ext af;have cA:=ci.ext af;have aY:=bt.ext aX;have cC:=IS (i:=i) cz;refine (IT (i:=i) aF aY).mono ?_;rintro _ de _ ⟨ak,cE,cF,rfl⟩;rw[av (v:=.int .i64 cE) rfl,av (v:=.int .i64 cF) rfl,av (v:=.int .i64 (if eB n (cD n) i=true then 0 else 1)) rfl];refine (IU (i:=i) (aF.ext ak) (aY.ext ak)).mono ?_;rintro _ df _ ⟨aZ,cG,cH,rfl⟩;rw[av (v:=.int .i64 cG) rfl,av (v:=.int .i64 cH) rfl,av (v:=.int .i64 (if eB n (cD n) i=true then 0 else 1)) rfl];have bC:=(aF.ext ak).ext aZ;refine (IV (j:=j) (pos:=pos) (v:=v) bC ((aY.ext ak).ext aZ) (IW bC)).mono ?_;rintro _ a1 _ ⟨cI,a3,cK,aH,rfl,cL,a2⟩;rw[av (v:=.int .i64 a3) rfl,av (v:=cK) rfl,av (v:=.int .i64 aH) rfl];have aK:=(ak.trans aZ).trans cI;have bE:=bB.ext aK;have a6:=cA.ext aK;obtain⟨e,aM⟩:∃ e:Int,e=if eB n (cD n) i=true then 0 else 1:=⟨_,rfl⟩;rw[←aM];have bF:decide (e=0)=decide (0≤i∧i<n.sizes.length):=by
  rw[aM,cC];by_cases h:0≤i∧i<n.sizes.length
  ·rw[decide_eq_true h];rfl
  ·rw[decide_eq_false h];rfl
 have cM:e=0∨e=1:=by rw[aM];split;exact .inl rfl;exact .inr rfl
 clear aM;obtain⟨au,dg,cN,D,dh,di,aG,a7,L,dj,dk,_,bG,dl,⟨dm,bH,cO,_⟩,bI,_,_,_,⟨dn,a8,bK,_⟩,ba,_⟩:=sg bB (aK) a6;have dp:L.length=(cD n).funs.length:=by have:=congrArg X7 ba;simpa using this
 have dq:D.length=(cD n).vars.length:=by have:=congrArg X7 bI;simpa using this
 have bL:=aF.2.2.2.1;have dr:=bL.vars;have ds:L.length≤9223372036854775807:=a8.le;refine aL (fun r bb=>∃ b,r= .bool b∧(b=true↔0≤j∧eA (cD n) j.toNat=true∧0≤pos∧ ∃ y:hA,L[j.toNat]? =some y∧pos<y.1.sc.length)∧Ext a1 bb) ?_ ?_
 rotate_left
 ·intro bw Z;rw[bj bq.p bq.i aD (show a1.rangeAt aJ 0 cs from a6.range)];refine (Io (j:=j) bE).mono ?_;rintro _ bb _ ⟨rfl,X⟩;rw[b3];refine⟨fun aO=>?_,fun bM=>Z _ _ ⟨false,rfl,⟨(fun h=>by cases h),fun h=>by rw[decide_eq_true h.1,h.2.1] at bM;cases bM⟩,X⟩⟩;rw[X2] at aO;have ap:=of_decide_eq_true aO.1;rw[ca,aa];refine⟨fun Y=>?_,fun Y=>Z _ _ ⟨false,rfl,⟨(fun h=>by cases h),fun h=>absurd h.2.2.1 Y⟩,X⟩⟩;have bd:j.toNat<(cD n).funs.length:=by
   have U:=aO.2;unfold eA at U;cases bN:(cD n).funs[j.toNat]? with
   |none=>rw[bN] at U;cases U
   |some f=>exact (x3.1 bN).1
  obtain⟨y,E⟩:∃ y,L[j.toNat]? =some y:=⟨_,y0 (by omega)⟩;obtain⟨⟨⟨cP,bf⟩,_⟩,_⟩:=bK y (x4 E);have bO:=bG.ext X;have bg:=a8.ext X;rw[ae bq.p rfl,V (v:=a7) (by kernel_rfl) (bO.cell (o:=0+6) rfl),ae bq.p rfl,V (v:=a7) (by kernel_rfl) (bO.cell (o:=0+6) rfl),dK fN.u bg,cY,wrap_i64 (by omega) (by omega),i7,oc,
   cr (i:=j.toNat) (by omega) fN.u fv.i bg (by omega),ae fv.p rfl,ae aS.p rfl,V (v:=y.1.aN) (by kernel_rfl) (bg.range E 0 _ rfl),aI al.u (bf.ls.ext X),ao]
  refine Z _ _ ⟨_,rfl,⟨fun h=>⟨ap,aO.2,Y,y,E,of_decide_eq_true h⟩,fun⟨_,_,_,dt,bQ,h⟩=>?_⟩,X⟩;rw[E] at bQ;cases bQ;exact decide_eq_true h
 rintro _ bb ⟨b,rfl,aE,X⟩;have key:b=true→ ∃ f u x,(cD n).funs[j.toNat]? =some f∧f.live≠0∧0≤j∧0≤pos∧f.sc[pos.toNat]? =some u∧0≤u∧(cD n).vars[u.toNat]? =some x∧(∃ y:hA,L[j.toNat]? =some y∧y.1.sc=f.sc)∧ ∃ d:ey,D[u.toNat]? =some d∧d.l=bD x:=fun bk=>by
  obtain⟨ap,aw,Y,y,E,cQ⟩:=aE.1 bk;unfold eA at aw;cases ag:(cD n).funs[j.toNat]? with
  |none=>rw[ag] at aw;cases aw
  |some f=>
   rw[ag] at aw;have bl:=of_decide_eq_true aw;have bm:hB y=kS f:=by
    have U:(L.map hB)[j.toNat]? =some (hB y):=by rw[x6,E];rfl
    rw[ba,x6,ag] at U;exact (j5 U).symm
   have ai:y.1.sc=f.sc:=congrArg (·.1) bm;obtain⟨u,hu⟩:∃ u,f.sc[pos.toNat]? =some u:=⟨_,y0 (by rw[←ai];omega)⟩;have bR:=(bL.funs f (x4 ag)).1;have bn:=(bR.scope.1 u (x4 hu)).1;have du:=bR.vars u (x4 hu);obtain⟨x,J⟩:∃ x,(cD n).vars[u.toNat]? =some x:=⟨_,y0 (by omega)⟩;obtain⟨d,aj⟩:∃ d,D[u.toNat]? =some d:=⟨_,y0 (by omega)⟩;have aQ:d.l=bD x:=by
    have U:(D.map (·.l))[u.toNat]? =some d.l:=by rw[x6,aj];rfl
    rw[bI,x6,J] at U;exact (j5 U).symm
   exact⟨f,u,x,rfl,bl,ap,Y,hu,bn,J,⟨y,E,ai⟩,d,aj,aQ⟩
 refine aL (fun r ax=>r= .bool (decide (aH=0))∧Ext a1 ax) ?_ ?_
 rotate_left
 ·intro bw Z;rw[b3];refine⟨fun bk=>?_,fun ag=>Z _ _ ⟨?_,X⟩⟩
  ·obtain⟨f,u,x,ag,bl,ap,Y,hu,bn,J,⟨y,E,ai⟩,d,aj,aQ⟩:=key bk;intro ax ay _ _;have ad:=X.trans ay;have bS:=bG.ext ad;have bT:=a8.ext ad;obtain⟨⟨⟨cP,bf⟩,_⟩,_⟩:=bK y (x4 E);obtain⟨dv,cR⟩:=cO d (x4 aj);have bd:=(x3.1 E).1;have cS:=(x3.1 aj).1;rw[ae bq.p rfl,V (v:=cN) (by kernel_rfl) (bS.cell (o:=0+3) rfl),ae bq.p rfl,V (v:=a7) (by kernel_rfl) (bS.cell (o:=0+6) rfl),cr (i:=j.toNat) (by omega) fN.u fv.i bT bd,ae fv.p rfl,ae aS.p rfl,
    V (v:=y.1.aN) (by kernel_rfl) (bT.range E 0 _ rfl),eS (y:=pos) (i:=pos.toNat) (by omega) al.u ab.i (by kernel_rfl) (bf.ls.ext ad) (by rw[ai];exact hu),cr (i:=u.toNat) (by omega) dO.u al.i (bH.ext ad) cS,V (v:=d.v) (o:=u.toNat*1) (by kernel_rfl) ((bH.ext ad).range aj 0 _ rfl)]
   refine (Ia (v:=v) (cR.ls.ext ad)).mono ?_;rintro _ aR _ ⟨rfl,aA⟩;refine Z _ _ ⟨?_,ad.trans aA⟩;congr 1;refine decide_eq_decide.2 ⟨fun hm=>a2.2 ⟨f,u,x,ap,ag,bl,Y,hu,bn,J,by rw[←aQ];exact hm⟩,fun h=>?_⟩;obtain⟨bo,cT,cU,W⟩:=a2.1 h;have bU:=W.ag;rw[ag] at bU;cases bU;have bV:=W.hu;rw[hu] at bV;cases bV;have bW:=W.J;rw[J] at bW;cases bW;rw[aQ];exact W.ac
  ·rw[ag,decide_eq_false];intro h;obtain⟨bo,cT,cU,W⟩:=a2.1 h;have cV:=W.pH;have bd:=(x3.1 W.ag).1;obtain⟨y,E⟩:∃ y,L[j.toNat]? =some y:=⟨_,y0 (by omega)⟩;have bm:hB y=kS bo:=by
    have U:(L.map hB)[j.toNat]? =some (hB y):=by rw[x6,E];rfl
    rw[ba,x6,W.ag] at U;exact (j5 U).symm
   have ai:y.1.sc=bo.sc:=congrArg (·.1) bm;have cQ:=(x3.1 W.hu).1;have Y:=W.kW;have:b=true:=aE.2 ⟨cV,by unfold eA;rw[W.ag];exact decide_eq_true W.live,Y,y,E,by rw[ai];omega⟩;rw[this] at ag;cases ag
 rintro _ ax ⟨rfl,ay⟩;have cW:=(aX.trans aK).trans ay;refine aL (fun r aR=>r= .bool true∧Ext ax aR) (fun _ _ h=>⟨h.1,cW.trans h.2⟩) fun bX bY=>?_;have bZ:=bE.ext ay;have b1:=a6.ext ay;rw[bc,bj bq.p bq.i aD (show ax.rangeAt aJ 0 cs from b1.range)];refine (yL (i:=i) bZ).mono ?_;rintro _ aR _ ⟨rfl,aA⟩;rw[rH gI.u,bF,beq_self_eq_true,bh,bc,bj bq.p bq.i aD (show aR.rangeAt aJ 0 cs from (b1.ext aA).range)];refine (yL (i:=i) (bZ.ext aA)).mono ?_;rintro _ aT _ ⟨rfl,cX⟩;have b2:=aA.trans cX;rw[rH gI.u,bF,beq_self_eq_true,bh,bc,rH gI.u,beq_self_eq_true,bh,bc,aa];have b4:O x5 (aB .eql gg false true (.int .i64 aH) (.int .i64 0)) aT fun cZ=>Split cZ (bX (.bool true) aT) (O x5 (aB .eql gg false true (.int .i64 aH) (.int .i64 1)) aT fun c0=>bX c0 aT):=by
  rw[bc,aa];refine⟨fun _=>bY _ _ ⟨rfl,b2⟩,fun h=>?_⟩;rw[bc];exact bY _ _ ⟨by rw[decide_eq_true (cL.resolve_left h)],b2⟩
 refine⟨fun _=>b4,fun h=>?_⟩;rw[bc,aa];exact⟨fun _=>b4,fun h1=>absurd (cM.resolve_left h) h1⟩
end Go.Proofs.YtgbkinibgjmodaaGreatDoor
