/- own texts, made small by a tool (wip/ holds them as they were written): no statement of the seat. -/
import Derived.Test.YtgbkinibgjmodaaGreatDoorZd
set_option linter.unusedVariables false
set_option linter.unusedSimpArgs false
set_option linter.unnecessarySimpa false
open Array renaming getElem?_eq_some_iff→l7,getElem?_toList→T5
open BitVec renaming ofInt→V6
open Bool renaming not_true→Y4,not_false→X4,eq_iff_iff→V1,and_eq_true→V5,or_eq_false_iff→T3
open Decidable renaming not_not→Y9
open Go renaming Value→x1,World→x2,TypeId→r8,IntKind→o4,Builtin→n0,Program→X5,Oper→U2,Operand→T0
open Go.Addr renaming add_mid→U4
open Go.Builtin renaming append_→l9,len_→Z5
open Go.Instr renaming loadAt→x6,fieldAt→x7,storeAt→o3,indexAt→o6,extract→j6,buildSlice→Z4,sliceAt→X6,alloc→T7
open Go.IntKind renaming i64→Y0,u64→U1
open Go.Proofs.Tryz renaming prog→x3
open Go.Result renaming andThen→X3
open Go.Sem renaming run_bind→X2,run_pure→X8
open Go.Sort renaming Holds→T2
open Go.Value renaming int→W5
open Int renaming toNat_natCast→Z3
open List renaming getElem?_eq_getElem→y0,getElem?_eq_some_iff→x4,mem_of_getElem?→x5,getElem?_map→x8,getD_eq_getElem?_getD→u4,length_map→u5,take_add_one→u9,replicate→r9,length_append→o5,length_take→o8,take_length→o9,mem_append→n9,take_of_length_le→l5,mem_singleton→j0,length_cons→j4,mem_map→j5,map_append→b6,eq_nil_of_length_eq_zero→b8,getElem?_take_of_lt→Z6,getElem?_append_left→Z7,getElem?_append_right→Z8,getElem?_eq_none→Z9,mem_iff_getElem?→Y2,getElem?_set→Y5,length_set→Y6,ext_getElem?→Y8,length_eq_one_iff→X1,range→X7,mem_or_eq_of_mem_set→X9,drop_eq_getElem_cons→W0,getElem?_set_ne→W3,getElem?_set_self→W8,flatMap_cons→W9,pairwise_iff_getElem→V3,append_assoc→V7,set_append_right→V8,append_nil→V9,map_set→U3,mem_cons→U5,length_singleton→U8,map_cons→T4,getElem_mem→T6,length→T9
open List.cons renaming inj→T8
open Nat renaming le_refl→o7,zero_le→Y7,mul_le_mul_right→X0,zero_add→W6,le_trans→W7,sub_self→V2,add_mul→V4,beq→U6,mul_one→T1
open Option renaming some→j9,toList_some→Z0,isNone_some→Z1,map_some→Z2,map_eq_some_iff→Y1,map→V0,getD_some→U7
open Option.some renaming inj→b9,injEq→Y3
open Prod.mk renaming injEq→U9
variable {w w':x2}{aA aq ay bv cn sv v x:x1}{S:Nat→Prop}{e:r8}{k y:Int}{a l sc sizes:List Int}{c:List x1}{B ah aj j:Nat}
namespace Go.Proofs.YtgbkinibgjmodaaGreatDoor
open Go Go.Vc Go.RowKit Go.Proofs Go.Proofs.Tryz
set_option maxRecDepth 100000
def tK (w:x2) (v:x1) (n:aS):Prop:=∃ aq O I V aO J W L,v= .agg #[.int .i64 n.k,aq,.int .i64 n.zero,I,J]∧am .i64 U w O aq n.sizes∧gq w V I aO∧aO.map (·.l)=n.unary∧a1 cO 3 aT w W J L∧(∀ h∈L,eV w n.sizes h)∧L.map cW=n.funs
def z9:List x1:=[.int .i64 0,.slice none 0 0,.int .i64 0,.slice none 0 0,.slice none 0 0]
def kU (w:x2) (C J gs go:Nat) (aq aG:x1) (f:bP) (I:List eU) (w':x2):Prop:=Ext w w'∧C≤w'.heap.size∧ae w' J c4 z9∧am .i64 U w' gs aq f.sizes∧a1 cO 3 aT w' go aG I∧(∀ r,leadsTo aG r→r<C)∧ ∀ h∈I,eV w' f.sizes h
theorem kU.ext {J:x2} {C O gs go:Nat} {aG:x1} {f:bP} {U:List eU} (h:kU w C O gs go aq aG f U w') (I:Ext w' J):kU w C O gs go aq aG f U J:=by
 obtain⟨h1,ad,V,W,Y,aa,ab⟩:=h;have:=I.size;exact⟨h1.trans I,by omega,V.ext I,W.ext I,Y.ext I,aa,fun x ac=>(ab x ac).ext I⟩
def Jb (w w':x2) (C I:Nat) (r:Nat):Prop:=w.heap.size≤r∧r≠I∧((∃ c,ae w' r c4 c)∨(∃ c,ae w' r au c)∨((∃ c,ae w' r aT c)∧C≤r))
theorem kU.O {ac:x2} {C aa gs go:Nat} {aG:x1} {f:bP} {af:List eU} (h:kU w C aa gs go aq aG f af w') (W:ad S w' ac) (Y:∀ r,S r→Jb w w' C aa r):kU w C aa gs go aq aG f af ac:=by
 obtain⟨h1,ao,aj,ag,ab,ah,al⟩:=h;have:=W.size;have ai:∀ r,S r→ ∃ e c,ae w' r e c∧e≠U∧e≠ak:=fun r J=>by
  obtain⟨_,_,⟨c,I⟩|⟨c,I⟩|⟨⟨c,I⟩,_⟩⟩:=Y r J
  ·exact⟨_,c,I,by decide,by decide⟩
  ·exact⟨_,c,I,by decide,by decide⟩
  ·exact⟨_,c,I,by decide,by decide⟩
 refine⟨h1.then W fun r J V=>by have:=(Y r V).1;omega,by omega,aj.O W fun V=>(Y _ V).2.1 rfl,a6 ag W fun r J V=>?_,ab.O W fun r J V=>?_,ah,fun x am=>kT (al x am) W fun r J=>.inl (ai r J)⟩
 ·obtain⟨e,c,I,an,_⟩:=ai r V;exact bQ ag I (fun he=>an he.symm) J rfl
 ·obtain⟨_,_,⟨c,I⟩|⟨c,I⟩|⟨_,ap⟩⟩:=Y r V
  ·exact cb ab I (by decide) J
  ·exact cb ab I (by decide) J
  ·have:=ah r J;omega
def Aa (w:x2) (C O:Nat) (aq:x1) (k:Int) (n:aS) (U:List eU) (w':x2):Prop:=∃ I V aO J W L,ae w' O c4 [.int .i64 k,aq,.int .i64 n.zero,I,J]∧gq w' V I aO∧aO.map (·.l)=n.unary∧(∀ r,leadsTo I r→w.heap.size≤r)∧a1 cO 3 aT w' W J L∧(∀ h∈L,h∈U)∧L.map cW=n.funs∧ ∀ r,leadsTo J r→C≤r
set_option maxHeartbeats 8000000 in
theorem Ab {N:Nat} {cm:Nat} {f:bP} (cn:lR w cm f) (aB:eo N f):af x3 BV [.pointer (some ⟨cm,0,none⟩)] w fun v w'=>Ext w w'∧tK w' v (cR f):=by
 have ea:=aB.k;have eb:=aB.sizes.2.1;obtain⟨dc,ec,ed,ee,cp,cr,eg⟩:=id cn;refine az func71 ?_;refine bu c4.i fun aC J eh bm bo=>?_;have bo:ae J aC c4 z9:=bo;rw[aw,V c5.p rfl,aa (v:=.int .i64 f.k) (by kernel_rfl) ((cp.ext bm).cell (o:=0+1) rfl),cH (cs:=#[.int .i64 f.k,.slice none 0 0,.int .i64 0,.slice none 0 0,.slice none 0 0]) (by kernel_rfl)];refine bu c4.i fun ah ej em ct dd=>?_;refine bN (vs:=[.int .i64 f.k,.slice none 0 0,.int .i64 0,.slice none 0 0,.slice none 0 0]) c4.i rfl rfl (by intro u hu;simp at hu;rcases hu with rfl|rfl|rfl|rfl <;> rfl) dd fun de cu en df=>?_;have bU:Ext w de:=(bm.trans ct).then cu fun r I he=>by have he:r=ah:=he;have:=bm.size;omega
 have ep:=bo.lt;have aj:ah≠aC:=by omega
 have dg:=(bo.ext ct).O cu fun he=>by have he:aC=ah:=he;omega
 rw[aw,V c5.p rfl,aa (v:=dc) (by kernel_rfl) ((cp.ext bU).cell (o:=0+2) rfl),aL au.u (cr.ext bU).ls];have er:=bm.size;refine bJ.range f.sizes.length (fun i aJ=>Ext w aJ∧ae aJ aC c4 z9∧ ∃ aq gs ag ao aO,ae aJ ah c4 [.int .i64 f.k,aq,.int .i64 0,ag,.slice none 0 0]∧am .i64 U aJ gs aq (f.sizes.take i)∧(∀ r,leads aq r→w.heap.size≤r)∧gq aJ ao ag aO∧aO.map (·.l)=(f.sizes.take i).map (fun z=>r9 z.toNat 0)∧ ∀ r,leadsTo ag r→w.heap.size≤r) (by omega)
  ⟨bU,dg,_,0,_,0,[],df,am.nil _ _ _ _,(fun r I=>by obtain⟨a,n,c,dh,es⟩:=I;cases dh),⟨a1.nil _ _ _ _ _,fun x bV=>(by cases bV)⟩,rfl,fun r I=>(eC I).elim⟩ ?_ ?_
 ·rintro i aJ di hi ⟨aK,bW,aq,gs,ag,ao,aO,ba,bp,bX,bY,bb,bq⟩ dj;obtain⟨z,ai⟩:∃ z,f.sizes[i]? =some z:=⟨_,y0 hi⟩;have et:=aB.sizes.2.2 z (x5 ai);have eu:aO.length=i:=by have:=congrArg T9 bb;simp only[u5,o8] at this;omega
  rw[an,ab];refine⟨fun _=>?_,fun h=>by omega⟩;rw[aZ au.u ak.i (by kernel_rfl) (cr.ext aK).ls ai,V c4.p rfl,aa (v:=aq) (by kernel_rfl) (ba.cell (o:=0+1) rfl)];refine dx (k:=.i64) ac.u U.i rfl fun a5 ev cw ew aU dk=>?_;have bc:=bp.ext aU;refine fx ac.u U.i rfl bc dk.ls (by simp;omega) (by simp;omega) fun bZ cz ey br dl cA=>?_;have b0:=ba.ext aU;have cB:=bW.ext aU;have cC:=b0.O cA fun he=>bQ bc b0 (by decide) he rfl;rw[V c4.p rfl];refine bl (g:=ah) (o:=1) ac.i br.ls.cells.1 br.ls.cells.2 cC (by simp) fun bt cD eA bx=>?_;have bx:ae bt ah c4 [.int .i64 f.k,bZ,.int .i64 0,ag,.slice none 0 0]:=bx;have b1:ad (fun r=>leads aq r∨r=ah) cw bt:=(cA.mono fun r _ h=>.inl h).trans (cD.mono fun r _ h=>.inr h);have dm:am .i64 U bt cz bZ (f.sizes.take (i+1)):=by
   rw[u9,ai];exact a6 br cD fun r I he=>by
    have he:r=ah:=he;subst he;exact bQ br cC (by decide) I rfl
  have aV:∀ r,(leads aq r∨r=ah)→ ∃ e c,ae cw r e c∧e≠ak∧e≠au:=fun r I=>by
   rcases I with I|rfl
   ·obtain⟨rfl,_⟩:=bn bc I;obtain⟨_,⟨dn,_⟩|⟨cap,full,_,W,_⟩⟩:=bc
    ·obtain⟨a,n,c,e,_⟩:=I;rw[dn] at e;cases e
    ·exact⟨_,_,W,by decide,by decide⟩
   ·exact⟨_,_,b0,by decide,by decide⟩
  have dp:=(bY.ext aU).O b1 aV;have z4:=aK.size;have z5:=aU.size;have cE:Ext w bt:=(aK.trans aU).then b1 fun r I he=>by
   rcases he with he|he
   ·have:=bX r he;omega
   ·omega
  have dq:=cB.O b1 fun Y=>by
   rcases Y with Y|Y
   ·exact bQ bc cB (by decide) Y rfl
   ·omega
  intro eD cF _ _;have dr:=bx.ext cF;rw[V c4.p rfl,aa (v:=ag) (by kernel_rfl) (dr.cell (o:=0+3) rfl)];obtain⟨aM,rfl⟩:∃ n:Nat,z=n:=⟨z.toNat,by omega⟩;refine hU (k:=.i64) au.u ak.i (by omega) (by omega) fun bz ds eF b2 du=>?_;refine⟨.inl b2,?_⟩;have dv:am .i64 ak ds bz (.slice (some ⟨bz,0,none⟩) aM aM) (r9 aM 0):=am.of (bG.full (k:=1) (n:=aM) du (by simp) (by simp[maxLen];omega));let a:ka:=⟨.slice (some ⟨bz,0,none⟩) aM aM,r9 aM 0⟩;refine gp (f:=lJ) (a:=a) ek.u au.i (by omega) rfl rfl fun eH eI b3 eJ b4 dw=>?_;refine⟨.inl (b2.trans b4),?_⟩;have aW:=(cF.trans b2).trans b4;have be:=dp.ext aW;refine gN (f:=lJ) (a:=a) ek.u au.i rfl be.1 (by simpa using dw.sl) (fun u hu=>by rw[j0.1 (show u∈[a.v] from hu)];rfl) (by omega) (by omega) fun b5 b7 eK ap b9 cG=>?_;have aX:∀ {r:Nat},leadsTo ag r→ ∃ c,ae b3 r au c:=fun I=>by
   obtain⟨rfl,c,W⟩:=c9 be.1 I;exact⟨c,W⟩
  have ca:=bx.ext aW;have cI:=ca.O cG fun he=>cb be.1 ca (by decide) he;rw[V c4.p rfl];refine bl ek.i (dD ap.sl).1 (dD ap.sl).2 cI (by simp) fun dy cJ eL dz=>?_;rw[aI];have aD:ad (fun r=>leadsTo ag r∨r=ah) b3 dy:=(cG.mono fun r _ h=>.inl h).trans (cJ.mono fun r _ h=>.inr h);have cc:∀ r,(leadsTo ag r∨r=ah)→ ∃ e c,ae b3 r e c∧e≠ak∧e≠U:=fun r I=>by
   rcases I with I|rfl
   ·obtain⟨c,W⟩:=aX I;exact⟨_,c,W,by decide,by decide⟩
   ·exact⟨_,_,ca,by decide,by decide⟩
  have cK:=dm.ext aW;have eM:=cE.size;have eN:=aW.size;have cL:=dq.ext aW;refine dj _ ⟨(cE.trans aW).then aD (fun r I he=>?_),cL.O aD (fun Y=>?_),bZ,cz,b5,b7,aO++[a],dz,a6 cK aD (fun r I Y=>?_),fun r I=>?_,⟨ap.O cJ fun r I he=>?_,fun y av=>?_⟩,?_,fun r I=>?_⟩
  ·rcases he with he|rfl
   ·have:=bq r he;omega
   ·omega
  ·rcases Y with Y|Y
   ·exact cb be.1 cL (by decide) Y
   ·omega
  ·obtain⟨e,c,W,_,aj⟩:=cc r Y;exact bQ cK W (fun he=>aj he.symm) I rfl
  ·rcases dl r I with h|h
   ·exact bX r h
   ·omega
  ·have he:r=ah:=he;subst he;exact cb ap cI (by decide) I
  ·rcases n9.1 av with av|av
   ·exact be.oC aD (fun r I=>by obtain⟨e,c,W,aj,_⟩:=cc r I;exact⟨e,c,W,aj⟩) y av
   ·rw[j0.1 av];have cM:=dv.ext b4;exact⟨bz,a6 cM aD fun r I Y=>by
     obtain⟨e,c,W,aj,_⟩:=cc r Y;exact bQ cM W (fun he=>aj he.symm) I rfl⟩
  ·rw[b6,bb,u9,ai,Z0,b6];rfl
  ·rcases b9 r I with h|h
   ·exact bq r h
   ·omega
 rintro aJ di ⟨aK,bW,aq,gs,ag,ao,aO,ba,bp,bX,bY,bb,bq⟩;rw[an,ab];refine⟨fun h=>by omega,fun _=>?_⟩;rw[o9] at bp bb;refine (Ja (cn.ext aK) aB).mono ?_;rintro aG bA _ ⟨aY,go,ax,ap,dA,cN,eQ⟩;have cP:ax.length=(eP f).length:=by rw[←cN,u5]
 have eR:ax.length≤256:=by
  have h1:=(oq aB).2.length_eq;have bB:=(jk aB).2.2;have eS:=List.length_filter_le eO (eB f);have eU:=aB.jd;omega
 have z4:=aK.size;have eV:=aY.size;have eW:=ba.lt;rw[ef cq.u ap];refine bJ.range ax.length (fun i aN=>kU w bA.heap.size aC gs go aq aG f ax aN∧Aa w bA.heap.size ah aq f.k (c7 f i) ax aN) ap.le
  ⟨⟨aK.trans aY,o7 _,bW.ext aY,bp.ext aY,ap,fun r I=>by have:=ap.leads I;omega,fun h cd=>(dA h cd).1⟩,ag,ao,aO,_,0,[],ba.ext aY,bY.ext aY,bb,bq,a1.nil _ _ _ _ _,fun x bV=>(by cases bV),rfl,fun r I=>(eC I).elim⟩ ?_ ?_
 rotate_left
 ·rintro aN dC ⟨a2,ag,ao,aO,aF,bC,L,bD,bE,aP,bf,bg,bh,aQ,bi⟩;obtain⟨dE,eX,cQ,ce,eY,eZ,dF⟩:=id a2;have bF:=m3 f ax.length;rw[cP,qU] at bF;rw[cP,qU] at bD aP aQ;rw[an,ab];refine⟨fun h=>by omega,fun _=>?_⟩;rw[bw c4.p c4.i rfl (show aN.rangeAt ah 0 [.int .i64 f.k,aq,.int .i64 (cR f).zero,ag,aF] from bD.range)];refine bN (vs:=[.int .i64 f.k,aq,.int .i64 (cR f).zero,ag,aF]) c4.i rfl rfl (fun u hu=>?_) cQ fun e0 bj e1 dG=>?_
  ·simp at hu;rcases hu with rfl|rfl|rfl|rfl|rfl
   ·rfl
   ·exact ce.ls.cells.2
   ·rfl
   ·exact (dD bE.1.sl).2
   ·exact (dD bg.sl).2
  rw[ez c4.p c4.i rfl dG.range];have aV:∀ r,r=aC→ ∃ e c,ae aN r e c∧e≠ak∧e≠au∧e≠U∧e≠aT:=fun r I=>by
   subst I;exact⟨_,_,cQ,by decide,by decide,by decide,by decide⟩
  refine⟨dE.then bj fun r I he=>by have he:r=aC:=he;omega,aq,gs,ag,ao,aO,aF,bC,L,?_,?_,bE.O bj (fun r I=>?_),aP,bg.O bj (fun r I Y=>?_),fun h cd=>?_,aQ⟩
  ·rw[bF.1]
  ·rw[bF.2.1];refine a6 ce bj fun r I Y=>?_;obtain⟨e,c,W,_,_,aj,_⟩:=aV r Y;exact bQ ce W (fun he=>aj he.symm) I rfl
  ·obtain⟨e,c,W,h1,bB,_⟩:=aV r I;exact⟨e,c,W,h1,bB⟩
  ·obtain⟨e,c,W,_,_,_,aj⟩:=aV r Y;exact cb bg W (fun he=>aj he.symm) I
  ·rw[bF.2.1];exact kT (dF h (bh h cd)) bj fun r I=>by
    obtain⟨e,c,W,h1,_,bB,_⟩:=aV r I;exact .inl ⟨e,c,W,bB,h1⟩
 rintro i aN dC hi ⟨a2,ag,ao,aO,aF,bC,L,bD,bE,aP,bf,bg,bh,aQ,bi⟩ dH;obtain⟨y,av⟩:∃ y,ax[i]? =some y:=⟨_,y0 hi⟩;have bH:=x5 av;have cS:(eP f)[i]? =some (cW y):=by rw[←cN,x8,av];rfl
 have cg:eE f.sizes f.k (cW y):=qE aB _ (x5 cS);have ch:=tp cS;obtain⟨e2,e3,e4,e5⟩:=m3 f i;rw[an,ab];refine⟨fun _=>?_,fun h=>by omega⟩;refine c3 (fun ci=>kU w bA.heap.size aC gs go aq aG f ax ci∧Aa w bA.heap.size ah aq f.k (c7 f (i+1)) ax ci) ?_ ?_
 ·rintro ci h;rw[aI];exact dH _ h
 intro e6 cj;rw[cT rfl cq.u aT.i a2.2.2.2.2.1 hi,bw aT.p aT.i rfl (a2.2.2.2.2.1.range av)];refine bu aT.i fun cU e7 e8 dI dJ=>?_;refine bN (vs:=cO y) aT.i rfl rfl (a2.2.2.2.2.2.2 y bH).one dJ fun cV dK e9 bI=>?_;have bK:Ext aN cV:=dI.then dK fun r I he=>by have he:r=cU:=he;omega
 have bL:=a2.ext bK;have aR:=bD.ext bK;have ck:=bE.ext bK;have bM:=bg.ext bK;obtain⟨fa,fb,cX,fc,fd,fe,cY⟩:=id bL;obtain⟨⟨ff,cZ⟩,_,dL,c0⟩:=cY y bH;rw[V aT.p rfl,aa (v:=y.ay) (by kernel_rfl) (bI.cell (o:=0+0) rfl),aL ac.u cZ.ls];have fg:aO.length=f.sizes.length:=by have:=congrArg T9 aP;rw[u5] at this;omega
 have fh:L.length≤256:=by have:=congrArg T9 aQ;rw[u5] at this;omega
 rw[a8,ab];refine⟨fun fi=>?_,fun fj=>?_⟩
 ·
  have aS:y.sc=[]:=b8 (by omega);have al:c7 f (i+1)={c7 f i with zero:=y.cs.getD 0 0}:=by rw[ch];unfold hp;simp only[cW,aS]
  have fk:y.cs.length=1:=by have:=cg.len;simpa[cW,aS,bd,aE] using this
  have dM:y.cs[0]? =some (y.cs.getD 0 0):=by rw[u4,y0 (by omega)];rfl
  rw[V aT.p rfl,aa (v:=y.aG) (by kernel_rfl) (bI.cell (o:=0+2) rfl),dt (y:=0) (i:=0) rfl au.u ak.i (by kernel_rfl) c0.ls dM,V c4.p rfl];refine bl ak.i rfl rfl aR (by simp) fun dN aA dO dP=>?_;refine cj _ ⟨bL.O aA fun r I=>?_,ag,ao,aO,aF,bC,L,?_,ck.O aA (fun r I=>?_),by rw[al];exact aP,bf,bM.O aA (fun r I Y=>?_),bh,by rw[al];exact aQ,bi⟩
  ·have I:r=ah:=I;subst I;exact⟨by omega,aj,.inl ⟨_,aR⟩⟩
  ·rw[al];exact dP
  ·have I:r=ah:=I;subst I;exact⟨_,_,aR,by decide,by decide⟩
  ·have Y:r=ah:=Y;subst Y;exact cb bM aR (by decide) I
 rw[a8,ab];refine⟨fun h1=>?_,fun fl=>?_⟩
 ·
  obtain⟨v,aS⟩:∃ v,y.sc=[v]:=X1.1 (by omega);have fm:=cg.scope.1 v (by show v∈y.sc;rw[aS];exact .head _);have fo:=cg.vars v (by show v∈y.sc;rw[aS];exact .head _);have al:c7 f (i+1)={c7 f i with unary:=(c7 f i).unary.set v.toNat y.cs}:=by rw[ch];unfold hp;simp only[cW,aS]
  intro dQ aH _ _;have cl:=aR.ext aH;have c1:=bI.ext aH;have bk:=ck.ext aH;have dR:=bL.ext aH;have c2:=bM.ext aH;rw[V c4.p rfl,aa (v:=ag) (by kernel_rfl) (cl.cell (o:=0+3) rfl),V aT.p rfl,aa (v:=y.ay) (by kernel_rfl) (c1.cell (o:=0+0) rfl)];refine ss (y:=0) (i:=0) rfl ac.u U.i (cZ.ls.ext aH) (show y.sc[0]? =some v by rw[aS];rfl) fun b o dS=>?_;rw[aa (by kernel_rfl) dS,V aT.p rfl,aa (v:=y.aG) (by kernel_rfl) (c1.cell (o:=0+2) rfl)];obtain⟨u,hu⟩:∃ u,aO[v.toNat]? =some u:=⟨_,y0 (by omega)⟩;rw[cT (i:=v.toNat) (by omega) ek.u au.i bk.1 (by omega)];let a:ka:=⟨y.aG,y.cs⟩;have bO:=c0.ext aH;refine mQ (f:=lJ) (j:=0) (a:=u) (a':=a) au.i bO.ls.cells.1 bO.ls.cells.2 bk.1 hu rfl (by omega) fun dN aA dO dT=>?_;have aX:∀ {r:Nat},leadsTo ag r→ ∃ c,ae dQ r au c:=fun I=>by
   obtain⟨rfl,c,W⟩:=c9 bk.1 I;exact⟨c,W⟩
  refine cj _ ⟨dR.O aA fun r I=>?_,ag,ao,aO.set v.toNat a,aF,bC,L,?_,⟨dT,fun z ai=>?_⟩,?_,bf,c2.O aA (fun r I Y=>?_),bh,by rw[al];exact aQ,bi⟩
  ·obtain⟨c,W⟩:=aX I;exact⟨bf r I,fun he=>(by subst he;exact absurd (ei W (cX.ext aH)) (by decide)),.inr (.inl ⟨c,W⟩)⟩
  ·rw[al];exact cl.O aA fun he=>cb bk.1 cl (by decide) he
  ·rcases X9 ai with ai|rfl
   ·exact bk.oC aA (fun r I=>by obtain⟨c,W⟩:=aX I;exact⟨_,c,W,by decide⟩) z ai
   ·exact⟨dL,a6 bO aA fun r I Y=>by
     obtain⟨c,W⟩:=aX Y;exact bQ bO W (by decide) I rfl⟩
  ·rw[al,U3,aP]
  ·obtain⟨c,W⟩:=aX Y;exact cb c2 W (by decide) I
 ·
  have al:c7 f (i+1)={c7 f i with funs:=(c7 f i).funs++[cW y]}:=by
   rw[ch];unfold hp;have c6:2≤(cW y).1.length:=by show 2≤y.sc.length;omega
   generalize cW y=g at c6 ⊢;obtain⟨sc,cs⟩:=g
   match sc,c6 with
   |_::_::_,_=>rfl
  rw[V c4.p rfl,aa (v:=aF) (by kernel_rfl) (aR.cell (o:=0+4) rfl),bw aT.p aT.i rfl (show cV.rangeAt cU 0 (cO y) from bI.range)];refine gp (f:=cO) (k:=3) (a:=y) cq.u aT.i (by omega) rfl rfl fun fp fq dU fs a7 dV=>?_;have bR:=bM.ext a7;have dW:=ck.ext a7;have bS:=aR.ext a7;have dX:=bL.ext a7;refine gN (f:=cO) (a:=y) cq.u aT.i rfl bR (by simpa using dV.sl) (cY y bH).one (by omega) (by omega) fun b5 b7 ft bT b9 c8=>?_;have da:=bS.O c8 fun he=>cb bR bS (by decide) he;rw[V c4.p rfl];refine bl cq.i (dD bT.sl).1 (dD bT.sl).2 da (by simp) fun dY db fu dZ=>?_;have aD:ad (fun r=>leadsTo aF r∨r=ah) dU dY:=(c8.mono fun r _ h=>.inl h).trans (db.mono fun r _ h=>.inr h);have fv:=a7.size;refine cj _ ⟨dX.O aD fun r I=>?_,ag,ao,aO,b5,b7,L++[y],?_,dW.O aD (fun r I=>?_),by rw[al];exact aP,bf,bT.O db (fun r I Y=>?_),fun z ai=>?_,?_,fun r I=>?_⟩
  ·rcases I with I|rfl
   ·obtain⟨rfl,c,W⟩:=c9 bR I;have:=bi _ I;refine⟨by omega,fun he=>?_,.inr (.inr ⟨⟨c,W⟩,this⟩)⟩;subst he;exact absurd (ei W (cX.ext a7)) (by decide)
   ·exact⟨by omega,aj,.inl ⟨_,bS⟩⟩
  ·rw[al];exact dZ
  ·rcases I with I|rfl
   ·obtain⟨rfl,c,W⟩:=c9 bR I;exact⟨_,c,W,by decide,by decide⟩
   ·exact⟨_,_,bS,by decide,by decide⟩
  ·have Y:r=ah:=Y;subst Y;exact cb bT da (by decide) I
  ·rcases n9.1 ai with ai|ai
   ·exact bh z ai
   ·rw[j0.1 ai];exact bH
  ·rw[al,b6,aQ];rfl
  ·rcases b9 r I with h|h
   ·exact bi r h
   ·omega
def oN (w:x2) (S:Nat→Prop) (e:r8):Prop:=∀ r,S r→ ∃ c,ae w r e c
theorem tL {I:r8} {k:o4} {g:Nat} (h:am k I w g v l) (J:ad S w w') (O:oN w S e) (U:I≠e):am k I w' g v l:=a6 h J fun r V W=>by
 obtain⟨c,Y⟩:=O r W;exact bQ h Y U V rfl
theorem Ac {α:Type} {f:α→List x1} {k:Nat} {I:r8} {g:Nat} {L:List α} (h:a1 f k I w g v L) (J:ad S w w') (U:oN w S e) (V:I≠e):a1 f k I w' g v L:=h.O J fun r W Y=>by
 obtain⟨c,aa⟩:=U r Y;exact cb h aa V W
theorem tM {I:r8} {r:Nat} (h:ae w r I c) (J:ad S w w') (U:oN w S e) (V:I≠e):ae w' r I c:=h.O J fun W=>by
 obtain⟨c,Y⟩:=U r W;exact V (ei h Y)
theorem Ad {g:Nat} (h:ae w g e c):oN w (fun r=>r=g) e:=fun r I=>by
 have I:r=g:=I;subst I;exact⟨c,h⟩
theorem lS {k:o4} {g:Nat} (h:am k e w g v l):oN w (fun r=>leads v r) e:=fun r I=>by
 have I:leads v r:=I;obtain⟨rfl,_⟩:=bn h I;obtain⟨_,⟨O,_⟩|⟨cap,full,_,U,_⟩⟩:=h
 ·obtain⟨a,n,c,J,_⟩:=I;rw[O] at J;cases J
 ·exact⟨_,U⟩
def dA (x:gR):List Int:=((X7 x.un.length).map fun v:Nat=>(v:Int)).filter fun v=>!dropped x.mask v
theorem tN {P:X5} {k:o4} {t:r8} {b:Nat} {z:x1} {K:x1→x2→Prop} (I:P.underlying t=some (.slice e)) (hi:aJ P e 1 b z)
  (J:∀ v g w',g=w.heap.size→Ext w w'→am k e w' g v []→K v w'):ax P (Z4 t 0 #[]) w K:=
 il I hi (by omega) (cs:=#[]) (by simp[Instr.fill]) fun g w' O U V=>J _ g w' O U (am.of (n:=0) (bG.full (by simpa using V) (by simp) (by simp[maxLen])))
theorem Jc {n:aS} (h:tK w v n) {g:Nat} (Y:ae w' g c4 v.cells.toList):∃ aq O I V aO J W L,ae w' g c4 [.int .i64 n.k,aq,.int .i64 n.zero,I,J]∧am .i64 U w O aq n.sizes∧gq w V I aO∧aO.map (·.l)=n.unary∧a1 cO 3 aT w W J L∧(∀ h∈L,eV w n.sizes h)∧L.map cW=n.funs:=by
 obtain⟨aq,O,I,V,aO,J,W,L,rfl,aa,ab,ad,ac,af,ag⟩:=h;obtain⟨_,_,_,ah⟩:=bH aa.ls;obtain⟨_,_,_,_,_,ai,_⟩:=ab.1.sl;obtain⟨_,_,_,_,_,aj,_⟩:=ac.sl;refine⟨aq,O,I,V,aO,J,W,L,?_,aa,ab,ad,ac,af,ag⟩;rw[ah,ai,aj] at Y ⊢;exact Y
def z12:List x1:=[.int .i64 0,.slice none 0 0,.int .i64 0,.slice none 0 0,.slice none 0 0,.slice none 0 0,.slice none 0 0,.slice none 0 0]
theorem Jd (u:List Int):dA (newVar u)=(X7 u.length).map fun v:Nat=>(v:Int):=by
 unfold dA newVar dropped;rw[List.filter_eq_self.2];intro a _;simp
section
variable {P:X5} {w:x2} {t:r8} {cx cy:Bool} {a b:Nat} {K:x1→Prop}
theorem Je (J:a<2 ^ 62) (O:b<2 ^ 62):I P (av .or t cx cy (.int .i64 a) (.int .i64 b)) w K=K (.int .i64 ((a ||| b:Nat):Int)):=I.of fun w' _=>by
 have e:(V6 64 (a:Int) ||| V6 64 (b:Int)).toNat=a ||| b:=by
  rw[kL,kL,BitVec.toNat_or,BitVec.toNat_ofNat,BitVec.toNat_ofNat,Nat.mod_eq_of_lt (by omega),Nat.mod_eq_of_lt (by omega)]
 have V:a ||| b<2 ^ 62:=Nat.or_lt_two_pow J O;have hw:Y0.wrap ((a ||| b:Nat):Int)=((a ||| b:Nat):Int):=wrap_i64 (by omega) (by omega);have U:(V6 Y0.bits (a:Int) ||| V6 Y0.bits (b:Int)).toNat=a ||| b:=e;simp only[av,eqGuard,binOp,Op.intBits,U,hw];rfl
theorem Jf (U:a<2 ^ 62) (J:b<2 ^ 62):I P (av .and t cx cy (.int .i64 a) (.int .i64 b)) w K=K (.int .i64 ((a &&& b:Nat):Int)):=I.of fun w' _=>by
 have e:(V6 64 (a:Int) &&& V6 64 (b:Int)).toNat=a &&& b:=by
  rw[kL,kL,BitVec.toNat_and,BitVec.toNat_ofNat,BitVec.toNat_ofNat,Nat.mod_eq_of_lt (by omega),Nat.mod_eq_of_lt (by omega)]
 have V:a &&& b<2 ^ 62:=Nat.and_lt_two_pow _ J;have hw:Y0.wrap ((a &&& b:Nat):Int)=((a &&& b:Nat):Int):=wrap_i64 (by omega) (by omega);have O:(V6 Y0.bits (a:Int) &&& V6 Y0.bits (b:Int)).toNat=a &&& b:=e;simp only[av,eqGuard,binOp,Op.intBits,O,hw];rfl
theorem Jg {k:o4} {n:Nat} (J:n<62):I P (av .shl t cx cy (.int .i64 1) (.int k (n:Int))) w K=K (.int .i64 ((2 ^ n:Nat):Int)):=by
 rw[wg (by omega)];have e:min ((n:Int).toNat) Y0.bits=n:=Nat.min_eq_left (by show n≤64;omega);have O:2 ^ n<2 ^ 62:=Nat.pow_lt_pow_right (by omega) J;rw[e,Int.one_mul,show ((2:Int) ^ n)=((2 ^ n:Nat):Int) by simp];generalize 2 ^ n=q at O ⊢;rw[wrap_i64 (by omega) (by omega)]
end
theorem Ae (a n:Nat):(a / 2 ^ n &&& 1=1)↔a.testBit n=true:=by
 rw[Nat.and_one_is_mod,Nat.testBit_eq_decide_div_mod_eq,decide_eq_true_eq]
theorem Jh {b n:Nat} {v:Int} (Y:nW b n):af x3 BE [jc b n,.int .i64 v] w fun r w'=>r= .bool (decide (0≤v∧v<n)&&b.testBit v.toNat)∧Ext w w':=by
 refine az func15 ?_;refine bL fun g J ah O U=>?_;refine aM (fun r ac=>r= .bool (decide (0≤v∧v<n)&&b.testBit v.toNat)∧Ext w ac) (fun _ _ h=>h) fun ai W=>?_;rw[bw cc.p cc.i rfl U.range];refine xf.mono ?_;rintro _ aj _ ⟨rfl,I⟩;rw[ab];refine⟨fun h=>?_,fun h=>W _ _ ⟨by rw[decide_eq_false h];rfl,O.trans I⟩⟩;obtain⟨ad,ak⟩:=Y;obtain⟨s,rfl⟩:∃ s:Nat,v=s:=⟨v.toNat,by omega⟩;have ae:=U.ext I;have al:(2:Nat) ^ n≤2 ^ 32:=Nat.pow_le_pow_right (by omega) ad;have ag:b / 2 ^ s<2 ^ 64:=Nat.lt_of_le_of_lt (Nat.div_le_self _ _) (by omega);rw[V cc.p rfl,aa (v:=.int .u64 (b:Int)) (by kernel_rfl) (ae.cell (o:=0+0) rfl),sB (by omega),show (1:Int)=((1:Nat):Int) from rfl,u64_and ag (by omega),a8];refine W _ _ ⟨?_,O.trans I⟩;congr 1;rw[decide_eq_true h,Bool.true_and,V1,decide_eq_true_eq,Z3,←Ae];omega
theorem Ji (m v:Nat):dropped (m:Int) (v:Int)=m.testBit v:=by unfold dropped;rw[Z3,Z3]
def cp (w:x2) (aj ah:Nat) (A R:ag) (n:aS) (s:aF) (t:aH):Prop:=StateM w aj ah A R n s t∧t.bW=s.cells∧jn t∧et n.k n.sizes s∧h3 n
theorem cp.ext {A R:ag} {n:aS} {s:aF} {t:aH} (h:cp w aj ah A R n s t) (I:Ext w w'):cp w' aj ah A R n s t:=⟨h.1.ext I,h.2⟩
theorem StateM.parts {A R:ag} {n:aS} {s:aF} {t:aH} (h:StateM w aj ah A R n s t):∃ I J O V W Y L aa,ae w aj bM [.pointer (some ⟨I,0,none⟩),.pointer (some ⟨ah,0,none⟩),J,O,V]∧e7 w I n∧cV w ah aa t∧am .i64 U w W J (gT s)∧a1 kc 3 dw w Y O L∧h6 R w L s:=by
 obtain⟨I,J,O,V,_,W,Y,ge,L,E,aa,w0,ab,⟨ac,ad,an⟩,⟨af,ao,ap,aq⟩,ai,⟨ak,al⟩,au,av⟩:=h;exact⟨I,J,O,V,W,Y,L,aa,ab,ac.ext ad,af,ai,ak,al⟩
theorem oO {s:aF} {i:Nat} (h:i<s.vars.length):(gT s)[i]? =some (eG s i:Int):=by
 unfold gT;rw[x8,List.getElem?_range h];rfl
theorem oP {s:aF} {t:aH} (I:t.bW=s.cells) (J:jn t):s.cells.length≤100000000:=by
 rw[←I];unfold aH.bW;rw[u5];exact J.1
theorem oQ {s:aF} {i:Nat} {x:gR} (h:s.vars[i]? =some x):eG s i+x.un.length+2≤s.cells.length:=by
 have h1:=oE h (j:=x.un.length+1) (by omega);have I:(fZ x)[x.un.length+1]? ≠none:=by
  rw[Ne,List.getElem?_eq_none_iff];show ¬(x.un.length+1+1≤x.un.length+1);omega
 rw[←h1] at I;have:=(x4.1 (Option.ne_none_iff_exists'.1 I).choose_spec).1;omega
theorem tO {s:aF} {f:eF} (h:s.funs[j]? =some f):dW s j+f.cs.length+1≤s.cells.length:=by
 have h1:=ts h (j:=f.cs.length) (by omega);have I:(fG f)[f.cs.length]? ≠none:=by
  rw[Ne,List.getElem?_eq_none_iff];show ¬(f.cs.length+1≤f.cs.length);omega
 rw[←h1] at I;have:=(x4.1 (Option.ne_none_iff_exists'.1 I).choose_spec).1;omega
section
variable {w:x2} {aj ah:Nat} {A R:ag} {n:aS} {s:aF} {t:aH}
theorem Af (h:cp w aj ah A R n s t):af x3 BI [.pointer (some ⟨aj,0,none⟩)] w fun v w'=>(∃ I,v= .pointer (some ⟨I,0,none⟩)∧e7 w' I n)∧Ext w w':=by
 obtain⟨I,U,W,Y,ab,ac,L,ad,J,O,ae,ag,ai,ak⟩:=h.1.parts;refine az func49 ?_;rw[cI fN.u];simp only[Z1,aP];rw[aw,V bM.p rfl,aa (v:=.pointer (some ⟨I,0,none⟩)) (by kernel_rfl) (J.cell (o:=0+0) rfl)];exact⟨⟨I,rfl,O⟩,Ext.refl _⟩
theorem Ag (h:cp w aj ah A R n s t):af x3 BL [.pointer (some ⟨aj,0,none⟩)] w fun v w'=>v= .int .i64 (n.sizes.length:Int)∧Ext w w':=by
 refine az func60 ?_;refine (Af h).mono ?_;rintro _ J _ ⟨⟨V,rfl,I⟩,O⟩;refine (tu I).mono ?_;rintro _ W _ ⟨rfl,U⟩;exact⟨rfl,O.trans U⟩
theorem nb (h:cp w aj ah A R n s t):af x3 vC [.pointer (some ⟨aj,0,none⟩)] w fun v w'=>v= .int .i64 n.k∧Ext w w':=by
 refine az func59 ?_;refine (Af h).mono ?_;rintro _ J _ ⟨⟨V,rfl,I⟩,O⟩;refine (Ir I).mono ?_;rintro _ W _ ⟨rfl,U⟩;exact⟨rfl,O.trans U⟩
theorem oR {i:Int} (h:cp w aj ah A R n s t):af x3 BX [.pointer (some ⟨aj,0,none⟩),.int .i64 i] w fun v w'=>v= .bool (decide (0≤i∧i<n.sizes.length))∧Ext w w':=by
 refine az func75 ?_;refine aM (fun v J=>v= .bool (decide (0≤i∧i<n.sizes.length))∧Ext w J) (fun _ _ h=>h) fun V I=>?_;rw[cm,ab];refine⟨fun O=>?_,fun O=>I _ _ ⟨by rw[decide_eq_false (by omega)],Ext.refl _⟩⟩;refine (Ag h).mono ?_;rintro _ J _ ⟨rfl,U⟩;rw[an];refine I _ _ ⟨?_,U⟩;congr 1;exact decide_eq_decide.2 ⟨fun h=>⟨O,h⟩,fun h=>h.2⟩
theorem Jj (h:cp w aj ah A R n s t):af x3 BM [.pointer (some ⟨aj,0,none⟩)] w fun v w'=>v= .int .i64 s.zero∧Ext w w':=by
 obtain⟨W,Y,ab,ac,ad,ae,L,ag,I,ai,O,ak,al,am⟩:=h.1.parts;refine az func61 ?_;rw[cI fN.u];simp only[Z1,aP];rw[aw,V bM.p rfl,aa (v:=.pointer (some ⟨ah,0,none⟩)) (by kernel_rfl) (I.cell (o:=0+1) rfl)];refine (lM (i:=0) O rfl (show t.bW[0]? =some s.zero by rw[h.2.1];exact Im s)).mono ?_;rintro _ J _ ⟨rfl,U⟩;exact⟨rfl,U⟩
theorem Ah (h:cp w aj ah A R n s t):af x3 BG [.pointer (some ⟨aj,0,none⟩)] w fun v w'=>v= .int .i64 (s.funs.length:Int)∧Ext w w':=by
 obtain⟨W,Y,I,ab,ac,ad,L,ae,J,ag,ai,ak,O,U⟩:=h.1.parts;refine az func19 ?_;rw[cI fN.u];simp only[Z1,aP];rw[aw,V bM.p rfl,aa (v:=I) (by kernel_rfl) (J.cell (o:=0+3) rfl),ef en.u O];exact⟨by rw[U.1],Ext.refl _⟩
def dv (s:aF) (i:Nat):Bool:=match s.vars[i]? with
 |some x=>decide (x.gone≠0)
 |none=>false
theorem tP {i:Int} (h:cp w aj ah A R n s t):af x3 BO [.pointer (some ⟨aj,0,none⟩),.int .i64 i] w fun v w'=>v= .bool (decide (0≤i)&&dv s i.toNat)∧Ext w w':=by
 refine az func63 ?_;refine aM (fun v J=>v= .bool (decide (0≤i)&&dv s i.toNat)∧Ext w J) (fun _ _ h=>h) fun ap O=>?_;intro aq W _ _;refine (oR (h.ext W)).mono ?_;rintro _ au _ ⟨rfl,ae⟩;have I:=W.trans ae;have av:=h.2.2.2.1.vars;rw[ab];refine⟨fun ag=>?_,fun ax=>O _ _ ⟨?_,I⟩⟩
 ·obtain⟨ay,ai,aA,aB,aC,aD,L,aE,Y,aF,ak,al,aG,aH⟩:=(h.ext I).1.parts;obtain⟨x,ad⟩:∃ x,s.vars[i.toNat]? =some x:=⟨_,y0 (by omega)⟩;rw[aw,V bM.p rfl,aa (v:=.pointer (some ⟨ah,0,none⟩)) (by kernel_rfl) (Y.cell (o:=0+1) rfl),aw,V bM.p rfl,aa (v:=ai) (by kernel_rfl) (Y.cell (o:=0+2) rfl),dt (y:=i) (i:=i.toNat) (by omega) ac.u U.i (by kernel_rfl) al.ls (oO (by omega))];have am:t.bW[eG s i.toNat+0]? =some x.gone:=by rw[h.2.1,oE ad (by omega)];rfl
  refine (lM (i:=eG s i.toNat) ak rfl am).mono ?_;rintro _ aI _ ⟨rfl,an⟩;rw[bF];refine O _ _ ⟨?_,I.trans an⟩;rw[decide_eq_true ag.1,Bool.true_and];unfold dv;rw[ad]
 ·by_cases ao:0≤i
  ·unfold dv;rw[Z9 (by omega),Bool.and_false]
  ·rw[decide_eq_false ao];rfl
def ej (n:aS) (i v:Int):Prop:=0≤i∧i<n.sizes.length∧0≤v∧v<n.sizes.getD i.toNat 0
instance (n:aS) (i v:Int):Decidable (ej n i v):=inferInstanceAs (Decidable (_∧_))
theorem ej.var {i v:Int} (U:ej n i v) (I:et n.k n.sizes s):∃ x,s.vars[i.toNat]? =some x∧v.toNat<x.un.length∧x.un.length≤32∧n.sizes.getD i.toNat 0=x.un.length:=by
 obtain⟨h1,W,Y,V⟩:=U;have aa:=I.vars;obtain⟨x,O⟩:∃ x,s.vars[i.toNat]? =some x:=⟨_,y0 (by omega)⟩;obtain⟨z,J⟩:∃ z,n.sizes[i.toNat]? =some z:=⟨_,y0 (by omega)⟩;have ab:=I.dX.2.2 z (x5 J);have ac:=(I.var i.toNat x z O J).1;rw[u4,J,U7] at V ⊢;exact⟨x,O,by omega,by omega,by omega⟩
theorem tQ {i v:Int} (h:cp w aj ah A R n s t):af x3 BW [.pointer (some ⟨aj,0,none⟩),.int .i64 i,.int .i64 v] w fun r w'=>r= .int .i64 (if ej n i v then ((eG s i.toNat+2+v.toNat:Nat):Int) else-1)∧Ext w w':=by
 have aH:=h.2.2.2.1.vars;refine az func72 ?_;refine aM (fun r J=>r= .bool (decide (¬ej n i v))∧Ext w J) ?_ ?_
 ·rintro _ J ⟨rfl,ad⟩;rw[ab];refine⟨fun ao=>⟨by rw[if_neg ao],ad⟩,fun W=>?_⟩;have W:=Y9.1 W;obtain⟨x,ap,aJ,aK,_⟩:=W.var h.2.2.2.1;obtain⟨ag,ai,aq,au,av,ax,L,ay,I,ak,aA,al,aB,aC⟩:=(h.ext ad).1.parts;have am:=oQ ap;have aL:=oP h.2.1 h.2.2.1;obtain⟨h1,aN,aO,aP⟩:=id W;rw[aw,V bM.p rfl,aa (v:=ai) (by kernel_rfl) (I.cell (o:=0+2) rfl),dt (y:=i) (i:=i.toNat) (by omega) ac.u U.i (by kernel_rfl) al.ls (oO (by omega)),aI,wrap_i64 (by omega) (by omega),aI,wrap_i64 (by omega) (by omega),if_pos W];refine⟨?_,ad⟩;congr 1;omega
 ·intro aQ ae;refine (oR h).mono ?_;rintro _ aR _ ⟨rfl,Y⟩;rw[bc,br];refine⟨fun I=>?_,fun I=>?_⟩
  ·have I:¬(0≤i∧i<n.sizes.length):=fun aD=>by rw[decide_eq_true aD] at I;cases I
   exact ae _ _ ⟨by rw[decide_eq_true];exact fun O=>I ⟨O.1,O.2.1⟩,Y⟩
  have I:0≤i∧i<n.sizes.length:=by simpa using I
  rw[an,ab];refine⟨fun aE=>ae _ _ ⟨by rw[decide_eq_true];exact fun O=>by have:=O.2.2.1;omega,Y⟩,fun aE=>?_⟩;obtain⟨ag,ai,aq,au,av,ax,L,ay,aF,ak,aA,al,aB,aC⟩:=(h.ext Y).1.parts;rw[aw,V bM.p rfl,aa (v:=.pointer (some ⟨ag,0,none⟩)) (by kernel_rfl) (aF.cell (o:=0+0) rfl)];refine (qW ak h.2.2.2.2).mono ?_;rintro _ aS _ ⟨aG,rfl⟩;rw[if_pos I.1,cm];refine ae _ _ ⟨?_,Y.trans aG⟩;congr 1;refine decide_eq_decide.2 ⟨fun h O=>?_,fun h=>?_⟩
  ·have:=O.2.2.2;omega
  ·refine Int.not_lt.1 fun am=>h ⟨I.1,I.2,by omega,am⟩
def oS (s:aF) (i v:Nat):Int:=match s.vars[i]? with
 |some x=>x.un.getD v 0
 |none=>0
theorem Jk {i v:Int} (h:cp w aj ah A R n s t):af x3 BJ [.pointer (some ⟨aj,0,none⟩),.int .i64 i,.int .i64 v] w fun r w'=>r=(if ej n i v then .tuple #[.int .i64 (oS s i.toNat v.toNat),.int .i64 0] else .tuple #[.int .i64 0,.int .i64 1])∧Ext w w':=by
 refine az func52 ?_;rw[cI fN.u];simp only[Z1,aP];refine (tQ h).mono ?_;rintro _ J _ ⟨rfl,O⟩;by_cases I:ej n i v
 ·rw[if_pos I,if_pos I,an,ab];refine⟨fun h=>by omega,fun _=>?_⟩;obtain⟨x,U,W,ag,_⟩:=I.var h.2.2.2.1;obtain⟨ai,ak,al,am,ao,ap,L,aq,Y,au,ac,av,ax,ay⟩:=(h.ext O).1.parts;rw[aw,V bM.p rfl,aa (v:=.pointer (some ⟨ah,0,none⟩)) (by kernel_rfl) (Y.cell (o:=0+1) rfl)];have ad:t.bW[eG s i.toNat+2+v.toNat]? =some (x.un.getD v.toNat 0):=by
   rw[h.2.1,Nat.add_assoc,oE U (by omega),show 2+v.toNat=v.toNat+1+1 by omega];show x.un[v.toNat]? =_;rw[u4,y0 W];rfl
  refine (lM (i:=eG s i.toNat+2+v.toNat) ac rfl ad).mono ?_;rintro _ aA _ ⟨rfl,ae⟩;refine⟨?_,O.trans ae⟩;unfold oS;rw[U]
 ·rw[if_neg I,if_neg I,an,ab];exact⟨fun _=>⟨rfl,O⟩,fun h=>by omega⟩
def dS (s:aF) (j:Nat):Bool:=match s.funs[j]? with
 |some f=>decide (f.live≠0)
 |none=>false
theorem oT {j:Int} (h:cp w aj ah A R n s t):af x3 BF [.pointer (some ⟨aj,0,none⟩),.int .i64 j] w fun v w'=>v= .bool (decide (0≤j)&&dS s j.toNat)∧Ext w w':=by
 refine az func18 ?_;refine aM (fun v J=>v= .bool (decide (0≤j)&&dS s j.toNat)∧Ext w J) (fun _ _ h=>h) fun aq I=>?_;intro au O _ _;rw[cm,ab];refine⟨fun U=>?_,fun U=>I _ _ ⟨by rw[decide_eq_false U];rfl,O⟩⟩;refine (Ah (h.ext O)).mono ?_;rintro _ av _ ⟨rfl,ai⟩;have W:=O.trans ai;rw[an,ab];refine⟨fun ax=>?_,fun ay=>I _ _ ⟨?_,W⟩⟩
 ·obtain⟨aA,aB,ak,aC,aD,aE,L,aF,ad,aG,al,aH,ae,Y⟩:=(h.ext W).1.parts;obtain⟨f,ac⟩:∃ f,s.funs[j.toNat]? =some f:=⟨_,y0 (by omega)⟩;obtain⟨y,ag⟩:∃ y,L[j.toNat]? =some y:=⟨_,y0 (by rw[Y.1];omega)⟩;obtain⟨_,_,am⟩:=Y.2 j.toNat y f ag ac;rw[aw,V bM.p rfl,aa (v:=.pointer (some ⟨ah,0,none⟩)) (by kernel_rfl) (ad.cell (o:=0+1) rfl),aw,V bM.p rfl,aa (v:=ak) (by kernel_rfl) (ad.cell (o:=0+3) rfl),cT (i:=j.toNat) (by omega) en.u dw.i ae (by rw[Y.1];omega),V dw.p rfl,aa (v:=.int .i64 (y.at_:Int)) (by kernel_rfl) (ae.range ag 2 _ rfl)];have ao:t.bW[dW s j.toNat+0]? =some f.live:=by rw[h.2.1,ts ac (by omega)];rfl
  refine (lM (i:=dW s j.toNat) al (by rw[am]) ao).mono ?_;rintro _ aI _ ⟨rfl,ap⟩;rw[bF];refine I _ _ ⟨?_,W.trans ap⟩;rw[decide_eq_true U,Bool.true_and];unfold dS;rw[ac]
 ·unfold dS;rw[Z9 (by omega),Bool.and_false]
end
def Jl (s:aF) (n:aS) (i:Int) (b m:Nat):Prop:=nW b m∧(¬(0≤i∧i<n.sizes.length)→b=0∧m=0)∧ ∀ x,0≤i→s.vars[i.toNat]? =some x→m=x.un.length∧ ∀ j:Nat,b.testBit j=(decide (j<x.un.length)&& !dropped x.mask (j:Int))
section
variable {w:x2} {aj ah:Nat} {A R:ag} {n:aS} {s:aF} {t:aH}
theorem Jm {i:Int} (h:cp w aj ah A R n s t):af x3 BD [.pointer (some ⟨aj,0,none⟩),.int .i64 i] w fun v w'=>(∃ b m,v=jc b m∧Jl s n i b m)∧Ext w w':=by
 have bP:=h.2.2.2.1.vars;refine az func14 ?_;refine bu cc.i fun W J bQ aN av=>?_;have av:ae J W cc [.int .u64 0,.int .i64 0]:=av;refine (oR (h.ext aN)).mono ?_;rintro _ bR _ ⟨rfl,aO⟩;have ax:=av.ext aO;have ay:=aN.trans aO;rw[bc,br];refine⟨fun Y=>?_,fun Y=>?_⟩
 ·have Y:¬(0≤i∧i<n.sizes.length):=fun bf=>by rw[decide_eq_true bf] at Y;cases Y
  rw[cH (cs:=#[.int .u64 0,.int .i64 0]) (by kernel_rfl)];refine bN (vs:=[.int .u64 0,.int .i64 0]) cc.i rfl rfl (by intro u hu;simp at hu;rcases hu with rfl|rfl <;> rfl) ax fun bS bg bT bh=>?_;rw[ez cc.p cc.i rfl bh.range];refine⟨⟨0,0,rfl,⟨by omega,by simp⟩,fun _=>⟨rfl,rfl⟩,fun x aP bi=>?_⟩,ay.then bg fun r aA he=>by have he:r=W:=he;omega⟩;have:=(x4.1 bi).1;exact absurd ⟨aP,by omega⟩ Y
 have Y:0≤i∧i<n.sizes.length:=by simpa using Y
 obtain⟨x,ai⟩:∃ x,s.vars[i.toNat]? =some x:=⟨_,y0 (by omega)⟩;obtain⟨z,aB⟩:∃ z,n.sizes[i.toNat]? =some z:=⟨_,y0 (by omega)⟩;have bj:=h.2.2.2.1.dX.2.2 z (x5 aB);obtain⟨bU,_,bV,bX⟩:=h.2.2.2.1.var i.toNat x z ai aB;obtain⟨aQ,aR,bk,bl,bm,bn,L,bo,ak,aS,_⟩:=(h.ext ay).1.parts;rw[aw,V bM.p rfl,aa (v:=.pointer (some ⟨aQ,0,none⟩)) (by kernel_rfl) (ak.cell (o:=0+0) rfl)];refine (qW aS h.2.2.2.2).mono ?_;rintro _ bY _ ⟨aC,rfl⟩;rw[if_pos Y.1,u4,aB,U7];refine EQ.mono ?_;rintro _ bZ _ ⟨aE,rfl⟩;rw[if_pos bj];obtain⟨m,rfl⟩:∃ m:Nat,z=m:=⟨z.toNat,by omega⟩;rw[aD (v:=jc (2 ^ (m:Int).toNat-1) (m:Int).toNat) rfl,aD (v:=.int .i64 0) rfl,Z3];have aT:=(ay.trans aC).trans aE;refine bu cc.i fun I b0 b1 aU bp=>?_;refine bN (vs:=[.int .u64 ((2 ^ m-1:Nat):Int),.int .i64 (m:Int)]) cc.i rfl rfl (by intro u hu;simp at hu;rcases hu with rfl|rfl <;> rfl) bp fun aV aW b2 bq=>?_;have z5:=aT.size;have aX:Ext w aV:=(aT.trans aU).then aW fun r aA he=>by have he:r=I:=he;omega
 have b3:=(((ax.ext aC).ext aE)).lt;have bt:ae aV W cc [.int .u64 0,.int .i64 0]:=(((ax.ext aC).ext aE).ext aU).O aW fun he=>by have he:W=I:=he;omega
 intro b4 aF _ _;have aY:=aX.trans aF;obtain⟨aQ,aR,bk,bl,bm,bn,L,bo,ak,aS,bx,bz,_⟩:=(h.ext aY).1.parts;have b5:=oQ ai;have b6:=oP h.2.1 h.2.2.1;rw[aw,V bM.p rfl,aa (v:=.pointer (some ⟨ah,0,none⟩)) (by kernel_rfl) (ak.cell (o:=0+1) rfl),aw,V bM.p rfl,aa (v:=aR) (by kernel_rfl) (ak.cell (o:=0+2) rfl),dt (y:=i) (i:=i.toNat) (by omega) ac.u U.i (by kernel_rfl) bz.ls (oO (by omega)),aI,wrap_i64 (by omega) (by omega)];have bA:t.bW[eG s i.toNat+1]? =some x.mask:=by rw[h.2.1,oE ai (by omega)];rfl
 refine (lM (i:=eG s i.toNat+1) bx (by omega) bA).mono ?_;rintro _ bB _ ⟨rfl,aG⟩;have aZ:=(bq.ext aF).ext aG;have bC:=(bt.ext aF).ext aG;obtain⟨mk,a1⟩:∃ mk:Nat,x.mask=mk:=⟨x.mask.toNat,by omega⟩;rw[bw cc.p cc.i rfl (show bB.rangeAt I 0 [.int .u64 ((2 ^ m-1:Nat):Int),.int .i64 (m:Int)] from aZ.range)];refine (EP (b:=2 ^ m-1) (n:=m)).mono ?_;rintro _ b7 _ ⟨rfl,aH⟩;have bD:=aY.trans aG;have bE:W≠I:=by omega
 have b8:=aX.size;have b9:w.heap.size≤I:=by omega
 have ca:w.heap.size≤W:=by omega
 refine bJ.range m (fun q ad=>Ext w ad∧ae ad W cc [.int .u64 0,.int .i64 0]∧ ∃ b:Nat,ae ad I cc [.int .u64 (b:Int),.int .i64 (m:Int)]∧nW b m∧ ∀ j:Nat,b.testBit j=(decide (j<m)&& !(decide (j<q)&&mk.testBit j))) (by omega)
  ⟨bD.trans aH,bC.ext aH,_,aZ.ext aH,⟨by omega,by have:=Nat.two_pow_pos m;omega⟩,fun j=>by rw[EO];simp⟩ ?_ ?_
 ·rintro q ad bF cb ⟨al,am,b,ag,ao,ap⟩ bG;rw[an,ab];refine⟨fun _=>?_,fun h=>by omega⟩;refine c3 (fun aq=>Ext w aq∧ae aq W cc [.int .u64 0,.int .i64 0]∧ ∃ b:Nat,ae aq I cc [.int .u64 (b:Int),.int .i64 (m:Int)]∧nW b m∧ ∀ j:Nat,b.testBit j=(decide (j<m)&& !(decide (j<q+1)&&mk.testBit j))) ?_ ?_
  ·rintro aq bH;rw[aI];exact bG _ bH
  intro cd a2;have bI:mk / 2 ^ q<2 ^ 62:=Nat.lt_of_le_of_lt (Nat.div_le_self _ _) (by omega);rw[a1,ym (by omega),show (1:Int)=((1:Nat):Int) from rfl,Jf bI (by omega),a8,ab];have a6:(((mk / 2 ^ q &&& 1:Nat):Int)=((1:Nat):Int))↔mk.testBit q=true:=by rw[←Ae];omega
  refine⟨fun aJ=>?_,fun aK=>?_⟩
  ·have aJ:=a6.1 aJ;rw[bw cc.p cc.i rfl (show ad.rangeAt I 0 [.int .u64 (b:Int),.int .i64 (m:Int)] from ag.range)];refine (ER (v:=(q:Int)) ao).mono ?_;rintro _ ce _ ⟨rfl,aL⟩;rw[if_pos ⟨by omega,by omega⟩,Z3];refine bN (vs:=[.int .u64 ((ir b (2 ^ q):Nat):Int),.int .i64 (m:Int)]) cc.i rfl rfl (by intro u hu;simp at hu;rcases hu with rfl|rfl <;> rfl) (ag.ext aL) fun cg a7 ch bK=>?_;have ba:∀ j:Nat,(ir b (2 ^ q)).testBit j=(decide (j<m)&& !(decide (j<q+1)&&mk.testBit j)):=fun j=>by
    rw[EL,ap,Nat.testBit_two_pow];by_cases bb:j<m
    ·by_cases au:j=q
     ·subst au;simp[aJ]
     ·have aM:decide (j<q+1)=decide (j<q):=decide_eq_decide.2 ⟨fun h=>by omega,fun h=>by omega⟩;rw[aM,decide_eq_true bb,decide_eq_true (show j<64 by omega),decide_eq_false (show ¬q=j from fun h=>au h.symm)];simp
    ·simp[bb]
   refine a2 _ ⟨(al.trans aL).then a7 fun r aA he=>by have he:r=I:=he;omega,(am.ext aL).O a7 fun he=>bE he,_,bK,⟨by omega,EM fun j bd=>by rw[ba,decide_eq_false (by omega)];rfl⟩,ba⟩
  ·have aK:mk.testBit q=false:=by simpa using fun h=>aK (a6.2 h)
   refine a2 _ ⟨al,am,b,ag,ao,fun j=>?_⟩;rw[ap];by_cases au:j=q
   ·subst au;simp[aK]
   ·have aM:decide (j<q+1)=decide (j<q):=decide_eq_decide.2 ⟨fun h=>by omega,fun h=>by omega⟩;rw[aM]
 ·rintro ad bF ⟨al,am,b,ag,ao,ap⟩;rw[an,ab];refine⟨fun h=>by omega,fun _=>?_⟩;rw[bw cc.p cc.i rfl (show ad.rangeAt I 0 [.int .u64 (b:Int),.int .i64 (m:Int)] from ag.range)];refine bN (vs:=[.int .u64 (b:Int),.int .i64 (m:Int)]) cc.i rfl rfl (by intro u hu;simp at hu;rcases hu with rfl|rfl <;> rfl) am fun ci bL cj bO=>?_;rw[ez cc.p cc.i rfl bO.range];refine⟨⟨b,m,rfl,ao,fun h=>absurd Y h,fun y aP be=>?_⟩,al.then bL fun r aA he=>by have he:r=W:=he;omega⟩;rw[ai] at be;cases be;refine⟨by omega,fun j=>?_⟩;rw[ap,a1,Ji,show x.un.length=m by omega];by_cases bd:j<m <;> simp[bd]
theorem oU {f:eF} (J:et k sizes s) (U:f∈s.funs):bD f.szs∧f.cs.length=(aE f.szs).toNat∧aE f.szs≤4096:=by
 obtain⟨I,V,_⟩:=J.funs f U;rw[V];refine⟨⟨?_,mV J.dX.2.2 fun v O=>⟨(I.scope.1 v O).1,I.vars v O⟩⟩,I.len,I.small⟩;have:=I.scope.2;simp[bd];exact this
def eI (s:aF) (j:Nat) (I:List Int):Option Nat:=match s.funs[j]? with
 |some f=>if f.live≠0 then (bX f.szs I 0).map fun m=>dW s j+1+m.toNat else none
 |none=>none
def jv (s:aF) (j:Nat) (I:List Int):Int:=match s.funs[j]? with
 |some f=>cu f.szs f.cs I
 |none=>0
theorem Ai {ac:List Int} (h:cp w aj ah A R n s t) (ap:aB .i64 w aA ac):af x3 vN [.pointer (some ⟨aj,0,none⟩),.int .i64 (j:Int),aA] w fun v w'=>v= .int .i64 (match eI s j ac with|some p=>(p:Int)|none=>-1)∧Ext w w':=by
 refine az func137 ?_;refine (oT h).mono ?_;rintro _ J _ ⟨rfl,ad⟩;rw[decide_eq_true (by omega),Bool.true_and,Z3,bc,br];refine⟨fun I=>⟨?_,ad⟩,fun I=>?_⟩
 ·have I:dS s j=false:=by simpa using I
  have:eI s j ac=none:=by
   unfold eI;unfold dS at I;cases O:s.funs[j]? with
   |none=>rfl
   |some f=>
    rw[O] at I;have I:f.live=0:=by simpa using I
    simp[I]
  rw[this]
 have I:dS s j=true:=by simpa using I
 obtain⟨f,O,au⟩:∃ f,s.funs[j]? =some f∧f.live≠0:=by
  unfold dS at I;cases O:s.funs[j]? with
  |none=>rw[O] at I;cases I
  |some f=>rw[O] at I;exact⟨f,rfl,by simpa using I⟩
 obtain⟨am,aM,aN⟩:=oU h.2.2.2.1 (x5 O);obtain⟨av,ax,ae,ay,aC,an,L,aE,ag,aF,aG,aH,W,Y⟩:=(h.ext ad).1.parts;obtain⟨y,U⟩:∃ y,L[j]? =some y:=⟨_,y0 (by rw[Y.1];exact (x4.1 O).1)⟩;have ai:=(x4.1 U).1;obtain⟨_,aJ,ao⟩:=Y.2 j y f U O;have aK:J.rangeAt an (j*3+1) [y.aq]:=fun q v ak=>by
  match q,ak with
  |0,ak=>cases ak;exact W.range U 1 _ rfl
 rw[aw,V bM.p rfl,aa (v:=ae) (by kernel_rfl) (ag.cell (o:=0+3) rfl),cT rfl en.u dw.i W ai,V dw.p rfl,bw (cs:=[y.aq]) bg.p bg.i rfl aK];refine (wD aJ.ls (ap.ext ad) am).mono ?_;rintro _ aO _ ⟨rfl,aL⟩;have al:=ad.trans aL;unfold ja eI;rw[O];simp only[if_pos au];cases hi:bX f.szs ac 0 with
 |none=>
  simp only[Option.map_none];rw[aD (v:=.int .i64 0) rfl,aD (v:=.int .i64 3) rfl,bF,ab];exact⟨fun _=>⟨trivial,al⟩,fun h=>absurd (show (3:Int)≠0 by decide) h⟩
 |some m=>
  simp only[Z2];rw[aD (v:=.int .i64 m) rfl,aD (v:=.int .i64 0) rfl,bF,ab];refine⟨fun h=>absurd rfl h,fun _=>?_⟩;have aP:=i9 am.2 hi;have aQ:=tO O;have aR:=oP h.2.1 h.2.2.1;obtain⟨av,ax,ae,ay,aC,an,L,aE,ag,aF,aG,aH,W,Y⟩:=(h.ext al).1.parts;obtain⟨y,U⟩:∃ y,L[j]? =some y:=⟨_,y0 (by rw[Y.1];exact (x4.1 O).1)⟩;have ai:=(x4.1 U).1;obtain⟨_,_,ao⟩:=Y.2 j y f U O;rw[aw,V bM.p rfl,aa (v:=ae) (by kernel_rfl) (ag.cell (o:=0+3) rfl),cT rfl en.u dw.i W ai,V dw.p rfl,aa (v:=.int .i64 (y.at_:Int)) (by kernel_rfl) (W.range U 2 _ rfl),ao,aI,wrap_i64 (by omega) (by omega),aI,wrap_i64 (by omega) (by omega)];refine⟨?_,al⟩;congr 1;omega
theorem oV {J:List Int} {p:Nat} (O:et k sizes s) (h:eI s j J=some p):s.cells[p]? =some (jv s j J)∧ ∃ f,s.funs[j]? =some f∧f.live≠0∧ ∃ m:Nat,bX f.szs J 0=some (m:Int)∧m<f.cs.length∧p=dW s j+(m+1):=by
 unfold eI at h;cases I:s.funs[j]? with
 |none=>rw[I] at h;cases h
 |some f=>
  rw[I] at h;simp only at h;split at h
  ·rename_i U;obtain⟨m,hm,rfl⟩:=Y1.1 h;obtain⟨V,W,Y⟩:=oU O (x5 I);have aa:=i9 V.2 hm;obtain⟨q,rfl⟩:∃ q:Nat,m=q:=⟨m.toNat,by omega⟩;refine⟨?_,f,rfl,U,q,hm,by omega,by omega⟩;rw[show dW s j+1+(q:Int).toNat=dW s j+(q+1) by omega,ts I (by omega)];unfold jv cu;rw[I];simp only[hm];show f.cs[q]? =_;rw[Z3,u4,y0 (by omega)];rfl
  ·cases h
theorem Jn {I:List Int} (h:cp w aj ah A R n s t) (U:aB .i64 w aA I):af x3 BK [.pointer (some ⟨aj,0,none⟩),.int .i64 (j:Int),aA] w fun v w'=>v=(if (eI s j I).isSome then .tuple #[.int .i64 (jv s j I),.int .i64 0] else .tuple #[.int .i64 0,.int .i64 1])∧Ext w w':=by
 refine az func53 ?_;rw[cI fN.u];simp only[Z1,aP];refine (Ai h U).mono ?_;rintro _ J _ ⟨rfl,O⟩;cases W:eI s j I with
 |none=>
  simp only;rw[an,ab];exact⟨fun _=>⟨rfl,O⟩,fun h=>by omega⟩
 |some p=>
  simp only;rw[an,ab];refine⟨fun h=>by omega,fun _=>?_⟩;obtain⟨ae,ag,ai,ak,al,am,L,ao,Y,ap,ac,aq,au,av⟩:=(h.ext O).1.parts;rw[aw,V bM.p rfl,aa (v:=.pointer (some ⟨ah,0,none⟩)) (by kernel_rfl) (Y.cell (o:=0+1) rfl)];refine (lM (i:=p) ac rfl (by rw[h.2.1];exact (oV h.2.2.2.1 W).1)).mono ?_;rintro _ ax _ ⟨rfl,ad⟩;exact⟨rfl,O.trans ad⟩
end
theorem dI.parts {I:Nat} {J O aa:x1} {A R:ag} {n:aS} {s:aF} {t:aH} (h:dI w aj ah I J O aa A R n s t):∃ V W L Y,ae w aj bM [.pointer (some ⟨I,0,none⟩),.pointer (some ⟨ah,0,none⟩),J,O,aa]∧e7 w I n∧cV w ah Y t∧am .i64 U w V J (gT s)∧a1 kc 3 dw w W O L∧h6 R w L s:=by
 obtain⟨_,V,W,ge,L,E,Y,w0,ab,⟨ac,ad,an⟩,⟨af,ao,ap,aq⟩,ai,⟨ak,al⟩,au,av⟩:=h;exact⟨V,W,L,Y,ab,ac.ext ad,af,ai,ak,al⟩
theorem Aj {a b:Int} (I:0≤a∧a≤k) (O:0≤b∧b≤k) (U:1≤k∧k≤2147483648):af x3 rS [.int .i64 a,.int .i64 b,.int .i64 k] w fun v w'=>v= .tuple #[.int .i64 (min (a+b) k),.int .i64 0]∧Ext w w':=by
 refine xL.mono ?_;rintro _ J _ ⟨rfl,V⟩;refine⟨?_,V⟩;unfold n5;rw[if_pos ⟨⟨U,I.1,I.2⟩,U,O.1,O.2⟩]
theorem Jo {s:aF} {I:List Int} {p:Nat} (J:et k sizes s) (h:eI s j I=some p):0≤jv s j I∧jv s j I≤k:=by
 obtain⟨_,f,O,_,m,hm,U,_⟩:=oV J h;obtain⟨V,_,_⟩:=J.funs f (x5 O);unfold jv cu;rw[O];simp only[hm];rw[Z3,u4,y0 U,U7];exact V.hl _ (T6 U)
set_option maxHeartbeats 4000000 in
theorem oW {A R:ag} {n:aS} {s:aF} {t:aH} (h:cp w aj ah A R n s t) (aG:aB .i64 w cn a):af x3 pG [.pointer (some ⟨aj,0,none⟩),cn] w fun v w'=>((h5 s a→v= .tuple #[.int .i64 (gr n.k s a),.int .i64 0])∧(¬h5 s a→v= .tuple #[.int .i64 0,.int .i64 3]))∧Ext w w':=by
 have ao:=h.2.2.2.1;have dd:=ao.vars;have bz:=ao.iD;refine az func16 ?_;rw[cI fN.u];simp only[Z1,aP];rw[aL ac.u aG];refine (Ag h).mono ?_;rintro _ J _ ⟨rfl,a7⟩;rw[bF,ab];refine⟨fun de=>⟨⟨fun aA=>absurd aA.1 (by omega),fun _=>by trivial⟩,a7⟩,fun df=>?_⟩;have b7:a.length=s.vars.length:=by omega
 refine (Jj (h.ext a7)).mono ?_;rintro _ dg _ ⟨rfl,b8⟩;have bA:=a7.trans b8;rw[aL ac.u (aG.ext bA)];obtain⟨ad,aR⟩:∃ ad,ad=s.vars.zip a:=⟨_,rfl⟩;have dh:ad.length=a.length:=by rw[aR,List.length_zip];omega
 refine md.range a.length (fun i t4 t5 ai aT ap=>Ext w ap∧ ∃ W:Int,ai= .int .i64 W∧W=(ad.take i).foldl (ga n.k) s.zero∧(0≤W∧W≤n.k)∧aT= .bool ((ad.take i).all eH)∧ ∀ p<i,∀ x v,s.vars[p]? =some x→a[p]? =some v→x.gone≠0∨(0≤v∧v<x.un.length)) aG.le
  ⟨bA,s.zero,rfl,rfl,ao.zero,rfl,fun p ak=>by omega⟩ ?_ ?_
 ·rintro i t4 t5 _ _ ap b9 hi ⟨ae,W,rfl,aU,aV,rfl,a8⟩ ca;obtain⟨x,aq⟩:∃ x,s.vars[i]? =some x:=⟨_,y0 (by omega)⟩;obtain⟨v,au⟩:∃ v,a[i]? =some v:=⟨_,y0 hi⟩;obtain⟨z,ba⟩:∃ z,n.sizes[i]? =some z:=⟨_,y0 (by omega)⟩;have di:=ao.dX.2.2 z (x5 ba);obtain⟨dj,cb,_⟩:=ao.var i x z aq ba;have cc:ad[i]? =some (x,v):=by rw[aR,List.getElem?_zip_eq_some];exact⟨aq,au⟩
  have bB:ad.take (i+1)=ad.take i++[(x,v)]:=by rw[u9,cc];rfl
  have aJ:(ad.take (i+1)).foldl (ga n.k) s.zero=ga n.k W (x,v):=by rw[bB,List.foldl_append,←aU];rfl
  have bb:(ad.take (i+1)).all eH=((ad.take i).all eH&&eH (x,v)):=by rw[bB,List.all_append];simp
  have bC:(x.gone≠0∨(0≤v∧v<x.un.length))→ ∀ p<i+1,∀ x v,s.vars[p]? =some x→a[p]? =some v→x.gone≠0∨(0≤v∧v<x.un.length):=fun cd p ak y u aC hu=>by
   by_cases ce:p=i
   ·subst ce;rw[aq] at aC;rw[au] at hu;cases aC;cases hu;exact cd
   ·exact a8 p (by omega) y u aC hu
  rw[an,ab];refine⟨fun _=>?_,fun h=>by omega⟩;refine su (fun t4 t5 ai aT ap=>Ext w ap∧ ∃ W:Int,ai= .int .i64 W∧W=(ad.take (i+1)).foldl (ga n.k) s.zero∧(0≤W∧W≤n.k)∧aT= .bool ((ad.take (i+1)).all eH)∧ ∀ p<i+1,∀ x v,s.vars[p]? =some x→a[p]? =some v→x.gone≠0∨(0≤v∧v<x.un.length)) ?_ ?_
  ·rintro t4 t5 ai aT dk bd;rw[aI];exact ca _ _ _ _ _ bd
  intro bD aK;rw[aZ ac.u U.i (by kernel_rfl) (aG.ext ae) au];refine (tP (i:=(i:Int)) (h.ext ae)).mono ?_;rintro _ dl _ ⟨rfl,bE⟩;have cg:dv s i=decide (x.gone≠0):=by unfold dv;rw[aq]
  rw[decide_eq_true (by omega),Bool.true_and,Z3,cg,ab];refine⟨fun be=>aK _ _ _ _ _ ⟨ae.trans bE,W,rfl,?_,aV,?_,bC (.inl be)⟩,fun bf=>?_⟩
  ·rw[aJ];unfold ga;rw[if_pos be]
  ·rw[bb];unfold eH;rw[decide_eq_true be,Bool.true_or,Bool.and_true]
  have bH:=ae.trans bE;refine (Jk (i:=(i:Int)) (v:=v) (h.ext bH)).mono ?_;rintro _ dm _ ⟨rfl,ch⟩;have aW:=bH.trans ch;have bI:n.sizes.getD (i:Int).toNat 0=z:=by rw[Z3,u4,ba];rfl
  by_cases aX:ej n (i:Int) v
  ·have bK:=id aX;unfold ej at bK;rw[bI] at bK;rw[if_pos aX,aD (v:=.int .i64 (oS s (i:Int).toNat v.toNat)) rfl,aD (v:=.int .i64 0) rfl,bF,ab];refine⟨fun h=>absurd rfl h,fun _=>?_⟩;have ci:oS s (i:Int).toNat v.toNat=x.un.getD v.toNat 0:=by unfold oS;rw[Z3,aq]
   have cj:0≤x.un.getD v.toNat 0∧x.un.getD v.toNat 0≤n.k:=by
    rw[u4,y0 (show v.toNat<x.un.length by omega),U7];exact cb _ (T6 _)
   rw[ci];refine aM (fun ck bL=>Ext w bL∧ck= .bool ((ad.take (i+1)).all eH)) ?_ ?_
   ·rintro _ bL ⟨bO,rfl⟩;refine (nb (h.ext bO)).mono ?_;rintro _ dn _ ⟨rfl,cl⟩;refine (Aj aV cj bz).mono ?_;rintro _ dp _ ⟨rfl,cm⟩;rw[aD (v:=.int .i64 (min (W+x.un.getD v.toNat 0) n.k)) rfl,aD (v:=.int .i64 0) rfl];refine aK _ _ _ _ _ ⟨(bO.trans cl).trans cm,_,rfl,?_,⟨by omega,by omega⟩,rfl,bC (.inr ⟨by omega,by omega⟩)⟩;rw[aJ];unfold ga;rw[if_neg bf]
   ·intro dq bP;rw[br];have cq:eH (x,v)= !dropped x.mask v:=by unfold eH;rw[decide_eq_false bf,Bool.false_or]
    refine⟨fun cr=>?_,fun al=>bP _ _ ⟨aW,by rw[bb,al];rfl⟩⟩;refine (Jm (i:=(i:Int)) (h.ext aW)).mono ?_;rintro _ dr _ ⟨⟨b,m,rfl,ct,_,cw⟩,cz⟩;refine (Jh ct).mono ?_;rintro _ ds _ ⟨rfl,cA⟩;refine bP _ _ ⟨(aW.trans cz).trans cA,?_⟩;obtain⟨hm,cB⟩:=cw x (by omega) (by rw[Z3];exact aq);rw[bb,cr,cq,Bool.true_and,decide_eq_true (show 0≤v∧v<(m:Int) by omega),Bool.true_and,cB,decide_eq_true (by omega),Bool.true_and];congr 2
  ·rw[if_neg aX,aD (v:=.int .i64 0) rfl,aD (v:=.int .i64 1) rfl,bF,ab];refine⟨fun _=>⟨⟨fun aA=>?_,fun _=>by trivial⟩,aW⟩,fun h=>absurd (show (1:Int)≠0 by decide) h⟩;rcases aA.2 i x v aq au with bg|bg
   ·exact absurd bg bf
   ·exact absurd ⟨by omega,by omega,bg.1,by rw[bI];omega⟩ aX
 rintro t4 t5 _ _ ap b9 ⟨ae,W,rfl,aU,aV,rfl,a8⟩;have aA:h5 s a:=⟨b7,fun i x v bh au=>a8 i (x4.1 au).1 x v bh au⟩;rw[l5 (by omega)] at aU;rw[l5 (by omega),an,ab];refine⟨fun h=>by omega,fun _=>?_⟩;rw[bc,br];refine⟨fun av=>?_,fun av=>?_⟩
 ·have av:ad.all eH=false:=by simpa using av
  refine (nb (h.ext ae)).mono ?_;rintro _ du _ ⟨rfl,cC⟩;refine⟨⟨fun _=>?_,fun bi=>absurd aA bi⟩,ae.trans cC⟩;unfold gr;rw[←aR,av];rfl
 have av:ad.all eH=true:=by simpa using av
 have cD:gr n.k s a=s.funs.foldl (e8 n.k a) W:=by
  unfold gr;rw[←aR,av,if_pos rfl,←aU]
 obtain⟨⟨dx,dy,cE,dz,cF⟩,dA⟩:=id h;have bj:∀ {w':x2},Ext w w'→cp w' aj ah A R n s t:=fun bh=>h.ext bh;obtain⟨dC,dD,L,dE,cG,dF,dG,dH,bk,bQ⟩:=(cF.ext ae).parts;rw[aw,V bM.p rfl,aa (v:=cE) (by kernel_rfl) (cG.cell (o:=0+3) rfl),ef en.u bk];have dI:=bQ.1;refine bt.range L.length (fun j ai aN=>Ext ap aN∧ ∃ Y:Int,ai= .int .i64 Y∧Y=(s.funs.take j).foldl (e8 n.k a) W∧0≤Y∧Y≤n.k) bk.le
  ⟨Ext.refl _,W,rfl,rfl,aV⟩ ?_ ?_
 rotate_left
 ·rintro _ aN cH ⟨ax,Y,rfl,aY,_⟩;rw[l5 (by omega)] at aY;rw[an,ab];refine⟨fun h=>by omega,fun _=>⟨⟨fun _=>by rw[cD,aY],fun bi=>absurd aA bi⟩,ae.trans ax⟩⟩
 rintro j _ aN cH bR ⟨ax,Y,rfl,aY,bS⟩ cJ;obtain⟨y,aC⟩:∃ y,L[j]? =some y:=⟨_,y0 bR⟩;obtain⟨f,al⟩:∃ f,s.funs[j]? =some f:=⟨_,y0 (by omega)⟩;have cK:h6 R aN L s:=bQ.O (ax.O fun _=>False) fun _ _ _ h=>h;obtain⟨a1,bl,dJ⟩:=cK.2 j y f aC al;have a1:=a1.ls;have bl:=bl.ls;obtain⟨bm,dK,dL⟩:=ao.funs f (x5 al);have dM:f.sc.length≤6:=bm.scope.2;have aJ:(s.funs.take (j+1)).foldl (e8 n.k a) W=e8 n.k a Y f:=by
  rw[u9,al,Z0,List.foldl_append,←aY];rfl
 have cL:=ae.trans ax;have bT:=bk.ext ax;rw[an,ab];refine⟨fun _=>?_,fun h=>by omega⟩;refine aM (fun ai bU=>Ext ap bU∧ ∃ Y:Int,ai= .int .i64 Y∧Y=(s.funs.take (j+1)).foldl (e8 n.k a) W∧0≤Y∧Y≤n.k) ?_ ?_
 ·rintro ai bU bd;rw[aI];exact cJ _ _ bd
 intro bD aK;rw[cT rfl en.u dw.i bT bR,bw dw.p dw.i rfl (bT.range aC)];refine bu dw.i fun cM dN dO cN cO=>?_;refine bN (vs:=kc y) dw.i rfl rfl (fun u hu=>?_) cO fun cP cQ dP cR=>?_
 ·simp[kc] at hu;rcases hu with rfl|rfl|rfl
  ·exact a1.cells.2
  ·exact bl.cells.2
  ·rfl
 have bV:Ext aN cP:=cN.then cQ fun r cS he=>by have he:r=cM:=he;omega
 have bW:=cL.trans bV;refine (oT (j:=(j:Int)) (bj bW)).mono ?_;rintro _ cU _ ⟨rfl,bn⟩;have bX:=bW.trans bn;have bo:=bV.trans bn;have cV:dS s j=decide (f.live≠0):=by unfold dS;rw[al]
 rw[decide_eq_true (by omega),Bool.true_and,Z3,cV,ab];refine⟨fun bY=>?_,fun cW=>aK _ _ ⟨ax.trans bo,Y,rfl,by rw[aJ];unfold e8;rw[if_neg cW],bS⟩⟩;have bZ:=cR.ext bn;have bp:=a1.ext bo;rw[V dw.p rfl,aa (v:=y.ay) (by kernel_rfl) (bZ.cell (o:=0+0) rfl),aL ac.u bp];refine hU (k:=.i64) ac.u U.i (by omega) (by omega) fun aO cX dQ bq cY=>?_;have cZ:am .i64 U cX aO (.slice (some ⟨aO,0,none⟩) f.sc.length f.sc.length) (r9 f.sc.length 0):=am.of (bG.full (k:=1) (n:=f.sc.length) cY (by simp) (by simp[maxLen];omega));rw[V dw.p rfl,aa (v:=y.ay) (by kernel_rfl) ((bZ.ext bq).cell (o:=0+0) rfl),aL ac.u (bp.ext bq)];have dR:(fl a f.sc).length=f.sc.length:=by unfold fl;rw[u5]
 refine bJ.range f.sc.length (fun q a2=>Ext cU a2∧am .i64 U a2 aO (.slice (some ⟨aO,0,none⟩) f.sc.length f.sc.length) ((fl a f.sc).take q++(r9 f.sc.length (0:Int)).drop q)) (by omega)
  ⟨bq,by simpa using cZ⟩ ?_ ?_
 ·rintro q a2 c0 b0 ⟨aE,aQ⟩ c1;obtain⟨u,hu⟩:∃ u,f.sc[q]? =some u:=⟨_,y0 b0⟩;have dT:=bm.vars u (x5 hu);have dU:=bm.scope.1 u (x5 hu);have c2:a[u.toNat]? =some (a.getD u.toNat 0):=by rw[u4,y0 (by omega)];rfl
  have c3:(fl a f.sc)[q]? =some (a.getD u.toNat 0):=by unfold fl;rw[x8,hu];rfl
  rw[an,ab];refine⟨fun _=>?_,fun h=>by omega⟩;rw[aZ ac.u U.i (by kernel_rfl) (bp.ext aE) hu,dt (y:=u) (i:=u.toNat) (by omega) ac.u U.i (by kernel_rfl) (aG.ext (bX.trans aE)) c2,fS rfl ac.u U.i aQ (by rw[o5,o8,List.length_drop,List.length_replicate];omega)];refine fT U.i aQ (by rw[o5,o8,List.length_drop,List.length_replicate];omega) fun dV c4 dW b1=>?_;rw[aI];refine c1 _ ⟨aE.then c4 fun r cS he=>by have he:r=aO:=he;omega,?_⟩;rw[q2 (by rw[List.length_replicate];exact b0) c3] at b1;exact b1
 rintro a2 c0 ⟨aE,aQ⟩;rw[List.drop_of_length_le (by simp),V9,l5 (by omega)] at aQ;rw[an,ab];refine⟨fun h=>by omega,fun _=>?_⟩;have b2:=bX.trans aE;refine (Jn (j:=j) (bj b2) aQ.ls).mono ?_;rintro _ bx _ ⟨rfl,b3⟩;have c5:e8 n.k a Y f=min (Y+jv s j (fl a f.sc)) n.k:=by
  unfold e8 jv;rw[if_pos bY,al]
 have b4:∀ c e:Int,(0≤c∧c≤n.k)→c=jv s j (fl a f.sc)→(I x3 (j6 (.tuple #[.int .i64 c,.int .i64 e]) 0) bx fun c6=>
   I x3 (j6 (.tuple #[.int .i64 c,.int .i64 e]) 1) bx fun dY=>
   af x3 vC [.pointer (some ⟨aj,0,none⟩)] bx fun c7 b5=>
   af x3 rS [.int .i64 Y,c6,c7] b5 fun b6 a6=>
   I x3 (j6 b6 0) a6 fun c8=>
   I x3 (j6 b6 1) a6 fun dZ=>
   bD c8 a6):=fun c e c9 da=>by
  rw[aD (v:=.int .i64 c) rfl,aD (v:=.int .i64 e) rfl];refine (nb (bj (b2.trans b3))).mono ?_;rintro _ b5 _ ⟨rfl,db⟩;refine (Aj bS c9 bz).mono ?_;rintro _ a6 _ ⟨rfl,dc⟩;rw[aD (v:=.int .i64 (min (Y+c) n.k)) rfl,aD (v:=.int .i64 0) rfl];refine aK _ _ ⟨((((ax.trans bo).trans aE).trans b3).trans db).trans dc,_,rfl,by rw[aJ,c5,da],by omega,by omega⟩
 cases ak:eI s j (fl a f.sc) with
 |some p=>exact b4 _ _ (Jo ao ak) rfl
 |none=>
  refine b4 0 1 ⟨by omega,by omega⟩ ?_;unfold eI at ak;rw[al] at ak;simp only[if_pos bY] at ak;have ak:=Option.map_eq_none_iff.1 ak;unfold jv cu;rw[al];simp only[ak]
def Room (t:aH):Prop:=t.marks=[]∨t.olds.length<100000000
def gv (s:aF) (i v:Nat):aF:=match s.vars[i]? with
 |some x=>{s with vars:=s.vars.set i {x with mask:=((x.mask.toNat ||| 2 ^ v:Nat):Int)}}
 |none=>s
def iJ (s:aF) (j:Nat):aF:=match s.funs[j]? with
 |some f=>{s with funs:=s.funs.set j {f with live:=0}}
 |none=>s
theorem et.tR {s:aF} {i:Nat} {x y:gR} (h:et k sizes s) (J:s.vars[i]? =some x) (V:y.un.length=x.un.length) (W:∀ c∈y.un,0≤c∧c≤k) (hm:0≤y.mask∧y.mask<4294967296):et k sizes {s with vars:=s.vars.set i y}:=
 ⟨h.iD,h.dX,h.zero,by show (s.vars.set i y).length=_;rw[Y6];exact h.vars,fun p z q I O=>by
  have I:(s.vars.set i y)[p]? =some z:=I;rw[Y5] at I;by_cases U:i=p
  ·subst U;rw[if_pos rfl,if_pos (x4.1 J).1] at I;cases I;exact⟨V.trans (h.var i x q J O).1,W,hm⟩
  ·rw[if_neg U] at I;exact h.var p z q I O,h.funs⟩
theorem et.Ak {s:aF} {f g:eF} (h:et k sizes s) (J:s.funs[j]? =some f) (h1:g.sc=f.sc) (O:g.szs=f.szs) (U:g.cs.length=f.cs.length) (V:∀ c∈g.cs,0≤c∧c≤k):et k sizes {s with funs:=s.funs.set j g}:=
 ⟨h.iD,h.dX,h.zero,h.vars,h.var,fun x I=>by
  rcases X9 I with I|rfl
  ·exact h.funs x I
  ·obtain⟨⟨W,Y,aa,ab,ac,af⟩,ad,ae⟩:=h.funs f (x5 J);refine⟨⟨?_,?_,?_,?_,?_,V⟩,?_,?_⟩
   ·show hK x.sc;rw[h1];exact W
   ·show x.sc.Pairwise _;rw[h1];exact Y
   ·show ∀ v∈x.sc,_;rw[h1];exact aa
   ·show x.cs.length=(aE (bd sizes x.sc)).toNat;rw[h1,U];exact ab
   ·show aE (bd sizes x.sc)≤_;rw[h1];exact ac
   ·rw[h1,O];exact ad
   ·rw[h1];exact ae⟩
theorem oX {r:Nat} (I:ae w r e c) (he:¬(e=eK∨e=dN∨e=iW∨e=fb∨e=bM∨e=dw∨e=cY)):¬dz w r:=by
 rintro (⟨V,W,J,O⟩|U)
 ·rw[ei I J] at he;exact he O
 ·exact U _ I rfl
section
variable {w:x2} {aj ah:Nat} {A R:ag} {n:aS} {s:aF} {t:aH}
theorem jn.set (h:jn t) (I:Room t) (p:Nat) (x:Int):jn (t.set p x):=by
 refine⟨by rw[aH.zC];exact h.1,?_,by rw[aH.tw];exact h.2.2⟩;rcases I with I|I
 ·rw[aH.tz I];exact h.2.1
 ·have:=aH.tx t p x;omega
theorem q3 {s':aF} {p:Nat} {x:Int} (h:cp w aj ah A R n s t) (aa:y=(p:Int)) (I:p<s.cells.length) (ab:s.cells.set p x=s'.cells) (ac:lN s s') (ae:et n.k n.sizes s') (ag:Room t):
  af x3 vD [.pointer (some ⟨ah,0,none⟩),.int .i64 y,.int .i64 x] w fun r w'=>r= .int .i64 0∧ad (dz w) w w'∧ ∃ O,Grow A w O w'∧cp w' aj ah O R n s' (t.set p x):=by
 obtain⟨ai,W,Y,_,ak⟩:=id h;obtain⟨al,am,an⟩:=ai.oI;have ao:p<t.cells.length:=by rw[←W] at I;unfold aH.bW at I;rw[u5] at I;exact I
 refine (oD am.min aa ao Y).mono ?_;rintro _ J _ ⟨rfl,ap,U,aq⟩;obtain⟨O,au,av⟩:=an (fun r=>al r∨ap r) J _ ⟨U.1.mono fun r _ h=>h.1,fun r V=>V.elim .inl fun h=>(U.2.1 r h).imp (fun h=>h.1) id,fun r V=>.inl V⟩ (aq.mono fun r h=>.inr h);exact⟨rfl,U.1.mono fun r _ h=>.inl h.2,O,au,av.same ac,by rw[aH.mB,W,ab],Y.set ag p x,ae,ak⟩
theorem tS {i v:Int} (h:cp w aj ah A R n s t) (ap:Room t):af x3 pF [.pointer (some ⟨aj,0,none⟩),.int .i64 i,.int .i64 v] w fun r w'=>(¬ej n i v→r= .int .i64 1∧Ext w w')∧
  (ej n i v→r= .int .i64 0∧ad (dz w) w w'∧ ∃ W x,Grow A w W w'∧cp w' aj ah W R n (gv s i.toNat v.toNat) (t.set (eG s i.toNat+1) x)):=by
 refine az func13 ?_;rw[cI fN.u];simp only[Z1,aP];refine (tQ h).mono ?_;rintro _ J _ ⟨rfl,Y⟩;by_cases O:ej n i v
 rotate_left
 ·rw[if_neg O,an,ab];exact⟨fun _=>⟨fun _=>⟨by trivial,Y⟩,fun h=>absurd h O⟩,fun h=>by omega⟩
 rw[if_pos O,an,ab];refine⟨fun h=>by omega,fun _=>?_⟩;obtain⟨x,I,aq,aJ,aK⟩:=O.var h.2.2.2.1;obtain⟨h1,aL,aM,aN⟩:=id O;have aO:=h.2.2.2.1.vars;obtain⟨z,au⟩:∃ z,n.sizes[i.toNat]? =some z:=⟨_,y0 (by omega)⟩;obtain⟨_,av,aQ,aR⟩:=h.2.2.2.1.var i.toNat x z I au;have aS:=oQ I;have aT:=oP h.2.1 h.2.2.1;obtain⟨aU,ax,aV,aW,ay⟩:=(h.ext Y).1;obtain⟨aX,aY,L,aZ,ak,a1,aA,aB,a2,a6⟩:=ay.parts;rw[aw,V bM.p rfl,aa (v:=ax) (by kernel_rfl) (ak.cell (o:=0+2) rfl),dt (y:=i) (i:=i.toNat) (by omega) ac.u U.i (by kernel_rfl) aB.ls (oO (by omega)),aI,wrap_i64 (by omega) (by omega)];intro a7 ae _ _;have aC:=Y.trans ae;have al:=ak.ext ae;have aD:=aA.ext ae;obtain⟨q,rfl⟩:∃ q:Nat,v=q:=⟨v.toNat,by omega⟩;obtain⟨mk,am⟩:∃ mk:Nat,x.mask=mk:=⟨x.mask.toNat,by omega⟩;rw[Z3] at aq;rw[aw,V bM.p rfl,aa (v:=.pointer (some ⟨ah,0,none⟩)) (by kernel_rfl) (al.cell (o:=0+1) rfl),aw,V bM.p rfl,aa (v:=.pointer (some ⟨ah,0,none⟩)) (by kernel_rfl) (al.cell (o:=0+1) rfl),Jg (by omega)];have aE:t.bW[eG s i.toNat+1]? =some x.mask:=by rw[h.2.1,oE I (by omega)];rfl
 refine (lM (i:=eG s i.toNat+1) aD (by omega) aE).mono ?_;rintro _ a8 _ ⟨rfl,ao⟩;refine⟨.inl ao,?_⟩;have ba:(2:Nat) ^ q≤2 ^ 31:=Nat.pow_le_pow_right (by omega) (by omega);rw[am,Je (by omega) (by omega)];have ag:=aC.trans ao;have bb:mk ||| 2 ^ q<2 ^ 32:=Nat.or_lt_two_pow (by omega) (by omega);have ai:gv s i.toNat (q:Int).toNat={s with vars:=s.vars.set i.toNat {x with mask:=((mk ||| 2 ^ q:Nat):Int)}}:=by
  unfold gv;rw[I];simp only[am,Z3]
 refine (q3 (p:=eG s i.toNat+1) (s':=gv s i.toNat (q:Int).toNat) (h.ext ag) (by omega) (by omega) ?_ ?_ ?_ ap).mono ?_
 ·rw[ai,tt I (by omega)];rfl
 ·rw[ai];exact tv I rfl
 ·rw[ai];exact h.2.2.2.1.tR I rfl av ⟨by simp only;omega,by simp only;omega⟩
 rintro _ bc _ ⟨rfl,aF,W,aG,aH⟩;exact⟨fun h=>absurd O h,fun _=>⟨rfl,jp ag aF,W,_,(Grow.ext ag).trans aG,aH⟩⟩
theorem Al {j:Int} (h:cp w aj ah A R n s t) (am:Room t):af x3 vx [.pointer (some ⟨aj,0,none⟩),.int .i64 j] w fun r w'=>(¬(0≤j∧dS s j.toNat=true)→r= .int .i64 1∧Ext w w')∧
  ((0≤j∧dS s j.toNat=true)→r= .int .i64 0∧ad (dz w) w w'∧ ∃ W p,Grow A w W w'∧cp w' aj ah W R n (iJ s j.toNat) (t.set p 0)):=by
 refine az func20 ?_;rw[cI fN.u];simp only[Z1,aP];refine (oT h).mono ?_;rintro _ J _ ⟨rfl,ae⟩;rw[bc,br];refine⟨fun O=>⟨fun _=>⟨by trivial,ae⟩,fun ag=>?_⟩,fun O=>?_⟩
 ·rw[decide_eq_true ag.1,ag.2] at O;cases O
 have O:0≤j∧dS s j.toNat=true:=by simpa using O
 obtain⟨aB,U⟩:=id O;obtain⟨f,I,aC⟩:∃ f,s.funs[j.toNat]? =some f∧f.live≠0:=by
  unfold dS at U;cases I:s.funs[j.toNat]? with
  |none=>rw[I] at U;cases U
  |some f=>rw[I] at U;exact⟨f,rfl,by simpa using U⟩
 intro aD an _ _;have Y:=ae.trans an;obtain⟨aE,aF,ao,aG,ap⟩:=(h.ext Y).1;obtain⟨aH,aI,L,aJ,ai,aK,aL,aM,ak,al⟩:=ap.parts;obtain⟨y,ab⟩:∃ y,L[j.toNat]? =some y:=⟨_,y0 (by rw[al.1];exact (x4.1 I).1)⟩;have aq:=(x4.1 ab).1;obtain⟨_,_,au⟩:=al.2 j.toNat y f ab I;have aN:=tO I;rw[aw,V bM.p rfl,aa (v:=.pointer (some ⟨ah,0,none⟩)) (by kernel_rfl) (ai.cell (o:=0+1) rfl),aw,V bM.p rfl,aa (v:=ao) (by kernel_rfl) (ai.cell (o:=0+3) rfl),cT (i:=j.toNat) (by omega) en.u dw.i ak aq,V dw.p rfl,aa (v:=.int .i64 (y.at_:Int)) (by kernel_rfl) (ak.range ab 2 _ rfl)];have ac:iJ s j.toNat={s with funs:=s.funs.set j.toNat {f with live:=0}}:=by
  unfold iJ;rw[I]
 obtain⟨av,_⟩:=h.2.2.2.1.funs f (x5 I);refine (q3 (p:=dW s j.toNat+0) (s':=iJ s j.toNat) (h.ext Y) (by rw[au];rfl) (by omega) ?_ ?_ ?_ am).mono ?_
 ·rw[ac,zw I (by omega)];rfl
 ·rw[ac];exact zB I rfl rfl rfl
 ·rw[ac];exact h.2.2.2.1.Ak I rfl rfl rfl av.hl
 rintro _ aO _ ⟨rfl,ax,W,ay,aA⟩;exact⟨fun h=>absurd O h,fun _=>⟨rfl,jp Y ax,W,_,(Grow.ext Y).trans ay,aA⟩⟩
end
theorem tT {W:x1} {v:Int} (h:aB .i64 w W l):af x3 BH [W,.int .i64 v] w fun r w'=>r= .bool (decide (v∈l))∧Ext w w':=by
 refine az func32 ?_;rw[aL ac.u h];refine bt.range l.length (fun i _ J=>Ext w J∧v∉l.take i) h.le ⟨Ext.refl _,by simp⟩ ?_ ?_
 ·rintro i _ J k hi ⟨I,O⟩ Y;obtain⟨x,V⟩:∃ x,l[i]? =some x:=⟨_,y0 hi⟩;rw[an,ab];refine⟨fun _=>?_,fun h=>by omega⟩;rw[aZ ac.u U.i (by kernel_rfl) (h.ext I) V,a8,ab];refine⟨fun he=>⟨by rw[decide_eq_true];rw[←he];exact x5 V,I⟩,fun aa=>?_⟩;rw[aI];refine Y _ _ ⟨I,fun hm=>?_⟩;rw[u9,V,Z0,n9,j0] at hm;rcases hm with hm|hm
  ·exact O hm
  ·exact aa hm.symm
 ·rintro _ J k ⟨I,O⟩;rw[o9] at O;rw[an,ab];exact⟨fun h=>by omega,fun _=>⟨by rw[decide_eq_false O],I⟩⟩
theorem Am:∀ {s t:List Int} {m k v:Int},s.length=t.length→bX (s++[k]) (t++[v]) m=(bX s t m).bind fun r=>if 0≤v∧v<k then some (r*k+v) else none
 |[],[],m,k,v,_=>by simp[bX]
 |x::s,y::t,m,k,v,h=>by
  have h:s.length=t.length:=by simpa using h
  rw[List.cons_append,List.cons_append];simp only[bX];split
  ·exact Am h
  ·rfl
theorem Jp {x:gR} {v:Int} (h:0≤v∧v<x.un.length):v∈dA x↔dropped x.mask v=false:=by
 unfold dA;rw[List.mem_filter,j5];constructor
 ·rintro⟨_,I⟩;simpa using I
 ·intro I;exact⟨⟨v.toNat,List.mem_range.2 (by omega),by omega⟩,by simp[I]⟩
def h9 (s:aF):Prop:=∀ f∈s.funs,f.live≠0→ ∀ v∈f.sc,∀ x,s.vars[v.toNat]? =some x→x.gone=0
theorem e7.put {g ab:Nat} {n:aS} (h:e7 w ab n) (I:ae w g aK c) (J:ad (fun r=>r=g) w w'):e7 w' ab n:=by
 have W:=Ad I;have ac:∀ r,r=g→ ∃ e c,ae w r e c∧e≠gD∧e≠cD∧e≠U∧e≠ak∧e≠au:=fun r V=>by
  subst V;exact⟨_,c,I,by decide,by decide,by decide,by decide,by decide⟩
 obtain⟨af,ag,ah,ai,aj,aO,L,al,aq,am,an,h1,ao,ap,av,aw,ax,ay⟩:=h;refine⟨af,ag,ah,ai,aj,aO,L,al,aq,am,an,tM h1 J W (by decide),tM ao J W (by decide),tL ap J W (by decide),av.O J fun r V=>?_,aw,ax.O J fun r V=>?_,ay⟩
 ·obtain⟨e,c,I,_,_,_,Y,aa⟩:=ac r V;exact⟨e,c,I,Y,aa⟩
 ·obtain⟨e,c,I,Y,aa,az,aA,_⟩:=ac r V;exact⟨e,c,I,Y,aa,az,aA⟩
theorem Jq:∃ o:Obj,fK o=false:=⟨.deferred none,rfl⟩
theorem StateM.put {g:Nat} {A R:ag} {n:aS} {s:aF} {t:aH} (h:StateM w aj ah A R n s t) (W:ae w g aK c) (U:ad (fun r=>r=g) w w') (aq:¬A g):∃ R',(∀ r,R' r→R r∧r≠g)∧StateM w' aj ah A R' n s t:=by
 obtain⟨au,av,aw,ax,⟨h1,ay,az,aA⟩,aB,aC,ge,L,E,aD,w0,aE,⟨ak,aa,aG⟩,⟨aI,al,aJ,aL⟩,aM,⟨aN,am⟩,aO,an⟩:=h;obtain⟨dc,ao⟩:=Jq;have z:=U.size;have V:=Ad W;have Y:∀ r,(w0.heap.setIfInBounds g dc)[r]? =if g=r then (if g<w0.heap.size then some dc else none) else w0.heap[r]?:=fun r=>Array.getElem?_setIfInBounds;have aP:∀ r,A r→r≠g:=fun r I he=>aq (he▸I);have int:∀ {v:x1} {l:List Int},hq R w v l→hq (fun r=>R r∧r≠g) w' v l:=fun⟨⟨aQ,hm⟩,aR⟩=>⟨⟨aQ,tL hm U V (by decide)⟩,fun r I=>⟨aR r I,bQ hm W (by decide) I⟩⟩;refine⟨fun r=>R r∧r≠g,fun r h=>h,au,av,aw,ax,⟨h1,fun r I aT=>ay r I aT.1,fun r I=>by have:=az r I.1;omega,fun r I=>by have:=aA r I;omega⟩,aB,aC,ge,L,E,aD,{w0 with heap:=w0.heap.setIfInBounds g dc},tM aE U V (by decide),⟨?_,?_,?_⟩,
  ⟨aI.O U fun r I=>aP r (al r I),al,aJ,aL⟩,tL aM U V (by decide),⟨Ac aN U V (by decide),am.1,fun j x f ab aU=>?_⟩,Ac aO U V (by decide),an.1,fun j x e ab he=>?_⟩
 ·by_cases J:∃ o,w0.heap[g]? =some o∧fK o=true
  ·obtain⟨o,ap,aV⟩:=J;have aW:ae w0 g aK c:=by
    unfold ae at W ⊢;have:=aa.ba g o ap aV;rw[W] at this;rw[ap,this]
   refine ak.put aW ⟨by simp,fun r o I J aX=>?_⟩;show (w0.heap.setIfInBounds g dc)[r]? =some o;rw[Y,if_neg fun he=>aX he.symm];exact I
  ·refine ak.ext ⟨by simp,fun r o I aY=>?_⟩;show (w0.heap.setIfInBounds g dc)[r]? =some o;rw[Y,if_neg fun he=>J ⟨o,by rw[he];exact I,aY⟩];exact I
 ·refine⟨by show (w0.heap.setIfInBounds g dc).size≤_;rw[Array.size_setIfInBounds];exact W7 aa.size z,fun r o I J=>?_⟩;have I:(w0.heap.setIfInBounds g dc)[r]? =some o:=I;rw[Y] at I;by_cases he:g=r
  ·rw[if_pos he] at I;split at I
   ·cases I;rw[ao] at J;cases J
   ·cases I
  ·rw[if_neg he] at I;exact U.ba r o (aa.ba r o I J) J fun h=>he h.symm
 ·intro r o I J;have I:(w0.heap.setIfInBounds g dc)[r]? =some o:=I;rw[Y] at I;by_cases he:g=r
  ·rw[if_pos he] at I;split at I
   ·cases I;rw[ao] at J;cases J
   ·cases I
  ·rw[if_neg he] at I;exact⟨aG r o I J,fun h=>he h.symm⟩
 ·obtain⟨ac,af,ai⟩:=am.2 j x f ab aU;exact⟨int ac,int af,ai⟩
 ·obtain⟨ac,af,ai⟩:=an.2 j x e ab he;exact⟨ac,int af,int ai⟩
theorem Jr {pl:List Int} {f:bP} (W:pl.length≤60000) (h:fs pl=some f):∃ N,N≤60000∧eo N f∧f.name≠[]∧ ∀ b∈f.name,bq b=true:=by
 unfold fs at h;rw[if_neg (by omega)] at h;cases I:gk ⟨(lex pl).1,0,false,[]⟩ with
 |none=>rw[I] at h;cases h
 |some q=>
  obtain⟨Y,s⟩:=q;rw[I] at h;simp only at h;split at h
  ·rename_i O;cases h;obtain⟨h1,U⟩:=xE rfl I O.2.2;have aa:=nP pl.length pl (o7 _);obtain⟨J,V,_⟩:=p0 pl.length pl (o7 _) f.name U;exact⟨_,by show (lex pl).1.length≤60000;omega,h1,J,V⟩
  ·cases h
theorem Js:af x3 vz [.pointer none] w fun v w'=>v= .pointer none∧Ext w w':=by
 refine az func48 ?_;rw[cI kA.u];simp only[Option.isNone_none,bC];exact⟨by trivial,Ext.refl _⟩
theorem Jt (h:aB .u8 w v l) (ae:l.length≤100000):af x3 BQ [v] w fun O w'=>Ext w w'∧ ∃ g,am .u8 b5 w' g O l:=by
 have I:=h;obtain⟨ag,b,o,base,cap,rfl,ah,hm,W,Y⟩:=h;refine az func66 ?_;rw[pT b7.u,br];refine⟨fun aa=>⟨Ext.refl _,0,?_⟩,fun _=>?_⟩
 ·have:l=[]:=by
   cases base with
   |none=>
        by_cases I:0<l.length
        ·have:=W I;cases this
        ·exact b8 (by omega)
   |some a=>cases aa
  subst this;exact am.nil _ _ _ _
 ·refine tN (k:=.u8) b7.u b5.i fun ai aj J ak U V=>?_;refine fx b7.u b5.i rfl V (I.ext U) (by simp;omega) (by simp;omega) fun O ab al ac an ad=>?_;exact⟨U.then ad (fun r Y he=>by have:=(bn V he).1;omega),ab,by simpa using ac⟩
def Ju (sv:x1):Prop:=∃ cs:List x1,sv= .agg cs.toArray∧cs.length=8∧ ∀ u∈cs,u.oneCell'=true
theorem An:Ju (.agg z12.toArray):=⟨z12,rfl,rfl,by intro u hu;simp[z12] at hu;rcases hu with rfl|rfl|rfl|rfl <;> rfl⟩
theorem tU {N:Nat} {f:bP} (I:eo N f):(cR f).funs.length≤256:=by
 have h1:=(oq I).2.length_eq;have O:=(jk I).2.2;have U:=List.length_filter_le eO (eB f);have V:=I.jd;have J:=(m3 f (eP f).length).2.2.2;rw[qU] at J;omega
theorem Jv {n:aS} {t:aH} (J:h3 n) (O:n.funs.length≤256) (U:t.bW=(dH n).cells) (I:Plain t):jn t:=by
 have h1:=q0 J O n.unary.length n.funs.length;rw[tA,←U] at h1;unfold aH.bW at h1;rw[u5] at h1;refine⟨by omega,?_,?_⟩
 ·rw[I.2.1];exact Y7 _
 ·rw[I.1];exact Y7 _
def lT (n:aS) (s:aF) (l:List Int) (i:Nat):Prop:=∃ v,l[i]? =some v∧0≤v∧v<n.sizes.length∧dv s v.toNat=false∧(0<i→l.getD (i-1) 0<v)
def jw (n:aS) (s:aF) (l:List Int):Prop:=∀ i,i<l.length→lT n s l i
section
variable {w:x2} {aj ah:Nat} {A R:ag} {n:aS} {s:aF} {t:aH}
theorem Ao {al:x1} (h:cp w aj ah A R n s t) (V:aB .i64 w al l):af x3 Ck [.pointer (some ⟨aj,0,none⟩),al] w fun v w'=>(∃ b,v= .bool b∧(b=true↔jw n s l))∧Ext w w':=by
 refine az func138 ?_;rw[aL ac.u V];refine bt.range l.length (fun i _ J=>Ext w J∧ ∀ q,q<i→lT n s l q) V.le ⟨Ext.refl _,fun q av=>by omega⟩ ?_ ?_
 ·rintro i _ J aw hi ⟨W,ai⟩ ax;obtain⟨x,Y⟩:∃ x,l[i]? =some x:=⟨_,y0 hi⟩;rw[an,ab];refine⟨fun _=>?_,fun h=>by omega⟩;rw[aZ ac.u U.i (by kernel_rfl) (V.ext W) Y];have am:∀ {p:Prop},(¬(0≤x∧x<n.sizes.length∧dv s x.toNat=false∧(0<i→l.getD (i-1) 0<x)))→lT n s l i→p:=fun ay ⟨v,aa,O⟩=>by
   rw[Y] at aa;cases aa;exact absurd O ay
  refine aM (fun v ao=>∃ b,v= .bool b∧(b=false↔lT n s l i)∧Ext w ao) ?_ ?_
  ·rintro _ ao ⟨b,rfl,I,ap⟩;rw[br];refine⟨fun aA=>⟨⟨false,rfl,⟨(fun h=>by cases h),fun h=>?_⟩⟩,ap⟩,fun aC=>?_⟩
   ·have:=I.2 (h i hi);rw[aA] at this;cases this
   ·rw[aI];refine ax _ _ ⟨ap,fun q av=>?_⟩;by_cases aD:q=i
    ·rw[aD];exact I.1 aC
    ·exact ai q (by omega)
  intro aK ae;refine (oR (h.ext W)).mono ?_;rintro _ aN _ ⟨rfl,aE⟩;have ak:=W.trans aE;rw[bc,br];refine⟨fun I=>ae _ _ ⟨true,rfl,⟨(fun h=>by cases h),fun h=>?_⟩,ak⟩,fun I=>?_⟩
  ·exact am (fun O=>by rw[decide_eq_true ⟨O.1,O.2.1⟩] at I;cases I) h
  have I:0≤x∧x<n.sizes.length:=by simpa using I
  refine (tP (h.ext ak)).mono ?_;rintro _ aO _ ⟨rfl,aF⟩;have ag:=ak.trans aF;rw[decide_eq_true I.1,Bool.true_and,br];refine⟨fun ad=>ae _ _ ⟨true,rfl,⟨(fun h=>by cases h),fun h=>?_⟩,ag⟩,fun ad=>?_⟩
  ·exact am (fun O=>by rw[O.2.2.1] at ad;cases ad) h
  rw[bA,ab];refine⟨fun aP=>?_,fun aQ=>ae _ _ ⟨false,rfl,⟨fun _=>⟨x,Y,I.1,I.2,ad,fun h=>by omega⟩,fun _=>rfl⟩,ag⟩⟩;obtain⟨y,aq⟩:∃ y,l[i-1]? =some y:=⟨_,y0 (by omega)⟩;have au:l.getD (i-1) 0=y:=by rw[u4,aq];rfl
  have aR:=V.le;rw[dd,wrap_i64 (by omega) (by omega),dt (y:=(i:Int)-1) (i:=i-1) (by omega) ac.u U.i (by kernel_rfl) (V.ext ag) aq,cm];refine ae _ _ ⟨_,rfl,⟨fun aG=>⟨x,Y,I.1,I.2,ad,fun _=>?_⟩,fun aH=>?_⟩,ag⟩
  ·have:=of_decide_eq_false aG;rw[au];omega
  ·obtain⟨v,aa,_,_,_,aJ⟩:=aH;rw[Y] at aa;cases aa;have:=aJ (by omega);rw[au] at this;rw[decide_eq_false];omega
 ·rintro _ J aw ⟨W,ai⟩;rw[an,ab];exact⟨fun h=>by omega,fun _=>⟨⟨true,rfl,⟨fun _=>ai,fun _=>rfl⟩⟩,W⟩⟩
end
section
variable {w:x2} {B:Nat} {sv:x1} {k:Int} {sizes:List Int} {s:aF}
end
def ht (s:aF) (i v:Nat) (c:Int):aF:=match s.vars[i]? with
 |some x=>{s with vars:=s.vars.set i {x with un:=x.un.set v c}}
 |none=>s
def gw (s:aF) (j m:Nat) (c:Int):aF:=match s.funs[j]? with
 |some f=>{s with funs:=s.funs.set j {f with cs:=f.cs.set m c}}
 |none=>s
theorem Ap {i:Nat} {c:Int} (h:∀ x∈l,0≤x∧x≤k) (J:0≤c∧c≤k):∀ x∈l.set i c,0≤x∧x≤k:=fun x I=>by
 rcases X9 I with I|rfl
 ·exact h x I
 ·exact J
def kf (w:x2) (aj ah:Nat) (A R:ag) (n:aS) (s':aF) (t:aH) (v:x1) (w':x2):Prop:=v= .int .i64 0∧ad (dz w) w w'∧ ∃ I p x,Grow A w I w'∧cp w' aj ah I R n s' (t.set p x)
theorem kf.ext {J:x2} {A R:ag} {n:aS} {s':aF} {t:aH} (I:Ext w J) (h:kf J aj ah A R n s' t v w'):kf w aj ah A R n s' t v w':=by
 obtain⟨h1,O,U,p,x,V,W⟩:=h;exact⟨h1,jp I O,U,p,x,(Grow.ext I).trans V,W⟩
section
variable {w:x2} {aj ah:Nat} {A R:ag} {n:aS} {s:aF} {t:aH}
theorem nc {c:Int} (h:cp w aj ah A R n s t) (O:y<0∨¬(0≤c∧c≤n.k)):af x3 vP [.pointer (some ⟨aj,0,none⟩),.int .i64 y,.int .i64 c] w fun v w'=>v= .int .i64 (if y<0 then 1 else 3)∧Ext w w':=by
 refine az func143 ?_;rw[cI fN.u];simp only[Z1,aP];rw[an,ab];refine⟨fun I=>⟨by rw[if_pos I],Ext.refl _⟩,fun I=>?_⟩;refine (nb h).mono ?_;rintro _ J _ ⟨rfl,U⟩;refine (jW (a:=c) (k:=n.k)).mono ?_;rintro _ Y _ ⟨rfl,V⟩;have W:=O.resolve_left I;rw[decide_eq_false (fun h=>W h.2),bc,X4,bC,if_neg I];exact⟨rfl,U.trans V⟩
theorem tV {s':aF} {p:Nat} {c:Int} (h:cp w aj ah A R n s t) (O:Room t) (U:y=(p:Int)) (W:p<s.cells.length) (Y:s.cells.set p c=s'.cells) (ac:lN s s') (ad:et n.k n.sizes s') (ae:0≤c∧c≤n.k):
  af x3 vP [.pointer (some ⟨aj,0,none⟩),.int .i64 y,.int .i64 c] w (kf w aj ah A R n s' t):=by
 refine az func143 ?_;rw[cI fN.u];simp only[Z1,aP];rw[an,ab];refine⟨fun h=>by omega,fun _=>?_⟩;refine (nb h).mono ?_;rintro _ J _ ⟨rfl,ag⟩;refine (jW (a:=c) (k:=n.k)).mono ?_;rintro _ aq _ ⟨rfl,ai⟩;have I:=ag.trans ai;rw[decide_eq_true (show cA c n.k from⟨h.2.2.2.1.iD,ae⟩),bc,Y4,aP];obtain⟨au,av,ax,ay,aA,aB,L,aC,ak,aD,aE,aG,aH,aI⟩:=(h.ext I).1.parts;rw[aw,V bM.p rfl,aa (v:=.pointer (some ⟨ah,0,none⟩)) (by kernel_rfl) (ak.cell (o:=0+1) rfl)];refine (q3 (h.ext I) U W Y ac ad O).mono ?_;rintro _ aJ _ ⟨rfl,al,am,ao,ap⟩;exact kf.ext I ⟨rfl,al,am,_,_,ao,ap⟩
theorem Aq {c:Int} (h:cp w aj ah A R n s t) (O:Room t):af x3 vA [.pointer (some ⟨aj,0,none⟩),.int .i64 c] w fun v w'=>(¬(0≤c∧c≤n.k)→v= .int .i64 3∧Ext w w')∧((0≤c∧c≤n.k)→kf w aj ah A R n {s with zero:=c} t v w'):=by
 refine az func55 ?_;by_cases I:0≤c∧c≤n.k
 ·refine (tV (p:=0) h O rfl (by unfold aF.cells gS;simp) (In s c) (zA s c) ⟨h.2.2.2.1.iD,h.2.2.2.1.dX,I,h.2.2.2.1.vars,h.2.2.2.1.var,h.2.2.2.1.funs⟩ I).mono ?_;rintro v J _ U;exact⟨fun h=>absurd I h,fun _=>U⟩
 ·refine (nc h (.inr I)).mono ?_;rintro v J _ ⟨rfl,V⟩;exact⟨fun _=>⟨rfl,V⟩,fun h=>absurd h I⟩
theorem tW {i v c:Int} (h:cp w aj ah A R n s t) (ab:Room t):af x3 pI [.pointer (some ⟨aj,0,none⟩),.int .i64 i,.int .i64 v,.int .i64 c] w fun r w'=>
  (¬ej n i v→r= .int .i64 1∧Ext w w')∧(ej n i v→¬(0≤c∧c≤n.k)→r= .int .i64 3∧Ext w w')∧(ej n i v→(0≤c∧c≤n.k)→kf w aj ah A R n (ht s i.toNat v.toNat c) t r w'):=by
 refine az func56 ?_;refine (tQ h).mono ?_;rintro _ J _ ⟨rfl,O⟩;by_cases I:ej n i v
 ·rw[if_pos I];by_cases V:0≤c∧c≤n.k
  ·obtain⟨x,U,ag,ai,_⟩:=I.var h.2.2.2.1;have ak:=h.2.2.2.1.vars;obtain⟨z,ac⟩:∃ z,n.sizes[i.toNat]? =some z:=⟨_,y0 (by have:=I.1;have:=I.2.1;omega)⟩;obtain⟨_,ad,hm⟩:=h.2.2.2.1.var i.toNat x z U ac;have al:=oQ U;have W:ht s i.toNat v.toNat c={s with vars:=s.vars.set i.toNat {x with un:=x.un.set v.toNat c}}:=by unfold ht;rw[U]
   refine (tV (p:=eG s i.toNat+(2+v.toNat)) (s':=ht s i.toNat v.toNat c) (h.ext O) ab (by omega) (by omega) ?_ ?_ ?_ V).mono ?_
   ·rw[W];refine tt U (by omega) ?_;rw[show 2+v.toNat=v.toNat+1+1 by omega];rfl
   ·rw[W];exact tv U (by simp)
   ·rw[W];exact h.2.2.2.1.tR U (by simp) (Ap ad V) hm
   ·rintro r aa _ ae;exact⟨fun h=>absurd I h,fun _ h=>absurd V h,fun _ _=>ae.ext O⟩
  ·refine (nc (h.ext O) (.inr V)).mono ?_;rintro r aa _ ⟨rfl,Y⟩;rw[if_neg (by omega)];exact⟨fun h=>absurd I h,fun _ _=>⟨rfl,O.trans Y⟩,fun _ h=>absurd h V⟩
 ·rw[if_neg I];refine (nc (h.ext O) (.inl (by omega))).mono ?_;rintro r aa _ ⟨rfl,Y⟩;rw[if_pos (by omega)];exact⟨fun _=>⟨rfl,O.trans Y⟩,fun h=>absurd h I,fun h=>absurd h I⟩
theorem tX {O:List Int} {c:Int} (h:cp w aj ah A R n s t) (ad:Room t) (ae:aB .i64 w aA O):af x3 nA [.pointer (some ⟨aj,0,none⟩),.int .i64 (j:Int),aA,.int .i64 c] w fun r w'=>
  (eI s j O=none→r= .int .i64 1∧Ext w w')∧((eI s j O).isSome=true→¬(0≤c∧c≤n.k)→r= .int .i64 3∧Ext w w')∧
  ((eI s j O).isSome=true→(0≤c∧c≤n.k)→ ∀ f (m:Nat),s.funs[j]? =some f→bX f.szs O 0=some (m:Int)→kf w aj ah A R n (gw s j m c) t r w'):=by
 refine az func57 ?_;refine (Ai h ae).mono ?_;rintro _ J _ ⟨rfl,U⟩;cases ag:eI s j O with
 |none=>
  simp only;refine (nc (h.ext U) (.inl (by omega))).mono ?_;rintro r aa _ ⟨rfl,W⟩;rw[if_pos (by omega)];exact⟨fun _=>⟨rfl,U.trans W⟩,fun h=>by simp at h,fun h=>by simp at h⟩
 |some p=>
  simp only;by_cases V:0≤c∧c≤n.k
  ·obtain⟨am,f,I,an,m,hm,ao,rfl⟩:=oV h.2.2.2.1 ag;have ap:=tO I;have Y:gw s j m c={s with funs:=s.funs.set j {f with cs:=f.cs.set m c}}:=by unfold gw;rw[I]
   obtain⟨ai,_⟩:=h.2.2.2.1.funs f (x5 I);refine (tV (p:=dW s j+(m+1)) (s':=gw s j m c) (h.ext U) ad rfl (by omega) ?_ ?_ ?_ V).mono ?_
   ·rw[Y];exact zw I (by omega) rfl
   ·rw[Y];exact zB I (by simp) rfl rfl
   ·rw[Y];exact h.2.2.2.1.Ak I rfl rfl (by simp) (Ap ai.hl V)
   ·rintro r aa _ ak;refine⟨(fun h=>by cases h),fun _ h=>absurd V h,fun _ _ aq al ab ac=>?_⟩;rw[I] at ab;cases ab;rw[hm] at ac;have:al=m:=by have:=b9 ac;omega
    subst this;exact ak.ext U
  ·refine (nc (h.ext U) (.inr V)).mono ?_;rintro r aa _ ⟨rfl,W⟩;rw[if_neg (by omega)];exact⟨(fun h=>by cases h),fun _ _=>⟨rfl,U.trans W⟩,fun _ h=>absurd h V⟩
end
end Go.Proofs.YtgbkinibgjmodaaGreatDoor
namespace Go.Vc
open Go Go.RowKit
section
variable {P:X5} {w:x2} {α:Type} [ai α] {S R:ag}
theorem Ar {k:Nat} {vs:List (List x1)} {i:Nat} (h:∀ x∈vs,x.length=k) (I:c.length=k) (hi:i<vs.length):over vs.flatten (i*k) c=(vs.set i c).flatten:=by
 have:=sU (f:=id) (k:=k) (L:=vs) (i:=i) (a:=c) h I hi;rw[List.flatMap_id,List.flatMap_id] at this;exact this
theorem Jw {l:List α} {i:Nat} (h:bi S R w [v] l) (av:i<l.length):∃ g cap full U,v= .slice (some ⟨g,0,none⟩) l.length cap∧ae w g U full∧S g∧i*ai.n α+ai.n α≤full.length∧
  ∀ {A:ag} {cs:List x1} {a:α},bi A R w cs a→(∀ r,r<w.heap.size→S r→¬A r∧¬R r)→ ∀ w',ad (fun r=>r=g) w w'→ae w' g U (over full (i*ai.n α) cs)→bi (fun r=>S r∨A r) R w' [v] (l.set i a):=by
 obtain⟨vs,g,F,V,he,aF,hm⟩:=gj h;obtain⟨aw,U,ax⟩:=hm rfl;obtain⟨aG,⟨rfl,aH⟩|⟨cap,full,rfl,af,aj,ay,ak,az⟩⟩:=id ax
 ·omega
 have al:vs.length=l.length:=he.1;have aA:(i+1)*ai.n α≤l.length*ai.n α:=X0 _ av;have aB:l.length*ai.n α≤full.length:=by rw[ak];exact X0 _ aj
 rw[V4,Nat.one_mul] at aA;have Y:S g:=aw.resolve_left (by simp);refine⟨g,cap,full,U,rfl,af,Y,by omega,fun {A cs a} am aa w' an aC=>?_⟩;have ao:=ai.len am;have ap:¬A g:=(aa g af.lt Y).1;have aq:¬R g:=(aa g af.lt Y).2;have aD:∀ c∈vs.set i cs,c.length=ai.n α:=fun c W=>by
  rcases X9 W with I|rfl
  ·exact he.len c I
  ·exact ao
 have au:bG w' g U (ai.n α) (.slice (some ⟨g,0,none⟩) l.length cap) (l.set i a).length (vs.set i cs).flatten:=by
  refine⟨by rw[nL aD,Y6,Y6,al],.inr ⟨cap,_,by rw[Y6],aC,by rw[Y6];exact aj,ay,by rw[jR,ak],?_⟩⟩;rw[Y6,qu (by omega) aB,az,Ar he.len ao (by omega)]
 refine⟨_,rfl,vs.set i cs,g,fun j r=>if j=i then A r∧r<w.heap.size else F j r∧r<w.heap.size,⟨fun j r J=>?_,fun _ j J=>?_,fun _ j q r aE h1 I=>?_⟩,⟨by simp[al],fun j c a' W ab=>?_⟩,?_,fun _=>⟨.inr (.inl Y),U,au⟩⟩
 ·split at J
  ·exact .inr J.1
  ·exact .inl (V.sub j r J.1)
 ·split at J
  ·exact ap J.1
  ·exact V.top rfl j J.1
 ·split at h1 <;> split at I
  ·omega
  ·exact (aa r I.2 (V.sub q r I.1)).1 h1.1
  ·exact (aa r h1.2 (V.sub j r h1.1)).1 I.1
  ·exact V.gi rfl j q r aE h1.1 I.1
 ·by_cases ac:j=i
  ·subst ac;rw[W8 (by omega)] at W ab;cases W;cases ab;have ah:bi (fun r=>if j=j then A r∧r<w.heap.size else F j r∧r<w.heap.size) R w cs a:=ai.mono am (fun r J h=>by rw[if_pos rfl];exact⟨h,J⟩) fun _ _ h=>h;refine ai.O ah an fun r J h1 I=>?_;have I:r=g:=I;subst I;rcases h1 with h1|h1
   ·simp only[if_true] at h1;exact ap h1.1
   ·exact aq h1
  ·rw[W3 (Ne.symm ac)] at W ab;have ah:bi (fun r=>if j=i then A r∧r<w.heap.size else F j r∧r<w.heap.size) R w c a':=ai.mono (he.2 j c a' W ab) (fun r J h=>by rw[if_neg ac];exact⟨h,J⟩) fun _ _ h=>h;refine ai.O ah an fun r J h1 I=>?_;have I:r=g:=I;subst I;rcases h1 with h1|h1
   ·simp only[if_neg ac] at h1;exact V.top rfl j h1.1
   ·exact aq h1
 ·have:=mv (S:=fun r=>(S r∨A r)∨R r) au (.inr (.inl (.inl Y)));exact this
theorem tY {t:r8} {Y:o4} {i b:Nat} {z:x1} {l:List α} {a:α} {A:ag} {K:Unit→x2→Prop} (O:ai.n α=1) (aa:y=(i:Int)) (ab:P.underlying t=some (.slice e)) (hi:aJ P e 1 b z)
  (h:bi S R w [v] l) (U:i<l.length) (ac:x.cells= #[x]) (V:bi A R w [x] a) (ae:∀ r,r<w.heap.size→S r→¬A r∧¬R r)
  (af:∀ w',ad S w w'→bi (fun r=>S r∨A r) R w' [v] (l.set i a)→K () w'):I P (o6 t v (.int Y y)) w fun p=>ax P (o3 e p x) w K:=by
 subst aa;obtain⟨g,cap,full,an,rfl,ah,aj,ak,al⟩:=Jw h U;rw[O] at ak;rw[fe ab hi U fun _=>rfl];refine bl (o:=0+i*1) hi ac (ai.one V x (.head _)) ah (by omega) fun w' W _ am=>af w' (W.mono fun r _ J=>by have J:r=g:=J;subst J;exact aj) (al V ae w' W ?_);rw[O,W6] at*;exact am
end
end Go.Vc
namespace Go.Proofs.YtgbkinibgjmodaaGreatDoor
open Go Go.Vc Go.RowKit Go.Proofs Go.Proofs.Tryz
set_option maxRecDepth 100000
abbrev gx:Type:=(Rd (List Int)×Rd (List Int)×List Int)×Bool
abbrev kg:Type:=Int×Rd (List Int)×Rd (List Int)
def eu (f:eF):gx:=((f.sc,f.szs,f.cs),decide (f.live≠0))
def oY (e:iC):kg:=(e.v,e.sc,e.er)
def bx (m:Bool) (A:Nat→ag) (R:ag) (w:x2) (cs:List x1) (k:Int) (sizes:List Int) (zero:Int) (D:List (List Int)) (G:List Bool) (aO:List (List Int)) (H:List gx) (E:List kg):Prop:=
 ∃ aq I J O U V,cs=[.int .i64 k,aq,.int .i64 zero,I,J,O,U,V]∧Seen R w [aq] sizes∧
 ai.rep m (A 0) R w [I] D∧ai.rep m (A 1) R w [J] G∧ai.rep m (A 2) R w [O] aO∧ai.rep m (A 3) R w [U] H∧ai.rep m (A 4) R w [V] E∧
 (m=true→(∀ i j r,i≠j→A i r→¬A j r)∧ ∀ i r,A i r→¬R r)
abbrev gy (m:Bool) (A:Nat→ag) (R:ag) (w:x2) (cs:List x1) (k:Int) (sizes:List Int) (s:aF):Prop:=
 bx m A R w cs k sizes s.zero (s.vars.map dA) (s.vars.map fun x=>decide (x.gone≠0)) (s.vars.map (·.un)) (s.funs.map eu) (s.elims.map oY)
def ia (w:x2) (v:x1) (k:Int) (sizes:List Int) (s:aF):Prop:=∃ cs,v= .agg cs.toArray∧gy false (fun _ _=>False) eN w cs k sizes s
def eW (A:Nat→ag) (i:Nat) (B:ag):Nat→ag:=fun j=>if j=i then B else A j
section
variable {m:Bool} {A:Nat→ag} {R:ag} {w w':x2} {cs:List x1} {k zero:Int} {sizes:List Int} {D:List (List Int)} {G:List Bool} {aO:List (List Int)} {H:List gx} {E:List kg} {s:aF}
theorem bx.len (h:bx m A R w cs k sizes zero D G aO H E):cs.length=8∧ ∀ u∈cs,u.oneCell'=true:=by
 obtain⟨aq,W,Y,aa,ab,ac,rfl,h1,I,J,O,U,V,_⟩:=h;refine⟨rfl,fun u hu=>?_⟩;simp only[U5,List.not_mem_nil,or_false] at hu;rcases hu with rfl|rfl|rfl|rfl|rfl|rfl|rfl|rfl
 ·rfl
 ·exact iZ h1
 ·rfl
 ·exact iZ I
 ·exact iZ J
 ·exact iZ O
 ·exact iZ U
 ·exact iZ V
theorem bx.O {T:ag} (h:bx m A R w cs k sizes zero D G aO H E) (I:ad T w w') (V:∀ r,r<w.heap.size→(∃ i,A i r)∨R r→¬T r):bx m A R w' cs k sizes zero D G aO H E:=by
 obtain⟨aq,W,Y,aa,ab,ac,rfl,h1,ae,af,ah,aj,ak,al⟩:=h;have J:∀ i r,r<w.heap.size→A i r∨R r→¬T r:=fun i r U h=>V r U (h.imp (fun h=>⟨i,h⟩) id);exact⟨aq,W,Y,aa,ab,ac,rfl,ai.O h1 I fun r U h=>V r U (h.elim False.elim .inr),ai.O ae I (J 0),ai.O af I (J 1),ai.O ah I (J 2),ai.O aj I (J 3),ai.O ak I (J 4),al⟩
theorem bx.ext (h:bx m A R w cs k sizes zero D G aO H E) (I:Ext w w'):bx m A R w' cs k sizes zero D G aO H E:=h.O (I.O fun _=>False) fun _ _ _ h=>h
theorem gy.Jx (h:gy m A R w cs k sizes s):ia w (.agg cs.toArray) k sizes s:=by
 obtain⟨aq,I,J,O,U,V,rfl,h1,W,Y,aa,ab,ac,ad⟩:=h;exact⟨_,rfl,aq,I,J,O,U,V,rfl,iY h1,iY W,iY Y,iY aa,iY ab,iY ac,fun h=>by cases h⟩
theorem bx.mono {R':ag} (h:bx true A R w cs k sizes zero D G aO H E) (I:∀ r,R r→R' r) (J:∀ i r,A i r→¬R' r):bx true A R' w cs k sizes zero D G aO H E:=by
 obtain⟨aq,O,U,V,W,Y,rfl,h1,aa,ab,ac,ad,ae,af⟩:=h;have hm:∀ r,r<w.heap.size→R r→R' r:=fun r _ h=>I r h;exact⟨aq,O,U,V,W,Y,rfl,ai.mono h1 (fun _ _ h=>h) hm,ai.mono aa (fun _ _ h=>h) hm,ai.mono ab (fun _ _ h=>h) hm,ai.mono ac (fun _ _ h=>h) hm,ai.mono ad (fun _ _ h=>h) hm,ai.mono ae (fun _ _ h=>h) hm,fun _=>⟨(af rfl).1,J⟩⟩
theorem bx.old (h:bx true A R w cs k sizes zero D G aO H E):bx true (fun i r=>A i r∧r<w.heap.size) R w cs k sizes zero D G aO H E:=by
 obtain⟨aq,O,U,V,W,Y,rfl,h1,I,aa,ab,ac,ad,J⟩:=h;obtain⟨J,ae⟩:=J rfl;have hm:∀ i r,r<w.heap.size→A i r→A i r∧r<w.heap.size:=fun i r af h=>⟨h,af⟩;exact⟨aq,O,U,V,W,Y,rfl,h1,ai.mono I (hm 0) fun _ _ h=>h,ai.mono aa (hm 1) fun _ _ h=>h,ai.mono ab (hm 2) fun _ _ h=>h,ai.mono ac (hm 3) fun _ _ h=>h,ai.mono ad (hm 4) fun _ _ h=>h,
  fun _=>⟨fun i j r ag h1 I=>J i j r ag h1.1 I.1,fun i r h=>ae i r h.1⟩⟩
theorem oZ {i:Nat} {B:ag} (h:∀ i j r,i≠j→A i r→¬A j r) (J:∀ j r,j≠i→B r→¬A j r):∀ p q r,p≠q→eW A i B p r→¬eW A i B q r:=fun p q r O h1 I=>by
 unfold eW at h1 I;split at h1 <;> split at I
 ·omega
 ·exact J q r (by assumption) h1 I
 ·exact J p r (by assumption) I h1
 ·exact h p q r O h1 I
theorem o0 {i:Nat} {B:ag} (h:∀ i r,A i r→¬R r) (I:∀ r,B r→¬R r):∀ p r,eW A i B p r→¬R r:=fun p r h1=>by
 unfold eW at h1;split at h1
 ·exact I r h1
 ·exact h p r h1
theorem bx.As {B:ag} {W:List (List Int)} (h:bx true A R w cs k sizes zero D G aO H E) {T:ag} (J:ad T w w') (Y:∀ r,T r→A 0 r∨(∀ j,¬A j r)∧¬R r) (ac:bi B R w' [x] W) (ae:∀ j r,j≠0→B r→¬A j r) (af:∀ r,B r→¬R r):bx true (eW A 0 B) R w' (cs.set 3 x) k sizes zero W G aO H E:=by
 obtain⟨aq,av,ah,aj,ak,al,rfl,h1,I,am,an,ao,ap,U⟩:=h;obtain⟨U,aa⟩:=U rfl;have ab:∀ r,R r→¬T r:=fun r h I=>(Y r I).elim (fun I=>aa 0 r I h) fun I=>I.2 h;have V:∀ j r,j≠0→r<w.heap.size→A j r∨R r→¬T r:=fun j r au _ h I=>h.elim (fun h=>(Y r I).elim (fun I=>U j 0 r au h I) fun I=>I.1 j h) fun h=>ab r h I;refine⟨aq,x,ah,aj,ak,al,rfl,ai.O h1 J fun r _ h=>h.elim False.elim (ab r),?_,?_,?_,?_,?_,fun _=>⟨oZ U ae,o0 aa af⟩⟩
 ·exact ac
 ·exact ai.O am J fun r=>V 1 r (by omega)
 ·exact ai.O an J fun r=>V 2 r (by omega)
 ·exact ai.O ao J fun r=>V 3 r (by omega)
 ·exact ai.O ap J fun r=>V 4 r (by omega)
theorem bx.Au {B:ag} {W:List Bool} (h:bx true A R w cs k sizes zero D G aO H E) {T:ag} (J:ad T w w') (Y:∀ r,T r→A 1 r∨(∀ j,¬A j r)∧¬R r) (ac:bi B R w' [x] W) (ae:∀ j r,j≠1→B r→¬A j r) (af:∀ r,B r→¬R r):bx true (eW A 1 B) R w' (cs.set 4 x) k sizes zero D W aO H E:=by
 obtain⟨aq,ah,au,aj,ak,al,rfl,h1,I,av,am,an,ao,U⟩:=h;obtain⟨U,aa⟩:=U rfl;have ab:∀ r,R r→¬T r:=fun r h I=>(Y r I).elim (fun I=>aa 1 r I h) fun I=>I.2 h;have V:∀ j r,j≠1→r<w.heap.size→A j r∨R r→¬T r:=fun j r ap _ h I=>h.elim (fun h=>(Y r I).elim (fun I=>U j 1 r ap h I) fun I=>I.1 j h) fun h=>ab r h I;refine⟨aq,ah,x,aj,ak,al,rfl,ai.O h1 J fun r _ h=>h.elim False.elim (ab r),?_,?_,?_,?_,?_,fun _=>⟨oZ U ae,o0 aa af⟩⟩
 ·exact ai.O I J fun r=>V 0 r (by omega)
 ·exact ac
 ·exact ai.O am J fun r=>V 2 r (by omega)
 ·exact ai.O an J fun r=>V 3 r (by omega)
 ·exact ai.O ao J fun r=>V 4 r (by omega)
theorem bx.ht {B:ag} {W:List (List Int)} (h:bx true A R w cs k sizes zero D G aO H E) {T:ag} (J:ad T w w') (Y:∀ r,T r→A 2 r∨(∀ j,¬A j r)∧¬R r) (ac:bi B R w' [x] W) (ae:∀ j r,j≠2→B r→¬A j r) (af:∀ r,B r→¬R r):bx true (eW A 2 B) R w' (cs.set 5 x) k sizes zero D G W H E:=by
 obtain⟨aq,ah,aj,au,ak,al,rfl,h1,I,am,av,an,ao,U⟩:=h;obtain⟨U,aa⟩:=U rfl;have ab:∀ r,R r→¬T r:=fun r h I=>(Y r I).elim (fun I=>aa 2 r I h) fun I=>I.2 h;have V:∀ j r,j≠2→r<w.heap.size→A j r∨R r→¬T r:=fun j r ap _ h I=>h.elim (fun h=>(Y r I).elim (fun I=>U j 2 r ap h I) fun I=>I.1 j h) fun h=>ab r h I;refine⟨aq,ah,aj,x,ak,al,rfl,ai.O h1 J fun r _ h=>h.elim False.elim (ab r),?_,?_,?_,?_,?_,fun _=>⟨oZ U ae,o0 aa af⟩⟩
 ·exact ai.O I J fun r=>V 0 r (by omega)
 ·exact ai.O am J fun r=>V 1 r (by omega)
 ·exact ac
 ·exact ai.O an J fun r=>V 3 r (by omega)
 ·exact ai.O ao J fun r=>V 4 r (by omega)
theorem bx.gw {B:ag} {W:List gx} (h:bx true A R w cs k sizes zero D G aO H E) {T:ag} (J:ad T w w') (Y:∀ r,T r→A 3 r∨(∀ j,¬A j r)∧¬R r) (ac:bi B R w' [x] W) (ae:∀ j r,j≠3→B r→¬A j r) (af:∀ r,B r→¬R r):bx true (eW A 3 B) R w' (cs.set 6 x) k sizes zero D G aO W E:=by
 obtain⟨aq,ah,aj,ak,au,al,rfl,h1,I,am,an,av,ao,U⟩:=h;obtain⟨U,aa⟩:=U rfl;have ab:∀ r,R r→¬T r:=fun r h I=>(Y r I).elim (fun I=>aa 3 r I h) fun I=>I.2 h;have V:∀ j r,j≠3→r<w.heap.size→A j r∨R r→¬T r:=fun j r ap _ h I=>h.elim (fun h=>(Y r I).elim (fun I=>U j 3 r ap h I) fun I=>I.1 j h) fun h=>ab r h I;refine⟨aq,ah,aj,ak,x,al,rfl,ai.O h1 J fun r _ h=>h.elim False.elim (ab r),?_,?_,?_,?_,?_,fun _=>⟨oZ U ae,o0 aa af⟩⟩
 ·exact ai.O I J fun r=>V 0 r (by omega)
 ·exact ai.O am J fun r=>V 1 r (by omega)
 ·exact ai.O an J fun r=>V 2 r (by omega)
 ·exact ac
 ·exact ai.O ao J fun r=>V 4 r (by omega)
theorem bx.Jy {B:ag} {W:List kg} (h:bx true A R w cs k sizes zero D G aO H E) {T:ag} (J:ad T w w') (Y:∀ r,T r→A 4 r∨(∀ j,¬A j r)∧¬R r) (ac:bi B R w' [x] W) (ae:∀ j r,j≠4→B r→¬A j r) (af:∀ r,B r→¬R r):bx true (eW A 4 B) R w' (cs.set 7 x) k sizes zero D G aO H W:=by
 obtain⟨aq,ah,aj,ak,al,au,rfl,h1,I,am,an,ao,av,U⟩:=h;obtain⟨U,aa⟩:=U rfl;have ab:∀ r,R r→¬T r:=fun r h I=>(Y r I).elim (fun I=>aa 4 r I h) fun I=>I.2 h;have V:∀ j r,j≠4→r<w.heap.size→A j r∨R r→¬T r:=fun j r ap _ h I=>h.elim (fun h=>(Y r I).elim (fun I=>U j 4 r ap h I) fun I=>I.1 j h) fun h=>ab r h I;refine⟨aq,ah,aj,ak,al,x,rfl,ai.O h1 J fun r _ h=>h.elim False.elim (ab r),?_,?_,?_,?_,?_,fun _=>⟨oZ U ae,o0 aa af⟩⟩
 ·exact ai.O I J fun r=>V 0 r (by omega)
 ·exact ai.O am J fun r=>V 1 r (by omega)
 ·exact ai.O an J fun r=>V 2 r (by omega)
 ·exact ai.O ao J fun r=>V 3 r (by omega)
 ·exact ac
theorem bx.Jz {z:Int} (h:bx m A R w cs k sizes zero D G aO H E):bx m A R w (cs.set 2 (.int .i64 z)) k sizes z D G aO H E:=by
 obtain⟨aq,I,J,O,U,V,rfl,h1,W,Y,aa,ab,ac,ad⟩:=h;exact⟨aq,I,J,O,U,V,rfl,h1,W,Y,aa,ab,ac,ad⟩
end
theorem ne {α:Type} [ai α] {st t an:r8} {pl:List (Nat×Nat)} {gs c q b ao:Nat} {z ap y:x1} {box cs:List x1} {S A R:ag} {l:List α} {a:α} {K:x2→Prop}
  (aq:bo x3 st pl) (au:pl[c]? =some (c,q+1)) (av:x3.underlying t=some (.slice e)) (aw:aJ x3 t 1 ao ap) (hi:aJ x3 e (ai.n α) b z) (ay:z.cells.size=ai.n α)
  (ah:ae w gs st box) (az:box[c]? =some v) (h:bi S R w [v] l) (aa:bS w (ai.n α) y 1 cs) (aA:bi A R w cs a) (aB:∀ r,r<w.heap.size→S r→¬A r∧¬R r) (W:¬S gs∧¬A gs∧¬R gs) (aG:(l.length+1)*b≤140737488355328) (aH:l.length+1≤1000000)
  (aC:∀ U w',ad (fun r=>S r∨r=gs) w w'→ae w' gs st (box.set c U)→bi (fun r=>S r∨A r∨w.heap.size≤r) R w' [U] (l++[a])→K w'):
  ax x3 (l9 #[t,t] an #[v,y]) w fun U Y=>I x3 (x7 st (.pointer (some ⟨gs,0,none⟩)) c) Y fun aD=>ax x3 (o3 t aD U) Y fun _ ab=>K ab:=by
 have aE:=(x4.1 az).1;refine lm (A:=A) av hi ay h aa aA (fun r aj aa J=>?_) (by omega) (by omega) fun U Y ac ak=>?_
 ·have:=aB r aj aa;exact J.elim this.1 this.2
 have aF:ae Y gs st box:=ah.O ak W.1;rw[V aq au];refine bl (o:=0+c) aw (nM ac) (iZ ac) aF (by rw[W6];exact aE) fun ab al aI am=>?_;refine aC U ab ((ak.mono fun r _ h=>.inl h).trans (al.mono fun r _ h=>.inr h)) (by rw[W6] at am;exact am) (ai.O ac al fun r aj J af=>?_);have af:r=gs:=af;subst af;have aK:=ah.lt;rcases J with J|J
 ·rcases J with J|J|J
  ·exact W.1 J
  ·exact W.2.1 J
  ·omega
 ·exact W.2.2 J
section
variable {A:Nat→ag} {B R:ag} {w:x2} {cs xs:List x1} {gs:Nat} {y v:x1} {k zero:Int} {sizes:List Int} {D:List (List Int)} {G:List Bool} {aO:List (List Int)} {H:List gx} {E:List kg} {K:x2→Prop}
theorem bx.JA {ap:r8} (h:bx true A R w cs k sizes zero D G aO H E) (af:ae w gs aK cs) (W:cs[3]? =some v) (O:∀ j r,A j r→gs<r) (V:∀ r,R r→r<gs) (au:bS w 1 y 1 xs) (av:bi B R w xs a) (U:∀ r,r<w.heap.size→B r→(∀ j,¬A j r)∧gs<r) (aH:D.length≤1000)
  (aw:∀ ag bU w',ad (fun r=>gs≤r) w w'→ae w' gs aK bU→bx true ag R w' bU k sizes zero (D++[a]) G aO H E→(∀ j r,ag j r→gs<r)→(∀ j,j≠3→bU[j]? =cs[j]?)→K w'):
  ax x3 (l9 #[cQ,cQ] ap #[v,y]) w fun ah aj=>I x3 (x7 aK (.pointer (some ⟨gs,0,none⟩)) 3) aj fun ay=>ax x3 (o3 cQ ay ah) aj fun _ Y=>K Y:=by
 have ak:=h.old;have az:=af.lt;obtain⟨aq,aA,aI,aJ,aL,al,aB,h1,aC,aM,aN,aP,aQ,aa⟩:=id ak;obtain⟨aa,am⟩:=aa rfl;have al:v=aA:=by rw[aB] at W;exact (b9 W).symm
 subst al;have aD:bi (fun r=>B r∧r<w.heap.size) R w xs a:=ai.mono av (fun r J h=>⟨h,J⟩) fun _ _ h=>h;refine ne (pl:=_) (l:=D) aK.p rfl cQ.u cQ.i ac.i rfl af W aC au aD (fun r J an=>⟨fun aE=>(U r J aE.1).1 0 an.1,am 0 r an⟩) ⟨fun h=>by have:=O 0 gs h.1;omega,fun h=>by have:=(U gs az h.1).2;omega,fun h=>by have:=V gs h;omega⟩ (by omega) (by omega) fun ah Y ao aF aG=>?_;refine aw _ _ Y (ao.mono fun r _ h=>h.elim (fun h=>by have:=O 0 r h.1;omega) fun h=>by omega) aF (ak.As ao (fun r J=>?_) aG (fun j r ab J=>?_) fun r J=>?_) (fun j r J=>?_) fun j ab=>?_
 ·rcases J with J|rfl
  ·exact .inl J
  ·exact .inr ⟨fun j h=>by have:=O j r h.1;omega,fun h=>by have:=V r h;omega⟩
 ·rcases J with J|J|J
  ·exact aa 0 j r (Ne.symm ab) J
  ·exact fun h=>(U r J.2 J.1).1 j h.1
  ·exact fun h=>by have:=h.2;omega
 ·rcases J with J|J|J
  ·exact am 0 r J
  ·exact fun h=>by have:=(U r J.2 J.1).2;have:=V r h;omega
  ·exact fun h=>by have:=V r h;omega
 ·unfold eW at J;split at J
  ·rcases J with J|J|J
   ·exact O 0 r J.1
   ·exact (U r J.2 J.1).2
   ·omega
  ·exact O j r J.1
 ·rw[W3 (Ne.symm ab)]
theorem bx.JB {a:Bool} {ao:r8} (h:bx true A R w cs k sizes zero D G aO H E) (ac:ae w gs aK cs) (W:cs[4]? =some v) (O:∀ j r,A j r→gs<r) (V:∀ r,R r→r<gs) (ap:bS w 1 y 1 xs) (au:bi B R w xs a) (U:∀ r,r<w.heap.size→B r→(∀ j,¬A j r)∧gs<r) (aG:G.length≤1000)
  (av:∀ af bU w',ad (fun r=>gs≤r) w w'→ae w' gs aK bU→bx true af R w' bU k sizes zero D (G++[a]) aO H E→(∀ j r,af j r→gs<r)→(∀ j,j≠4→bU[j]? =cs[j]?)→K w'):
  ax x3 (l9 #[ew,ew] ao #[v,y]) w fun ag ah=>I x3 (x7 aK (.pointer (some ⟨gs,0,none⟩)) 4) ah fun aw=>ax x3 (o3 ew aw ag) ah fun _ Y=>K Y:=by
 have aj:=h.old;have ay:=ac.lt;obtain⟨aq,aH,az,aI,aJ,ak,aA,h1,aL,aB,aM,aN,aP,aa⟩:=id aj;obtain⟨aa,al⟩:=aa rfl;have ak:v=az:=by rw[aA] at W;exact (b9 W).symm
 subst ak;have aC:bi (fun r=>B r∧r<w.heap.size) R w xs a:=ai.mono au (fun r J h=>⟨h,J⟩) fun _ _ h=>h;refine ne (pl:=_) (l:=G) aK.p rfl ew.u ew.i ea.i rfl ac W aB ap aC (fun r J am=>⟨fun aD=>(U r J aD.1).1 1 am.1,al 1 r am⟩) ⟨fun h=>by have:=O 1 gs h.1;omega,fun h=>by have:=(U gs ay h.1).2;omega,fun h=>by have:=V gs h;omega⟩ (by omega) (by omega) fun ag Y an aE aF=>?_;refine av _ _ Y (an.mono fun r _ h=>h.elim (fun h=>by have:=O 1 r h.1;omega) fun h=>by omega) aE (aj.Au an (fun r J=>?_) aF (fun j r ab J=>?_) fun r J=>?_) (fun j r J=>?_) fun j ab=>?_
 ·rcases J with J|rfl
  ·exact .inl J
  ·exact .inr ⟨fun j h=>by have:=O j r h.1;omega,fun h=>by have:=V r h;omega⟩
 ·rcases J with J|J|J
  ·exact aa 1 j r (Ne.symm ab) J
  ·exact fun h=>(U r J.2 J.1).1 j h.1
  ·exact fun h=>by have:=h.2;omega
 ·rcases J with J|J|J
  ·exact al 1 r J
  ·exact fun h=>by have:=(U r J.2 J.1).2;have:=V r h;omega
  ·exact fun h=>by have:=V r h;omega
 ·unfold eW at J;split at J
  ·rcases J with J|J|J
   ·exact O 1 r J.1
   ·exact (U r J.2 J.1).2
   ·omega
  ·exact O j r J.1
 ·rw[W3 (Ne.symm ab)]
theorem bx.JC {ao:r8} (h:bx true A R w cs k sizes zero D G aO H E) (ac:ae w gs aK cs) (W:cs[5]? =some v) (O:∀ j r,A j r→gs<r) (V:∀ r,R r→r<gs) (ap:bS w 1 y 1 xs) (av:bi B R w xs a) (U:∀ r,r<w.heap.size→B r→(∀ j,¬A j r)∧gs<r) (aH:aO.length≤1000)
  (aw:∀ af bU w',ad (fun r=>gs≤r) w w'→ae w' gs aK bU→bx true af R w' bU k sizes zero D G (aO++[a]) H E→(∀ j r,af j r→gs<r)→(∀ j,j≠5→bU[j]? =cs[j]?)→K w'):
  ax x3 (l9 #[ek,ek] ao #[v,y]) w fun ag ah=>I x3 (x7 aK (.pointer (some ⟨gs,0,none⟩)) 5) ah fun ay=>ax x3 (o3 ek ay ag) ah fun _ Y=>K Y:=by
 have aj:=h.old;have az:=ac.lt;obtain⟨aq,aI,aJ,aA,aL,ak,aB,h1,aM,aN,aC,aP,aQ,aa⟩:=id aj;obtain⟨aa,al⟩:=aa rfl;have ak:v=aA:=by rw[aB] at W;exact (b9 W).symm
 subst ak;have aD:bi (fun r=>B r∧r<w.heap.size) R w xs a:=ai.mono av (fun r J h=>⟨h,J⟩) fun _ _ h=>h;refine ne (pl:=_) (l:=aO) aK.p rfl ek.u ek.i au.i rfl ac W aC ap aD (fun r J am=>⟨fun aE=>(U r J aE.1).1 2 am.1,al 2 r am⟩) ⟨fun h=>by have:=O 2 gs h.1;omega,fun h=>by have:=(U gs az h.1).2;omega,fun h=>by have:=V gs h;omega⟩ (by omega) (by omega) fun ag Y an aF aG=>?_;refine aw _ _ Y (an.mono fun r _ h=>h.elim (fun h=>by have:=O 2 r h.1;omega) fun h=>by omega) aF (aj.ht an (fun r J=>?_) aG (fun j r ab J=>?_) fun r J=>?_) (fun j r J=>?_) fun j ab=>?_
 ·rcases J with J|rfl
  ·exact .inl J
  ·exact .inr ⟨fun j h=>by have:=O j r h.1;omega,fun h=>by have:=V r h;omega⟩
 ·rcases J with J|J|J
  ·exact aa 2 j r (Ne.symm ab) J
  ·exact fun h=>(U r J.2 J.1).1 j h.1
  ·exact fun h=>by have:=h.2;omega
 ·rcases J with J|J|J
  ·exact al 2 r J
  ·exact fun h=>by have:=(U r J.2 J.1).2;have:=V r h;omega
  ·exact fun h=>by have:=V r h;omega
 ·unfold eW at J;split at J
  ·rcases J with J|J|J
   ·exact O 2 r J.1
   ·exact (U r J.2 J.1).2
   ·omega
  ·exact O j r J.1
 ·rw[W3 (Ne.symm ab)]
theorem bx.JD {a:gx} {ao:r8} (h:bx true A R w cs k sizes zero D G aO H E) (ac:ae w gs aK cs) (W:cs[6]? =some v) (O:∀ j r,A j r→gs<r) (V:∀ r,R r→r<gs) (ap:bS w 4 y 1 xs) (au:bi B R w xs a) (U:∀ r,r<w.heap.size→B r→(∀ j,¬A j r)∧gs<r) (aG:H.length≤1000)
  (av:∀ af bU w',ad (fun r=>gs≤r) w w'→ae w' gs aK bU→bx true af R w' bU k sizes zero D G aO (H++[a]) E→(∀ j r,af j r→gs<r)→(∀ j,j≠6→bU[j]? =cs[j]?)→K w'):
  ax x3 (l9 #[ck,ck] ao #[v,y]) w fun ag ah=>I x3 (x7 aK (.pointer (some ⟨gs,0,none⟩)) 6) ah fun aw=>ax x3 (o3 ck aw ag) ah fun _ Y=>K Y:=by
 have aj:=h.old;have ay:=ac.lt;obtain⟨aq,aH,aI,aJ,az,ak,aA,h1,aL,aM,aN,aB,aP,aa⟩:=id aj;obtain⟨aa,al⟩:=aa rfl;have ak:v=az:=by rw[aA] at W;exact (b9 W).symm
 subst ak;have aC:bi (fun r=>B r∧r<w.heap.size) R w xs a:=ai.mono au (fun r J h=>⟨h,J⟩) fun _ _ h=>h;refine ne (pl:=_) (l:=H) aK.p rfl ck.u ck.i dj.i rfl ac W aB ap aC (fun r J am=>⟨fun aD=>(U r J aD.1).1 3 am.1,al 3 r am⟩) ⟨fun h=>by have:=O 3 gs h.1;omega,fun h=>by have:=(U gs ay h.1).2;omega,fun h=>by have:=V gs h;omega⟩ (by omega) (by omega) fun ag Y an aE aF=>?_;refine av _ _ Y (an.mono fun r _ h=>h.elim (fun h=>by have:=O 3 r h.1;omega) fun h=>by omega) aE (aj.gw an (fun r J=>?_) aF (fun j r ab J=>?_) fun r J=>?_) (fun j r J=>?_) fun j ab=>?_
 ·rcases J with J|rfl
  ·exact .inl J
  ·exact .inr ⟨fun j h=>by have:=O j r h.1;omega,fun h=>by have:=V r h;omega⟩
 ·rcases J with J|J|J
  ·exact aa 3 j r (Ne.symm ab) J
  ·exact fun h=>(U r J.2 J.1).1 j h.1
  ·exact fun h=>by have:=h.2;omega
 ·rcases J with J|J|J
  ·exact al 3 r J
  ·exact fun h=>by have:=(U r J.2 J.1).2;have:=V r h;omega
  ·exact fun h=>by have:=V r h;omega
 ·unfold eW at J;split at J
  ·rcases J with J|J|J
   ·exact O 3 r J.1
   ·exact (U r J.2 J.1).2
   ·omega
  ·exact O j r J.1
 ·rw[W3 (Ne.symm ab)]
end
theorem kV {R:ag} {g:Nat} (h:am .i64 e w g v l):bi (fun r=>leads v r) R w [v] l:=by
 have h1:=ln (R:=R) h;by_cases J:v= .slice none 0 0
 ·subst J;have:l=[]:=by
   obtain⟨O,⟨_,I⟩|⟨_,_,I,_⟩⟩:=h
   ·exact b8 I
   ·cases I
  subst this;exact fQ
 ·obtain⟨O,⟨I,_⟩|⟨cap,cs,I,_⟩⟩:=id h
  ·exact absurd I J
  ·refine ai.mono h1 (fun r _ U=>?_) fun _ _ h=>h;rw[I];exact⟨_,_,_,rfl,U.symm⟩
theorem tZ {R:ag} {g:Nat} (J:∀ r c,ae w r U c→R r) (h:am .i64 U w g v l):Seen R w [v] l:=nK (kV (R:=fun _=>False) h) fun r V I=>by
 rcases I with I|I
 ·obtain⟨c,O⟩:=lS h r I;exact J r c O
 ·exact I.elim
theorem JE {R:ag} {zero:Int} (h:Seen R w [aq] sizes):bx true (fun _ _=>False) R w [.int .i64 k,aq,.int .i64 zero,.slice none 0 0,.slice none 0 0,.slice none 0 0,.slice none 0 0,.slice none 0 0] k sizes zero [] [] [] [] []:=
 ⟨_,_,_,_,_,_,rfl,h,fQ,fQ,fQ,fQ,fQ,fun _=>⟨fun _ _ _ _ h=>h.elim,fun _ _ h=>h.elim⟩⟩
theorem bx.at {m:Bool} {A:Nat→ag} {R:ag} {cs:List x1} {zero:Int} {D:List (List Int)} {G:List Bool} {aO:List (List Int)} {H:List gx} {E:List kg} (h:bx m A R w cs k sizes zero D G aO H E) (c:Nat) (I:c<8):∃ v,cs[c]? =some v:=⟨_,y0 (by rw[h.len.1];exact I)⟩
def JF (R:ag) (w:x2) (J O gs:Nat) (n:aS) (U:List x1) (i j:Nat) (I:x2):Prop:=Ext w I∧ae I J c4 U∧ae I O aK z12∧ ∃ A cs,ae I gs aK cs∧(∀ q r,A q r→gs<r)∧
 bx true A R I cs n.k n.sizes n.zero ((n.unary.take i).map fun u=>dA (newVar u)) (r9 i false) (n.unary.take i) ((n.funs.take j).map fun g=>eu (iE n.sizes g)) []
set_option maxHeartbeats 8000000 in
theorem Av {b4:x1} {n:aS} {R:ag} (a1:∀ r,R r→r<w.heap.size) (br:∀ r c,ae w r U c→R r) (c0:tK w b4 n) (aO:h3 n) (eK:n.funs.length≤256):af x3 BU [b4] w fun v w'=>Ext w w'∧ ∃ A cs,v= .agg cs.toArray∧gy true A R w' cs n.k n.sizes (dH n)∧ ∀ q r,A q r→w.heap.size≤r:=by
 have eL:=aO.sizes.2.1;have c1:=aO.iB;refine az func70 ?_;refine bL fun c2 J eM bz c3=>?_;obtain⟨aq,eN,b5,eO,b7,b8,eP,bA,a2,a6,c5,ca,bB,c6,cb⟩:=Jc c0 c3;refine bu aK.i fun ax c7 eQ a7 a8=>?_;have a8:ae c7 ax aK z12:=a8;have bC:=a2.ext a7;rw[V c4.p rfl,aa (v:=.int .i64 n.k) (by kernel_rfl) (bC.cell (o:=0+0) rfl),V c4.p rfl,aa (v:=aq) (by kernel_rfl) (bC.cell (o:=0+1) rfl),V c4.p rfl,aa (v:=.int .i64 n.zero) (by kernel_rfl) (bC.cell (o:=0+2) rfl),
  cH (cs:=#[.int .i64 n.k,aq,.int .i64 n.zero,.slice none 0 0,.slice none 0 0,.slice none 0 0,.slice none 0 0,.slice none 0 0]) (by obtain⟨_,_,_,e⟩:=bH a6.ls;rw[e];kernel_rfl)]
 refine bu aK.i fun gs eR eS ba c8=>?_;have c9:Seen R w [aq] n.sizes:=tZ br a6;have eU:=bz.size;have eV:=a7.size;have z3:=ba.size;have da:=(bz.trans a7).trans ba;have cc:=JE (k:=n.k) (zero:=n.zero) (bO c9 da);refine bN (vs:=[.int .i64 n.k,aq,.int .i64 n.zero,.slice none 0 0,.slice none 0 0,.slice none 0 0,.slice none 0 0,.slice none 0 0]) aK.i rfl rfl cc.len.2 c8 fun db bD eW dc=>?_;have eX:=a8.lt;have eY:=a2.lt;have dd:ax≠gs:=by omega
 have bE:Ext J db:=(a7.trans ba).then bD fun r I he=>by have he:r=gs:=he;omega
 have cd:=bz.trans bE;have de:=(a8.ext ba).O bD fun he=>dd he;have eZ:w.heap.size<gs:=by omega
 rw[V c4.p rfl,aa (v:=aq) (by kernel_rfl) ((a2.ext bE).cell (o:=0+1) rfl),aL ac.u (a6.ext cd).ls];have df:=cc.O bD fun r I h he=>by
  have he:r=gs:=he;rcases h with⟨_,h⟩|h
  ·exact h
  ·have:=a1 r h;omega
 refine bJ.range n.sizes.length (fun i aA=>JF R w c2 ax gs n [.int .i64 n.k,aq,.int .i64 n.zero,b5,b8] i 0 aA) (by omega) ⟨cd,a2.ext bE,de,_,_,dc,(fun _ _ h=>h.elim),df⟩ ?_ ?_
 ·rintro i aA dg hi ⟨aB,bF,bG,A,cs,aP,bI,bb⟩ dh;obtain⟨z,bK⟩:∃ z,n.sizes[i]? =some z:=⟨_,y0 hi⟩;obtain⟨u,hu⟩:∃ u,n.unary[i]? =some u:=⟨_,y0 (by omega)⟩;have e0:=aO.sizes.2.2 z (x5 bK);obtain⟨e1,_⟩:=aO.unary i z u bK hu;rw[an,ab];refine⟨fun _=>?_,fun h=>by omega⟩;rw[aZ ac.u U.i (by kernel_rfl) (a6.ext aB).ls bK];obtain⟨ce,rfl⟩:∃ m:Nat,z=m:=⟨z.toNat,by omega⟩;refine bt.range ce (fun j aQ bc=>Ext aA bc∧ ∃ g,am .i64 U bc g aQ ((X7 j).map fun v:Nat=>(v:Int))∧ ∀ r,leads aQ r→aA.heap.size≤r) (by omega)
   ⟨Ext.refl _,0,am.nil _ _ _ _,fun r I=>by obtain⟨a,n,c,al,aC⟩:=I;cases al⟩ ?_ ?_
  ·rintro j aQ bc bM bP ⟨ao,di,aD,bd⟩ bQ;rw[an,ab];refine⟨fun _=>?_,fun h=>by omega⟩;refine dx (k:=.i64) ac.u U.i rfl fun e2 e3 dk e4 aj dl=>?_;refine fx ac.u U.i rfl (aD.ext aj) dl.ls (by simp;omega) (by simp;omega) fun e5 dm dn dp dq aE=>?_;rw[aI];have dr:=ao.size;have ds:=aj.size;refine bQ _ _ ⟨(ao.trans aj).then aE fun r I he=>by have:=bd r he;omega,dm,?_,fun r I=>(dq r I).elim (bd r) fun h=>by omega⟩;rw[List.range_succ,b6];exact dp
  rintro aQ bc bM ⟨ao,di,aD,bd⟩;rw[an,ab];refine⟨fun h=>by omega,fun _=>?_⟩;have dt:(X7 ce).map (fun v:Nat=>(v:Int))=dA (newVar u):=by rw[Jd];congr 2;omega
  rw[dt] at aD;have dr:=ao.size;have e6:=aB.size;have e7:=aP.lt;have aR:∀ r,R r→r<gs:=fun r I=>by have:=a1 r I;omega
  have low:∀ {W Y:x2} {b:Nat} {e:r8} {c:List x1},ad (fun r=>gs≤r) W Y→b<gs→ae W b e c→ae Y b e c:=fun ap du h=>h.O ap fun aF=>by have aF:gs≤_:=aF;omega
  have aU:∀ {W Y:x2},Ext w W→ad (fun r=>gs≤r) W Y→Ext w Y:=fun bR ap=>bR.then ap fun r I h=>by have h:gs≤r:=h;omega
  have cg:=bb.old.ext ao;have dv:∀ q r,(A q r∧r<aA.heap.size)→gs<r:=fun q r h=>bI q r h.1;obtain⟨dw,ch⟩:=cg.at 3 (by omega);rw[V aK.p rfl,aa (v:=dw) (by kernel_rfl) ((aP.ext ao).cell (o:=0+3) ch)];refine hF cQ.u ac.i (by decide) (a:=dA (newVar u)) (cs:=[aQ]) aD.ls.cells.1 (kV (R:=R) aD) fun e8 dk aj _ dy=>?_;have ds:=aj.size;have be:=ao.trans aj;refine bx.JA (cg.ext aj) (aP.ext be) ch dv aR dy (bO (kV (R:=R) aD) aj) (fun r I h=>?_) (by simp;omega) fun e9 fa dn aE ci cj dz _=>?_
  ·have:=bd r h;exact⟨fun j h=>by omega,by omega⟩
  have fb:=aE.size;obtain⟨dC,cl⟩:=cj.at 4 (by omega);rw[V aK.p rfl,aa (v:=dC) (by kernel_rfl) (ci.cell (o:=0+4) cl)];refine hF (a:=false) (cs:=[.bool false]) (A:=fun _=>False) (R:=R) ew.u ea.i (by decide) rfl rfl fun fc fd aH _ dD=>?_;refine bx.JB (a:=false) (xs:=[.bool false]) (B:=fun _=>False) (cj.ext aH) (ci.ext aH) cl dz aR dD rfl (fun r I h=>h.elim) (by simp;omega) fun dE fe cm bf cn dF dG _=>?_;have z9:=aH.size;have ff:=bf.size;have dI:Ext w cm:=aU ((aU (aB.trans be) aE).trans aH) bf;have dJ:=low bf (by omega) ((low aE (by omega) (bF.ext be)).ext aH);have dK:=low bf (by omega) ((low aE (by omega) (bG.ext be)).ext aH);intro bS aJ _ _;have cp:=cn.ext aJ;have cr:=dJ.ext aJ;have ct:=dI.trans aJ;obtain⟨aM,bg⟩:∃ aM,b7[i]? =some aM:=⟨_,y0 (by have:=congrArg T9 ca;rw[u5] at this;omega)⟩;have dL:aM.l=u:=by
   have cu:(b7.map (·.l))[i]? =some aM.l:=by rw[x8,bg];rfl
   rw[ca,hu] at cu;exact (b9 cu).symm
  have bT:=c5.ext ct;obtain⟨fg,cw⟩:=bT.2 aM (x5 bg);rw[dL] at cw;have cz:=dF.old.ext aJ;have dM:∀ q r,(dE q r∧r<cm.heap.size)→gs<r:=fun q r h=>dG q r h.1;obtain⟨dN,cA⟩:=cz.at 5 (by omega);rw[V aK.p rfl,aa (v:=dN) (by kernel_rfl) (cp.cell (o:=0+5) cA),V c4.p rfl,aa (v:=b5) (by kernel_rfl) (cr.cell (o:=0+3) rfl),cT rfl ek.u au.i bT.1 (x4.1 bg).1,aa (v:=aM.v) (o:=i*1) (by kernel_rfl) (bT.1.range bg 0 _ rfl)];refine tN (k:=.i64) au.u ak.i fun dO fh fi fj bh cB=>?_;refine⟨.inl bh,?_⟩;refine fx au.u ak.i rfl cB (cw.ext bh).ls (by simp;omega) (by simp;omega) fun cC fk dP bj dQ dR=>?_;rw[List.nil_append] at bj;have fl:=aJ.size;have fm:=bh.size;have cD:∀ r,leads dO r→bS.heap.size≤r:=fun r I=>by have:=(bn cB I).1;omega
  have dS:∀ r,leads cC r→bS.heap.size≤r:=fun r I=>(dQ r I).elim (cD r) fun h=>by omega
  have bU:Ext bS dP:=bh.then dR fun r I he=>by have:=cD r he;omega
  refine⟨.inl bU,?_⟩;have fo:=bU.size;refine hF ek.u au.i (by decide) (a:=u) (cs:=[cC]) bj.ls.cells.1 (kV (R:=R) bj) fun fp fq bV _ dT=>?_;have fs:=bV.size;have aN:=bU.trans bV;refine⟨.inl aN,?_⟩;refine bx.JC (cz.ext aN) (cp.ext aN) cA dM aR dT (bO (kV (R:=R) bj) bV) (fun r I h=>?_) (by simp;omega) fun dU dV ft bW dW dX dY _=>?_
  ·have:=dS r h;have:=cn.lt;exact⟨fun j h=>by omega,by omega⟩
  rw[aI];refine dh _ ⟨aU (ct.trans aN) bW,low bW (by omega) (cr.ext aN),low bW (by omega) ((dK.ext aJ).ext aN),dU,dV,dW,dY,?_⟩;rw[u9,hu,Z0,b6,T4,List.map_nil,List.replicate_succ'];exact dX
 rintro aA dg ⟨aB,bF,bG,A,cs,aP,bI,bb⟩;rw[an,ab];refine⟨fun h=>by omega,fun _=>?_⟩;rw[l5 (by omega)] at bb;have fu:bA.length=n.funs.length:=by rw[←cb,u5]
 have dZ:=bB.ext aB;rw[V c4.p rfl,aa (v:=b8) (by kernel_rfl) (bF.cell (o:=0+4) rfl),ef cq.u dZ];have aR:∀ r,R r→r<gs:=fun r I=>by have:=a1 r I;omega
 have low:∀ {W Y:x2} {b:Nat} {e:r8} {c:List x1},ad (fun r=>gs≤r) W Y→b<gs→ae W b e c→ae Y b e c:=fun ap du h=>h.O ap fun aF=>by have aF:gs≤_:=aF;omega
 have aU:∀ {W Y:x2},Ext w W→ad (fun r=>gs≤r) W Y→Ext w Y:=fun bR ap=>bR.then ap fun r I h=>by have h:gs≤r:=h;omega
 refine bJ.range bA.length (fun j ai=>Ext w ai∧ae ai ax aK z12∧ ∃ A cs,ae ai gs aK cs∧(∀ q r,A q r→gs<r)∧
  bx true A R ai cs n.k n.sizes n.zero (n.unary.map fun u=>dA (newVar u)) (r9 n.sizes.length false) n.unary ((n.funs.take j).map fun g=>eu (iE n.sizes g)) []) bB.le ⟨aB,bG,A,cs,aP,bI,bb⟩ ?_ ?_
 ·rintro j ai bM bP ⟨av,bX,bY,bk,bl,bm,aV⟩ bQ;obtain⟨y,bZ⟩:∃ y,bA[j]? =some y:=⟨_,y0 bP⟩;have cE:n.funs[j]? =some (cW y):=by rw[←cb,x8,bZ];rfl
  have cF:=(aO.funs (cW y) (x5 cE)).1;have fv:y.cs.length≤4096:=by
   have h1:y.cs.length=_:=cF.len;have aF:=cF.small;omega
  have cG:=c6 y (x5 bZ);have cI:=cG.ext av;have cJ:=bB.ext av;rw[an,ab];refine⟨fun _=>?_,fun h=>by omega⟩;rw[cT rfl cq.u aT.i cJ bP,bw aT.p aT.i rfl (cJ.range bZ)];refine bu aT.i fun eb fw fy ec ed=>?_;refine bN (vs:=cO y) aT.i rfl rfl cI.one ed fun ee eg fz eh=>?_;have ei:Ext ai ee:=ec.then eg fun r I he=>by have he:r=eb:=he;omega
  intro b0 cK _ _;have aw:=ei.trans cK;have cL:=bl.ext aw;have b1:=eh.ext cK;have ej:=cI.ext aw;obtain⟨⟨fA,cM⟩,⟨fB,cN⟩,fC,em⟩:=id ej;have cP:=aV.old.ext aw;have en:∀ q r,(bY q r∧r<ai.heap.size)→gs<r:=fun q r h=>bm q r h.1;obtain⟨eo,cR⟩:=cP.at 6 (by omega);rw[V aK.p rfl,aa (v:=eo) (by kernel_rfl) (cL.cell (o:=0+6) cR),V aT.p rfl,aa (v:=y.ay) (by kernel_rfl) (b1.cell (o:=0+0) rfl),V aT.p rfl,aa (v:=y.aq) (by kernel_rfl) (b1.cell (o:=0+1) rfl),V aT.p rfl,aa (v:=y.aG) (by kernel_rfl) (b1.cell (o:=0+2) rfl)];refine tN (k:=.i64) au.u ak.i fun v25 fD fE fF bo cS=>?_;refine⟨.inl bo,?_⟩;refine fx au.u ak.i rfl cS (em.ext bo).ls (by simp;omega) (by simp;omega) fun ah fG cU bp ep er=>?_;rw[List.nil_append] at bp;have fH:=aw.size;have z25:=bo.size;have cV:∀ r,leads v25 r→b0.heap.size≤r:=fun r I=>by have:=(bn cS I).1;omega
  have es:∀ r,leads ah r→b0.heap.size≤r:=fun r I=>(ep r I).elim (cV r) fun h=>by omega
  have bq:Ext b0 cU:=bo.then er fun r I he=>by have:=cV r he;omega
  refine⟨.inl bq,?_⟩;rw[cH (cs:=#[y.ay,y.aq,ah]) (by obtain⟨_,_,_,al⟩:=bH cM.ls;obtain⟨_,_,_,aC⟩:=bH cN.ls;obtain⟨_,_,_,aX⟩:=bH bp.ls;rw[al,aC,aX];kernel_rfl),
   cH (cs:=#[y.ay,y.aq,ah,.bool true]) (by obtain⟨_,_,_,al⟩:=bH cM.ls;obtain⟨_,_,_,aC⟩:=bH cN.ls;obtain⟨_,_,_,aX⟩:=bH bp.ls;rw[al,aC,aX];kernel_rfl)]
  have fI:=bq.size;have cX:=(av.trans aw).trans bq;obtain⟨⟨aW,et⟩,⟨fJ,ev⟩,_⟩:=id cG;have own:bi (α:=gx) (fun r=>leads ah r) R cU [y.ay,y.aq,ah,.bool true] (eu (iE n.sizes (cW y))):=by
   refine⟨[y.ay,y.aq,ah],[.bool true],fun r=>leads ah r,fun _=>False,rfl,fun _ h=>h,fun _ h=>h.elim,fun _ _ _ h=>h,⟨[y.ay],[y.aq,ah],fun _=>False,fun r=>leads ah r,rfl,fun _ h=>h.elim,fun _ h=>h,fun _ _ h=>h.elim,?_,[y.aq],[ah],fun _=>False,fun r=>leads ah r,rfl,fun _ h=>h.elim,fun _ h=>h,fun _ _ h=>h.elim,?_,?_⟩,rfl⟩
   ·exact bO (tZ br et) cX
   ·exact bO (tZ br ev) cX
   ·exact kV bp
  refine hF ck.u dj.i (by decide) rfl own fun fK fL b2 _ ey=>?_;have fM:=b2.size;have aY:=bq.trans b2;refine⟨.inl aY,?_⟩;refine bx.JD (cP.ext aY) (cL.ext aY) cR en aR ey (bO own b2) (fun r I h=>?_) (by simp;omega) fun eA eB fN cY eC eD eE _=>?_
  ·have:=es r h;have:=bl.lt;exact⟨fun j h=>by omega,by omega⟩
  rw[aI];refine bQ _ ⟨aU (av.trans (aw.trans aY)) cY,low cY (by omega) (bX.ext (aw.trans aY)),eA,eB,eC,eE,?_⟩;rw[u9,cE,Z0,b6,T4,List.map_nil];exact eD
 rintro ai bM ⟨av,bX,bY,bk,bl,bm,aV⟩;rw[l5 (by omega)] at aV;rw[an,ab];refine⟨fun h=>by omega,fun _=>?_⟩;obtain⟨b3,eF⟩:=aV.len;rw[bw aK.p aK.i b3 (show ai.rangeAt gs 0 bk from bl.range)];refine bN (vs:=bk) aK.i b3 rfl eF bX fun fO cZ fP eH=>?_;rw[ez aK.p aK.i b3 eH.range];have eI:=aV.O cZ fun r I h he=>by
  have he:r=ax:=he;rcases h with⟨q,h⟩|h
  ·have:=bm q r h;omega
  ·have:=a1 r h;omega
 have fQ:=av.size;refine⟨av.then cZ fun r I he=>by have he:r=ax:=he;omega,bY,bk,rfl,?_,fun q r h=>by have:=bm q r h;omega⟩;have al:(dH n).vars.map dA=n.unary.map fun u=>dA (newVar u):=by show (n.unary.map newVar).map dA=_;rw[List.map_map];rfl
 have aC:(dH n).vars.map (fun x=>decide (x.gone≠0))=r9 n.sizes.length false:=by
  show (n.unary.map newVar).map _=_;rw[List.map_map,←c1];exact List.map_const' ..
 have aX:(dH n).vars.map (·.un)=n.unary:=by show (n.unary.map newVar).map _=_;rw[List.map_map];exact List.map_id _
 have eJ:(dH n).funs.map eu=n.funs.map fun g=>eu (iE n.sizes g):=by show (n.funs.map (iE n.sizes)).map eu=_;rw[List.map_map];rfl
 unfold gy;rw[al,aC,aX,eJ];exact eI
def kh (w:x2) (g:Nat) (k:Int) (sizes:List Int) (s:aF):Prop:=∃ aq I J O U V,ae w g aK [.int .i64 k,aq,.int .i64 s.zero,I,J,O,U,V]∧aB .i64 w aq sizes∧Seen eN w [aq] sizes∧
 Seen eN w [I] (s.vars.map dA)∧Seen eN w [J] (s.vars.map fun x=>decide (x.gone≠0))∧Seen eN w [O] (s.vars.map (·.un))∧Seen eN w [U] (s.funs.map eu)∧Seen eN w [V] (s.elims.map oY)
section
variable {w w':x2} {g:Nat} {v:x1} {k:Int} {sizes:List Int} {s:aF}
theorem kh.ext (h:kh w g k sizes s) (I:Ext w w'):kh w' g k sizes s:=by
 obtain⟨aq,J,O,U,V,W,Y,h1,aa,ab,ac,ad,ae,af⟩:=h;exact⟨aq,J,O,U,V,W,Y.ext I,h1.ext I,bO aa I,bO ab I,bO ac I,bO ad I,bO ae I,bO af I⟩
theorem ia.box (h:ia w v k sizes s) (I:Ext w w') (J:ae w' g aK v.cells.toList):kh w' g k sizes s:=by
 obtain⟨cs,rfl,aq,aa,ab,ac,ad,af,rfl,h1,O,U,V,W,Y,_⟩:=h;obtain⟨_,_,_,ah⟩:=bH (ff h1);have c:∀ {α:Type} [ai α] {v:x1} {l:List α} {A:ag},ai.rep false A eN w [v] l→ ∃ a n c,v= .slice a n c:=fun h=>by
  obtain⟨_,_,_,_,_,⟨_,b,o,base,cap,e,_⟩,_⟩:=gj h;exact⟨_,_,_,e⟩
 obtain⟨_,_,_,aj⟩:=c O;obtain⟨_,_,_,ak⟩:=c U;obtain⟨_,_,_,al⟩:=c V;obtain⟨_,_,_,am⟩:=c W;obtain⟨_,_,_,an⟩:=c Y;refine⟨aq,aa,ab,ac,ad,af,?_,(ff h1).ext I,bO h1 I,bO O I,bO U I,bO V I,bO W I,bO Y I⟩;rw[ah,aj,ak,al,am,an] at J ⊢;exact J
theorem kh.load {K:x1→Prop} (h:kh w g k sizes s) (J:∀ u,ia w u k sizes s→K u):I x3 (x6 aK (.pointer (some ⟨g,0,none⟩))) w K:=by
 obtain⟨aq,O,U,V,W,Y,aa,h1,ab,ac,ad,ae,af,ag⟩:=h;rw[bw aK.p aK.i rfl aa.range];exact J _ ⟨_,rfl,aq,O,U,V,W,Y,rfl,ab,ac,ad,ae,af,ag,fun h=>by cases h⟩
theorem o1 {i:Int} (h:ia w v k sizes s):af x3 mi [v,.int .i64 i] w fun r w'=>r= .bool (decide (0≤i∧i<sizes.length))∧Ext w w':=by
 refine az func33 ?_;refine bL fun ae J ag I O=>?_;obtain⟨aq,ah,ai,aj,ak,al,O,Y,_⟩:=h.box I O;refine aM (fun v ad=>v= .bool (decide (0≤i∧i<sizes.length))∧Ext w ad) (fun _ _ h=>h) fun am U=>?_;rw[cm,ab];refine⟨fun W=>?_,fun W=>U _ _ ⟨by rw[decide_eq_false];omega,I⟩⟩;rw[V aK.p rfl,aa (v:=aq) (by kernel_rfl) (O.cell (o:=0+1) rfl),aL ac.u Y,an];refine U _ _ ⟨?_,I⟩;congr 1;exact decide_eq_decide.2 ⟨fun h=>⟨W,h⟩,fun h=>h.2⟩
theorem q4 {m:Bool} {S R:ag} {cs:List x1} {f:eF} (h:ai.rep (α:=gx) m S R w cs (eu f)):∃ ay aq aG,cs=[ay,aq,aG,.bool (decide (f.live≠0))]∧Seen eN w [ay] f.sc∧Seen eN w [aq] f.szs∧Seen eN w [aG] f.cs:=by
 obtain⟨ae,U,A,B,rfl,_,_,_,⟨V,af,ah,aj,rfl,_,_,_,h1,W,Y,ak,aa,rfl,_,_,_,I,J⟩,O⟩:=h;have one:∀ {α:Type} [ai α] {m:Bool} {S R:ag} {c:List x1} {l:List α},ai.rep m S R w c l→ ∃ v,c=[v]:=fun h=>by obtain⟨v,ab,_⟩:=h;exact⟨v,ab⟩
 have h1:Seen _ w V f.sc:=h1;have I:Seen _ w W f.szs:=I;have O:U=[.bool (decide (f.live≠0))]:=O;have J:ai.rep m aa R w Y f.cs:=J;obtain⟨ac,rfl⟩:=one h1;obtain⟨ad,rfl⟩:=one I;obtain⟨v3,rfl⟩:=one J;subst O;exact⟨ac,ad,v3,rfl,iY h1,iY I,iY J⟩
theorem ua {j:Int} (h:ia w v k sizes s):af x3 rQ [v,.int .i64 j] w fun r w'=>r= .bool (decide (0≤j)&&dS s j.toNat)∧Ext w w':=by
 refine az func31 ?_;refine bL fun ai J aj I O=>?_;obtain⟨aq,ak,al,am,Y,ao,O,ap,_,_,_,_,ac,_⟩:=h.box I O;refine aM (fun v ae=>v= .bool (decide (0≤j)&&dS s j.toNat)∧Ext w ae) (fun _ _ h=>h) fun au U=>?_;rw[cm,ab];refine⟨fun W=>?_,fun W=>U _ _ ⟨by rw[decide_eq_false W];rfl,I⟩⟩;rw[V aK.p rfl,aa (v:=Y) (by kernel_rfl) (O.cell (o:=0+6) rfl),fR ck.u ac,an,ab,u5];refine⟨fun av=>?_,fun aw=>U _ _ ⟨by unfold dS;rw[Z9 (by omega),Bool.and_false],I⟩⟩;obtain⟨f,ad⟩:∃ f,s.funs[j.toNat]? =some f:=⟨_,y0 (by omega)⟩;rw[V aK.p rfl,aa (v:=Y) (by kernel_rfl) (O.cell (o:=0+6) rfl)];refine mu (i:=j.toNat) (by omega) ck.u dj.i ac (by rw[x8,ad];rfl) fun b o cs ag ah=>?_;obtain⟨ax,ay,v3,rfl,_⟩:=q4 ah;rw[V dj.p rfl,aa (v:=.bool (decide (f.live≠0))) (by kernel_rfl) (ag 3 _ rfl)];exact U _ _ ⟨by unfold dS;rw[ad,decide_eq_true W,Bool.true_and],I⟩
theorem JG {f:eF} {U:List Int} (h:ia w v k sizes s) (Y:et k sizes s) (W:s.funs[j]? =some f) (ab:aB .i64 w aA U):af x3 vG [v,.int .i64 (j:Int),aA] w fun r w'=>r= .int .i64 (mF (bm f.szs) U)∧Ext w w':=by
 refine az func84 ?_;refine bL fun ak J al I O=>?_;obtain⟨aq,am,an,ao,ac,ap,O,au,_,_,_,_,ad,_⟩:=h.box I O;rw[V aK.p rfl,aa (v:=ac) (by kernel_rfl) (O.cell (o:=0+6) rfl)];refine mu (i:=j) rfl ck.u dj.i ad (by rw[x8,W];rfl) fun b o cs ae ag=>?_;obtain⟨av,ah,v3,rfl,_,ai,_⟩:=q4 ag;rw[V dj.p rfl,V aT.p rfl,aa (v:=ah) (by kernel_rfl) (ae 1 _ rfl)];refine (EK (ff ai) (oU Y (x5 W)).1 (ab.ext I)).mono ?_;rintro _ aw _ ⟨rfl,aj⟩;exact⟨rfl,I.trans aj⟩
end
theorem JH {T:Nat→Prop} (h:ad S w w') (k:ad T w w'):ad (fun r=>S r∧T r) w w':=
 ⟨h.size,fun r o I J U=>by
  by_cases O:S r
  ·exact k.ba r o I J fun V=>U ⟨O,V⟩
  ·exact h.ba r o I J O⟩
structure db where
 d:Int
 i:Int
 v:Int
 j:Int
 c:Int
 t:List Int
 sc:List Int
 co:List Int
 ki:Bool
def db.ok (a:db):Prop:=(0≤a.d∧a.d<256)∧(-9223372036854775808≤a.i∧a.i<9223372036854775808)∧(-9223372036854775808≤a.v∧a.v<9223372036854775808)∧(-9223372036854775808≤a.j∧a.j<9223372036854775808)∧(-9223372036854775808≤a.c∧a.c<9223372036854775808)∧(∀ x∈a.t,-9223372036854775808≤x∧x<9223372036854775808)∧(∀ x∈a.sc,-9223372036854775808≤x∧x<9223372036854775808)∧ ∀ x∈a.co,0≤x∧x<65536
def lU (w:x2) (cn:x1) (a:db):Prop:=a.ok∧ ∃ aA ay ce,cn= .agg #[.int .u8 a.d,.int .i64 a.i,.int .i64 a.v,.int .i64 a.j,.int .i64 a.c,aA,ay,ce,.bool a.ki]∧aB .i64 w aA a.t∧aB .i64 w ay a.sc∧aB .u16 w ce a.co
theorem lU.ext {a:db} (h:lU w cn a) (I:Ext w w'):lU w' cn a:=by
 obtain⟨J,aA,ay,ce,h1,O,U,V⟩:=h;exact⟨J,aA,ay,ce,h1,O.ext I,U.ext I,V.ext I⟩
def bV (k:Int) (a:db):Int:=if a.ki then a.c.emod 18446744073709551616 % (k+1) else a.c
structure dT (w:x2) (g:Nat) (k:Int) (a:db) (aA ay ce:x1) (B:Nat):Prop where
 c0:ae w g aN [.int .u8 a.d,.int .i64 a.i,.int .i64 a.v,.int .i64 a.j,.int .i64 (bV k a),aA,ay,ce,.bool a.ki]
 t:∃ g,am .i64 U w g aA (a.t.take 40)
 sc:∃ g,am .i64 U w g ay (a.sc.take 4)
 low:B≤g∧ ∀ r,leads aA r∨leads ay r→B≤r
theorem dT.O {g:Nat} {a:db} {ce:x1} {S:ag} (h:dT w g k a aA ay ce B) (U:ad S w w') (V:∀ r,r<w.heap.size→S r→r<B):dT w' g k a aA ay ce B:=by
 obtain⟨h1,⟨ab,Y⟩,⟨ac,aa⟩,ae,W⟩:=h;refine⟨h1.O U fun I=>?_,⟨ab,a6 Y U fun r J I=>?_⟩,⟨ac,a6 aa U fun r J I=>?_⟩,ae,W⟩
 ·have:=V g h1.lt I;omega
 ·obtain⟨af,ah⟩:=bn Y J;have:=V r (by omega) I;have:=W r (.inl J);omega
 ·obtain⟨af,ah⟩:=bn aa J;have:=V r (by omega) I;have:=W r (.inr J);omega
theorem dT.ext {g:Nat} {a:db} {ce:x1} (h:dT w g k a aA ay ce B) (I:Ext w w'):dT w' g k a aA ay ce B:=h.O (I.O fun _=>False) fun _ _ h=>h.elim
theorem q5 {A R:ag} {n:aS} {s:aF} {t:aH} (h:cp w aj ah A R n s t):∀ r,A r∨R r→r<w.heap.size:=fun r I=>by
 obtain⟨U,V,W,Y,⟨_,_,J,O⟩,_⟩:=h.1;exact I.elim (O r) (J r)
structure bE (w:x2) (aj ah al:Nat) (A R:ag) (A9:Nat→ag) (aQ:ag) (n:aS) (s u:aF) (t:aH) (h:List aH) (cs:List x1):Prop where
 cE:cp w aj ah A R n s t
 js:gG t h
 box:ae w al aK cs
 doc:gy true A9 aQ w cs n.k n.sizes u
 apart:∀ q r,A9 q r→¬A r∧¬R r∧r≠al
 read:∀ r,aQ r→¬dz w r∧r<w.heap.size∧r≠al
 out:¬A al∧¬R al
section
variable {w w':x2} {aj ah al:Nat} {A R:ag} {A9:Nat→ag} {aQ:ag} {n:aS} {s u:aF} {t:aH} {h:List aH} {cs:List x1}
theorem bE.ext (p:bE w aj ah al A R A9 aQ n s u t h cs) (I:Ext w w'):bE w' aj ah al A R A9 aQ n s u t h cs:=
 ⟨p.cE.ext I,p.js,p.box.ext I,p.doc.ext I,p.apart,fun r J=>⟨fun h=>(p.read r J).1 (m8 (fun o O U _=>I.ba r o O U) h),by have:=(p.read r J).2.1;have:=I.size;omega,(p.read r J).2.2⟩,p.out⟩
theorem bE.prog {W R':ag} {s':aF} {Y:aH} {h':List aH} (p:bE w aj ah al A R A9 aQ n s u t h cs) (aa:ad (dz w) w w') (U:Grow A w W w') (ac:cp w' aj ah W R' n s' Y) (V:gG Y h') (ab:∀ r,R' r→R r∨B≤r) (ae:∀ q r,A9 q r→r<w.heap.size→r<B) (an:al<B):
  bE w' aj ah al W R' (fun q r=>A9 q r∧r<w.heap.size) aQ n s' u Y h' cs:=by
 have ao:=p.box.lt;have z:=aa.size;refine⟨ac,V,p.box.O U.1 p.out.1,bx.O p.doc.old (JH aa U.1) fun r J h V=>?_,fun q r h=>⟨fun I=>?_,fun J=>(ab r J).elim (p.apart q r h.1).2.1 fun af=>by have:=ae q r h.1 h.2;omega,(p.apart q r h.1).2.2⟩,fun r J=>⟨fun h=>?_,by have:=(p.read r J).2.1;omega,(p.read r J).2.2⟩,fun I=>?_,fun J=>(ab al J).elim p.out.2 fun af=>by omega⟩
 ·rcases h with⟨q,h⟩|h
  ·exact (p.apart q r h.1).1 V.2
  ·exact (p.read r h).1 V.1
 ·rcases U.2.1 r I with I|I
  ·exact (p.apart q r h.1).1 I
  ·have:=h.2;omega
 ·exact (p.read r J).1 (m8 (fun o ai ak am=>aa.ba r o ai ak am) h)
 ·rcases U.2.1 al I with I|I
  ·exact p.out.1 I
  ·omega
theorem bE.Aw {S:ag} {bz:Nat→ag} {u':aF} {bU:List x1} (p:bE w aj ah al A R A9 aQ n s u t h cs) (U:ad S w w') (aa:∀ r,r<w.heap.size→S r→(∃ q,A9 q r)∨r=al) (ab:ae w' al aK bU) (ac:gy true bz aQ w' bU n.k n.sizes u') (af:∀ q r,bz q r→(∃ V,A9 V r)∨(¬A r∧¬R r∧r≠al)):
  bE w' aj ah al A R bz aQ n s u' t h bU:=by
 have an:=p.box.lt;have z:=U.size;have ai:∀ q r,A9 q r→¬aQ r:=by obtain⟨_,_,_,_,_,_,_,_,_,_,_,_,_,ak⟩:=p.doc;exact (ak rfl).2
 refine⟨⟨p.cE.1.O U fun r J h W=>?_,p.cE.2⟩,p.js,ab,ac,fun q r h=>?_,fun r J=>⟨fun h=>(p.read r J).1 (m8 (fun o am W _=>U.ba r o am W fun I=>?_) h),by have:=(p.read r J).2.1;omega,(p.read r J).2.2⟩,p.out⟩
 ·rcases aa r J W with⟨q,I⟩|I
  ·exact h.elim (p.apart q r I).1 (p.apart q r I).2.1
  ·subst I;exact h.elim p.out.1 p.out.2
 ·rcases af q r h with⟨V,I⟩|I
  ·exact p.apart V r I
  ·exact I
 ·rcases aa r (p.read r J).2.1 I with⟨q,Y⟩|Y
  ·exact ai q r Y J
  ·exact (p.read r J).2.2 Y
theorem bE.JI {S:ag} {bz:Nat→ag} {u':aF} {bU:List x1} (p:bE w aj ah al A R A9 aQ n s u t h cs) (J:∀ r,A r∨R r→r<B) (ab:al<B) (O:ad S w w') (U:∀ r,r<w.heap.size→S r→(∃ q,A9 q r)∨r=al) (V:ae w' al aK bU) (W:gy true bz aQ w' bU n.k n.sizes u') (Y:∀ q r,bz q r→(∃ aa,A9 aa r)∨B≤r):
  bE w' aj ah al A R bz aQ n s u' t h bU:=
 p.Aw O U V W fun q r h=>(Y q r h).imp id fun ac=>⟨fun I=>by have:=J r (.inl I);omega,fun I=>by have:=J r (.inr I);omega,by omega⟩
theorem bE.ub {S:ag} {bz:Nat→ag} {u':aF} {bU:List x1} (p:bE w aj ah al A R A9 aQ n s u t h cs) (I:ad S w w') (J:∀ r,r<w.heap.size→S r→(∃ q,A9 q r)∨r=al) (O:ae w' al aK bU) (U:gy true bz aQ w' bU n.k n.sizes u') (V:∀ q r,bz q r→(∃ W,A9 W r)∨w.heap.size≤r):
  bE w' aj ah al A R bz aQ n s u' t h bU:=p.JI (q5 p.cE) p.box.lt I J O U V
theorem bE.look (p:bE w aj ah al A R A9 aQ n s u t h cs):kh w al n.k n.sizes u:=by
 refine ia.box p.doc.Jx (Ext.refl _) ?_;have:=p.box;exact this
theorem bE.Ax (p:bE w aj ah al A R A9 aQ n s u t h cs):∃ aq I J O U V,cs=[.int .i64 n.k,aq,.int .i64 u.zero,I,J,O,U,V]∧aB .i64 w aq n.sizes:=by
 obtain⟨aq,I,J,O,U,V,h1,W,_⟩:=p.doc;exact⟨aq,I,J,O,U,V,h1,ff W⟩
end
section
variable {w:x2} {aj ah al:Nat} {A R:ag} {A9:Nat→ag} {aQ:ag} {n:aS} {s u:aF} {t:aH} {h:List aH} {cs:List x1}
set_option maxHeartbeats 2000000 in
theorem JJ {w0:x2} {a:db} {W ce:x1} {aW:Nat} {K:x1→x1→x1→x2→Prop} (p:bE w0 aj ah al A R A9 aQ n s u t h cs) (bX:a.ok) (aH:aB .i64 w0 aA a.t) (bw:aB .i64 w0 ay a.sc) (bY:W= .pointer (some ⟨aW,0,none⟩))
  (a8:Ext w0 w) (bZ:w0.heap.size≤aW) (aU:ae w aW aN [.int .u8 a.d,.int .i64 a.i,.int .i64 a.v,.int .i64 a.j,.int .i64 a.c,aA,ay,ce,.bool a.ki])
  (b0:∀ aJ aO w',Ext w0 w'→dT w' aW n.k a aJ aO ce w0.heap.size→K (.bool (decide (ej n a.i a.v))) (.bool (decide (0≤bV n.k a∧bV n.k a≤n.k))) (.int .u8 (a.d % 9)) w'):
 be (α:=x2→Prop) (fun(az:x2)=>
  cj az fun Y=>
  I x3 (x7 aN W 5) Y fun b1=>
  I x3 (x6 ac b1) Y fun b2=>
  I x3 (x7 aN W 5) Y fun b3=>
  I x3 (x6 ac b3) Y fun t45=>
  I x3 (Z5 #[ac] U #[t45]) Y fun t46=>
  I x3 (n0.min_ #[U,U] U #[t46,(.int .i64 40)]) Y fun b4=>
  I x3 (X6 ac b2 none (some b4) none) Y fun b6=>
  I x3 (x7 aN W 6) Y fun t50=>
  I x3 (x6 ac t50) Y fun ba=>
  I x3 (x7 aN W 6) Y fun bc=>
  I x3 (x6 ac bc) Y fun t53=>
  I x3 (Z5 #[ac] U #[t53]) Y fun bd=>
  I x3 (n0.min_ #[U,U] U #[bd,(.int .i64 4)]) Y fun t55=>
  I x3 (X6 ac ba none (some t55) none) Y fun bx=>
  af x3 nz [b6] Y fun b7 ag=>
   (Ext Y ag∨bb x3 (X6 ac ba none (some t55) none) bx ag∧bb x3 (n0.min_ #[U,U] U #[bd,(.int .i64 4)]) t55 ag∧bb x3 (Z5 #[ac] U #[t53]) bd ag∧bb x3 (x6 ac bc) t53 ag∧bb x3 (x7 aN W 6) bc ag∧bb x3 (x6 ac t50) ba ag∧bb x3 (x7 aN W 6) t50 ag∧True)∧
  I x3 (x7 aN W 5) ag fun bz=>
   af x3 nz [bx] ag fun b8 aV=>
   (Ext ag aV∨bb x3 (x7 aN W 5) bz aV∧True)∧
   ax x3 (o3 ac bz b7) aV fun(_:Unit) bf=>
    I x3 (x7 aN W 6) bf fun b9=>
    ax x3 (o3 ac b9 b8) bf fun(_:Unit) aY=>
    be (α:=x1→x2→Prop) (fun(value:x1) (aP:x2)=>
   cj aP fun ao=>
   I x3 (x7 aN W 4) ao fun ca=>
   I x3 (x6 ak ca) ao fun cb=>
   I x3 (aX (.pointer (some ⟨al,0,none⟩))) ao fun cc=>
   I x3 (x7 aK cc 0) ao fun cd=>
   I x3 (x6 ak cd) ao fun cg=>
   af x3 vF [cb,cg] ao fun ch aC=>
    I x3 (x7 aN W 0) aC fun ci=>
   I x3 (x6 b5 ci) aC fun ck=>
   I x3 (av .rem b5 false true ck (.int .u8 9)) aC fun cl=>K value ch cl aC) fun bg=>
  cj aY fun aR=>
  I x3 (aX (.pointer (some ⟨al,0,none⟩))) aR fun cn=>
  I x3 (x6 aK cn) aR fun cp=>
  I x3 (x7 aN W 1) aR fun cq=>
  I x3 (x6 U cq) aR fun cr=>
  af x3 mi [cp,cr] aR fun ct J=>
   Split ct (I x3 (x7 aN W 2) J fun cu=>
   I x3 (x6 U cu) J fun cw=>
   I x3 (av .geq U false true cw (.int .i64 0)) J fun cz=>
   Split cz (I x3 (x7 aN W 2) J fun cB=>
   I x3 (x6 U cB) J fun cC=>
   I x3 (aX (.pointer (some ⟨al,0,none⟩))) J fun cD=>
   I x3 (x7 aK cD 1) J fun t76=>
   I x3 (x6 ac t76) J fun t77=>
   I x3 (x7 aN W 1) J fun cF=>
   I x3 (x6 U cF) J fun cG=>
   I x3 (aX (.pointer (some ⟨al,0,none⟩))) J fun cH=>
   I x3 (x7 aK cH 1) J fun cI=>
   I x3 (x6 ac cI) J fun cJ=>
   I x3 (Z5 #[ac] U #[cJ]) J fun cK=>
   I x3 (av .sub U false true cK (.int .i64 1)) J fun cL=>
   I x3 (n0.min_ #[U,U] U #[cG,cL]) J fun cM=>
   I x3 (n0.max_ #[U,U] U #[cM,(.int .i64 0)]) J fun cN=>
   I x3 (o6 ac t77 cN) J fun cO=>
   I x3 (x6 U cO) J fun cP=>
   I x3 (av .lss U false false cC cP) J fun cQ=>
   bg cQ J)
   (bg (.bool false) J))
   (bg (.bool false) J)) fun aZ=>
 I x3 (x7 aN W 8) w fun cR=>
 I x3 (x6 ea cR) w fun cS=>
 Split cS (cj w fun ai=>
  I x3 (x7 aN W 4) ai fun cT=>
  I x3 (x6 ak cT) ai fun cU=>
  I x3 (convert ak eb cU) ai fun cV=>
  I x3 (aX (.pointer (some ⟨al,0,none⟩))) ai fun cW=>
  I x3 (x7 aK cW 0) ai fun cX=>
  I x3 (x6 ak cX) ai fun cY=>
  I x3 (av .add ak false true cY (.int .i64 1)) ai fun cZ=>
  I x3 (convert ak eb cZ) ai fun c1=>
  I x3 (av .rem eb false false cV c1) ai fun t39=>
  I x3 (convert eb ak t39) ai fun c2=>
  I x3 (x7 aN W 4) ai fun c4=>
  ax x3 (o3 ak c4 c2) ai fun(_:Unit) c5=>
  aZ c5)
  (aZ w):=by
 have au:=p.cE.2.2.2.1;have bA:=au.iD;have bB:=au.dX.1;have c6:=au.dX.2.1;subst bY;have au:=p.cE.2.2.2.1;have bA:=au.iD;have bB:=au.dX.1;have c6:=au.dX.2.1;obtain⟨c7,dq,dr,ds,du,_⟩:=bX;obtain⟨aq,dv,dw,dx,dy,dz,rfl,c8⟩:=p.Ax;have bh:∀ {bC bD:x2},Ext w0 bC→ad (fun r=>r=aW) bC bD→Ext w0 bD:=fun c9 da=>c9.then da fun r ap he=>by have he:r=aW:=he;omega
 refine c3 (fun az=>Ext w0 az∧ae az aW aN [.int .u8 a.d,.int .i64 a.i,.int .i64 a.v,.int .i64 a.j,.int .i64 (bV n.k a),aA,ay,ce,.bool a.ki]) ?_ ?_
 rotate_left
 ·intro aZ aD;rw[V aN.p rfl,aa (v:=.bool a.ki) (by kernel_rfl) (aU.cell (o:=0+8) rfl),br];refine⟨fun aH=>?_,fun dc=>aD _ ⟨a8,by unfold bV;rw[dc] at aU ⊢;exact aU⟩⟩;intro az aS _ _;have a1:=aU.ext aS;rw[V aN.p rfl,aa (v:=.int .i64 a.c) (by kernel_rfl) (a1.cell (o:=0+4) rfl),e1 ak.u eb.u,aw,V aK.p rfl,aa (v:=.int .i64 n.k) (by kernel_rfl) ((p.box.ext (a8.trans aS)).cell (o:=0+0) rfl),aI,wrap_i64 (by omega) (by omega),e1 ak.u eb.u,wrap_u64 (x:=n.k+1) (by omega) (by omega)];have hu:U1.wrap a.c=a.c.emod 18446744073709551616:=rfl;have ap:0≤a.c.emod 18446744073709551616:=Int.emod_nonneg _ (by decide);have dA:=Int.emod_nonneg (a.c.emod 18446744073709551616) (show n.k+1≠0 by omega);have bB:=Int.emod_lt_of_pos (a.c.emod 18446744073709551616) (show 0<n.k+1 by omega);rw[hu,ik (by omega),Int.tmod_eq_emod_of_nonneg ap,e1 eb.u ak.u,wrap_i64 (by omega) (by omega),V aN.p rfl];refine bl (o:=0+4) ak.i rfl rfl a1 (by simp) fun Y de bi am=>?_;refine aD _ ⟨bh (a8.trans aS) de,?_⟩;unfold bV;rw[aH,if_pos rfl];rw[aH] at am;exact am
 rintro az ⟨aS,a1⟩;intro Y bF _ _;have a2:=aS.trans bF;have am:=a1.ext bF;have bG:=aH.ext a2;have bi:=bw.ext a2;obtain⟨_,_,_,dC⟩:=bH aH;obtain⟨_,_,_,dD⟩:=bH bw;have df:a.t.take (min a.t.length 40)=a.t.take 40:=by
  by_cases h:a.t.length≤40
  ·rw[Nat.min_eq_left h,o9,l5 h]
  ·rw[Nat.min_eq_right (by omega)]
 have dg:a.sc.take (min a.sc.length 4)=a.sc.take 4:=by
  by_cases h:a.sc.length≤4
  ·rw[Nat.min_eq_left h,o9,l5 h]
  ·rw[Nat.min_eq_right (by omega)]
 rw[V aN.p rfl,aa (v:=aA) (by kernel_rfl) (am.cell (o:=0+5) rfl),V aN.p rfl,aa (v:=aA) (by kernel_rfl) (am.cell (o:=0+5) rfl),aL ac.u bG,hD];refine p4 (i:=min a.t.length 40) (by omega) ac.u U.i bG (by omega) fun dE bI=>?_;rw[df] at bI;rw[V aN.p rfl,aa (v:=ay) (by kernel_rfl) (am.cell (o:=0+6) rfl),V aN.p rfl,aa (v:=ay) (by kernel_rfl) (am.cell (o:=0+6) rfl),aL ac.u bi,hD];refine p4 (i:=min a.sc.length 4) (by omega) ac.u U.i bi (by omega) fun dF bJ=>?_;rw[dg] at bJ;refine (hc bI (by rw[o8];omega)).mono ?_;rintro aJ ag _ ⟨aT,dh,dG,bj⟩;refine⟨.inl aT,?_⟩;rw[V aN.p rfl];refine (hc (bJ.ext aT) (by rw[o8];omega)).mono ?_;rintro aO aV _ ⟨a6,di,dH,bk⟩;refine⟨.inl a6,?_⟩;obtain⟨_,_,_,bK⟩:=bH bj.ls;obtain⟨_,_,_,bL⟩:=bH bk.ls;have z3:=a2.size;have z4:=aT.size;have dj:=(am.ext aT).ext a6;have dI:=am.lt;refine bl (o:=0+5) (v:=aJ) ac.i (by rw[bK];rfl) (by rw[bK];rfl) dj (by simp) fun bf bm dJ dk=>?_;rw[V aN.p rfl];refine bl (o:=0+6) (v:=aO) ac.i (by rw[bL];rfl) (by rw[bL];rfl) dk (by simp) fun aY bo dK dl=>?_;have dm:=(a2.trans aT).trans a6;have a7:=bh (bh dm bm) bo;have bM:dT aY aW n.k a aJ aO ce w0.heap.size:=by
  refine⟨dl,⟨dh,((bj.ext a6).O bm (by omega)).O bo (by omega)⟩,⟨di,(bk.O bm (by omega)).O bo (by omega)⟩,bZ,fun r ap=>?_⟩;rcases ap with ap|ap
  ·obtain⟨bp,_⟩:=bn bj ap;omega
  ·obtain⟨bp,_⟩:=bn bk ap;omega
 refine aM (fun v aP=>v= .bool (decide (ej n a.i a.v))∧Ext aY aP) ?_ ?_
 ·rintro _ aP ⟨rfl,aE⟩;intro ao aF _ _;have bq:=aE.trans aF;have aG:=bM.ext bq;rw[V aN.p rfl,aa (v:=.int .i64 (bV n.k a)) (by kernel_rfl) (aG.c0.cell (o:=0+4) rfl),aw,V aK.p rfl,aa (v:=.int .i64 n.k) (by kernel_rfl) ((p.box.ext (a7.trans bq)).cell (o:=0+0) rfl)];refine (DX (a:=bV n.k a) (k:=n.k)).mono ?_;rintro _ aC _ ⟨rfl,bN⟩;have bO:=aG.ext bN;rw[V aN.p rfl,aa (v:=.int .u8 a.d) (by kernel_rfl) (bO.c0.cell (o:=0+0) rfl),ik (by decide),Int.tmod_eq_emod_of_nonneg c7.1];have bp:decide (cA (bV n.k a) n.k)=decide (0≤bV n.k a∧bV n.k a≤n.k):=decide_eq_decide.2 ⟨fun h=>h.2,fun h=>⟨bA,h⟩⟩;rw[bp];exact b0 aJ aO aC ((a7.trans bq).trans bN) bO
 intro aZ aD aP aE _ _;have bP:=bM.ext aE;have bQ:=p.ext (a7.trans aE);rw[aw];refine bQ.look.load fun dL dn=>?_;rw[V aN.p rfl,aa (v:=.int .i64 a.i) (by kernel_rfl) (bP.c0.cell (o:=0+1) rfl)];refine (o1 (i:=a.i) dn).mono ?_;rintro _ ao _ ⟨rfl,aF⟩;have aG:=bP.ext aF;have bR:=(bQ.ext aF).box;have bS:=((c8.ext a7).ext aE).ext aF;have bt:=aE.trans aF;rw[ab];refine⟨fun bT=>?_,fun dp=>aD _ _ ⟨by rw[decide_eq_false];exact fun h=>dp ⟨h.1,h.2.1⟩,bt⟩⟩;rw[V aN.p rfl,aa (v:=.int .i64 a.v) (by kernel_rfl) (aG.c0.cell (o:=0+2) rfl),cm,ab];refine⟨fun bu=>?_,fun bu=>aD _ _ ⟨by rw[decide_eq_false];exact fun h=>bu h.2.2.1,bt⟩⟩;obtain⟨z,bU⟩:∃ z,n.sizes[a.i.toNat]? =some z:=⟨_,y0 (by omega)⟩;have bW:n.sizes.getD a.i.toNat 0=z:=by rw[u4,bU];rfl
 rw[V aN.p rfl,aa (v:=.int .i64 a.v) (by kernel_rfl) (aG.c0.cell (o:=0+2) rfl),aw,V aK.p rfl,aa (v:=aq) (by kernel_rfl) (bR.cell (o:=0+1) rfl),V aN.p rfl,aa (v:=.int .i64 a.i) (by kernel_rfl) (aG.c0.cell (o:=0+1) rfl),aw,V aK.p rfl,aa (v:=aq) (by kernel_rfl) (bR.cell (o:=0+1) rfl),
  aL ac.u bS,dd,wrap_i64 (by omega) (by omega),hD,pU,dt (y:=max (min a.i ((n.sizes.length:Int)-1)) 0) (i:=a.i.toNat) (by omega) ac.u U.i (by kernel_rfl) bS bU,an]
 refine aD _ _ ⟨?_,bt⟩;congr 1;exact decide_eq_decide.2 ⟨fun h=>⟨bT.1,bT.2,bu,by rw[bW];exact h⟩,fun h=>by have:=h.2.2.2;rw[bW] at this;exact this⟩
end
end Go.Proofs.YtgbkinibgjmodaaGreatDoor
namespace Go.Vc
open Go Go.RowKit
section
variable {P:X5} {w:x2} {α:Type} [ai α] {S R:ag}
theorem JK {l:List α} {i:Nat} {a:α} (h:bi S R w [v] l) (ae:l[i]? =some a) (aw:∀ r,r<w.heap.size→S r→¬R r):∃ g cap c F,v= .slice (some ⟨g,0,none⟩) l.length cap∧w.rangeAt g (i*ai.n α) c∧bi F R w c a∧(∀ r,F r→S r)∧
  ∀ {w':x2} {a':α} {T V:ag},ad T w w'→(∀ r,r<w.heap.size→T r→F r)→bi V R w' c a'→(∀ r,V r→F r∨w.heap.size≤r)→bi (fun r=>S r∨w.heap.size≤r) R w' [v] (l.set i a'):=by
 have aJ:=(x4.1 ae).1;obtain⟨vs,g,F,J,he,ax,hm⟩:=gj h;obtain⟨ay,af,ah⟩:=hm rfl;obtain⟨aK,⟨rfl,aL⟩|⟨cap,full,rfl,aj,aM,aN,aO,aP⟩⟩:=id ah
 ·omega
 have az:vs.length=l.length:=he.1;have ak:S g:=ay.resolve_left (by simp);obtain⟨c,Y⟩:∃ c,vs[i]? =some c:=⟨_,y0 (by omega)⟩;have aA:=he.2 i c a Y ae;refine⟨g,cap,c,F i,rfl,?_,aA,fun r I=>J.sub i r I,fun {w' a' T V} al am an aa=>?_⟩
 ·obtain⟨_,aQ,o',aR,aS,aB,_,_,aC,_,aD⟩:=ax;cases aB;cases aC (by omega);intro j u aE;have ao:=aD (i*ai.n α+j) u (by rw[←List.flatMap_id];exact mP (f:=id) (k:=ai.n α) (fun x aF=>he.len x aF) Y aE);rw[W6] at ao;exact ao
 have aG:¬T g:=fun h=>J.top rfl i (am g aj.lt h);have aT:=ai.len an;have aU:vs.set i c=vs:=by
  refine Y8 fun q=>?_;rw[Y5];by_cases ap:i=q
  ·subst ap;rw[if_pos rfl,if_pos (by omega),Y]
  ·rw[if_neg ap]
 have aq:bG w' g af (ai.n α) (.slice (some ⟨g,0,none⟩) l.length cap) (l.set i a').length vs.flatten:=by
  rw[Y6];exact ah.O al fun _=>aG
 refine⟨_,rfl,vs,g,fun j r=>if j=i then V r else F j r∧r<w.heap.size,⟨fun j r I=>?_,fun _ j I=>?_,fun _ j q r aH h1 U=>?_⟩,⟨by simp[az],fun j au av ac ab=>?_⟩,?_,fun _=>⟨.inr (.inl ak),af,aq⟩⟩
 ·split at I
  ·exact (aa r I).imp (J.sub i r) id
  ·exact .inl (J.sub j r I.1)
 ·split at I
  ·rcases aa g I with h|h
   ·exact J.top rfl i h
   ·have:=aj.lt;omega
  ·exact J.top rfl j I.1
 ·split at h1 <;> split at U
  ·omega
  ·rcases aa r h1 with h|h
   ·rename_i e _;exact J.gi rfl i q r (by omega) h U.1
   ·have:=U.2;omega
  ·rcases aa r U with h|h
   ·exact J.gi rfl j i r (by omega) h1.1 h
   ·have:=h1.2;omega
  ·exact J.gi rfl j q r aH h1.1 U.1
 ·by_cases W:j=i
  ·subst W;rw[Y] at ac;rw[W8 (by omega)] at ab;cases ac;cases ab;exact ai.mono an (fun r _ h=>by simpa using h) fun _ _ h=>h
  ·rw[W3 (Ne.symm W)] at ab;have aI:bi (fun r=>if j=i then V r else F j r∧r<w.heap.size) R w au av:=ai.mono (he.2 j au av ac ab) (fun r I h=>by rw[if_neg W];exact⟨h,I⟩) fun _ _ h=>h;refine ai.O aI al fun r I h1 U=>?_;have U:=am r I U;rcases h1 with h1|h1
   ·simp only[if_neg W] at h1;exact J.gi rfl j i r W h1.1 U
   ·exact aw r I (J.sub i r U) h1
 ·have:=mv (S:=fun r=>(S r∨w.heap.size≤r)∨R r) aq (.inr (.inl (.inl ak)));exact this
theorem uc {l:List α} {i:Nat} {a:α} (h:bi S R w [v] l) (am:l[i]? =some a) (an:∀ r,r<w.heap.size→S r→¬R r):∃ g cap full V c F,v= .slice (some ⟨g,0,none⟩) l.length cap∧ae w g V full∧S g∧i*ai.n α+ai.n α≤full.length∧(∀ (q:Nat) x,c[q]? =some x→full[i*ai.n α+q]? =some x)∧bi F R w c a∧(∀ r,F r→S r)∧¬F g∧
  ∀ {w':x2} {a':α} {W:List x1} {T aa:ag},ad T w w'→(∀ r,r<w.heap.size→T r→F r∨r=g)→ae w' g V (over full (i*ai.n α) W)→bi aa R w' W a'→(∀ r,aa r→F r∨w.heap.size≤r)→bi (fun r=>S r∨w.heap.size≤r) R w' [v] (l.set i a'):=by
 have aB:=(x4.1 am).1;obtain⟨vs,g,F,U,he,aP,hm⟩:=gj h;obtain⟨aC,V,aD⟩:=hm rfl;obtain⟨aQ,⟨rfl,aR⟩|⟨cap,full,rfl,ao,ap,aE,aq,au⟩⟩:=id aD
 ·omega
 have av:vs.length=l.length:=he.1;have ac:S g:=aC.resolve_left (by simp);obtain⟨c,aj⟩:∃ c,vs[i]? =some c:=⟨_,y0 (by omega)⟩;have aF:=he.2 i c a aj am;have aG:(i+1)*ai.n α≤l.length*ai.n α:=X0 _ aB;have aH:l.length*ai.n α≤full.length:=by rw[aq];exact X0 _ ap
 rw[V4,Nat.one_mul] at aG;refine⟨g,cap,full,V,c,F i,rfl,ao,ac,by omega,fun q x aw=>?_,aF,fun r J=>U.sub i r J,U.top rfl i,fun {w' a' W T aa} aI aJ aK ax af=>?_⟩
 ·have ak:=mP (f:=id) (k:=ai.n α) (fun x aL=>he.len x aL) aj aw;rw[List.flatMap_id,←au] at ak;have aS:=(x4.1 aw).1;have al:=he.len c (x5 aj);rw[Z6 (by omega)] at ak;exact ak
 have al:=ai.len ax;have aM:∀ c∈vs.set i W,c.length=ai.n α:=fun c Y=>by
  rcases X9 Y with I|rfl
  ·exact he.len c I
  ·exact al
 have ay:bG w' g V (ai.n α) (.slice (some ⟨g,0,none⟩) l.length cap) (l.set i a').length (vs.set i W).flatten:=by
  refine⟨by rw[nL aM,Y6,Y6,av],.inr ⟨cap,_,by rw[Y6],aK,by rw[Y6];exact ap,aE,by rw[jR,aq],?_⟩⟩;rw[Y6,qu (by omega) aH,au,Ar he.len al (by omega)]
 refine⟨_,rfl,vs.set i W,g,fun j r=>if j=i then aa r else F j r∧r<w.heap.size,⟨fun j r J=>?_,fun _ j J=>?_,fun _ j q r aN h1 I=>?_⟩,⟨by simp[av],fun j az aA Y ah=>?_⟩,?_,fun _=>⟨.inr (.inl ac),V,ay⟩⟩
 ·split at J
  ·exact (af r J).imp (U.sub i r) id
  ·exact .inl (U.sub j r J.1)
 ·split at J
  ·rcases af g J with h|h
   ·exact U.top rfl i h
   ·have:=ao.lt;omega
  ·exact U.top rfl j J.1
 ·split at h1 <;> split at I
  ·omega
  ·rcases af r h1 with h|h
   ·rename_i e _;exact U.gi rfl i q r (by omega) h I.1
   ·have:=I.2;omega
  ·rcases af r I with h|h
   ·exact U.gi rfl j i r (by omega) h1.1 h
   ·have:=h1.2;omega
  ·exact U.gi rfl j q r aN h1.1 I.1
 ·by_cases ab:j=i
  ·subst ab;rw[W8 (by omega)] at Y;rw[W8 (by omega)] at ah;cases Y;cases ah;exact ai.mono ax (fun r _ h=>by simpa using h) fun _ _ h=>h
  ·rw[W3 (Ne.symm ab)] at Y ah;have aO:bi (fun r=>if j=i then aa r else F j r∧r<w.heap.size) R w az aA:=ai.mono (he.2 j az aA Y ah) (fun r J h=>by rw[if_neg ab];exact⟨h,J⟩) fun _ _ h=>h;refine ai.O aO aI fun r J h1 I=>?_;have I:=aJ r J I;rcases h1 with h1|h1
   ·simp only[if_neg ab] at h1;rcases I with I|rfl
    ·exact U.gi rfl j i r ab h1.1 I
    ·exact U.top rfl j h1.1
   ·rcases I with I|rfl
    ·exact an r J (U.sub i r I) h1
    ·exact an r J ac h1
 ·have:=mv (S:=fun r=>(S r∨w.heap.size≤r)∨R r) ay (.inr (.inl (.inl ac)));exact this
end
end Go.Vc
namespace Go.Proofs.YtgbkinibgjmodaaGreatDoor
open Go Go.Vc Go.RowKit Go.Proofs Go.Proofs.Tryz
set_option maxRecDepth 100000
theorem o2 {t:aH} {i:Nat} {x:Int}:(t.set i x).marks=t.marks∧(t.set i x).cells.length=t.cells.length∧(t.set i x).olds.length≤t.olds.length+1:=by
 unfold aH.set;split
 ·exact⟨rfl,rfl,Nat.le_succ _⟩
 ·split
  ·exact⟨rfl,by simp,Nat.le_succ _⟩
  ·split
   ·exact⟨rfl,by simp,by simp⟩
   ·exact⟨rfl,by simp,Nat.le_succ _⟩
def ib (w0:x2) (aj ah al:Nat) (A R:ag) (A9:Nat→ag) (aQ:ag) (n:aS) (u:aF) (t:aH) (h:List aH) (w':x2):Prop:=∃ J R' bz R9' I bU,bE w' aj ah al J R' bz R9' n u u I h bU∧ad (fun r=>A r∨(∃ q,A9 q r)∨r=al) w0 w'∧(∀ r,J r→A r∨w0.heap.size≤r)∧(∀ r,R' r→R r∨w0.heap.size≤r)∧(∀ r,aQ r→R9' r)∧(∀ r,R9' r→aQ r∨w0.heap.size≤r)∧
 (∀ q r,bz q r→(∃ O,A9 O r)∨w0.heap.size≤r)∧I.marks=t.marks∧I.cells.length≤t.cells.length+700∧I.olds.length≤t.olds.length+800
section
variable {w0 w:x2} {aj ah al aW:Nat} {A R:ag} {A9 bz:Nat→ag} {aQ:ag} {n:aS} {s u:aF} {t:aH} {h:List aH} {cs bU:List x1} {a:db} {aA ay ce:x1} {Q:x1→x2→Prop}
theorem jx (p:bE w0 aj ah al A R A9 aQ n s s t h cs) (I:Ext w0 w):ib w0 aj ah al A R A9 aQ n s t h w:=
 ⟨A,R,A9,aQ,t,cs,p.ext I,I.O _,fun _ h=>.inl h,fun _ h=>.inl h,fun _ h=>h,fun _ h=>.inl h,fun q _ h=>.inl ⟨q,h⟩,rfl,Nat.le_add_right _ _,Nat.le_add_right _ _⟩
theorem pa {J V:x2} (O:bE J aj ah al A R bz aQ n s u t h bU) (W:ad (fun r=>(∃ q,A9 q r)∨r=al) w0 J) (Y:∀ q r,bz q r→(∃ aa,A9 aa r)∨w0.heap.size≤r) (ab:kf J aj ah A R n u t v V):v= .int .i64 0∧ib w0 aj ah al A R A9 aQ n u t h V:=by
 obtain⟨ac,ae,af,q,x,U,ag⟩:=ab;obtain⟨ai,ak,am⟩:=o2 (t:=t) (i:=q) (x:=x);have z:=W.size;refine⟨ac,af,R,_,aQ,_,bU,O.prog ae U ag O.js.set (fun _ h=>.inl h) (fun _ _ _ h=>h) O.box.lt,(W.mono fun r _ h=>.inr h).trans (U.1.mono fun r _ h=>.inl h),fun r I=>(U.2.1 r I).imp id fun h=>by omega,fun r I=>.inl I,fun _ h=>h,fun _ h=>.inl h,fun q r I=>Y q r I.1,ai,by omega,by omega⟩
theorem bE.olds (p:bE w0 aj ah al A R A9 aQ n s u t h cs):bE w0 aj ah al A R (fun q r=>A9 q r∧r<w0.heap.size) aQ n s u t h cs:=
 ⟨p.cE,p.js,p.box,p.doc.old,fun q r I=>p.apart q r I.1,p.read,p.out⟩
def lV (n:aS) (s:aF) (c:Int):aF:=if 0≤c∧c≤n.k then {s with zero:=c} else s
theorem JL (p:bE w0 aj ah al A R A9 aQ n s s t h cs) (ai:Room t) (Y:Ext w0 w) (ac:dT w aW n.k a aA ay ce w0.heap.size) (am:∀ w',ib w0 aj ah al A R A9 aQ n (lV n s (bV n.k a)) t h w'→Q (.bool true) w'):
  be (α:=x1→x2→Prop) (fun(aq:x1) (ae:x2)=>
     I x3 (x7 aN (.pointer (some ⟨aW,0,none⟩)) 4) ae fun au=>
     I x3 (x6 ak au) ae fun az=>
     af x3 vA [.pointer (some ⟨aj,0,none⟩),az] ae fun aB an=>
     I x3 (av .eql dL false false aB aq) an fun aC=>
     Q aC an) fun ao=>
    I x3 (Op.unary .not (.bool (decide (0≤bV n.k a∧bV n.k a≤n.k)))) w fun aD=>
    Split aD (ao (.int .i64 3) w)
    (I x3 (x7 aN (.pointer (some ⟨aW,0,none⟩)) 4) w fun aE=>
    I x3 (x6 ak aE) w fun aF=>
    I x3 (aX (.pointer (some ⟨al,0,none⟩))) w fun aG=>
    I x3 (x7 aK aG 2) w fun aH=>
    ax x3 (o3 ak aH aF) w fun(_:Unit) aI=>
    ao (.int .i64 0) aI):=by
 have aV:=p.box.lt;by_cases U:0≤bV n.k a∧bV n.k a≤n.k
 ·refine aM (fun v J=>v= .int .i64 0∧dT J aW n.k a aA ay ce w0.heap.size∧ad (fun r=>(∃ q,A9 q r)∨r=al) w0 J∧ ∃ bU,bE J aj ah al A R A9 aQ n s {s with zero:=bV n.k a} t h bU) ?_ ?_
  ·rintro _ J ⟨rfl,aJ,W,bU,ap⟩;rw[V aN.p rfl,aa (v:=.int .i64 (bV n.k a)) (by kernel_rfl) (aJ.c0.cell (o:=0+4) rfl)];refine (Aq (c:=bV n.k a) ap.cE ai).mono ?_;rintro v aL _ ⟨_,aO⟩;obtain⟨rfl,aR⟩:=pa ap W (fun q r h=>.inl ⟨q,h⟩) (aO U);rw[a8];exact am _ (by unfold lV;rw[if_pos U];exact aR)
  ·intro aS ag;rw[decide_eq_true U,bc,Y4,aP,V aN.p rfl,aa (v:=.int .i64 (bV n.k a)) (by kernel_rfl) (ac.c0.cell (o:=0+4) rfl),aw,V aK.p rfl];have ab:=p.ext Y;refine bl (o:=0+2) ak.i rfl rfl ab.box (by rw[ab.doc.len.1];omega) fun J W aY aT=>?_;refine ag _ _ ⟨rfl,?_,(Y.O _).trans (W.mono fun r _ h=>.inr h),_,ab.ub W (fun r _ h=>.inr h) aT ?_ fun q r h=>.inl ⟨q,h⟩⟩
   ·exact ac.O W fun r _ h=>by have h:r=al:=h;omega
   ·exact (bx.O ab.doc W fun r _ h he=>h.elim (fun⟨q,h⟩=>(p.apart q r h).2.2 he) fun h=>(p.read r h).2.2 he).Jz
 ·refine aM (fun v J=>v= .int .i64 3∧w=J) ?_ ?_
  ·rintro _ J ⟨rfl,rfl⟩;rw[V aN.p rfl,aa (v:=.int .i64 (bV n.k a)) (by kernel_rfl) (ac.c0.cell (o:=0+4) rfl)];refine (Aq (c:=bV n.k a) (p.ext Y).cE ai).mono ?_;rintro v aL _ ⟨h1,_⟩;obtain⟨rfl,aU⟩:=h1 U;rw[a8];exact am _ (by unfold lV;rw[if_neg U];exact jx p (Y.trans aU))
  ·intro aS ag;rw[decide_eq_false U,bc,X4,bC];exact ag _ _ ⟨rfl,rfl⟩
end
theorem nf {α β:Type} {l:List α} {i:Nat} {a b:α} {f:α→β} (h:l[i]? =some a) (J:f b=f a):(l.set i b).map f=l.map f:=by
 rw[U3,J];refine Y8 fun q=>?_;rw[Y5];by_cases I:i=q
 ·subst I;rw[if_pos rfl,x8,h,if_pos (by rw[u5];exact (x4.1 h).1)];rfl
 ·rw[if_neg I]
theorem ng {T:Nat→Prop} (h:ad T w w'):ad (fun r=>T r∧r<w.heap.size) w w':=⟨h.size,fun r o I J O=>h.ba r o I J fun U=>O ⟨U,(l7.1 I).1⟩⟩
section
variable {w0 w w':x2} {aj ah al aW:Nat} {A R:ag} {A9:Nat→ag} {aQ:ag} {n:aS} {s u u':aF} {t:aH} {h:List aH} {cs:List x1} {a:db} {aA ay ce v:x1} {Q:x1→x2→Prop}
theorem bx.mH {m:Bool} {zero:Int} {D:List (List Int)} {G:List Bool} {aO:List (List Int)} {H:List gx} {E:List kg} {i:Nat} (I:cs[i]? =some v) (h:bx m A9 aQ w (cs.set i v) k sizes zero D G aO H E):bx m A9 aQ w cs k sizes zero D G aO H E:=by
 have:cs.set i v=cs:=by
  refine Y8 fun q=>?_;rw[Y5];by_cases J:i=q
  ·subst J;have:=(x4.1 I).1;rw[if_pos rfl,if_pos this,I]
  ·rw[if_neg J]
 rw[this] at h;exact h
theorem bE.row {T:ag} {bz:Nat→ag} {q:Nat} (p:bE w aj ah al A R A9 aQ n s u t h cs) (I:ad T w w') (J:∀ r,r<w.heap.size→T r→A9 q r) (U:gy true bz aQ w' cs n.k n.sizes u') (V:∀ q r,bz q r→(∃ W,A9 W r)∨w.heap.size≤r):
  bE w' aj ah al A R bz aQ n s u' t h cs:=
 p.ub I (fun r Y h=>.inl ⟨q,J r Y h⟩) (p.box.O I fun h=>(p.apart q al (J al p.box.lt h)).2.2 rfl) U V
theorem ud {q:Nat} {B:ag} (I:∀ r,B r→A9 q r∨w.heap.size≤r):∀ j r,eW A9 q B j r→(∃ J,A9 J r)∨w.heap.size≤r:=fun j r h=>by
 unfold eW at h;split at h
 ·exact (I r h).imp (fun h=>⟨q,h⟩) id
 ·exact .inl ⟨j,h⟩
theorem bE.JM {T:ag} (p:bE w aj ah al A R A9 aQ n s u t h cs) (W:∀ q r,A9 q r→r<w.heap.size) (Y:cs[5]? =some v) (J:ad T w w') (O:∀ r,r<w.heap.size→T r→A9 2 r) (aa:bi (fun r=>A9 2 r∨w.heap.size≤r) aQ w' [v] (u'.vars.map (·.un)))
  (ab:u'.zero=u.zero) (ac:u'.vars.map dA=u.vars.map dA) (ae:(u'.vars.map fun x=>decide (x.gone≠0))=u.vars.map fun x=>decide (x.gone≠0)) (af:u'.funs=u.funs) (ai:u'.elims=u.elims):
  ∃ bz,bE w' aj ah al A R bz aQ n s u' t h cs∧ ∀ q r,bz q r→(∃ ak,A9 ak r)∨w.heap.size≤r:=by
 have U:=(show (∀ i j r,i≠j→A9 i r→¬A9 j r)∧ ∀ i r,A9 i r→¬aQ r by obtain⟨_,_,_,_,_,_,_,_,_,_,_,_,_,am⟩:=p.doc;exact am rfl);have an:=bx.ht p.doc (ng J) (fun r I=>.inl (O r I.2 I.1)) aa (fun j r ao I=>?_) (fun r I=>?_)
 ·have V:=ud (w:=w) (A9:=A9) (q:=2) (B:=fun r=>A9 2 r∨w.heap.size≤r) fun r h=>h;refine⟨_,p.row J O ?_ V,V⟩;have:=bx.mH Y an;unfold gy;rw[ab,ac,ae,af,ai];exact this
 ·rcases I with I|I
  ·exact U.1 2 j r (Ne.symm ao) I
  ·exact fun h=>by have:=W j r h;omega
 ·rcases I with I|I
  ·exact U.2 2 r I
  ·exact fun h=>by have:=(p.read r h).2.1;omega
def kW (n:aS) (s:aF) (a:db):aF:=if ej n a.i a.v∧(0≤bV n.k a∧bV n.k a≤n.k) then ht s a.i.toNat a.v.toNat (bV n.k a) else s
theorem JN (p:bE w0 aj ah al A R A9 aQ n s s t h cs) (aD:Room t) (ap:Ext w0 w) (aE:dT w aW n.k a aA ay ce w0.heap.size) (aF:∀ w',ib w0 aj ah al A R A9 aQ n (kW n s a) t h w'→Q (.bool true) w'):
  be (α:=x1→x2→Prop) (fun(bj:x1) (ab:x2)=>
     I x3 (x7 aN (.pointer (some ⟨aW,0,none⟩)) 1) ab fun aG=>
     I x3 (x6 U aG) ab fun aH=>
     I x3 (x7 aN (.pointer (some ⟨aW,0,none⟩)) 2) ab fun aI=>
     I x3 (x6 U aI) ab fun aJ=>
     I x3 (x7 aN (.pointer (some ⟨aW,0,none⟩)) 4) ab fun aL=>
     I x3 (x6 ak aL) ab fun aO=>
     af x3 pI [.pointer (some ⟨aj,0,none⟩),aH,aJ,aO] ab fun bk a2=>
     I x3 (av .eql dL false false bk bj) a2 fun bl=>
     Q bl a2) fun aR=>
    I x3 (Op.unary .not (.bool (decide (ej n a.i a.v)))) w fun bm=>
    Split bm (aR (.int .i64 1) w)
     (I x3 (Op.unary .not (.bool (decide (0≤bV n.k a∧bV n.k a≤n.k)))) w fun bn=>
     Split bn (aR (.int .i64 3) w)
     (cj w fun W=>
     I x3 (aX (.pointer (some ⟨al,0,none⟩))) W fun bo=>
     I x3 (x7 aK bo 5) W fun bp=>
     I x3 (x6 ek bp) W fun bq=>
     I x3 (x7 aN (.pointer (some ⟨aW,0,none⟩)) 1) W fun br=>
     I x3 (x6 U br) W fun bt=>
     I x3 (o6 ek bq bt) W fun bu=>
     I x3 (x6 au bu) W fun bw=>
     I x3 (x7 aN (.pointer (some ⟨aW,0,none⟩)) 2) W fun bx=>
     I x3 (x6 U bx) W fun bA=>
     I x3 (x7 aN (.pointer (some ⟨aW,0,none⟩)) 4) W fun bB=>
     I x3 (x6 ak bB) W fun bD=>
     I x3 (o6 au bw bA) W fun bF=>
     ax x3 (o3 ak bF bD) W fun(_:Unit) a6=>
      aR (.int .i64 0) a6)):=by
 have call:∀ {J:x2} {K:x1→x2→Prop},dT J aW n.k a aA ay ce w0.heap.size→(af x3 pI [.pointer (some ⟨aj,0,none⟩),.int .i64 a.i,.int .i64 a.v,.int .i64 (bV n.k a)] J K)→
   I x3 (x7 aN (.pointer (some ⟨aW,0,none⟩)) 1) J fun aG=>I x3 (x6 U aG) J fun aH=>I x3 (x7 aN (.pointer (some ⟨aW,0,none⟩)) 2) J fun aI=>I x3 (x6 U aI) J fun aJ=>
   I x3 (x7 aN (.pointer (some ⟨aW,0,none⟩)) 4) J fun aL=>I x3 (x6 ak aL) J fun aO=>af x3 pI [.pointer (some ⟨aj,0,none⟩),aH,aJ,aO] J K:=fun ag bG=>by
  rw[V aN.p rfl,aa (v:=.int .i64 a.i) (by kernel_rfl) (ag.c0.cell (o:=0+1) rfl),V aN.p rfl,aa (v:=.int .i64 a.v) (by kernel_rfl) (ag.c0.cell (o:=0+2) rfl),V aN.p rfl,aa (v:=.int .i64 (bV n.k a)) (by kernel_rfl) (ag.c0.cell (o:=0+4) rfl)];exact bG
 have aS:=p.olds.ext ap;by_cases Y:ej n a.i a.v
 rotate_left
 ·refine aM (fun v J=>v= .int .i64 1∧w=J) ?_ ?_
  ·rintro _ J ⟨rfl,rfl⟩;refine call aE ((tW (i:=a.i) (v:=a.v) (c:=bV n.k a) aS.cE aD).mono ?_);rintro v a7 _ ⟨h1,_⟩;obtain⟨rfl,aT⟩:=h1 Y;rw[a8];exact aF _ (by unfold kW;rw[if_neg fun h=>Y h.1];exact jx p (ap.trans aT))
  ·intro ba am;rw[decide_eq_false Y,bc,X4,bC];exact am _ _ ⟨rfl,rfl⟩
 by_cases ac:0≤bV n.k a∧bV n.k a≤n.k
 rotate_left
 ·refine aM (fun v J=>v= .int .i64 3∧w=J) ?_ ?_
  ·rintro _ J ⟨rfl,rfl⟩;refine call aE ((tW (i:=a.i) (v:=a.v) (c:=bV n.k a) aS.cE aD).mono ?_);rintro v a7 _ ⟨_,h1,_⟩;obtain⟨rfl,aT⟩:=h1 Y ac;rw[a8];exact aF _ (by unfold kW;rw[if_neg fun h=>ac h.2];exact jx p (ap.trans aT))
  ·intro ba am;rw[decide_eq_true Y,bc,Y4,aP,decide_eq_false ac,bc,X4,bC];exact am _ _ ⟨rfl,rfl⟩
 refine aM (fun v J=>v= .int .i64 0∧dT J aW n.k a aA ay ce w0.heap.size∧ad (fun r=>(∃ q,A9 q r)∨r=al) w0 J∧ ∃ bz,bE J aj ah al A R bz aQ n s (ht s a.i.toNat a.v.toNat (bV n.k a)) t h cs∧ ∀ q r,bz q r→(∃ aU,A9 aU r)∨w0.heap.size≤r) ?_ ?_
 ·rintro _ J ⟨rfl,ag,bH,bz,bb,aV⟩;refine call ag ((tW (i:=a.i) (v:=a.v) (c:=bV n.k a) bb.cE aD).mono ?_);rintro v a7 _ ⟨_,_,bd⟩;obtain⟨rfl,bI⟩:=pa bb bH aV (bd Y ac);rw[a8];exact aF _ (by unfold kW;rw[if_pos ⟨Y,ac⟩];exact bI)
 intro ba am;rw[decide_eq_true Y,bc,Y4,aP,decide_eq_true ac,bc,Y4,aP];intro W aY _ _;have bf:=ap.trans aY;have aZ:=aS.ext aY;have az:=aE.ext aY;obtain⟨x,an,bJ,bT,_⟩:=Y.var p.cE.2.2.2.1;obtain⟨h1,bd,bU,bW⟩:=id Y;obtain⟨aq,bX,bY,bZ,b0,b1,bg,_,_,_,bK,_,_,bh⟩:=id aZ.doc;have z:=bf.size;have bL:∀ q r,(A9 q r∧r<w0.heap.size)→r<W.heap.size:=fun q r h=>by have:=h.2;omega
 obtain⟨g,cap,c,b2,rfl,bM,a1,aB,bN⟩:=JK (i:=a.i.toNat) (a:=x.un) bK (by rw[x8,an];rfl) fun r _ h=>(bh rfl).2 2 r h;obtain⟨u',rfl⟩:=X1.1 (ai.len a1);have bi:=aZ.box;rw[bg] at bi;obtain⟨_,_,_,b3⟩:∃ a n c,u'= .slice a n c:=by obtain⟨_,_,_,_,_,⟨_,b,o,base,cap,e,_⟩,_⟩:=gj a1;exact⟨_,_,_,e⟩
 have bO:a.i.toNat<(s.vars.map (·.un)).length:=by rw[u5];exact (x4.1 an).1
 rw[aw,V aK.p rfl,aa (v:=.slice (some ⟨g,0,none⟩) (s.vars.map (·.un)).length cap) (by kernel_rfl) (bi.cell (o:=0+5) rfl),V aN.p rfl,aa (v:=.int .i64 a.i) (by kernel_rfl) (az.c0.cell (o:=0+1) rfl),
  show a.i=((a.i.toNat:Nat):Int) by omega,fe ek.u au.i bO fun _=>rfl,aa (v:=u') (o:=0+a.i.toNat*1) (by kernel_rfl) (by rw[W6];exact bM 0 _ rfl)]
 rw[V aN.p rfl,aa (v:=.int .i64 a.v) (by kernel_rfl) (az.c0.cell (o:=0+2) rfl),V aN.p rfl,aa (v:=.int .i64 (bV n.k a)) (by kernel_rfl) (az.c0.cell (o:=0+4) rfl)];refine tY (α:=Int) (i:=a.v.toNat) (A:=fun _=>False) rfl (by omega) au.u ak.i a1 bJ rfl rfl (fun r _ ao=>⟨fun h=>h,(bh rfl).2 2 r (aB r ao)⟩) fun a6 aC bP=>?_;have bQ:=bN aC (fun r _ h=>h) bP fun r ao=>ao.elim .inl False.elim;have ae:ht s a.i.toNat a.v.toNat (bV n.k a)={s with vars:=s.vars.set a.i.toNat {x with un:=x.un.set a.v.toNat (bV n.k a)}}:=by unfold ht;rw[an]
 have bR:=aZ.JM (u':=ht s a.i.toNat a.v.toNat (bV n.k a)) bL (by rw[bg];rfl) aC (fun r _ h=>aB r h) (by rw[ae,U3];exact bQ) (by rw[ae]) (by rw[ae];exact nf an (by unfold dA;simp)) (by rw[ae];exact nf an rfl) (by rw[ae]) (by rw[ae]);obtain⟨bz,bS,aV⟩:=bR;refine am _ _ ⟨rfl,az.O aC fun r _ h=>(aB r h).2,((bf.O _).trans (aC.mono fun r _ h=>.inl ⟨2,(aB r h).1⟩)),bz,bS,fun q r ao=>?_⟩;rcases aV q r ao with⟨aU,h⟩|h
 ·exact .inl ⟨aU,h.1⟩
 ·exact .inr (by omega)
end
theorem JO {x:Int} (h:aB .i64 w sv l):af x3 rY [sv,.int .i64 x] w fun v w'=>Ext w w'∧ ∃ r:Int,v= .int .i64 r∧(x∉l→r= -1)∧(x∈l→0≤r∧l[r.toNat]? =some x):=by
 refine az func103 ?_;rw[aL ac.u h];refine bt.range l.length (fun i _ J=>Ext w J∧x∉l.take i) h.le ⟨Ext.refl _,by simp⟩ ?_ ?_
 ·rintro i _ J k hi ⟨I,O⟩ W;rw[an,ab];refine⟨fun _=>?_,fun h=>by omega⟩;obtain⟨y,V⟩:∃ y,l[i]? =some y:=⟨_,y0 hi⟩;rw[aZ ac.u U.i (by kernel_rfl) (h.ext I) V,a8,ab];refine⟨fun he=>⟨I,i,rfl,fun hm=>absurd (he▸x5 V) hm,fun _=>⟨by omega,by rw[he,Z3];exact V⟩⟩,fun he=>?_⟩;rw[aI];refine W _ _ ⟨I,fun hm=>?_⟩;rw[u9,V] at hm;rcases n9.1 hm with hm|hm
  ·exact O hm
  ·simp at hm;exact he hm
 ·rintro _ J k ⟨I,O⟩;rw[o9] at O;rw[an,ab];exact⟨fun h=>by omega,fun _=>⟨I,-1,rfl,fun _=>rfl,fun h=>absurd h O⟩⟩
theorem Ay {x:Int} (h:aB .i64 w sv l):af x3 B9 [sv,.int .i64 x] w fun v w'=>v= .bool (decide (x∈l))∧Ext w w':=by
 refine az func119 ?_;refine (JO h).mono ?_;rintro _ J _ ⟨I,r,rfl,O,U⟩;rw[cm];refine⟨?_,I⟩;congr 1;refine decide_eq_decide.2 ⟨fun W=>?_,fun hm=>(U hm).1⟩;exact Y9.1 fun V=>by have:=O V;omega
set_option maxHeartbeats 1000000 in
theorem Az {Y:Nat} {cap:Array x1} {p:Int→Bool} (h:aB .i64 w sv l)
  (ad:∀ w' x,Ext w w'→x∈l→af x3 Y (.int .i64 x::cap.toList) w' fun r ae=>r= .bool (p x)∧Ext w' ae):
  af x3 r2 [sv,.func (.func Y) #[] cap] w fun v w'=>Ext w w'∧((v= .int .i64 (-1)∧ ∀ x∈l,p x=false)∨ ∃ i:Nat,v= .int .i64 (i:Int)∧i<l.length∧(∀ x∈l.take i,p x=false)∧ ∀ x,l[i]? =some x→p x=true):=by
 refine az func170 ?_;rw[aL ac.u h];refine bt.range l.length (fun i _ J=>Ext w J∧ ∀ x∈l.take i,p x=false) h.le ⟨Ext.refl _,by simp⟩ ?_ ?_
 ·rintro i _ J k hi ⟨O,V⟩ ag;rw[an,ab];refine⟨fun _=>?_,fun h=>by omega⟩;obtain⟨y,W⟩:∃ y,l[i]? =some y:=⟨_,y0 hi⟩;rw[aZ ac.u U.i (by kernel_rfl) (h.ext O) W];refine af.mono (ad J y O (x5 W)) ?_;rintro _ aj _ ⟨rfl,aa⟩;rw[br];refine⟨fun ah=>⟨O.trans aa,.inr ⟨i,rfl,hi,V,fun x I=>by rw[W] at I;cases I;exact ah⟩⟩,fun ai=>?_⟩;rw[aI];refine ag _ _ ⟨O.trans aa,fun x I=>?_⟩;rw[u9,W] at I;rcases n9.1 I with I|I
  ·exact V x I
  ·simp at I;subst I;exact ai
 ·rintro _ J k ⟨O,V⟩;rw[o9] at V;rw[an,ab];exact⟨fun h=>by omega,fun _=>⟨O,.inl ⟨rfl,V⟩⟩⟩
theorem JP {O:Nat} {cap:Array x1} {p:Int→Bool} (h:aB .i64 w sv l)
  (U:∀ w' x,Ext w w'→x∈l→af x3 O (.int .i64 x::cap.toList) w' fun r V=>r= .bool (p x)∧Ext w' V):
  af x3 pK [sv,.func (.func O) #[] cap] w fun v w'=>v= .bool (l.any p)∧Ext w w':=by
 refine az func196 ?_;refine (Az h U).mono ?_;rintro _ J _ ⟨I,⟨rfl,W⟩|⟨i,rfl,hi,_,Y⟩⟩
 ·rw[cm];refine⟨?_,I⟩;congr 1;rw[decide_eq_false (by omega),eq_comm,List.any_eq_false];exact fun x I=>by rw[W x I];decide
 ·rw[cm];refine⟨?_,I⟩;congr 1;rw[decide_eq_true (by omega),eq_comm,List.any_eq_true];exact⟨_,T6 hi,Y _ (y0 hi)⟩
theorem JQ {g ax:Nat} {cap:Array x1} {p:Int→Bool} (h:am .i64 e w g sv l) (bb:l.length≤100000000)
  (ay:∀ w' x,ad (fun r=>leads sv r) w w'→x∈l→af x3 ax (.int .i64 x::cap.toList) w' fun r aF=>r= .bool (p x)∧Ext w' aF):
  af x3 vH [sv,.func (.func ax) #[] cap] w fun v w'=>ad (fun r=>leads sv r) w w'∧am .i64 e w' g v (l.filter fun x=>!p x)∧ ∀ r,leads v r→leads sv r:=by
 refine az func85 ?_;refine (Az h.ls fun w' x aa=>ay w' x (aa.O _)).mono ?_;rintro _ J _ ⟨ae,⟨rfl,ao⟩|⟨i,rfl,hi,ao,aG⟩⟩
 ·rw[a8,ab];refine⟨fun _=>⟨ae.O _,?_⟩,fun h=>absurd rfl h⟩;rw[List.filter_eq_self.2 fun x aa=>by rw[ao x aa];rfl];exact⟨h.ext ae,fun _ h=>h⟩
 rw[a8,ab];refine⟨fun h=>by omega,fun _=>?_⟩;rw[aI,wrap_i64 (by omega) (by omega)];obtain⟨n,ap⟩:∃ n,l.length=n:=⟨_,rfl⟩;obtain⟨V,rfl⟩:∃ V,sv= .slice (some ⟨g,0,none⟩) n V:=by
  obtain⟨_,⟨_,h1⟩|⟨V,cs,h1,_⟩⟩:=id h
  ·omega
  ·exact⟨V,by rw[h1,ap]⟩
 obtain⟨_,_,_,_,bd,aH,_⟩:=ox h (by omega);have aA:∀ r,r=g→leads (.slice (some ⟨g,0,none⟩) n V) r:=fun r aq=>⟨_,_,_,rfl,aq.symm⟩;have aJ:(l.take (i+1)).filter (fun x=>!p x)=l.take i:=by
  obtain⟨y,W⟩:∃ y,l[i]? =some y:=⟨_,y0 hi⟩;rw[u9,W,List.filter_append,List.filter_eq_self.2 fun x aa=>by rw[ao x aa];rfl];simp[aG y W]
 refine⟨fun au av ag=>∃ (q j:Nat) (I:List Int),au= .int .i64 (q:Int)∧av= .int .i64 (j:Int)∧q<j∧j≤n∧ad (fun r=>r=g) w ag∧am .i64 e ag g (.slice (some ⟨g,0,none⟩) n V) I∧I.length=n∧I.take q=(l.take j).filter (fun x=>!p x)∧ ∀ k,j≤k→I[k]? =l[k]?,
  fun _ av _=>n-(bB av).toNat,⟨i,i+1,l,rfl,rfl,by omega,by omega,ae.O _,h.ext ae,ap,aJ.symm,fun _ _=>rfl⟩,?_⟩
 rintro _ _ ag ⟨q,j,I,rfl,rfl,be,bf,ah,ai,aB,Y,aw⟩;have bg:q=((l.take j).filter fun x=>!p x).length:=by rw[←Y,o8];omega
 rw[gg ac.u,an,ab];refine⟨fun aK=>?_,fun bh=>?_⟩
 ·have aK:j<n:=by omega
  obtain⟨y,W⟩:∃ y,l[j]? =some y:=⟨_,y0 (by omega)⟩;have aL:I[j]? =some y:=by rw[aw j (o7 _),W]
  refine aM (fun au aj=>∃ (q:Nat) (I:List Int),au= .int .i64 (q:Int)∧q<j+1∧ad (fun r=>r=g) w aj∧am .i64 e aj g (.slice (some ⟨g,0,none⟩) n V) I∧I.length=n∧I.take q=(l.take (j+1)).filter (fun x=>!p x)∧ ∀ k,j+1≤k→I[k]? =l[k]?) ?_ ?_
  ·rintro _ aj ⟨q,I,rfl,h1,aN,aO,aP,aQ,aR⟩;rw[aI,wrap_i64 (by omega) (by omega)];exact⟨⟨q,j+1,I,rfl,rfl,h1,by omega,aN,aO,aP,aQ,aR⟩,by simp only[bB];omega⟩
  intro bi aC;rw[aZ ac.u U.i (by kernel_rfl) ai.ls aL];refine af.mono (ay ag y (ah.mono fun r _=>aA r) (x5 W)) ?_;rintro _ aj _ ⟨rfl,ak⟩;have aD:(l.take (j+1)).filter (fun x=>!p x)=(l.take j).filter (fun x=>!p x)++[y].filter (fun x=>!p x):=by rw[u9,W,List.filter_append];rfl
  rw[bc,br];refine⟨fun aS=>?_,fun aT=>?_⟩
  ·have aE:=ai.ext ak;rw[fS rfl ac.u U.i aE (by omega)];refine fT U.i aE (by omega) fun bj aU bk aV=>?_;rw[aI,wrap_i64 (by omega) (by omega)];refine aC _ _ ⟨q+1,_,rfl,by omega,(ah.trans (ak.O _)).trans aU,aV,by simpa using aB,?_,fun k al=>?_⟩
   ·rw[aD,u9,W8 (by omega),List.take_set_of_le (o7 _),Y];simp only[Z0];rw[show[y].filter (fun x=>!p x)=[y] by simpa using aS]
   ·rw[W3 (by omega)];exact aw k (by omega)
  ·refine aC _ _ ⟨q,I,rfl,by omega,ah.trans (ak.O _),ai.ext ak,aB,?_,fun k al=>aw k (by omega)⟩;rw[aD,show[y].filter (fun x=>!p x)=[] by simpa using aT,V9];exact Y
 ·have aW:j=n:=by omega
  subst aW;rw[←ap,o9] at Y;obtain⟨_,_,cs,aX,_,_,bl,aY⟩:=ox ai (by omega);simp only[maxLen] at aH;rw[gh ac.u U.i (l:=q) (h:=j) (m:=V) nH hT eM (by omega) (by omega) (by omega),if_neg (by omega)];have a1:V0 (fun x:Addr=>x.add (q*1)) (some ⟨g,0,none⟩)=some ⟨g,q,none⟩:=by simp[U4]
  rw[a1];refine wQ ac.u U.i rfl rfl aX (by omega) (by omega) fun bm a2 bn a6=>?_;rw[gh ac.u U.i (l:=0) (h:=q) (m:=V) hS nI eM (by omega) (by omega) (by omega),if_neg (by omega)];have a7:V0 (fun x:Addr=>x.add (0*1)) (some ⟨g,0,none⟩)=some ⟨g,0,none⟩:=by simp[U4]
  rw[a7];refine⟨(ah.trans a2).mono fun r _=>aA r,?_⟩;have bo:(l.filter fun x=>!p x).length=q:=by rw[←Y,o8];omega
  rw[←Y,Nat.sub_zero];refine⟨?_,fun r aq=>by obtain⟨a,_,_,e,ba⟩:=aq;cases e;exact⟨_,_,_,rfl,ba⟩⟩;refine am.of (n:=q) ⟨by simp;omega,.inr ⟨V,_,by simp,a6,by omega,by simp only[maxLen];omega,by rw[jR];omega,?_⟩⟩;rw[T1];apply Y8;intro k;by_cases al:k<q
  ·rw[Z6 al,li _ _ _ (by simp;omega),if_neg (by omega),ints,x8,Z6 al];have:(cs.take j)[k]? =(ints .i64 I)[k]?:=by rw[aY]
   rw[Z6 (by omega),ints,x8] at this;exact this
  ·rw[Z9 (by simp;omega),Z9 (by simp;omega)]
def kj (s:aF) (i:Int) (j:Nat):Bool:=match s.funs[j]? with
 |some f=>decide (f.live≠0)&&decide (i∈f.sc)
 |none=>false
def ic (s:aF) (i:Int) (m:Nat):List Int:=((X7 m).filter (kj s i)).map fun j:Nat=>(j:Int)
theorem JR {A R:ag} {n:aS} {s:aF} {t:aH} {i:Int} (h:cp w aj ah A R n s t):af x3 BP [.pointer (some ⟨aj,0,none⟩),.int .i64 i] w fun v w'=>Ext w w'∧ ∃ g,am .i64 U w' g v (ic s i s.funs.length)∧ ∀ r,leads v r→w.heap.size≤r:=by
 have a1:=oP h.2.1 h.2.2.1;have a2:s.funs.length≤100000000:=by
  have h1:=oF s;have aA:∀ (L:List eF),L.length≤(L.flatMap fG).length:=fun L=>by
   induction L with
   |nil=>exact o7 _
   |cons a L a6=>rw[W9,o5,j4];have:(fG a).length=a.cs.length+1:=rfl;omega
  have a7:=aA s.funs;omega
 refine az func64 ?_;refine (Ah h).mono ?_;rintro _ J _ ⟨rfl,aB⟩;refine bt.range s.funs.length (fun j out ad=>Ext w ad∧ ∃ g,am .i64 U ad g out (ic s i j)∧ ∀ r,leads out r→w.heap.size≤r) (by omega) ⟨aB,0,am.nil _ _ _ _,fun r ak=>by obtain⟨a,n,c,aC,a8⟩:=ak;cases aC⟩ ?_ ?_
 ·rintro j out ad aD aE ⟨O,g,hm,ae⟩ aG;obtain⟨f,Y⟩:∃ f,s.funs[j]? =some f:=⟨_,y0 aE⟩;have ap:ic s i (j+1)=if kj s i j=true then ic s i j++[(j:Int)] else ic s i j:=by
   unfold ic;rw[List.range_succ,List.filter_append];cases aJ:kj s i j <;> simp[aJ]
  rw[an,ab];refine⟨fun _=>?_,fun h=>by omega⟩;refine aM (fun out W=>Ext w W∧ ∃ g,am .i64 U W g out (ic s i (j+1))∧ ∀ r,leads out r→w.heap.size≤r) ?_ ?_
  ·rintro out W aK;rw[aI];exact aG _ _ aK
  intro ba aq;refine aM (fun r W=>r= .bool (kj s i j)∧Ext ad W) ?_ ?_
  ·rintro _ W ⟨rfl,I⟩;rw[br];refine⟨fun aL=>?_,fun Y=>aq _ _ ⟨O.trans I,g,by rw[ap,if_neg (by rw[Y];decide)];exact hm.ext I,ae⟩⟩;refine dx (k:=.i64) ac.u U.i rfl fun v4 bb aN bc ai aO=>?_;have bd:(ic s i j).length≤j:=by unfold ic;rw[u5];have:=List.length_filter_le (kj s i) (X7 j);rw[List.length_range] at this;exact this
   refine fx ac.u U.i rfl ((hm.ext I).ext ai) aO.ls (by simp;omega) (by simp;omega) fun v5 aP aQ aR aT aU=>?_;have z3:=O.size;have aV:Ext w aQ:=((O.trans I).trans ai).then aU fun r ak he=>by have:=ae r he;omega
   have z4:=((O.trans I).trans ai).size;exact aq _ _ ⟨aV,aP,by rw[ap,if_pos aL];exact aR,fun r ak=>(aT r ak).elim (ae r) fun h=>by omega⟩
  intro be au;refine (oT (j:=(j:Int)) (h.ext O)).mono ?_;rintro _ W _ ⟨rfl,I⟩;rw[decide_eq_true (by omega),Bool.true_and,Z3];have aW:dS s j=decide (f.live≠0):=by unfold dS;rw[Y]
  rw[aW,ab];refine⟨fun al=>?_,fun al=>au _ _ ⟨by unfold kj;rw[Y];simp only;rw[decide_eq_false al];rfl,I⟩⟩;obtain⟨bf,bg,aX,bh,bi,bj,L,bk,aY,bl,bm,bn,av,ao⟩:=(h.ext (O.trans I)).1.parts;obtain⟨y,ax⟩:∃ y,L[j]? =some y:=⟨_,y0 (by rw[ao.1];omega)⟩;obtain⟨aZ,_,_⟩:=ao.2 j y f ax Y;rw[aw,V bM.p rfl,aa (v:=aX) (by kernel_rfl) (aY.cell (o:=0+3) rfl),cT rfl en.u dw.i av (by rw[ao.1];omega),V dw.p rfl,aa (v:=y.ay) (by kernel_rfl) (av.range ax 0 _ rfl)];refine (Ay (x:=i) aZ.ls).mono ?_;rintro _ aN _ ⟨rfl,ai⟩;exact au _ _ ⟨by unfold kj;rw[Y];simp only;rw[decide_eq_true al,Bool.true_and],I.trans ai⟩
 ·rintro out ad aD ⟨O,g,hm,ae⟩;rw[an,ab];exact⟨fun h=>by omega,fun _=>⟨O,g,hm,ae⟩⟩
theorem ue {full:List x1} {o q:Nat} (O:∀ (k:Nat) y,c[k]? =some y→full[o+k]? =some y) (U:o+c.length≤full.length) (V:q<c.length):full.set (o+q) x=over full o (c.set q x):=by
 refine Y8 fun k=>?_;rw[li _ _ _ (by rw[Y6];exact U),Y5,Y6];by_cases h1:o≤k∧k<o+c.length
 ·rw[if_pos h1,Y5];by_cases I:o+q=k
  ·rw[if_pos I,if_pos (by omega),if_pos (by omega),if_pos (by omega)]
  ·rw[if_neg I,if_neg (by omega)];have J:k-o<c.length:=by omega
   have:=O (k-o) c[k-o] (y0 J);rw[y0 J,←this];congr 1;omega
 ·rw[if_neg h1,if_neg (by omega)]
section
variable {w0 w w':x2} {aj ah al aW:Nat} {A R:ag} {A9:Nat→ag} {aQ:ag} {n:aS} {s u u':aF} {t:aH} {h:List aH} {cs:List x1} {a:db} {aA ay ce v:x1} {Q:x1→x2→Prop}
theorem bE.gi (p:bE w aj ah al A R A9 aQ n s u t h cs):(∀ i j r,i≠j→A9 i r→¬A9 j r)∧ ∀ i r,A9 i r→¬aQ r:=by
 obtain⟨_,_,_,_,_,_,_,_,_,_,_,_,_,I⟩:=p.doc;exact I rfl
theorem bE.AA {T:ag} (p:bE w aj ah al A R A9 aQ n s u t h cs) (V:∀ q r,A9 q r→r<w.heap.size) (W:cs[6]? =some v) (J:ad T w w') (O:∀ r,r<w.heap.size→T r→A9 3 r) (Y:bi (fun r=>A9 3 r∨w.heap.size≤r) aQ w' [v] (u'.funs.map eu))
  (aa:u'.zero=u.zero) (ab:u'.vars=u.vars) (ac:u'.elims=u.elims):∃ bz,bE w' aj ah al A R bz aQ n s u' t h cs∧ ∀ q r,bz q r→(∃ ae,A9 ae r)∨w.heap.size≤r:=by
 have af:=bx.gw p.doc (ng J) (fun r I=>.inl (O r I.2 I.1)) Y (fun j r ai I=>?_) (fun r I=>?_)
 ·have U:=ud (w:=w) (A9:=A9) (q:=3) (B:=fun r=>A9 3 r∨w.heap.size≤r) fun r h=>h;refine⟨_,p.row J O ?_ U,U⟩;have:=bx.mH W af;unfold gy;rw[aa,ab,ac];exact this
 ·rcases I with I|I
  ·exact p.gi.1 3 j r (Ne.symm ai) I
  ·exact fun h=>by have:=V j r h;omega
 ·rcases I with I|I
  ·exact p.gi.2 3 r I
  ·exact fun h=>by have:=(p.read r h).2.1;omega
theorem JS {F:ag} {f:eF} {g:Nat} {x:Int} (h:bi (α:=gx) F R w c (eu f)) (Y:ad (fun r=>r=g) w w') (aa:¬F g) (ab:¬R g):c.length=4∧bi (α:=gx) F R w' (c.set 3 (.bool (decide (x≠0)))) (eu {f with live:=x}):=by
 have U:c.length=4:=ai.len h;obtain⟨V,ac,A,B,rfl,W,ae,af,h1,J⟩:=h;have J:ac=[.bool (decide (f.live≠0))]:=J;subst J;have ah:V.length=3:=by simpa using U
 refine⟨U,V,[.bool (decide (x≠0))],A,B,?_,W,ae,af,ai.O h1 Y fun r aj I he=>?_,rfl⟩
 ·rw[V8 _ _ (by omega),ah];rfl
 ·have he:r=g:=he;subst he;rcases I with I|I
  ·exact aa (W r I)
  ·exact ab I
def lW (s:aF) (a:db):aF:=if 0≤a.j∧dS s a.j.toNat=true then iJ s a.j.toNat else s
theorem JT (p:bE w0 aj ah al A R A9 aQ n s s t h cs) (aR:Room t) (az:Ext w0 w) (ao:dT w aW n.k a aA ay ce w0.heap.size) (aS:∀ w',ib w0 aj ah al A R A9 aQ n (lW s a) t h w'→Q (.bool true) w'):
  be (α:=x1→x2→Prop) (fun(bf:x1) (aB:x2)=>
       I x3 (x7 aN (.pointer (some ⟨aW,0,none⟩)) 3) aB fun bg=>
       I x3 (x6 U bg) aB fun bh=>
       af x3 vx [.pointer (some ⟨aj,0,none⟩),bh] aB fun bi aT=>
       I x3 (av .eql dL false false bi bf) aT fun bj=>
       Q bj aT) fun aU=>
      cj w fun ak=>
      I x3 (aX (.pointer (some ⟨al,0,none⟩))) ak fun bk=>
      I x3 (x6 aK bk) ak fun bm=>
      I x3 (x7 aN (.pointer (some ⟨aW,0,none⟩)) 3) ak fun bn=>
      I x3 (x6 U bn) ak fun bo=>
      af x3 rQ [bm,bo] ak fun bp aC=>
       I x3 (Op.unary .not bp) aC fun bq=>
       Split bq (aU (.int .i64 1) aC)
       (cj aC fun W=>
       I x3 (aX (.pointer (some ⟨al,0,none⟩))) W fun bt=>
       I x3 (x7 aK bt 6) W fun bu=>
       I x3 (x6 ck bu) W fun bw=>
       I x3 (x7 aN (.pointer (some ⟨aW,0,none⟩)) 3) W fun bx=>
       I x3 (x6 U bx) W fun bA=>
       I x3 (o6 ck bw bA) W fun bB=>
       I x3 (x7 dj bB 1) W fun bC=>
       ax x3 (o3 ea bC (.bool false)) W fun(_:Unit) bD=>
       aU (.int .i64 0) bD):=by
 have ap:=p.olds.ext az;by_cases J:0≤a.j∧dS s a.j.toNat=true
 rotate_left
 ·refine aM (fun v Y=>v= .int .i64 1∧Ext w Y) ?_ ?_
  ·rintro _ Y ⟨rfl,aD⟩;rw[V aN.p rfl,aa (v:=.int .i64 a.j) (by kernel_rfl) ((ao.ext aD).c0.cell (o:=0+3) rfl)];refine (Al (j:=a.j) (ap.ext aD).cE aR).mono ?_;rintro v aE _ ⟨h1,_⟩;obtain⟨rfl,am⟩:=h1 J;rw[a8];exact aS _ (by unfold lW;rw[if_neg J];exact jx p ((az.trans aD).trans am))
  ·intro bF aF bG ab _ _;rw[aw];refine (ap.ext ab).look.load fun bH aG=>?_;rw[V aN.p rfl,aa (v:=.int .i64 a.j) (by kernel_rfl) ((ao.ext ab).c0.cell (o:=0+3) rfl)];refine (ua (j:=a.j) aG).mono ?_;rintro _ aE _ ⟨rfl,am⟩;rw[bc,br];refine⟨fun _=>aF _ _ ⟨rfl,ab.trans am⟩,fun bI=>?_⟩;exact absurd (by simpa using bI) J
 refine aM (fun v Y=>v= .int .i64 0∧dT Y aW n.k a aA ay ce w0.heap.size∧ad (fun r=>(∃ q,A9 q r)∨r=al) w0 Y∧ ∃ bz,bE Y aj ah al A R bz aQ n s (iJ s a.j.toNat) t h cs∧ ∀ q r,bz q r→(∃ aH,A9 aH r)∨w0.heap.size≤r) ?_ ?_
 ·rintro _ Y ⟨rfl,bJ,bK,bz,aV,aI⟩;rw[V aN.p rfl,aa (v:=.int .i64 a.j) (by kernel_rfl) (bJ.c0.cell (o:=0+3) rfl)];refine (Al (j:=a.j) aV.cE aR).mono ?_;rintro v aE _ ⟨_,ac⟩;obtain⟨rfl,bL,bM,q,bN,bO⟩:=ac J;obtain⟨_,bP⟩:=pa (v:=.int .i64 0) aV bK aI ⟨rfl,bL,bM,q,0,bN,bO⟩;rw[a8];exact aS _ (by unfold lW;rw[if_pos J];exact bP)
 intro bF aF bG ab _ _;rw[aw];refine (ap.ext ab).look.load fun bH aG=>?_;rw[V aN.p rfl,aa (v:=.int .i64 a.j) (by kernel_rfl) ((ao.ext ab).c0.cell (o:=0+3) rfl)];refine (ua (j:=a.j) aG).mono ?_;rintro _ aE _ ⟨rfl,am⟩;rw[decide_eq_true J.1,J.2,bc,br];refine⟨fun h=>by simp at h,fun _=>?_⟩;intro aY bQ _ _;have aJ:=(ab.trans am).trans bQ;have aZ:=az.trans aJ;have aL:=ap.ext aJ;have a1:=ao.ext aJ;obtain⟨f,ag,b3⟩:∃ f,s.funs[a.j.toNat]? =some f∧f.live≠0:=by
  have ac:=J.2;unfold dS at ac;cases ag:s.funs[a.j.toNat]? with
  |none=>rw[ag] at ac;cases ac
  |some f=>rw[ag] at ac;exact⟨f,rfl,by simpa using ac⟩
 obtain⟨aq,b4,b5,b6,b7,b8,a2,_,_,_,_,bR,_,a6⟩:=id aL.doc;have z:=aZ.size;have bS:∀ q r,(A9 q r∧r<w0.heap.size)→r<aY.heap.size:=fun q r h=>by have:=h.2;omega
 obtain⟨g,cap,full,b9,c,ca,rfl,bT,a7,aO,bU,ba,cb,bV,bW⟩:=uc (i:=a.j.toNat) (a:=eu f) bR (by rw[x8,ag];rfl) fun r _ h=>(a6 rfl).2 3 r h;have bb:=aL.box;rw[a2] at bb;have bX:a.j.toNat<(s.funs.map eu).length:=by rw[u5];exact (x4.1 ag).1
 have cc:=J.1;have bY:c.length=4:=ai.len ba;have aO:a.j.toNat*4+4≤full.length:=aO;have bZ:∀ (q:Nat) x,c[q]? =some x→full[a.j.toNat*4+q]? =some x:=bU;rw[aw,V aK.p rfl,aa (v:=.slice (some ⟨g,0,none⟩) (s.funs.map eu).length cap) (by kernel_rfl) (bb.cell (o:=0+6) rfl),V aN.p rfl,aa (v:=.int .i64 a.j) (by kernel_rfl) (a1.c0.cell (o:=0+3) rfl),
  show a.j=((a.j.toNat:Nat):Int) by omega,fe ck.u dj.i bX fun _=>rfl,V dj.p rfl]
 refine bl (o:=0+a.j.toNat*4+3) ea.i rfl rfl bT (by omega) fun cd an cg bd=>?_;obtain⟨_,b0⟩:=JS (x:=0) ba an bV ((a6 rfl).2 3 g a7);rw[W6,ue bZ (by rw[bY];exact aO) (by omega)] at bd;have b1:=bW an (fun r _ h=>.inr h) bd b0 fun r ae=>.inl ae;have au:iJ s a.j.toNat={s with funs:=s.funs.set a.j.toNat {f with live:=0}}:=by unfold iJ;rw[ag]
 have aP:∀ r,r<aY.heap.size→r=g→A9 3 r∧r<w0.heap.size:=fun r _ h=>by rw[h];exact a7
 obtain⟨bz,b2,aI⟩:=aL.AA (u':=iJ s a.j.toNat) bS (by rw[a2];rfl) an aP (by rw[au,U3];exact b1) (by rw[au]) (by rw[au]) (by rw[au]);refine aF _ _ ⟨rfl,a1.O an fun r ae h=>(aP r ae h).2,((aZ.O _).trans (an.mono fun r ae h=>.inl ⟨3,(aP r ae h).1⟩)),bz,b2,fun q r ae=>?_⟩;rcases aI q r ae with⟨aH,h⟩|h
 ·exact .inl ⟨aH,h.1⟩
 ·exact .inr (by omega)
end
theorem JU {m:Int} {v w:Int} (I:0≤v) (hw:0≤w):dropped (((m.toNat ||| 2 ^ v.toNat:Nat):Int)) w=(dropped m w||decide (w=v)):=by
 unfold dropped;rw[Z3,Nat.testBit_or,Nat.testBit_two_pow];congr 1;exact decide_eq_decide.2 ⟨fun h=>by omega,fun h=>by omega⟩
theorem JV {x:gR} {v:Int} (I:0≤v):dA {x with mask:=((x.mask.toNat ||| 2 ^ v.toNat:Nat):Int)}=(dA x).filter fun y=>!decide (y=v):=by
 unfold dA;rw[List.filter_filter];refine List.filter_congr fun y J=>?_;obtain⟨q,_,rfl⟩:=j5.1 J;rw[JU I (by omega)];cases dropped x.mask (q:Int) <;> simp
section
variable {w0 w w':x2} {aj ah al aW:Nat} {A R:ag} {A9:Nat→ag} {aQ:ag} {n:aS} {s u u':aF} {t:aH} {h:List aH} {cs:List x1} {a:db} {aA ay ce v:x1} {Q:x1→x2→Prop}
theorem bE.JW {T:ag} (p:bE w aj ah al A R A9 aQ n s u t h cs) (V:∀ q r,A9 q r→r<w.heap.size) (W:cs[3]? =some v) (J:ad T w w') (O:∀ r,r<w.heap.size→T r→A9 0 r) (Y:bi (fun r=>A9 0 r∨w.heap.size≤r) aQ w' [v] (u'.vars.map dA))
  (aa:u'.zero=u.zero) (ab:u'.vars.map (·.un)=u.vars.map (·.un)) (ac:(u'.vars.map fun x=>decide (x.gone≠0))=u.vars.map fun x=>decide (x.gone≠0)) (ae:u'.funs=u.funs) (af:u'.elims=u.elims):
  ∃ bz,bE w' aj ah al A R bz aQ n s u' t h cs∧ ∀ q r,bz q r→(∃ ai,A9 ai r)∨w.heap.size≤r:=by
 have ak:=bx.As p.doc (ng J) (fun r I=>.inl (O r I.2 I.1)) Y (fun j r am I=>?_) (fun r I=>?_)
 ·have U:=ud (w:=w) (A9:=A9) (q:=0) (B:=fun r=>A9 0 r∨w.heap.size≤r) fun r h=>h;refine⟨_,p.row J O ?_ U,U⟩;have:=bx.mH W ak;unfold gy;rw[aa,ab,ac,ae,af];exact this
 ·rcases I with I|I
  ·exact p.gi.1 0 j r (Ne.symm am) I
  ·exact fun h=>by have:=V j r h;omega
 ·rcases I with I|I
  ·exact p.gi.2 0 r I
  ·exact fun h=>by have:=(p.read r h).2.1;omega
def lX (n:aS) (s:aF) (a:db):aF:=if ej n a.i a.v then gv s a.i.toNat a.v.toNat else s
theorem JX (p:bE w0 aj ah al A R A9 aQ n s s t h cs) (a7:Room t) (aG:Ext w0 w) (aH:dT w aW n.k a aA ay ce w0.heap.size) (ba:∀ w',ib w0 aj ah al A R A9 aQ n (lX n s a) t h w'→Q (.bool true) w'):
  be (α:=x1→x2→Prop) (fun(bG:x1) (ao:x2)=>
      I x3 (x7 aN (.pointer (some ⟨aW,0,none⟩)) 1) ao fun bI=>
      I x3 (x6 U bI) ao fun bJ=>
      I x3 (x7 aN (.pointer (some ⟨aW,0,none⟩)) 2) ao fun bK=>
      I x3 (x6 U bK) ao fun bL=>
      af x3 pF [.pointer (some ⟨aj,0,none⟩),bJ,bL] ao fun bM bd=>
      I x3 (av .eql dL false false bM bG) bd fun bN=>
      Q bN bd) fun bf=>
     I x3 (Op.unary .not (.bool (decide (ej n a.i a.v)))) w fun bO=>
     Split bO (bf (.int .i64 1) w)
      (cj w fun J=>
      I x3 (aX (.pointer (some ⟨al,0,none⟩))) J fun aI=>
      I x3 (x7 aK aI 3) J fun aJ=>
      I x3 (x6 cQ aJ) J fun bg=>
      I x3 (x7 aN (.pointer (some ⟨aW,0,none⟩)) 1) J fun aL=>
      I x3 (x6 U aL) J fun bh=>
      I x3 (aX (.pointer (some ⟨al,0,none⟩))) J fun bP=>
      I x3 (x7 aK bP 3) J fun bQ=>
      I x3 (x6 cQ bQ) J fun bR=>
      I x3 (x7 aN (.pointer (some ⟨aW,0,none⟩)) 1) J fun bS=>
      I x3 (x6 U bS) J fun bT=>
      I x3 (o6 cQ bR bT) J fun bU=>
      I x3 (x6 ac bU) J fun bV=>
      I x3 (Instr.makeFunc (.func B5) #[] #[(.pointer (some ⟨aW,0,none⟩))]) J fun bW=>
      af x3 vH [bV,bW] J fun bX ab=>
      (Ext J ab∨bb x3 (x6 U aL) bh ab∧bb x3 (x7 aN (.pointer (some ⟨aW,0,none⟩)) 1) aL ab∧bb x3 (x6 cQ aJ) bg ab∧bb x3 (x7 aK aI 3) aJ ab∧bb x3 (aX (.pointer (some ⟨al,0,none⟩))) aI ab∧True)∧
      I x3 (o6 cQ bg bh) ab fun bY=>
      ax x3 (o3 ac bY bX) ab fun(_:Unit) bZ=>
       bf (.int .i64 0) bZ):=by
 have call:∀ {W:x2} {K:x1→x2→Prop},dT W aW n.k a aA ay ce w0.heap.size→(af x3 pF [.pointer (some ⟨aj,0,none⟩),.int .i64 a.i,.int .i64 a.v] W K)→
   I x3 (x7 aN (.pointer (some ⟨aW,0,none⟩)) 1) W fun b0=>I x3 (x6 U b0) W fun b1=>I x3 (x7 aN (.pointer (some ⟨aW,0,none⟩)) 2) W fun b2=>I x3 (x6 U b2) W fun b3=>
   af x3 pF [.pointer (some ⟨aj,0,none⟩),b1,b3] W K:=fun aB b4=>by
  rw[V aN.p rfl,aa (v:=.int .i64 a.i) (by kernel_rfl) (aB.c0.cell (o:=0+1) rfl),V aN.p rfl,aa (v:=.int .i64 a.v) (by kernel_rfl) (aB.c0.cell (o:=0+2) rfl)];exact b4
 have bi:=p.olds.ext aG;by_cases ag:ej n a.i a.v
 rotate_left
 ·refine aM (fun v W=>v= .int .i64 1∧w=W) ?_ ?_
  ·rintro _ W ⟨rfl,rfl⟩;refine call aH ((tS (i:=a.i) (v:=a.v) bi.cE a7).mono ?_);rintro v b5 _ ⟨h1,_⟩;obtain⟨rfl,b6⟩:=h1 ag;rw[a8];exact ba _ (by unfold lX;rw[if_neg ag];exact jx p (aG.trans b6))
  ·intro b7 aO;rw[decide_eq_false ag,bc,X4,bC];exact aO _ _ ⟨rfl,rfl⟩
 refine aM (fun v W=>v= .int .i64 0∧dT W aW n.k a aA ay ce w0.heap.size∧ad (fun r=>(∃ q,A9 q r)∨r=al) w0 W∧ ∃ bz,bE W aj ah al A R bz aQ n s (gv s a.i.toNat a.v.toNat) t h cs∧ ∀ q r,bz q r→(∃ aR,A9 aR r)∨w0.heap.size≤r) ?_ ?_
 ·rintro _ W ⟨rfl,aB,b8,bz,bj,aS⟩;refine call aB ((tS (i:=a.i) (v:=a.v) bj.cE a7).mono ?_);rintro v b5 _ ⟨_,bk⟩;obtain⟨rfl,ak,b9,y,ca,cb⟩:=bk ag;obtain⟨_,cc⟩:=pa (v:=.int .i64 0) bj b8 aS ⟨rfl,ak,b9,_,y,ca,cb⟩;rw[a8];exact ba _ (by unfold lX;rw[if_pos ag];exact cc)
 intro b7 aO;rw[decide_eq_true ag,bc,Y4,aP];intro aT aU _ _;have bm:=aG.trans aU;have aC:=bi.ext aU;have aV:=aH.ext aU;obtain⟨x,ap,cF,cG,_⟩:=ag.var p.cE.2.2.2.1;obtain⟨h1,bk,cd,cH⟩:=id ag;obtain⟨aq,cI,cJ,cK,cL,cM,bo,_,cg,_,_,_,_,ch⟩:=id aC.doc;have z:=bm.size;have ci:∀ q r,(A9 q r∧r<w0.heap.size)→r<aT.heap.size:=fun q r h=>by have:=h.2;omega
 obtain⟨g,cap,full,ck,c,aY,rfl,bp,cl,aZ,bq,br,a1,bt,cm⟩:=uc (i:=a.i.toNat) (a:=dA x) cg (by rw[x8,ap];rfl) fun r _ h=>(ch rfl).2 0 r h;obtain⟨u',rfl⟩:=X1.1 (ai.len br);obtain⟨cN,cO,hm,cn⟩:=DV br;have am:∀ r,leads u' r→aY r:=fun r Y=>by
  rcases cn with rfl|cp
  ·obtain⟨_,_,_,e,_⟩:=Y;cases e
  ·obtain⟨e,_⟩:=bn hm Y;rw[e];exact cp
 have aD:=aC.box;rw[bo] at aD;have bu:a.i.toNat<(s.vars.map dA).length:=by rw[u5];exact (x4.1 ap).1
 have aZ:a.i.toNat*1+1≤full.length:=aZ;have cq:full[a.i.toNat*1]? =some u':=bq 0 u' rfl;obtain⟨_,_,_,cP⟩:=bH hm.ls;have cr:a.i=((a.i.toNat:Nat):Int):=by omega
 have ct:(dA x).length≤100000000:=by
  unfold dA;have:=List.length_filter_le (fun v:Int=>!dropped x.mask v) ((X7 x.un.length).map fun v:Nat=>(v:Int));rw[u5,List.length_range] at this;omega
 have aE:=aV.c0;rw[cr] at aE;have bw:∀ r,leads u' r→r<w0.heap.size:=fun r Y=>(a1 r (am r Y)).2;rw[aw,V aK.p rfl,aa (v:=.slice (some ⟨g,0,none⟩) (s.vars.map dA).length cap) (by kernel_rfl) (aD.cell (o:=0+3) rfl),V aN.p rfl,aa (v:=.int .i64 ((a.i.toNat:Nat):Int)) (by kernel_rfl) (aE.cell (o:=0+1) rfl),
  aw,V aK.p rfl,aa (v:=.slice (some ⟨g,0,none⟩) (s.vars.map dA).length cap) (by kernel_rfl) (aD.cell (o:=0+3) rfl),V aN.p rfl,aa (v:=.int .i64 ((a.i.toNat:Nat):Int)) (by kernel_rfl) (aE.cell (o:=0+1) rfl),fe cQ.u ac.i bu fun _=>rfl,
  aa (v:=u') (o:=0+a.i.toNat*1) (by kernel_rfl) (bp.cell (by rw[W6];exact cq)),lf]
 refine (JQ (p:=fun y=>decide (y=a.v)) hm ct fun w' y cu cR=>?_).mono ?_
 ·refine az func86 ?_;rw[V aN.p rfl,aa (v:=.int .i64 a.v) (by kernel_rfl) ((aV.O cu fun r _ h=>bw r h).c0.cell (o:=0+2) rfl),a8];exact⟨rfl,Ext.refl _⟩
 rintro bx cS _ ⟨aF,bA,bB⟩;have cw:=aE.O aF fun h=>by have:=bw aW h;have:=aH.low.1;omega
 have cz:=aD.O aF fun h=>(aC.apart 0 al (a1 al (am al h))).2.2 rfl;have cA:=bp.O aF fun h=>bt (am g h);refine⟨.inr ⟨p5 (by kernel_rfl) (cw.cell (o:=0+1) rfl),Go.Vc.jh fun K=>V aN.p rfl,p5 (by kernel_rfl) (cz.cell (o:=0+3) rfl),Go.Vc.jh fun K=>V aK.p rfl,Go.Vc.jh fun K=>aw,trivial⟩,?_⟩;rw[fe cQ.u ac.i bu fun _=>rfl];obtain⟨_,_,_,ev'⟩:=bH bA.ls;refine bl (o:=0+a.i.toNat*1) ac.i (by rw[ev'];rfl) (by rw[ev'];rfl) cA (by omega) fun bD bF cT au=>?_;have au:ae bD g ck (over full (a.i.toNat*1) [bx]):=by
  have e:=ue (full:=full) (c:=[u']) (o:=a.i.toNat*1) (q:=0) (x:=bx) bq aZ (by simp);rw[W6] at au;rw[Nat.add_zero] at e;rw[e] at au;exact au
 have ak:ad (fun r=>aY r∨r=g) aT bD:=(aF.mono fun r _ h=>.inl (am r h)).trans (bF.mono fun r _ h=>.inr h);have cB:=a6 bA bF fun r Y he=>by have he:r=g:=he;subst he;exact bt (am r (bB r Y))
 have cC:=cm ak (fun r _ h=>h) au (kV (R:=aQ) cB) fun r Y=>.inl (am r (bB r Y));have an:gv s a.i.toNat a.v.toNat={s with vars:=s.vars.set a.i.toNat {x with mask:=((x.mask.toNat ||| 2 ^ a.v.toNat:Nat):Int)}}:=by unfold gv;rw[ap]
 have a2:∀ r,r<aT.heap.size→(aY r∨r=g)→A9 0 r∧r<w0.heap.size:=fun r _ h=>h.elim (a1 r) fun h=>by rw[h];exact cl
 obtain⟨bz,cD,aS⟩:=aC.JW (u':=gv s a.i.toNat a.v.toNat) ci (by rw[bo];rfl) ak a2 (by rw[an,U3,JV cd];exact cC) (by rw[an]) (by rw[an];exact nf ap rfl) (by rw[an];exact nf ap rfl) (by rw[an]) (by rw[an]);refine aO _ _ ⟨rfl,aV.O ak fun r Y h=>(a2 r Y h).2,((bm.O _).trans (ak.mono fun r Y h=>.inl ⟨0,(a2 r Y h).1⟩)),bz,cD,fun q r Y=>?_⟩;rcases aS q r Y with⟨aR,h⟩|h
 ·exact .inl ⟨aR,h.1⟩
 ·exact .inr (by omega)
end
section
variable {w0 w w':x2} {aj ah al aW:Nat} {A R:ag} {A9:Nat→ag} {aQ:ag} {n:aS} {s u u':aF} {t:aH} {h:List aH} {cs:List x1} {a:db} {aA ay ce v:x1} {Q:x1→x2→Prop}
theorem JY {j c:Int} (h:cp w aj ah A R n s t) (O:¬(0≤j∧dS s j.toNat=true)):af x3 nA [.pointer (some ⟨aj,0,none⟩),.int .i64 j,aA,.int .i64 c] w fun r w'=>r= .int .i64 1∧Ext w w':=by
 refine az func57 ?_;have:af x3 vN [.pointer (some ⟨aj,0,none⟩),.int .i64 j,aA] w fun r w'=>r= .int .i64 (-1)∧Ext w w':=by
  refine az func137 ?_;refine (oT (j:=j) h).mono ?_;rintro _ J _ ⟨rfl,I⟩;rw[bc,br];refine⟨fun _=>⟨rfl,I⟩,fun U=>absurd (by simpa using U) O⟩
 refine this.mono ?_;rintro _ J _ ⟨rfl,I⟩;refine (nc (h.ext I) (.inl (by omega))).mono ?_;rintro r W _ ⟨rfl,V⟩;exact⟨by rw[if_pos (by omega)],I.trans V⟩
theorem JZ {F:ag} {f:eF} (h:bi (α:=gx) F R w c (eu f)) (ac:∀ r,F r→¬R r):∃ ay aq aG J,c=[ay,aq,aG,.bool (decide (f.live≠0))]∧bi J R w [aG] f.cs∧(∀ r,J r→F r)∧
  ∀ {w':x2} {bU:List Int},ad J w w'→bi J R w' [aG] bU→bi (α:=gx) F R w' c (eu {f with cs:=bU}):=by
 obtain⟨aI,ao,A,B,rfl,ae,ap,au,h1,V⟩:=h;obtain⟨av,aJ,aw,ax,rfl,az,af,ah,aj,aA⟩:=h1;obtain⟨aB,aC,aD,W,rfl,aE,Y,ak,al,am⟩:=aA;have V:ao=[.bool (decide (f.live≠0))]:=V;subst V;obtain⟨aa,rfl⟩:=X1.1 (show av.length=1 from ai.len aj);obtain⟨U,rfl⟩:=X1.1 (show aB.length=1 from ai.len al);obtain⟨v3,rfl⟩:=X1.1 (show aC.length=1 from ai.len am);have ab:∀ r,W r→F r:=fun r h=>ae r (af r (Y r h));refine⟨aa,U,v3,W,rfl,am,ab,fun {w' bU} an aF=>?_⟩;refine⟨[aa,U,v3],[.bool (decide (f.live≠0))],A,B,rfl,ae,ap,au,⟨[aa],[U,v3],aw,ax,rfl,az,af,ah,ai.O aj an fun r aH I he=>?_,[U],[v3],aD,W,rfl,aE,Y,ak,ai.O al an fun r aH I he=>?_,aF⟩,rfl⟩
 ·exact I.elim (fun I=>ah rfl r I (Y r he)) (ac r (ab r he))
 ·exact I.elim (fun I=>ak rfl r I he) (ac r (ab r he))
def kk (n:aS) (s:aF) (a:db):aF:=if 0≤a.j∧(eI s a.j.toNat (a.t.take 40)).isSome=true∧(0≤bV n.k a∧bV n.k a≤n.k) then (match s.funs[a.j.toNat]? with
 |some f=>match bX f.szs (a.t.take 40) 0 with
  |some m=>gw s a.j.toNat m.toNat (bV n.k a)
  |none=>s
 |none=>s) else s
theorem J0 (p:bE w0 aj ah al A R A9 aQ n s s t h cs) (bn:Room t) (ba:Ext w0 w) (bb:dT w aW n.k a aA ay ce w0.heap.size) (bo:∀ w',ib w0 aj ah al A R A9 aQ n (kk n s a) t h w'→Q (.bool true) w'):
  be (α:=x1→x2→Prop) (fun(bN:x1) (aU:x2)=>
      be (α:=x1→x2→Prop) (fun(ca:x1) (aF:x2)=>
       I x3 (x7 aN (.pointer (some ⟨aW,0,none⟩)) 3) aF fun cb=>
       I x3 (x6 U cb) aF fun cc=>
       I x3 (x7 aN (.pointer (some ⟨aW,0,none⟩)) 5) aF fun bp=>
       I x3 (x6 ac bp) aF fun cd=>
       I x3 (x7 aN (.pointer (some ⟨aW,0,none⟩)) 4) aF fun cg=>
       I x3 (x6 ak cg) aF fun ch=>
       af x3 nA [.pointer (some ⟨aj,0,none⟩),cc,cd,ch] aF fun ci bO=>
       I x3 (av .eql dL false false ci ca) bO fun bq=>
       Q bq bO) fun bt=>
      I x3 (av .lss U false true bN (.int .i64 0)) aU fun cl=>
      Split cl (bt (.int .i64 1) aU)
      (I x3 (Op.unary .not (.bool (decide (0≤bV n.k a∧bV n.k a≤n.k)))) aU fun cm=>
      Split cm (bt (.int .i64 3) aU)
       (cj aU fun Y=>
       I x3 (aX (.pointer (some ⟨al,0,none⟩))) Y fun cn=>
       I x3 (x7 aK cn 6) Y fun cp=>
       I x3 (x6 ck cp) Y fun cq=>
       I x3 (x7 aN (.pointer (some ⟨aW,0,none⟩)) 3) Y fun cr=>
       I x3 (x6 U cr) Y fun ct=>
       I x3 (o6 ck cq ct) Y fun cu=>
       I x3 (x7 dj cu 0) Y fun cw=>
       I x3 (x7 aT cw 2) Y fun cz=>
       I x3 (x6 au cz) Y fun cA=>
       I x3 (x7 aN (.pointer (some ⟨aW,0,none⟩)) 4) Y fun cB=>
       I x3 (x6 ak cB) Y fun cC=>
       I x3 (o6 au cA bN) Y fun cD=>
       ax x3 (o3 ak cD cC) Y fun(_:Unit) cF=>
       bt (.int .i64 0) cF))) fun bP=>
     cj w fun aV=>
     I x3 (aX (.pointer (some ⟨al,0,none⟩))) aV fun cG=>
     I x3 (x6 aK cG) aV fun cH=>
     I x3 (x7 aN (.pointer (some ⟨aW,0,none⟩)) 3) aV fun cI=>
     I x3 (x6 U cI) aV fun cJ=>
     af x3 rQ [cH,cJ] aV fun cK bQ=>
     Split cK (cj bQ fun aG=>
     I x3 (aX (.pointer (some ⟨al,0,none⟩))) aG fun cL=>
     I x3 (x6 aK cL) aG fun cM=>
     I x3 (x7 aN (.pointer (some ⟨aW,0,none⟩)) 3) aG fun cN=>
     I x3 (x6 U cN) aG fun cO=>
     I x3 (x7 aN (.pointer (some ⟨aW,0,none⟩)) 5) aG fun cP=>
     I x3 (x6 ac cP) aG fun cQ=>
     af x3 vG [cM,cO,cQ] aG fun cR cS=>
      bP cR cS)
     (bP (.int .i64 (-1)) bQ):=by
 obtain⟨ag,bu⟩:∃ ag,ag=a.t.take 40:=⟨_,rfl⟩;have bd:=p.cE.2.2.2.1;have bR:∀ {J:x2} {K:x1→Prop},dT J aW n.k a aA ay ce w0.heap.size→(aB .i64 J aA ag→K aA)→I x3 (x7 aN (.pointer (some ⟨aW,0,none⟩)) 5) J fun bp=>I x3 (x6 ac bp) J K:=fun am bw=>by
  obtain⟨g,hm⟩:=am.t;obtain⟨_,_,_,e⟩:=bH hm.ls;rw[V aN.p rfl,aa (v:=aA) (by kernel_rfl) (am.c0.cell (o:=0+5) rfl)];exact bw (by rw[bu];exact hm.ls)
 have call:∀ {J:x2} {K:x1→x2→Prop},dT J aW n.k a aA ay ce w0.heap.size→(aB .i64 J aA ag→af x3 nA [.pointer (some ⟨aj,0,none⟩),.int .i64 a.j,aA,.int .i64 (bV n.k a)] J K)→
   I x3 (x7 aN (.pointer (some ⟨aW,0,none⟩)) 3) J fun cT=>I x3 (x6 U cT) J fun cU=>I x3 (x7 aN (.pointer (some ⟨aW,0,none⟩)) 5) J fun cV=>I x3 (x6 ac cV) J fun cW=>
   I x3 (x7 aN (.pointer (some ⟨aW,0,none⟩)) 4) J fun cX=>I x3 (x6 ak cX) J fun cY=>af x3 nA [.pointer (some ⟨aj,0,none⟩),cU,cW,cY] J K:=fun am bw=>by
  rw[V aN.p rfl,aa (v:=.int .i64 a.j) (by kernel_rfl) (am.c0.cell (o:=0+3) rfl)];refine bR am fun ap=>?_;rw[V aN.p rfl,aa (v:=.int .i64 (bV n.k a)) (by kernel_rfl) (am.c0.cell (o:=0+4) rfl)];exact bw ap
 have bf:=p.olds.ext ba;refine aM (fun v J=>Ext w J∧((v= .int .i64 (-1)∧¬(0≤a.j∧(eI s a.j.toNat ag).isSome=true))∨ ∃ f m,v= .int .i64 ((m:Nat):Int)∧0≤a.j∧(eI s a.j.toNat ag).isSome=true∧s.funs[a.j.toNat]? =some f∧f.live≠0∧bX f.szs ag 0=some (m:Int)∧m<f.cs.length)) ?_ ?_
 rotate_left
 ·intro bx az aH bg _ _;rw[aw];refine (bf.ext bg).look.load fun ds cZ=>?_;rw[V aN.p rfl,aa (v:=.int .i64 a.j) (by kernel_rfl) ((bb.ext bg).c0.cell (o:=0+3) rfl)];refine (ua (j:=a.j) cZ).mono ?_;rintro _ aD _ ⟨rfl,ao⟩;rw[br];refine⟨fun bA=>?_,fun aI=>az _ _ ⟨bg.trans ao,.inl ⟨rfl,fun⟨aY,h1⟩=>?_⟩⟩⟩
  ·rw[V5] at bA;have aY:=of_decide_eq_true bA.1;obtain⟨f,W,bB⟩:∃ f,s.funs[a.j.toNat]? =some f∧f.live≠0:=by
    have aZ:=bA.2;unfold dS at aZ;cases W:s.funs[a.j.toNat]? with
    |none=>rw[W] at aZ;cases aZ
    |some f=>rw[W] at aZ;exact⟨f,rfl,by simpa using aZ⟩
   intro bD a1 _ _;have bh:=(bg.trans ao).trans a1;have a2:=bf.ext bh;have aL:=bb.ext bh;rw[aw];refine a2.look.load fun dt c1=>?_;rw[V aN.p rfl,aa (v:=.int .i64 a.j) (by kernel_rfl) (aL.c0.cell (o:=0+3) rfl)];refine bR aL fun ap=>?_;have bS:=JG (j:=a.j.toNat) c1 bd W ap;rw[show ((a.j.toNat:Nat):Int)=a.j by omega] at bS;refine bS.mono ?_;rintro _ bT _ ⟨rfl,bU⟩;have c2:=oU bd (x5 W);rw[Fh c2.1.2];have bW:eI s a.j.toNat ag=(bX f.szs ag 0).map fun m=>dW s a.j.toNat+1+m.toNat:=by unfold eI;rw[W];simp only;rw[if_pos bB]
   cases hi:bX f.szs ag 0 with
   |none=>exact az _ _ ⟨bh.trans bU,.inl ⟨rfl,fun⟨_,h⟩=>by rw[bW,hi] at h;simp at h⟩⟩
   |some m=>
    have aO:(eI s a.j.toNat ag).isSome=true:=by rw[bW,hi];rfl
    obtain⟨q,a6⟩:=Option.isSome_iff_exists.1 aO;obtain⟨_,c3,bi,_,c4,bY,bF,_⟩:=oV bd a6;rw[W] at bi;cases bi;rw[hi] at bY;cases bY;exact az _ _ ⟨bh.trans bU,.inr ⟨f,c4,rfl,aY,aO,W,bB,hi,bF⟩⟩
  ·rw[decide_eq_true aY,Bool.true_and] at aI;obtain⟨q,a6⟩:=Option.isSome_iff_exists.1 h1;obtain⟨_,c3,bi,c5,_⟩:=oV bd a6;unfold dS at aI;rw[bi] at aI;simp[c5] at aI
 rintro _ J ⟨aJ,⟨rfl,aI⟩|⟨f,m,rfl,aY,aO,W,bB,hi,bF⟩⟩
 ·have a7:=bf.ext aJ;have am:=bb.ext aJ;refine aM (fun v aH=>v= .int .i64 1∧J=aH) ?_ ?_
  ·rintro _ aH ⟨rfl,rfl⟩;refine call am fun ap=>?_;have bZ:∀ {aD:x2},Ext J aD→I x3 (av .eql dL false false (.int .i64 1) (.int .i64 1)) aD fun bq=>Q bq aD:=fun ao=>by
    rw[a8];exact bo _ (by unfold kk;rw[←bu,if_neg fun h=>aI ⟨h.1,h.2.1⟩];exact jx p ((ba.trans aJ).trans ao))
   by_cases b0:0≤a.j∧dS s a.j.toNat=true
   ·have aE:=tX (j:=a.j.toNat) (c:=bV n.k a) a7.cE bn ap;rw[show ((a.j.toNat:Nat):Int)=a.j by omega] at aE;refine aE.mono ?_;rintro v aD _ ⟨h1,_⟩;have c6:eI s a.j.toNat ag=none:=by
     cases a6:eI s a.j.toNat ag with
     |none=>rfl
     |some q=>exact absurd ⟨b0.1,by rw[a6];rfl⟩ aI
    obtain⟨rfl,ao⟩:=h1 c6;exact bZ ao
   ·refine (JY (c:=bV n.k a) a7.cE b0).mono ?_;rintro v aD _ ⟨rfl,ao⟩;exact bZ ao
  ·intro bx az;rw[an,ab];exact⟨fun _=>az _ _ ⟨rfl,rfl⟩,fun h=>absurd (by decide) h⟩
 have a7:=bf.ext aJ;have am:=bb.ext aJ;by_cases aR:0≤bV n.k a∧bV n.k a≤n.k
 rotate_left
 ·refine aM (fun v aH=>v= .int .i64 3∧J=aH) ?_ ?_
  ·rintro _ aH ⟨rfl,rfl⟩;refine call am fun ap=>?_;have aE:=tX (j:=a.j.toNat) (c:=bV n.k a) a7.cE bn ap;rw[show ((a.j.toNat:Nat):Int)=a.j by omega] at aE;refine aE.mono ?_;rintro v aD _ ⟨_,h1,_⟩;obtain⟨rfl,ao⟩:=h1 aO aR;rw[a8];exact bo _ (by unfold kk;rw[if_neg fun h=>aR h.2.2];exact jx p ((ba.trans aJ).trans ao))
  ·intro bx az;rw[an,ab];refine⟨fun h=>by omega,fun _=>?_⟩;rw[decide_eq_false aR,bc,X4,bC];exact az _ _ ⟨rfl,rfl⟩
 have c7:kk n s a=gw s a.j.toNat m (bV n.k a):=by
  unfold kk;rw[←bu,if_pos ⟨aY,aO,aR⟩,W];simp only;rw[hi];rfl
 refine aM (fun v J=>v= .int .i64 0∧dT J aW n.k a aA ay ce w0.heap.size∧ad (fun r=>(∃ q,A9 q r)∨r=al) w0 J∧ ∃ bz,bE J aj ah al A R bz aQ n s (gw s a.j.toNat m (bV n.k a)) t h cs∧ ∀ q r,bz q r→(∃ bG,A9 bG r)∨w0.heap.size≤r) ?_ ?_
 ·rintro _ aH ⟨rfl,c8,c9,bz,b1,bI⟩;refine call c8 fun ap=>?_;have aE:=tX (j:=a.j.toNat) (c:=bV n.k a) b1.cE bn ap;rw[show ((a.j.toNat:Nat):Int)=a.j by omega] at aE;refine aE.mono ?_;rintro v aD _ ⟨_,_,h1⟩;obtain⟨rfl,da⟩:=pa b1 c9 bI (h1 aO aR f m W hi);rw[a8];exact bo _ (by rw[c7];exact da)
 intro bx az;rw[an,ab];refine⟨fun h=>by omega,fun _=>?_⟩;rw[decide_eq_true aR,bc,Y4,aP];intro bD a1 _ _;have b2:=(ba.trans aJ).trans a1;have a2:=a7.ext a1;have aL:=am.ext a1;obtain⟨aq,du,dv,dw,dx,dy,b3,_,_,_,_,db,_,bJ⟩:=id a2.doc;have z:=b2.size;have dc:∀ q r,(A9 q r∧r<w0.heap.size)→r<bD.heap.size:=fun q r h=>by have:=h.2;omega
 obtain⟨g,cap,full,dd,c,dz,rfl,b4,dA,bK,b5,de,bL,df,dg⟩:=uc (i:=a.j.toNat) (a:=eu f) db (by rw[x8,W];rfl) fun r _ h=>(bJ rfl).2 3 r h;obtain⟨bj,bk,v3,dh,rfl,b6,bl,di⟩:=JZ de fun r h=>(bJ rfl).2 3 r (bL r h);have b7:=a2.box;rw[b3] at b7;have dk:a.j.toNat<(s.funs.map eu).length:=by rw[u5];exact (x4.1 W).1
 have bK:a.j.toNat*4+4≤full.length:=bK;have b8:full[a.j.toNat*4+2]? =some v3:=b5 2 v3 rfl;obtain⟨_,_,_,dC⟩:∃ a n c,v3= .slice a n c:=by obtain⟨_,_,_,_,_,⟨_,b,o,base,cap,e,_⟩,_⟩:=gj b6;exact⟨_,_,_,e⟩
 rw[aw,V aK.p rfl,aa (v:=.slice (some ⟨g,0,none⟩) (s.funs.map eu).length cap) (by kernel_rfl) (b7.cell (o:=0+6) rfl),V aN.p rfl,aa (v:=.int .i64 a.j) (by kernel_rfl) (aL.c0.cell (o:=0+3) rfl),
  show a.j=((a.j.toNat:Nat):Int) by omega,fe ck.u dj.i dk fun _=>rfl,V dj.p rfl,V aT.p rfl,aa (v:=v3) (o:=0+a.j.toNat*4+0+2) (by kernel_rfl) (b4.cell (by rw[W6,Nat.add_zero];exact b8)),V aN.p rfl,aa (v:=.int .i64 (bV n.k a)) (by kernel_rfl) (aL.c0.cell (o:=0+4) rfl)]
 refine tY (α:=Int) (i:=m) (A:=fun _=>False) rfl rfl au.u ak.i b6 bF rfl rfl (fun r _ aC=>⟨fun h=>h,(bJ rfl).2 3 r (bL r (bl r aC))⟩) fun bT aS dl=>?_;have dm:=di aS (ai.mono dl (fun r _ h=>h.elim id False.elim) fun _ _ h=>h);have dn:ae bT g dd (over full (a.j.toNat*4) [bj,bk,v3,.bool (decide (f.live≠0))]):=by
  have e:=ue (full:=full) (c:=[bj,bk,v3,.bool (decide (f.live≠0))]) (o:=a.j.toNat*4) (q:=2) (x:=v3) b5 bK (by simp);have dp:full.set (a.j.toNat*4+2) v3=full:=by
   refine Y8 fun k=>?_;rw[Y5];by_cases b9:a.j.toNat*4+2=k
   ·subst b9;rw[if_pos rfl,if_pos (by omega),b8]
   ·rw[if_neg b9]
  rw[dp] at e;rw[show ([bj,bk,v3,.bool (decide (f.live≠0))]:List x1)=[bj,bk,v3,.bool (decide (f.live≠0))].set 2 v3 from rfl,←e];exact b4.O aS fun h=>df (bl g h)
 have dq:=dg aS (fun r _ h=>.inl (bl r h)) dn dm fun r aC=>.inl aC;have bm:gw s a.j.toNat m (bV n.k a)={s with funs:=s.funs.set a.j.toNat {f with cs:=f.cs.set m (bV n.k a)}}:=by unfold gw;rw[W]
 have bM:∀ r,r<bD.heap.size→dh r→A9 3 r∧r<w0.heap.size:=fun r _ h=>bL r (bl r h);obtain⟨bz,dr,bI⟩:=a2.AA (u':=gw s a.j.toNat m (bV n.k a)) dc (by rw[b3];rfl) aS bM (by rw[bm,U3];exact dq) (by rw[bm]) (by rw[bm]) (by rw[bm]);refine az _ _ ⟨rfl,aL.O aS fun r aC h=>(bM r aC h).2,((b2.O _).trans (aS.mono fun r aC h=>.inl ⟨3,(bM r aC h).1⟩)),bz,dr,fun q r aC=>?_⟩;rcases bI q r aC with⟨bG,h⟩|h
 ·exact .inl ⟨bG,h.1⟩
 ·exact .inr (by omega)
end
theorem J1 {cs:List Int} {aG:x1} (h1:aB .i64 w ay sc) (ao:aB .i64 w aq (bd sizes sc)) (ap:aB .i64 w aG cs) (W:eE sizes k (sc,cs)) (ah:∀ z∈sizes,1≤z∧z≤32) (aA:aB .i64 w cn a) (ag:∀ v∈sc,∃ x,a[v.toNat]? =some x∧0≤x∧x<sizes.getD v.toNat 0):
  af x3 B4 [.agg #[ay,aq,aG],cn] w fun v w'=>v= .int .i64 (cu (bd sizes sc) cs (fl a sc))∧Ext w w':=by
 have ai:dC (bd sizes sc):=mV ah fun v ag=>⟨(W.scope.1 v ag).1,W.vars v ag⟩;have aS:sc.length≤6:=W.scope.2;refine az func82 ?_;refine bL fun aC J aU Y O=>?_;have O:ae J aC aT [ay,aq,aG]:=by
  obtain⟨_,_,_,aD⟩:=bH h1;obtain⟨_,_,_,aF⟩:=bH ao;obtain⟨_,_,_,aH⟩:=bH ap;rw[aD,aF,aH] at O ⊢;exact O
 rw[V aT.p rfl,aa (v:=ay) (by kernel_rfl) (O.cell (o:=0+0) rfl),aL ac.u (h1.ext Y)];have aV:(fl a sc).length=sc.length:=by unfold fl;rw[u5]
 have aW:(bd sizes sc).length=sc.length:=by unfold bd;rw[u5]
 refine bt.range sc.length (fun i aJ aj=>Ext J aj∧ ∃ m:Int,aJ= .int .i64 m∧bX ((bd sizes sc).take i) ((fl a sc).take i) 0=some m) h1.le ⟨Ext.refl _,0,rfl,rfl⟩ ?_ ?_
 ·rintro i _ aj aK hi ⟨I,m,rfl,hm⟩ aM;obtain⟨v,ad⟩:∃ v,sc[i]? =some v:=⟨_,y0 hi⟩;obtain⟨x,av,aN,aO⟩:=ag v (x5 ad);have aX:=W.scope.1 v (x5 ad);have al:(bd sizes sc)[i]? =some (sizes.getD v.toNat 0):=by unfold bd;rw[x8,ad];rfl
  have aP:(fl a sc)[i]? =some x:=by unfold fl;rw[x8,ad,Z2,u4,av];rfl
  have aY:=ai _ (x5 al);have aw:∀ z∈(bd sizes sc).take i,1≤z∧z≤32:=fun z ah=>ai z (List.mem_of_mem_take ah);have aQ:=i9 aw hm;have a1:=prod_bound (l:=(bd sizes sc).take i) ⟨by rw[o8];omega,aw⟩;rw[an,ab];refine⟨fun _=>?_,fun h=>by omega⟩;rw[aZ ac.u U.i (by kernel_rfl) (h1.ext (Y.trans I)) ad];intro a2 am _ _;have ax:=(Y.trans I).trans am;have a6:0≤m*sizes.getD v.toNat 0∧m*sizes.getD v.toNat 0≤1073741824*32:=⟨Int.mul_nonneg (by omega) (by omega),Int.mul_le_mul (by omega) (by omega) (by omega) (by omega)⟩;rw[V aT.p rfl,aa (v:=aq) (by kernel_rfl) ((O.ext (I.trans am)).cell (o:=0+1) rfl),aZ ac.u U.i (by kernel_rfl) (ao.ext ax) al,e0,wrap_i64 (by omega) (by omega),dt (y:=v) (i:=v.toNat) (by omega) ac.u U.i (by kernel_rfl) (aA.ext ax) av,aI,wrap_i64 (by omega) (by omega),aI];refine aM _ _ ⟨I.trans am,_,rfl,?_⟩;rw[u9,u9,al,aP,Z0,Z0,Am (by rw[o8,o8];omega),hm];simp only[Option.bind_some];rw[if_pos ⟨aN,aO⟩]
 ·rintro _ aj aK ⟨I,m,rfl,hm⟩;rw[l5 (by omega),l5 (by omega)] at hm;have aQ:=i9 ai hm;have a7:cs.length=(aE (bd sizes sc)).toNat:=W.len;rw[an,ab];refine⟨fun h=>by omega,fun _=>?_⟩;have aR:cs[m.toNat]? =some (cs.getD m.toNat 0):=by rw[u4,y0 (by omega)];rfl
  rw[V aT.p rfl,aa (v:=aG) (by kernel_rfl) ((O.ext I).cell (o:=0+2) rfl),dt (y:=m) (i:=m.toNat) (by omega) au.u ak.i (by kernel_rfl) (ap.ext (Y.trans I)) aR];refine⟨?_,Y.trans I⟩;unfold cu;rw[hm]
set_option maxHeartbeats 4000000 in
theorem J2 {s:aF} (h:ia w sv k sizes s) (ag:et k sizes s) (bD:h9 s) (aJ:h5 s a) (a8:aB .i64 w cn a):af x3 vw [sv,cn] w fun v w'=>v= .int .i64 (gr k s a)∧Ext w w':=by
 have cq:=ag.vars;have cr:=ag.iD;refine az func17 ?_;refine bL fun ct J cw ax aj=>?_;obtain⟨aq,bE,bF,bG,bH,cz,aj,cA,_,bI,bJ,bK,aN,_⟩:=h.box ax aj;have aO:=a8.ext ax;have cB:=aJ.1;rw[V aK.p rfl,aa (v:=.int .i64 s.zero) (by kernel_rfl) (aj.cell (o:=0+2) rfl),aL ac.u aO];obtain⟨Y,aA⟩:∃ Y,Y=s.vars.zip a:=⟨_,rfl⟩;have cC:Y.length=a.length:=by rw[aA,List.length_zip];omega
 refine jF.range a.length (fun i _ ah aP=>Ext J aP∧ ∃ I:Int,ah= .int .i64 I∧I=(Y.take i).foldl (ga k) s.zero∧(0≤I∧I≤k)∧(Y.take i).all eH=true) a8.le
  ⟨Ext.refl _,s.zero,rfl,rfl,ag.zero,rfl⟩ ?_ ?_
 ·rintro i t4 _ aP bM hi ⟨ad,I,rfl,aC,aQ,aD⟩ bP;obtain⟨x,ae⟩:∃ x,s.vars[i]? =some x:=⟨_,y0 (by omega)⟩;obtain⟨v,O⟩:∃ v,a[i]? =some v:=⟨_,y0 hi⟩;obtain⟨z,al⟩:∃ z,sizes[i]? =some z:=⟨_,y0 (by omega)⟩;obtain⟨cD,bQ,_⟩:=ag.var i x z ae al;have ba:Y[i]? =some (x,v):=by rw[aA,List.getElem?_zip_eq_some];exact⟨ae,O⟩
  have bb:Y.take (i+1)=Y.take i++[(x,v)]:=by rw[u9,ba];rfl
  have am:(Y.take (i+1)).foldl (ga k) s.zero=ga k I (x,v):=by rw[bb,List.foldl_append,←aC];rfl
  have bd:(Y.take (i+1)).all eH=eH (x,v):=by rw[bb,List.all_append,aD];simp
  have bR:(s.vars.map fun x=>decide (x.gone≠0))[i]? =some (decide (x.gone≠0)):=by rw[x8,ae];rfl
  rw[an,ab];refine⟨fun _=>?_,fun h=>by omega⟩;refine gY (fun _ ah be=>Ext J be∧ ∃ I:Int,ah= .int .i64 I∧I=(Y.take (i+1)).foldl (ga k) s.zero∧(0≤I∧I≤k)∧(Y.take (i+1)).all eH=true) ?_ ?_
  ·rintro t4 ah be aR;rw[aI];exact bP _ _ _ aR
  intro bS ao;have aS:=aj.ext ad;rw[aZ ac.u U.i (by kernel_rfl) (aO.ext ad) O,V aK.p rfl,aa (v:=bF) (by kernel_rfl) (aS.cell (o:=0+4) rfl)];refine io (α:=Bool) rfl rfl ew.u ea.i (by kernel_rfl) (bO bJ ad) bR fun bT bU=>?_;obtain rfl:bT= .bool (decide (x.gone≠0)):=(T8 bU).1;rw[ab];refine⟨fun bf=>ao _ _ _ ⟨ad,I,rfl,?_,aQ,?_⟩,fun aU=>?_⟩
  ·rw[am];unfold ga;rw[if_pos bf]
  ·rw[bd];unfold eH;rw[decide_eq_true bf,Bool.true_or]
  have bV:0≤v∧v<x.un.length:=(aJ.2 i x v ae O).resolve_left aU;rw[V aK.p rfl,aa (v:=bE) (by kernel_rfl) (aS.cell (o:=0+3) rfl)];refine io (α:=List Int) (a:=dA x) rfl rfl cQ.u ac.i (by kernel_rfl) (bO bI ad) (by rw[x8,ae];rfl) fun cE bW=>?_;refine (tT (v:=v) (ff bW)).mono ?_;rintro _ cF _ ⟨rfl,bg⟩;have bh:=ad.trans bg;have bi:=Jp bV;rw[bc,br];refine⟨fun aV=>?_,fun aV=>?_⟩
  ·have bY:v∉dA x:=by simpa using aV
   rw[V aK.p rfl,aa (v:=.int .i64 k) (by kernel_rfl) ((aS.ext bg).cell (o:=0+0) rfl)];refine⟨?_,ax.trans bh⟩;unfold gr;rw[←aA,if_neg];intro bZ;have:=List.all_eq_true.1 bZ (x,v) (x5 ba);unfold eH at this;rw[decide_eq_false aU,Bool.false_or] at this;exact bY (bi.2 (by simpa using this))
  have b0:dropped x.mask v=false:=bi.1 (by simpa using aV);intro cG b1 _ _;have aW:=bh.trans b1;have bj:=aj.ext aW;have bk:x.un[v.toNat]? =some (x.un.getD v.toNat 0):=by rw[u4,y0 (show v.toNat<x.un.length by omega)];rfl
  have cH:=bQ _ (x5 bk);rw[V aK.p rfl,aa (v:=bG) (by kernel_rfl) (bj.cell (o:=0+5) rfl)];refine io (α:=List Int) (a:=x.un) rfl rfl ek.u au.i (by kernel_rfl) (bO bK aW) (by rw[x8,ae];rfl) fun cI b2=>?_;rw[dt (y:=v) (i:=v.toNat) (by omega) au.u ak.i (by kernel_rfl) (ff b2) bk,V aK.p rfl,aa (v:=.int .i64 k) (by kernel_rfl) (bj.cell (o:=0+0) rfl)];refine (sM (by omega) (by omega)).mono ?_;rintro _ cJ _ ⟨rfl,b3⟩;refine ao _ _ _ ⟨aW.trans b3,_,rfl,?_,⟨by omega,by omega⟩,?_⟩
  ·rw[am];unfold ga;rw[if_neg aU]
  ·rw[bd];unfold eH;rw[b0];simp
 rintro t4 _ aP bM ⟨ad,I,rfl,aC,aQ,aD⟩;rw[l5 (by omega)] at aC aD;have b4:gr k s a=s.funs.foldl (e8 k a) I:=by
  unfold gr;rw[←aA,aD,if_pos rfl,←aC]
 rw[an,ab];refine⟨fun h=>by omega,fun _=>?_⟩;rw[V aK.p rfl,aa (v:=bH) (by kernel_rfl) ((aj.ext ad).cell (o:=0+6) rfl),fR ck.u (bO aN ad),u5];have bl:=mr aN;rw[u5] at bl;refine bt.range s.funs.length (fun j ah ap=>Ext J ap∧ ∃ W:Int,ah= .int .i64 W∧W=(s.funs.take j).foldl (e8 k a) I∧0≤W∧W≤k) bl
  ⟨ad,I,rfl,rfl,aQ⟩ ?_ ?_
 rotate_left
 ·rintro _ ap b5 ⟨av,W,rfl,aE,_⟩;rw[l5 (by omega)] at aE;rw[an,ab];exact⟨fun h=>by omega,fun _=>⟨by rw[b4,aE],ax.trans av⟩⟩
 rintro j _ ap b5 cK ⟨av,W,rfl,aE,b6⟩ b7;obtain⟨f,aw⟩:∃ f,s.funs[j]? =some f:=⟨_,y0 (by omega)⟩;obtain⟨aH,bm,cL⟩:=ag.funs f (x5 aw);have am:(s.funs.take (j+1)).foldl (e8 k a) I=e8 k a W f:=by
  rw[u9,aw,Z0,List.foldl_append,←aE];rfl
 rw[an,ab];refine⟨fun _=>?_,fun h=>by omega⟩;refine aM (fun ah bn=>Ext J bn∧ ∃ W:Int,ah= .int .i64 W∧W=(s.funs.take (j+1)).foldl (e8 k a) I∧0≤W∧W≤k) ?_ ?_
 ·rintro ah bn aR;rw[aI];exact b7 _ _ aR
 intro bS ao;refine jV dj.p rfl ck.u dj.i (bO aN av) (by rw[x8,aw];rfl) fun cM bo=>?_;have b8:=ai.one bo;obtain⟨ay,aX,aG,rfl,b9,ca,cb⟩:=q4 bo;refine bu dj.i fun aY cN cO cc cd=>?_;refine bN (vs:=[ay,aX,aG,.bool (decide (f.live≠0))]) dj.i rfl rfl b8 cd fun ce cg cP bp=>?_;have bq:Ext ap ce:=cc.then cg fun r bx he=>by have he:r=aY:=he;omega
 rw[V dj.p rfl,aa (v:=.bool (decide (f.live≠0))) (by kernel_rfl) (bp.cell (o:=0+3) rfl),ab];refine⟨fun bz=>?_,fun ch=>ao _ _ ⟨av.trans bq,W,rfl,by rw[am];unfold e8;rw[if_neg ch],b6⟩⟩;intro a1 bA _ _;have bB:=bq.trans bA;have a2:=av.trans bB;have ci:=aj.ext a2;have a6:=bp.ext bA;have bx:a1.rangeAt aY 0 [ay,aX,aG]:=fun q v O=>by
  match q,O with
  |0,O=>cases O;exact a6.cell rfl
  |1,O=>cases O;exact a6.cell rfl
  |2,O=>cases O;exact a6.cell rfl
 rw[V dj.p rfl,bw aT.p aT.i rfl (show a1.rangeAt aY (0+0) [ay,aX,aG] from bx),V aK.p rfl,aa (v:=.int .i64 k) (by kernel_rfl) (ci.cell (o:=0+0) rfl)];have a7:∀ {v:x1} {l:List Int},Seen eN ap [v] l→aB .i64 a1 v l:=fun h=>(ff h).ext bB;refine (J1 (a:=a) (a7 b9) (bm▸a7 ca) (a7 cb) aH ag.dX.2.2 (aO.ext a2) fun v O=>?_).mono ?_
 ·have cR:=aH.scope.1 v O;have cS:=aH.vars v O;obtain⟨x,ae⟩:∃ x,s.vars[v.toNat]? =some x:=⟨_,y0 (by omega)⟩;obtain⟨u,hu⟩:∃ u,a[v.toNat]? =some u:=⟨_,y0 (by omega)⟩;obtain⟨z,al⟩:∃ z,sizes[v.toNat]? =some z:=⟨_,y0 (by omega)⟩;have cT:=(ag.var _ x z ae al).1;have cU:=ag.dX.2.2 z (x5 al);have cj:=bD f (x5 aw) bz v O x ae;have cl:=(aJ.2 _ x u ae hu).resolve_left fun h=>h cj;refine⟨u,hu,cl.1,?_⟩;rw[u4,al,U7];omega
 rintro _ cV _ ⟨rfl,bC⟩;refine⟨.inl bC,?_⟩;rw[←bm];have cW:0≤cu f.szs f.cs (fl a f.sc)∧cu f.szs f.cs (fl a f.sc)≤k:=by
  unfold cu;cases hi:bX f.szs (fl a f.sc) 0 with
  |none=>simp only;omega
  |some m=>
   simp only;obtain⟨cm,cX,_⟩:=oU ag (x5 aw);have cY:=i9 cm.2 hi;rw[u4,y0 (by omega),U7];exact aH.hl _ (T6 _)
 refine (sM (by omega) (by omega)).mono ?_;rintro _ cZ _ ⟨rfl,cp⟩;refine ao _ _ ⟨(a2.trans bC).trans cp,_,rfl,?_,by omega,by omega⟩;rw[am];unfold e8;rw[if_pos bz]
section
variable {w:x2} {n:aS} {v:x1} {s:aF}
theorem AB {ap:x1} (h:ia w v n.k n.sizes s) (aF:et n.k n.sizes s) (W:aB .i64 w ap l):af x3 CD [v,ap] w fun r w'=>(∃ b,r= .bool b∧(b=true↔jw n s l))∧Ext w w':=by
 have a6:=aF.vars;refine az func175 ?_;refine bL fun a7 J a8 I ah=>?_;have au:=h.box I ah;rw[aL ac.u (W.ext I)];refine bt.range l.length (fun i _ al=>Ext J al∧ ∀ q,q<i→lT n s l q) W.le ⟨Ext.refl _,fun q aG=>by omega⟩ ?_ ?_
 ·rintro i _ al aH hi ⟨Y,aJ⟩ aN;obtain⟨x,ad⟩:∃ x,l[i]? =some x:=⟨_,y0 hi⟩;have aO:=I.trans Y;rw[an,ab];refine⟨fun _=>?_,fun h=>by omega⟩;rw[aZ ac.u U.i (by kernel_rfl) (W.ext aO) ad];have av:∀ {p:Prop},(¬(0≤x∧x<n.sizes.length∧dv s x.toNat=false∧(0<i→l.getD (i-1) 0<x)))→lT n s l i→p:=fun ai ⟨v,ae,am⟩=>by
   rw[ad] at ae;cases ae;exact absurd am ai
  refine aM (fun r aw=>∃ b,r= .bool b∧(b=false↔lT n s l i)∧Ext J aw) ?_ ?_
  ·rintro _ aw ⟨b,rfl,ah,ax⟩;rw[br];refine⟨fun aP=>⟨⟨false,rfl,⟨(fun h=>by cases h),fun h=>?_⟩⟩,I.trans ax⟩,fun aQ=>?_⟩
   ·have:=ah.2 (h i hi);rw[aP] at this;cases this
   ·rw[aI];refine aN _ _ ⟨ax,fun q aG=>?_⟩;by_cases aR:q=i
    ·subst aR;exact ah.1 aQ
    ·exact aJ q (by omega)
  intro ba aj;refine (au.ext Y).load fun u hu=>?_;refine (o1 (i:=x) hu).mono ?_;rintro _ bb _ ⟨rfl,aS⟩;have O:=Y.trans aS;rw[bc,br];refine⟨fun ai=>aj _ _ ⟨true,rfl,⟨(fun h=>by cases h),av fun ag=>?_⟩,O⟩,fun aT=>?_⟩
  ·rw[decide_eq_true (show 0≤x∧x<n.sizes.length from⟨ag.1,ag.2.1⟩)] at ai;cases ai
  have ak:0≤x∧x<n.sizes.length:=by simpa using aT
  obtain⟨y,ay⟩:∃ y,s.vars[x.toNat]? =some y:=⟨_,y0 (by omega)⟩;have aA:dv s x.toNat=decide (y.gone≠0):=by unfold dv;rw[ay]
  obtain⟨aq,bd,aU,be,bf,bg,aV,_,_,_,aW,_⟩:=au.ext O;rw[V aK.p rfl,aa (v:=aU) (by kernel_rfl) (aV.cell (o:=0+4) rfl)];refine io (α:=Bool) (i:=x.toNat) rfl (by omega) ew.u ea.i (by kernel_rfl) aW (by rw[x8,ay];rfl) fun aX aY=>?_;obtain rfl:aX= .bool (decide (y.gone≠0)):=(T8 aY).1;rw[ab];refine⟨fun ao=>aj _ _ ⟨true,rfl,⟨(fun h=>by cases h),av fun ag=>?_⟩,O⟩,fun ao=>?_⟩
  ·rw[aA,decide_eq_true ao] at ag;cases ag.2.2.1
  have aC:dv s x.toNat=false:=by rw[aA];exact decide_eq_false ao
  rw[bA,ab];refine⟨fun a1=>?_,fun a1=>aj _ _ ⟨false,rfl,⟨fun _=>⟨x,ad,ak.1,ak.2,aC,fun h=>by omega⟩,fun _=>rfl⟩,O⟩⟩;obtain⟨p,aD⟩:∃ p,l[i-1]? =some p:=⟨_,y0 (by omega)⟩;have bh:=W.le;rw[dd,wrap_i64 (by omega) (by omega),dt (y:=(i:Int)-1) (i:=i-1) (by omega) ac.u U.i (by kernel_rfl) (W.ext (I.trans O)) aD,cm];have aE:l.getD (i-1) 0=p:=by rw[u4,aD];rfl
  refine aj _ _ ⟨_,rfl,⟨fun h=>⟨x,ad,ak.1,ak.2,aC,fun _=>by rw[aE];have:=of_decide_eq_false h;omega⟩,fun⟨v,ae,_,_,_,am⟩=>?_⟩,O⟩;rw[ad] at ae;cases ae;have:=am (by omega);rw[aE] at this;exact decide_eq_false (by omega)
 ·rintro _ al aH ⟨Y,a2⟩;rw[an,ab];exact⟨fun h=>by omega,fun _=>⟨⟨true,rfl,⟨fun _=>a2,fun _=>rfl⟩⟩,I.trans Y⟩⟩
def jy (n:aS) (s:aF) (l I:List Int):Prop:=2≤l.length∧l.length=I.length∧jw n s l∧ ∀ (i:Nat) v z,l[i]? =some v→I[i]? =some z→n.sizes.getD v.toNat 0=z
theorem AC {aw ax:x1} {Y:List Int} (h:ia w v n.k n.sizes s) (aG:et n.k n.sizes s) (O:aB .i64 w aw l) (ag:aB .i64 w ax Y):af x3 rX [v,aw,ax] w fun r w'=>(∃ b,r= .bool b∧(b=true↔jy n s l Y))∧Ext w w':=by
 have aH:=O.le;refine az func92 ?_;refine bL fun a7 J a8 I aJ=>?_;have ay:=h.box I aJ;refine aM (fun r aj=>∃ b,r= .bool b∧(b=false↔2≤l.length∧l.length=Y.length∧jw n s l)∧Ext J aj) ?_ ?_
 ·rintro _ aj ⟨b,rfl,aA,ak⟩;rw[br];refine⟨fun aN=>⟨⟨false,rfl,⟨(fun h=>by cases h),fun ad=>?_⟩⟩,I.trans ak⟩,fun aO=>?_⟩
  ·have:=aA.2 ⟨ad.1,ad.2.1,ad.2.2.1⟩;rw[aN] at this;cases this
  obtain⟨aP,aQ,aC⟩:=aA.1 aO;have ae:=I.trans ak;rw[aL ac.u (O.ext ae)];refine bt.range l.length (fun i _ al=>Ext aj al∧ ∀ (q:Nat) v z,q<i→l[q]? =some v→Y[q]? =some z→n.sizes.getD v.toNat 0=z) aH ⟨Ext.refl _,fun q v z aR=>by omega⟩ ?_ ?_
  ·rintro i _ al aS hi ⟨ah,aT⟩ aU;obtain⟨x,am,ba,bb,_⟩:=aC i hi;obtain⟨z,ao⟩:∃ z,Y[i]? =some z:=⟨_,y0 (by omega)⟩;obtain⟨y,aD⟩:∃ y,n.sizes[x.toNat]? =some y:=⟨_,y0 (by omega)⟩;rw[an,ab];refine⟨fun _=>?_,fun h=>by omega⟩;rw[aZ ac.u U.i (by kernel_rfl) (O.ext (ae.trans ah)) am];intro bd aV _ _;have ai:=ah.trans aV;obtain⟨aq,be,bf,bg,bh,bi,aW,aX,_⟩:=ay.ext (ak.trans ai);rw[V aK.p rfl,aa (v:=aq) (by kernel_rfl) (aW.cell (o:=0+1) rfl),dt (y:=x) (i:=x.toNat) (by omega) ac.u U.i (by kernel_rfl) aX aD,aZ ac.u U.i (by kernel_rfl) (ag.ext (ae.trans ai)) ao,bF,ab];have aE:n.sizes.getD x.toNat 0=y:=by rw[u4,aD];rfl
   refine⟨fun ap=>⟨⟨false,rfl,⟨(fun h=>by cases h),fun ad=>?_⟩⟩,ae.trans ai⟩,fun he=>?_⟩
   ·have:=ad.2.2.2 i x z am ao;rw[aE] at this;exact absurd this ap
   ·rw[aI];refine aU _ _ ⟨ai,fun q v aY aR W au=>?_⟩;by_cases a1:q=i
    ·subst a1;rw[am] at W;rw[ao] at au;cases W;cases au;rw[aE];exact Y9.1 he
    ·exact aT q v aY (by omega) W au
  ·rintro _ al aS ⟨ah,a2⟩;rw[an,ab];refine⟨fun h=>by omega,fun _=>⟨⟨true,rfl,⟨fun _=>⟨aP,aQ,aC,fun i v z W ag=>a2 i v z (x4.1 W).1 W ag⟩,fun _=>rfl⟩⟩,ae.trans ah⟩⟩
 intro bj av;rw[aL ac.u (O.ext I),an,ab];refine⟨fun bk=>av _ _ ⟨true,rfl,⟨(fun h=>by cases h),fun h=>by omega⟩,Ext.refl _⟩,fun bl=>?_⟩;rw[aL ac.u (O.ext I),aL ac.u (ag.ext I),bF,ab];refine⟨fun ap=>av _ _ ⟨true,rfl,⟨(fun h=>by cases h),fun h=>absurd (by omega) ap⟩,Ext.refl _⟩,fun he=>?_⟩;refine ay.load fun u hu=>?_;refine (AB hu aG (O.ext I)).mono ?_;rintro _ bm _ ⟨⟨b,rfl,aF⟩,a6⟩;rw[bc];have he:=Y9.1 he;refine av _ _ ⟨!b,rfl,⟨fun h=>⟨by omega,by omega,aF.1 (by simpa using h)⟩,fun h=>by rw[aF.2 h.2.2];rfl⟩,a6⟩
end
structure lY (n:aS) (s:aF) (e:iC):Prop where
 has:0≤e.v∧e.v<n.sizes.length
 there:dv s e.v.toNat=false
 scope:jw n s e.sc
 out:e.v∉e.sc
 lZ:∀ f∈s.funs,f.live≠0→e.v∉f.sc
 count:(e.er.length:Int)=aE (bd n.sizes e.sc)
 er:∀ b∈e.er,-1≤b∧b<n.sizes.getD e.v.toNat 0
theorem AD {m:List Int} (I:∀ x∈m,1≤x) (J:0≤aE l):aE l≤aE (l++m):=by
 induction m generalizing l with
 |nil=>simp
 |cons x m O=>
  have h1:aE l≤aE (l++[x]):=by
   rw[ql];have U:=I x (.head _);have:=Int.mul_le_mul_of_nonneg_left U J;rwa [Int.mul_one] at this
  have:=O (l:=l++[x]) (fun y V=>I y (.tail _ V)) (by omega);rw[V7] at this;exact Int.le_trans h1 this
section
variable {w:x2} {n:aS} {v:x1} {s:aF}
set_option maxHeartbeats 4000000 in
theorem AE {e:iC} (h:ia w v n.k n.sizes s) (aX:et n.k n.sizes s) (aY:aB .i64 w ay e.sc) (a1:aB .i64 w bv e.er) (cR:e.er.length≤1000000):af x3 vJ [v,.agg #[.int .i64 e.v,ay,bv]] w fun r w'=>(∃ b,r= .bool b∧(b=true↔lY n s e))∧Ext w w':=by
 have cS:=aX.vars;refine az func93 ?_;refine bL fun cT J cU bq aO=>?_;have bX:=h.box bq aO;refine bL fun bY bw cV bx a2=>?_;have ak:=bq.trans bx;have av:=bX.ext bx;have ah:ae bw bY cg [.int .i64 e.v,ay,bv]:=by
  obtain⟨_,_,_,bZ⟩:=bH aY;obtain⟨_,_,_,b0⟩:=bH a1;rw[bZ,b0] at a2 ⊢;exact a2
 have aP:=aY.ext ak;have aQ:=a1.ext ak;clear a2 aO;refine aM (fun r a6=>∃ b,r= .bool b∧(b=false↔(0≤e.v∧e.v<n.sizes.length)∧dv s e.v.toNat=false∧jw n s e.sc∧e.v∉e.sc)∧Ext bw a6) ?_ ?_
 rotate_left
 ·intro bz ad;refine av.load fun u hu=>?_;rw[V cg.p rfl,aa (v:=.int .i64 e.v) (by kernel_rfl) (ah.cell (o:=0+0) rfl)];refine (o1 (i:=e.v) hu).mono ?_;rintro _ aw _ ⟨rfl,W⟩;rw[bc,br];refine⟨fun aC=>ad _ _ ⟨true,rfl,⟨(fun h=>by cases h),fun ax=>?_⟩,W⟩,fun a7=>?_⟩
  ·rw[decide_eq_true ax.1] at aC;cases aC
  have ba:0≤e.v∧e.v<n.sizes.length:=by simpa using a7
  obtain⟨y,bB⟩:∃ y,s.vars[e.v.toNat]? =some y:=⟨_,y0 (by omega)⟩;have bC:dv s e.v.toNat=decide (y.gone≠0):=by unfold dv;rw[bB]
  have bb:=av.ext W;have aD:=ah.ext W;obtain⟨aq,b1,bD,b2,bE,b3,b4,_,_,_,b5,_⟩:=id bb;rw[V aK.p rfl,aa (v:=bD) (by kernel_rfl) (b4.cell (o:=0+4) rfl),V cg.p rfl,aa (v:=.int .i64 e.v) (by kernel_rfl) (aD.cell (o:=0+0) rfl)];refine io (α:=Bool) (i:=e.v.toNat) rfl (by omega) ew.u ea.i (by kernel_rfl) b5 (by rw[x8,bB];rfl) fun b6 b7=>?_;obtain rfl:b6= .bool (decide (y.gone≠0)):=(T8 b7).1;rw[ab];refine⟨fun I=>ad _ _ ⟨true,rfl,⟨(fun h=>by cases h),fun ax=>?_⟩,W⟩,fun I=>?_⟩
  ·rw[bC,decide_eq_true I] at ax;cases ax.2.1
  have be:dv s e.v.toNat=false:=by rw[bC];exact decide_eq_false I
  refine bb.load fun u hu=>?_;rw[V cg.p rfl,aa (v:=ay) (by kernel_rfl) (aD.cell (o:=0+1) rfl)];refine (AB hu aX (aP.ext W)).mono ?_;rintro _ al _ ⟨⟨b,rfl,bF⟩,ag⟩;have bf:=W.trans ag;have aR:=aD.ext ag;rw[bc,br];refine⟨fun aC=>ad _ _ ⟨true,rfl,⟨(fun h=>by cases h),fun ax=>?_⟩,bf⟩,fun a7=>?_⟩
  ·rw[bF.2 ax.2.2.1] at aC;cases aC
  have aF:=bF.1 (by simpa using a7);rw[V cg.p rfl,aa (v:=ay) (by kernel_rfl) (aR.cell (o:=0+1) rfl),V cg.p rfl,aa (v:=.int .i64 e.v) (by kernel_rfl) (aR.cell (o:=0+0) rfl)];refine (tT (v:=e.v) (aP.ext bf)).mono ?_;rintro _ am _ ⟨rfl,ao⟩;exact ad _ _ ⟨_,rfl,⟨fun h=>⟨ba,be,aF,of_decide_eq_false h⟩,fun h=>decide_eq_false h.2.2.2⟩,bf.trans ao⟩
 rintro _ a6 ⟨b,rfl,bG,aG⟩;rw[br];refine⟨fun aS=>⟨⟨false,rfl,⟨(fun h=>by cases h),fun I=>?_⟩⟩,ak.trans aG⟩,fun ap=>?_⟩
 ·rw[bG.2 ⟨I.has,I.there,I.scope,I.out⟩] at aS;cases aS
 obtain⟨ba,be,aF,b8⟩:=bG.1 ap;have b9:=av.ext aG;obtain⟨aq,b1,bD,b2,bE,b3,ca,_,_,_,_,_,bg,_⟩:=id b9;rw[V aK.p rfl,aa (v:=bE) (by kernel_rfl) (ca.cell (o:=0+6) rfl),fR ck.u bg,u5];have bI:=mr bg;rw[u5] at bI;refine bt.range s.funs.length (fun j _ aw=>Ext a6 aw∧ ∀ (q:Nat) f,q<j→s.funs[q]? =some f→f.live≠0→e.v∉f.sc) bI ⟨Ext.refl _,fun q f O=>by omega⟩ ?_ ?_
 ·rintro j t4 aw cb cc ⟨W,bh⟩ cd;obtain⟨f,ap⟩:∃ f,s.funs[j]? =some f:=⟨_,y0 cc⟩;have ce:=aG.trans W;rw[an,ab];refine⟨fun _=>?_,fun h=>by omega⟩;refine jV dj.p rfl ck.u dj.i (bO bg W) (by rw[x8,ap];rfl) fun cW bJ=>?_;have ch:=ai.one bJ;obtain⟨bK,ci,cj,rfl,cl,_,_⟩:=q4 bJ;refine bu dj.i fun cn al cX ag aU=>?_;refine bN (vs:=[bK,ci,cj,.bool (decide (f.live≠0))]) dj.i rfl rfl ch aU fun am cp cY bM=>?_;have bi:Ext aw am:=ag.then cp fun r cZ he=>by have he:r=cn:=he;omega
  refine aM (fun r aH=>∃ b,r= .bool b∧(b=true↔f.live≠0∧e.v∈f.sc)∧Ext am aH) ?_ ?_
  ·rintro _ aH ⟨b,rfl,bP,aV⟩;have bQ:=W.trans (bi.trans aV);rw[br];refine⟨fun aS=>⟨⟨false,rfl,⟨(fun h=>by cases h),fun I=>?_⟩⟩,ak.trans (aG.trans bQ)⟩,fun aU=>?_⟩
   ·obtain⟨h1,cq⟩:=bP.1 aS;exact absurd cq (I.lZ f (x5 ap) h1)
   ·rw[aI];refine cd _ _ ⟨bQ,fun q cr O bj aW hm=>?_⟩;by_cases ct:q=j
    ·subst ct;rw[ap] at bj;cases bj;rw[bP.2 ⟨aW,hm⟩] at aU;cases aU
    ·exact bh q cr (by omega) bj aW hm
  intro bz ad;rw[V dj.p rfl,aa (v:=.bool (decide (f.live≠0))) (by kernel_rfl) (bM.cell (o:=0+3) rfl),ab];refine⟨fun aW=>?_,fun cu=>ad _ _ ⟨false,rfl,⟨(fun h=>by cases h),fun h=>absurd h.1 cu⟩,Ext.refl _⟩⟩;rw[V dj.p rfl,V aT.p rfl,aa (v:=bK) (by kernel_rfl) (bM.cell (o:=0+0+0) rfl),V cg.p rfl,aa (v:=.int .i64 e.v) (by kernel_rfl) (((ah.ext ce).ext bi).cell (o:=0+0) rfl)];refine (tT (v:=e.v) ((ff cl).ext bi)).mono ?_;rintro _ c0 _ ⟨rfl,cw⟩;exact ad _ _ ⟨_,rfl,⟨fun h=>⟨aW,of_decide_eq_true h⟩,fun h=>decide_eq_true h.2⟩,cw⟩
 rintro t4 aw cb ⟨W,cz⟩;rw[an,ab];refine⟨fun h=>by omega,fun _=>?_⟩;have aJ:=aG.trans W;have aD:=ah.ext aJ;have bb:=av.ext aJ;have lZ:∀ f∈s.funs,f.live≠0→e.v∉f.sc:=fun f ap=>by
  obtain⟨q,O⟩:=Y2.1 ap;exact cz q f (x4.1 O).1 O
 rw[V cg.p rfl,aa (v:=ay) (by kernel_rfl) (aD.cell (o:=0+1) rfl),aL ac.u (aP.ext aJ)];obtain⟨L,aA⟩:∃ L,L=bd n.sizes e.sc:=⟨_,rfl⟩;have c1:L.length=e.sc.length:=by rw[aA];unfold bd;rw[u5]
 have bk:∀ x∈L,1≤x∧x≤32:=fun x aN=>by
  rw[aA] at aN;unfold bd at aN;obtain⟨v,cA,rfl⟩:=j5.1 aN;obtain⟨q,O⟩:=Y2.1 cA;obtain⟨c2,bR,c3,h1,_⟩:=aF q (x4.1 O).1;rw[O] at bR;cases bR;obtain⟨z,aj⟩:∃ z,n.sizes[v.toNat]? =some z:=⟨_,y0 (by omega)⟩;rw[u4,aj];exact aX.dX.2.2 z (x5 aj)
 have cB:∀ q,0≤aE (L.take q):=fun q=>by
  induction q with
  |zero=>simp[aE]
  |succ q bl=>
   cases O:L[q]? with
   |none=>
    have:=List.getElem?_eq_none_iff.1 O;rw[l5 (by omega)];rw[l5 (by omega)] at bl;exact bl
   |some x=>
    rw[i7 O];exact Int.mul_nonneg bl (by have:=(bk x (x5 O)).1;omega)
 have cC:∀ q,aE (L.take q)≤aE L:=fun q=>by
  have:=AD (l:=L.take q) (m:=L.drop q) (fun x aN=>(bk x (List.mem_of_mem_drop aN)).1) (cB q);rwa [List.take_append_drop] at this
 refine jF.range e.sc.length (fun i _ cD al=>Ext aw al∧ ∃ m:Int,cD= .int .i64 m∧m=aE (L.take i)∧0≤m∧m≤1000000) aY.le ⟨Ext.refl _,1,rfl,rfl,by omega,by omega⟩ ?_ ?_
 ·rintro i t4 _ al cE hi ⟨ag,m,rfl,hm,bS,bT⟩ cF;obtain⟨x,bU,c4,c5,_⟩:=aF i hi;obtain⟨z,aj⟩:∃ z,n.sizes[x.toNat]? =some z:=⟨_,y0 (by omega)⟩;have bV:L[i]? =some z:=by rw[aA];unfold bd;rw[x8,bU,Z2,u4,aj];rfl
  have cG:=bk z (x5 bV);have Y:=aJ.trans ag;obtain⟨bm,_,_,_,_,_,cH,bn,_⟩:=av.ext Y;have c6:0≤m*z∧m*z≤1000000*32:=⟨Int.mul_nonneg bS (by omega),Int.mul_le_mul bT cG.2 (by omega) (by omega)⟩;have cI:aE (L.take (i+1))=m*z:=by rw[i7 bV,hm]
  rw[an,ab];refine⟨fun _=>?_,fun h=>by omega⟩;rw[aZ ac.u U.i (by kernel_rfl) (aP.ext Y) bU,V aK.p rfl,aa (v:=bm) (by kernel_rfl) (cH.cell (o:=0+1) rfl),dt (y:=x) (i:=x.toNat) (by omega) ac.u U.i (by kernel_rfl) bn aj,e0,wrap_i64 (by omega) (by omega),
   V cg.p rfl,aa (v:=bv) (by kernel_rfl) ((ah.ext Y).cell (o:=0+2) rfl),aL ac.u (aQ.ext Y),bA,ab]
  refine⟨fun c7=>⟨⟨false,rfl,⟨(fun h=>by cases h),fun I=>?_⟩⟩,ak.trans Y⟩,fun c8=>?_⟩
  ·have h1:=I.count;rw[←aA] at h1;have:=cC (i+1);omega
  ·rw[aI];exact cF _ _ _ ⟨ag,_,rfl,cI.symm,by omega,by omega⟩
 rintro t4 _ al cE ⟨ag,m,rfl,hm,bS,bT⟩;rw[l5 (by omega)] at hm;have Y:=aJ.trans ag;have aR:=ah.ext Y;obtain⟨z,aj⟩:∃ z,n.sizes[e.v.toNat]? =some z:=⟨_,y0 (by omega)⟩;have bW:n.sizes.getD e.v.toNat 0=z:=by rw[u4,aj];rfl
 rw[an,ab];refine⟨fun h=>by omega,fun _=>?_⟩;rw[V cg.p rfl,aa (v:=bv) (by kernel_rfl) (aR.cell (o:=0+2) rfl),aL ac.u (aQ.ext Y)];refine bt.range e.er.length (fun i _ am=>Ext al am∧ ∀ (q:Nat) b,q<i→e.er[q]? =some b→ -1≤b∧b<z) a1.le ⟨Ext.refl _,fun q b O=>by omega⟩ ?_ ?_
 ·rintro i t4 am cJ hi ⟨ao,bh⟩ cK;obtain⟨b,bo⟩:∃ b,e.er[i]? =some b:=⟨_,y0 hi⟩;have au:=Y.trans ao;rw[an,ab];refine⟨fun _=>?_,fun h=>by omega⟩;rw[aZ ac.u U.i (by kernel_rfl) (aQ.ext au) bo];refine aM (fun r aH=>r= .bool (decide (¬(-1≤b∧b<z)))∧Ext al aH) ?_ ?_
  ·rintro _ aH ⟨rfl,aV⟩;rw[ab];refine⟨fun cL=>⟨⟨false,rfl,⟨(fun h=>by cases h),fun I=>?_⟩⟩,ak.trans (Y.trans aV)⟩,fun cM=>?_⟩
   ·have:=I.er b (x5 bo);rw[bW] at this;exact absurd this cL
   ·rw[aI];refine cK _ _ ⟨aV,fun q cN O bp=>?_⟩;by_cases cO:q=i
    ·subst cO;rw[bo] at bp;cases bp;exact Y9.1 cM
    ·exact bh q cN (by omega) bp
  intro bz ad;obtain⟨bm,_,_,_,_,_,cP,bn,_⟩:=av.ext au;rw[an,ab];refine⟨fun c9=>ad _ _ ⟨by rw[decide_eq_true (by omega)],ao⟩,fun da=>?_⟩;rw[V aK.p rfl,aa (v:=bm) (by kernel_rfl) (cP.cell (o:=0+1) rfl),V cg.p rfl,aa (v:=.int .i64 e.v) (by kernel_rfl) ((ah.ext au).cell (o:=0+0) rfl),dt (y:=e.v) (i:=e.v.toNat) (by omega) ac.u U.i (by kernel_rfl) bn aj,cm];refine ad _ _ ⟨?_,ao⟩;congr 1;exact decide_eq_decide.2 ⟨fun h=>by omega,fun h=>by omega⟩
 rintro t4 am cJ ⟨ao,cQ⟩;rw[an,ab];refine⟨fun h=>by omega,fun _=>?_⟩;have au:=Y.trans ao;rw[V cg.p rfl,aa (v:=bv) (by kernel_rfl) ((ah.ext au).cell (o:=0+2) rfl),aL ac.u (aQ.ext au),a8];refine⟨⟨_,rfl,⟨fun h=>?_,fun I=>?_⟩⟩,ak.trans au⟩
 ·have h:=of_decide_eq_true h;refine⟨ba,be,aF,b8,lZ,by rw[←aA,←hm];exact h.symm,fun b aO=>?_⟩;obtain⟨q,O⟩:=Y2.1 aO;rw[bW];exact cQ q b (x4.1 O).1 O
 ·have:=I.count;rw[←aA] at this;exact decide_eq_true (by omega)
end
section
variable {w:x2} {aj ah:Nat} {A R:ag} {n:aS} {s:aF} {t:aH}
theorem q6 (h:jw n s l):∀ x∈l,0≤x∧x<n.sizes.length:=fun x O=>by
 obtain⟨q,I⟩:=Y2.1 O;obtain⟨v,J,U,h1,_⟩:=h q (x4.1 I).1;rw[I] at J;cases J;exact⟨U,h1⟩
theorem AF {ai:x1} (h:cp w aj ah A R n s t) (Y:aB .i64 w ai l) (ak:∀ x∈l,0≤x) (aG:l.length≤100000000):af x3 Cm [.pointer (some ⟨aj,0,none⟩),ai] w fun r w'=>Ext w w'∧ ∃ g,am .i64 U w' g r (bd n.sizes l)∧ ∀ q,leads r q→w.heap.size≤q:=by
 refine az func142 ?_;rw[aL ac.u Y];refine bt.range l.length (fun i out J=>Ext w J∧ ∃ g,am .i64 U J g out (bd n.sizes (l.take i))∧ ∀ q,leads out q→w.heap.size≤q) Y.le ⟨Ext.refl _,0,am.nil _ _ _ _,fun r O=>by obtain⟨a,n,c,al,aH⟩:=O;cases al⟩ ?_ ?_
 ·rintro i out J ao hi ⟨I,g,hm,W⟩ ap;obtain⟨x,ad⟩:∃ x,l[i]? =some x:=⟨_,y0 hi⟩;rw[an,ab];refine⟨fun _=>?_,fun h=>by omega⟩;obtain⟨aq,aJ,aK,aM,aN,aO,L,aP,au,av,aQ,aR,aS,aT⟩:=(h.ext I).1.parts;rw[aZ ac.u U.i (by kernel_rfl) (Y.ext I) ad,aw,V bM.p rfl,aa (v:=.pointer (some ⟨aq,0,none⟩)) (by kernel_rfl) (au.cell (o:=0+0) rfl)];refine (qW (i:=x) av h.2.2.2.2).mono ?_;rintro _ aU _ ⟨ae,rfl⟩;rw[if_pos (ak x (x5 ad))];refine dx (k:=.i64) ac.u U.i rfl fun v4 aV aW aX ag ax=>?_;have aY:(bd n.sizes (l.take i)).length=i:=by unfold bd;rw[u5,o8];omega
  refine fx ac.u U.i rfl ((hm.ext ae).ext ag) ax.ls (by simp;omega) (by simp;omega) fun v5 ay aA aC aD aE=>?_;have z3:=I.size;have aF:Ext w aA:=((I.trans ae).trans ag).then aE fun r O he=>by have:=W r he;omega
  have z4:=((I.trans ae).trans ag).size;rw[aI];refine ap _ _ ⟨aF,ay,?_,fun r O=>(aD r O).elim (W r) fun h=>by omega⟩;rw[show bd n.sizes (l.take (i+1))=bd n.sizes (l.take i)++[n.sizes.getD x.toNat 0] by unfold bd;rw[u9,ad,b6];rfl];exact aC
 ·rintro out J ao ⟨I,g,hm,W⟩;rw[an,ab];rw[o9] at hm;exact⟨fun h=>by omega,fun _=>⟨I,g,hm,W⟩⟩
theorem AG {s:aF} {i:Int}:ic s i s.funs.length=[]↔ ∀ f∈s.funs,f.live≠0→i∉f.sc:=by
 unfold ic;rw[List.map_eq_nil_iff,List.filter_eq_nil_iff];constructor
 ·intro h f J U hm;obtain⟨q,O⟩:=Y2.1 J;refine h q (List.mem_range.2 (x4.1 O).1) ?_;unfold kj;rw[O];simp only;rw[decide_eq_true U,decide_eq_true hm];rfl
 ·intro h q O I;unfold kj at I;cases J:s.funs[q]? with
  |none=>rw[J] at I;cases I
  |some f=>
   rw[J] at I;simp only[V5,decide_eq_true_eq] at I;exact h f (x5 J) I.1 I.2
set_option maxHeartbeats 4000000 in
theorem J3 {e:iC} (h:cp w aj ah A R n s t) (a6:aB .i64 w ay e.sc) (a7:aB .i64 w bv e.er) (bY:e.er.length≤1000000) (bq:e.sc.length≤100000000):af x3 Cn [.pointer (some ⟨aj,0,none⟩),.agg #[.int .i64 e.v,ay,bv]] w fun r w'=>(∃ b,r= .bool b∧(b=true↔lY n s e))∧Ext w w':=by
 have ba:=h.2.2.2.1;have bZ:=ba.vars;refine az func144 ?_;refine bL fun bt J b0 bu bb=>?_;refine bL fun bw aP b1 be aQ=>?_;have am:=bu.trans be;have ao:ae aP bt fN [.pointer (some ⟨aj,0,none⟩)]:=bb.ext be;have Y:ae aP bw cY [.int .i64 e.v,ay,bv]:=by
  obtain⟨_,_,_,bx⟩:=bH a6;obtain⟨_,_,_,bz⟩:=bH a7;rw[bx,bz] at aQ ⊢;exact aQ
 have aR:=a6.ext am;have aS:=a7.ext am;have ap:=h.ext am;clear aQ bb;refine aM (fun r bf=>∃ b,r= .bool b∧(b=false↔(0≤e.v∧e.v<n.sizes.length)∧dv s e.v.toNat=false∧(∀ f∈s.funs,f.live≠0→e.v∉f.sc)∧jw n s e.sc∧e.v∉e.sc)∧Ext aP bf) ?_ ?_
 rotate_left
 ·intro bB ag;rw[aa (o:=0) (by kernel_rfl) (ao.cell (o:=0) rfl),V cY.p rfl,aa (v:=.int .i64 e.v) (by kernel_rfl) (Y.cell (o:=0+0) rfl)];refine (oR (i:=e.v) ap).mono ?_;rintro _ bg _ ⟨rfl,ai⟩;rw[bc,br];refine⟨fun ax=>ag _ _ ⟨true,rfl,⟨(fun h=>by cases h),fun W=>?_⟩,ai⟩,fun aT=>?_⟩
  ·rw[decide_eq_true W.1] at ax;cases ax
  have aA:0≤e.v∧e.v<n.sizes.length:=by simpa using aT
  rw[aa (o:=0) (by kernel_rfl) ((ao.ext ai).cell (o:=0) rfl),V cY.p rfl,aa (v:=.int .i64 e.v) (by kernel_rfl) ((Y.ext ai).cell (o:=0+0) rfl)];refine (tP (i:=e.v) (ap.ext ai)).mono ?_;rintro _ aC _ ⟨rfl,ak⟩;have O:=ai.trans ak;rw[decide_eq_true aA.1,Bool.true_and,br];refine⟨fun I=>ag _ _ ⟨true,rfl,⟨(fun h=>by cases h),fun W=>?_⟩,O⟩,fun aU=>?_⟩
  ·rw[I] at W;cases W.2.1
  rw[aa (o:=0) (by kernel_rfl) ((ao.ext O).cell (o:=0) rfl),V cY.p rfl,aa (v:=.int .i64 e.v) (by kernel_rfl) ((Y.ext O).cell (o:=0+0) rfl)];refine (JR (i:=e.v) (ap.ext O)).mono ?_;rintro b2 aJ _ ⟨aD,b3,bC,_⟩;have aq:=O.trans aD;rw[aL ac.u bC.ls,bA,ab];refine⟨fun I=>ag _ _ ⟨true,rfl,⟨(fun h=>by cases h),fun W=>?_⟩,aq⟩,fun I=>?_⟩
  ·rw[AG.2 W.2.2.1] at I;simp at I
  have bD:=AG.1 (b8 (l:=ic s e.v s.funs.length) (by omega));rw[aa (o:=0) (by kernel_rfl) ((ao.ext aq).cell (o:=0) rfl),V cY.p rfl,aa (v:=ay) (by kernel_rfl) ((Y.ext aq).cell (o:=0+1) rfl)];refine (Ao (ap.ext aq) (aR.ext aq)).mono ?_;rintro _ bh _ ⟨⟨b,rfl,bi⟩,bE⟩;have aF:=aq.trans bE;rw[bc,br];refine⟨fun ax=>ag _ _ ⟨true,rfl,⟨(fun h=>by cases h),fun W=>?_⟩,aF⟩,fun aT=>?_⟩
  ·rw[bi.2 W.2.2.2.1] at ax;cases ax
  have aG:=bi.1 (by simpa using aT);rw[V cY.p rfl,aa (v:=ay) (by kernel_rfl) ((Y.ext aF).cell (o:=0+1) rfl),V cY.p rfl,aa (v:=.int .i64 e.v) (by kernel_rfl) ((Y.ext aF).cell (o:=0+0) rfl)];refine (Ay (x:=e.v) (aR.ext aF)).mono ?_;rintro _ bF _ ⟨rfl,aH⟩;exact ag _ _ ⟨_,rfl,⟨fun h=>⟨aA,aU,bD,aG,of_decide_eq_false h⟩,fun h=>decide_eq_false h.2.2.2.2⟩,aF.trans aH⟩
 rintro _ bf ⟨b,rfl,bj,au⟩;rw[br];refine⟨fun bk=>⟨⟨false,rfl,⟨(fun h=>by cases h),fun I=>?_⟩⟩,am.trans au⟩,fun bG=>?_⟩
 ·rw[bj.2 ⟨I.has,I.there,I.lZ,I.scope,I.out⟩] at bk;cases bk
 obtain⟨aA,aU,lZ,aG,bI⟩:=bj.1 bG;rw[aa (o:=0) (by kernel_rfl) ((ao.ext au).cell (o:=0) rfl),V cY.p rfl,aa (v:=ay) (by kernel_rfl) ((Y.ext au).cell (o:=0+1) rfl)];refine (AF (ap.ext au) (aR.ext au) (fun x al=>(q6 aG x al).1) bq).mono ?_;rintro b4 bg _ ⟨ai,b5,aK,_⟩;obtain⟨L,av⟩:∃ L,L=bd n.sizes e.sc:=⟨_,rfl⟩;rw[←av] at aK;have bl:=au.trans ai;have b6:L.length=e.sc.length:=by rw[av];unfold bd;rw[u5]
 have aV:∀ x∈L,1≤x∧x≤32:=fun x al=>by
  rw[av] at al;unfold bd at al;obtain⟨v,bJ,rfl⟩:=j5.1 al;obtain⟨b7,h1⟩:=q6 aG v bJ;obtain⟨z,aN⟩:∃ z,n.sizes[v.toNat]? =some z:=⟨_,y0 (by omega)⟩;rw[u4,aN];exact ba.dX.2.2 z (x5 aN)
 have bK:∀ q,0≤aE (L.take q):=fun q=>by
  induction q with
  |zero=>simp[aE]
  |succ q aW=>
   cases aX:L[q]? with
   |none=>
    have:=List.getElem?_eq_none_iff.1 aX;rw[l5 (by omega)];rw[l5 (by omega)] at aW;exact aW
   |some x=>
    rw[i7 aX];exact Int.mul_nonneg aW (by have:=(aV x (x5 aX)).1;omega)
 have bN:∀ q,aE (L.take q)≤aE L:=fun q=>by
  have:=AD (l:=L.take q) (m:=L.drop q) (fun x al=>(aV x (List.mem_of_mem_drop al)).1) (bK q);rwa [List.take_append_drop] at this
 rw[aL ac.u aK.ls];refine jF.range L.length (fun i _ bO aC=>Ext bg aC∧ ∃ m:Int,bO= .int .i64 m∧m=aE (L.take i)∧0≤m∧m≤1000000) aK.ls.le ⟨Ext.refl _,1,rfl,rfl,by omega,by omega⟩ ?_ ?_
 ·rintro i t4 _ aC bP hi ⟨ak,m,rfl,hm,bm,bn⟩ bQ;obtain⟨z,aY⟩:∃ z,L[i]? =some z:=⟨_,y0 hi⟩;have bR:=aV z (x5 aY);have O:=bl.trans ak;have b9:0≤m*z∧m*z≤1000000*32:=⟨Int.mul_nonneg bm (by omega),Int.mul_le_mul bn bR.2 (by omega) (by omega)⟩;have bS:aE (L.take (i+1))=m*z:=by rw[i7 aY,hm]
  rw[an,ab];refine⟨fun _=>?_,fun h=>by omega⟩;rw[aZ ac.u U.i (by kernel_rfl) (aK.ls.ext ak) aY,e0,wrap_i64 (by omega) (by omega),
   V cY.p rfl,aa (v:=bv) (by kernel_rfl) ((Y.ext O).cell (o:=0+2) rfl),aL ac.u (aS.ext O),bA,ab]
  refine⟨fun ca=>⟨⟨false,rfl,⟨(fun h=>by cases h),fun I=>?_⟩⟩,am.trans O⟩,fun cb=>?_⟩
  ·have h1:=I.count;rw[←av] at h1;have:=bN (i+1);omega
  ·rw[aI];exact bQ _ _ _ ⟨ak,_,rfl,bS.symm,by omega,by omega⟩
 rintro t4 _ aC bP ⟨ak,m,rfl,hm,bm,bn⟩;rw[o9] at hm;have O:=bl.trans ak;have bo:=Y.ext O;obtain⟨z,aN⟩:∃ z,n.sizes[e.v.toNat]? =some z:=⟨_,y0 (by omega)⟩;have a1:n.sizes.getD e.v.toNat 0=z:=by rw[u4,aN];rfl
 rw[an,ab];refine⟨fun h=>by omega,fun _=>?_⟩;rw[lf];refine aM (fun r aJ=>r= .bool (decide (m=e.er.length∧ ∀ b∈e.er,-1≤b∧b<z))∧Ext aC aJ) ?_ ?_
 ·rintro _ aJ ⟨rfl,aD⟩;refine⟨⟨_,rfl,⟨fun aO=>?_,fun I=>?_⟩⟩,am.trans (O.trans aD)⟩
  ·have aO:=of_decide_eq_true aO;exact⟨aA,aU,aG,bI,lZ,by rw[←av,←hm];exact aO.1.symm,fun b ad=>by rw[a1];exact aO.2 b ad⟩
  ·have h1:=I.count;rw[←av,←hm] at h1;exact decide_eq_true ⟨h1.symm,fun b ad=>by have:=I.er b ad;rwa [a1] at this⟩
 intro bB ag;rw[V cY.p rfl,aa (v:=bv) (by kernel_rfl) (bo.cell (o:=0+2) rfl),aL ac.u (aS.ext O),a8,ab];refine⟨fun he=>?_,fun bT=>ag _ _ ⟨by rw[decide_eq_false fun h=>bT h.1],Ext.refl _⟩⟩;rw[V cY.p rfl,aa (v:=bv) (by kernel_rfl) (bo.cell (o:=0+2) rfl)];refine (JP (p:=fun b=>decide (¬(-1≤b∧b<z))) (aS.ext O) fun w' y bU cc=>?_).mono ?_
 ·refine az func195 ?_;refine aM (fun r bh=>r= .bool (decide (¬(-1≤y∧y<z)))∧Ext w' bh) (fun _ _ h=>h) fun cd bp=>?_;intro bF aH _ _;have a2:=O.trans (bU.trans aH);rw[an,ab];refine⟨fun ce=>bp _ _ ⟨by rw[decide_eq_true (by omega)],aH⟩,fun cg=>?_⟩;obtain⟨bV,ch,ci,cj,ck,cl,cn,cq,ad,bW,cr,ct,cu,cw⟩:=(ap.ext a2).1.parts;rw[aa (o:=0) (by kernel_rfl) ((ao.ext a2).cell (o:=0) rfl),aw,V bM.p rfl,aa (v:=.pointer (some ⟨bV,0,none⟩)) (by kernel_rfl) (ad.cell (o:=0+0) rfl),V cY.p rfl,aa (v:=.int .i64 e.v) (by kernel_rfl) ((Y.ext a2).cell (o:=0+0) rfl)];refine (qW (i:=e.v) bW h.2.2.2.2).mono ?_;rintro _ cz _ ⟨bX,rfl⟩;rw[if_pos aA.1,a1,cm];refine bp _ _ ⟨?_,aH.trans bX⟩;congr 1;exact decide_eq_decide.2 ⟨fun h=>by omega,fun h=>by omega⟩
 rintro _ aJ _ ⟨rfl,aD⟩;rw[bc];refine ag _ _ ⟨?_,aD⟩;congr 1;rw[V1];simp only[Bool.not_eq_true',List.any_eq_false,decide_eq_true_eq,Y9];exact⟨fun W=>⟨he,fun b ad=>W b ad⟩,fun W b ad=>W.2 b ad⟩
end
theorem J4 {v:Int} {er:List Int} (an:aB .i64 w ay sc) (ao:aB .i64 w bv er) (h1:sc.length≤1000000) (aE:er.length≤1000000):
  af x3 Cj [.agg #[.int .i64 v,ay,bv]] w fun r w'=>Ext w w'∧ ∃ ap aq au av,r= .agg #[.int .i64 v,ap,aq]∧w.heap.size≤au∧w.heap.size≤av∧am .i64 U w' au ap sc∧am .i64 U w' av aq er:=by
 refine az func136 ?_;refine bL fun ge J aO aw ax=>?_;have aF:ae J ge cY [.int .i64 v,ay,bv]:=by
  obtain⟨_,_,_,ad⟩:=bH an;obtain⟨_,_,_,aG⟩:=bH ao;rw[ad,aG] at ax ⊢;exact ax
 refine bu cY.i fun ag aP aQ aA aC=>?_;intro aR ah _ _;have aD:=aA.trans ah;have O:=aw.trans aD;have ai:=aF.ext aD;rw[V cY.p rfl,aa (v:=.int .i64 v) (by kernel_rfl) (ai.cell (o:=0+0) rfl),V cY.p rfl,aa (v:=ay) (by kernel_rfl) (ai.cell (o:=0+1) rfl),V cY.p rfl,aa (v:=bv) (by kernel_rfl) (ai.cell (o:=0+2) rfl)];refine (hc (an.ext O) h1).mono ?_;rintro aj aS _ ⟨I,aH,aT,W⟩;refine⟨.inl I,?_⟩;refine (hc ((ao.ext O).ext I) aE).mono ?_;rintro ak aU _ ⟨Y,aI,aV,ab⟩;refine⟨.inl (I.trans Y),?_⟩;have z3:=O.size;have z4:=I.size;have aJ:=W.ext Y;rw[cH (cs:=#[.int .i64 v,aj,ak]) (by obtain⟨_,_,_,rfl⟩:=bH W.ls;obtain⟨_,_,_,rfl⟩:=bH ab.ls;kernel_rfl)];have aK:=((aC.ext ah).ext I).ext Y;have aW:=aA.size;have aX:=aC.lt;have aY:=ah.size;refine bN (vs:=[.int .i64 v,aj,ak]) cY.i rfl rfl ?_ aK fun aL al aZ aM=>?_
 ·intro u hu;simp at hu;rcases hu with rfl|rfl|rfl
  ·rfl
  ·exact W.ls.cells.2
  ·exact ab.ls.cells.2
 rw[ez cY.p cY.i rfl aM.range];have a1:=aw.size;have aN:Ext w aL:=((O.trans I).trans Y).then al fun r ac he=>by have he:r=ag:=he;omega
 refine⟨aN,aj,ak,aH,aI,rfl,by omega,by omega,a6 aJ al fun r ac he=>?_,a6 ab al fun r ac he=>?_⟩
 ·have he:r=ag:=he;obtain⟨ad,_⟩:=bn W ac;omega
 ·have he:r=ag:=he;obtain⟨ad,_⟩:=bn ab ac;omega
def iK (s:aF) (e:iC):aF:=match s.vars[e.v.toNat]? with
 |some x=>{s with elims:=s.elims++[e],vars:=s.vars.set e.v.toNat {x with gone:=1}}
 |none=>s
section
variable {w:x2} {aj ah:Nat} {A R:ag} {n:aS} {s:aF} {t:aH}
set_option maxHeartbeats 4000000 in
theorem AH {e:iC} (h:cp w aj ah A R n s t) (aG:t.olds.length+2≤100000000) (W:aB .i64 w ay e.sc) (aV:aB .i64 w bv e.er) (bo:e.er.length≤1000000) (b3:e.sc.length≤1000000) (da:s.elims.length≤1000000):
  af x3 vB [.pointer (some ⟨aj,0,none⟩),.agg #[.int .i64 e.v,ay,bv]] w fun r w'=>(¬lY n s e→r= .int .i64 1∧Ext w w')∧
   (lY n s e→r= .int .i64 0∧ad (dz w) w w'∧ ∃ bp R' x y p,Grow A w bp w'∧cp w' aj ah bp R' n (iK s e) ((t.set 2 x).set p y)∧(∀ r,R r→R' r)∧ ∀ r,R' r→R r∨w.heap.size≤r):=by
 obtain⟨_,bq,bt,ak,b4⟩:=id h;refine az func58 ?_;refine bL fun ge J db aI bu=>?_;have aW:ae J ge cY [.int .i64 e.v,ay,bv]:=by
  obtain⟨_,_,_,b5⟩:=bH W;obtain⟨_,_,_,b6⟩:=bH aV;rw[b5,b6] at bu ⊢;exact bu
 rw[cI fN.u];simp only[Z1,aP];rw[bw cY.p cY.i rfl aW.range];refine (J3 (h.ext aI) (W.ext aI) (aV.ext aI) bo (by omega)).mono ?_;rintro _ dc _ ⟨⟨b,rfl,bx⟩,aX⟩;have bz:=aI.trans aX;rw[bc,br];refine⟨fun aJ=>⟨fun _=>⟨by trivial,bz⟩,fun b7=>?_⟩,fun b8=>?_⟩
 ·rw[bx.2 b7] at aJ;cases aJ
 have aK:lY n s e:=bx.1 (by simpa using b8);intro dd aY _ _;have av:=bz.trans aY;obtain⟨aZ,a1,a2,aL,bA⟩:=(h.ext av).1;obtain⟨_,_,_,_,_,de,_,_,ab,_⟩:=id bA;rw[aw,V bM.p rfl,aa (v:=aL) (by kernel_rfl) (ab.cell (o:=0+4) rfl),bw cY.p cY.i rfl ((aW.ext aX).ext aY).range];refine (J4 (W.ext av) (aV.ext av) b3 bo).mono ?_;rintro _ df _ ⟨a7,a8,ba,dg,dh,rfl,di,dj,bB,bC⟩;refine⟨.inl a7,?_⟩;let a:m7:=⟨e.v,a8,ba⟩;have b9:∀ u∈oG a,u.oneCell'=true:=by
  intro u hu;simp[oG] at hu;rcases hu with rfl|rfl|rfl
  ·rfl
  ·exact bB.ls.cells.2
  ·exact bC.ls.cells.2
 refine gp (f:=oG) (a:=a) kB.u cY.i (by omega) rfl rfl fun v5 dk ao dl aM ca=>?_;have aA:=a7.trans aM;refine⟨.inl aA,?_⟩;have cc:=bA.ext aA;obtain⟨⟨bD,bE,dm,bF⟩,cd,ce,dn,L,E,cg,w0,ab,⟨ch,ci,bG⟩,⟨cj,bI,bJ,al⟩,bb,⟨bd,ck⟩,ap,aN⟩:=id cc;have bK:E.length=s.elims.length:=aN.1;refine gN (f:=oG) (a:=a) kB.u cY.i rfl ap (by simpa using ca.sl) b9 (by omega) (by omega) fun aO cl dp aC cm be=>?_;have bN:=ab.O be fun he=>cb ap ab (by decide) he;rw[aw,V bM.p rfl];refine bl kB.i (dD aC.sl).1 (dD aC.sl).2 bN (by simp) fun an bf dq bg=>?_;have bg:ae an aj bM [.pointer (some ⟨aZ,0,none⟩),.pointer (some ⟨ah,0,none⟩),a1,a2,aO]:=bg;have Y:ad (fun r=>leadsTo aL r∨r=aj) ao an:=(be.mono fun r _ h=>.inl h).trans (bf.mono fun r _ h=>.inr h);have cn:ad (dz ao) ao an:=Y.mono fun r _ I=>by
  rcases I with I|rfl
  ·obtain⟨_,c,aD⟩:=c9 ap I;exact .inl ⟨_,c,‹r=_› ▸aD,by decide⟩
  ·exact .inl ⟨_,_,ab,by decide⟩
 have z3:=av.size;have z4:=a7.size;have z5:=aM.size;have dr:=Y.size;have ds:=be.size;have du:=bf.size;have aQ:∀ r,(leadsTo aL r∨r=aj)→A r:=fun r I=>I.elim (fun I=>(al r (.inr (.inr I))).1) fun I=>I▸bD;have bh:∀ r,(leadsTo aL r∨r=aj)→¬R r:=fun r I=>bE r (aQ r I);obtain⟨bO,bi⟩:(∀ r,R r→r<w.heap.size)∧ ∀ r,A r→r<w.heap.size:=by obtain⟨_,_,_,_,⟨_,_,cq,cr⟩,_⟩:=h.1;exact⟨cq,cr⟩
 have bP:=(bB.ext aM);have bR:=(bC.ext aM);have ax:∀ r,leads a8 r∨leads ba r→w.heap.size≤r∧r<ao.heap.size:=fun r I=>by
  rcases I with I|I
  ·obtain⟨h1,bS⟩:=bn bP I;omega
  ·obtain⟨h1,bS⟩:=bn bR I;omega
 let aR:ag:=fun r=>A r∨(ao.heap.size≤r∧r<an.heap.size);let aq:ag:=fun r=>R r∨leads a8 r∨leads ba r;have bT:∀ {v:x1} {bU:Nat} {l:List Int},am .i64 U ao bU v l→(∀ r,leads v r→w.heap.size≤r)→am .i64 U an bU v l:=fun hm ct=>a6 hm Y fun r I W=>by
  have:=bi r (aQ r W);have:=ct r I;omega
 have cu:dI an aj ah aZ a1 a2 aO aR aq n {s with elims:=s.elims++[e]} t:=by
  refine⟨⟨.inl bD,fun r I ai=>?_,fun r I=>?_,fun r I=>I.elim (fun I=>by have:=bF r I;omega) And.right⟩,cd,ce,cl,L,E++[a],cg,w0,bg,⟨ch,oH ci Y fun r o I aG W=>bh r W (bG r o I aG),fun r o I aG=>.inl (bG r o I aG)⟩,⟨cj.O Y fun r I W=>?_,fun r I=>.inl (bI r I),bJ,fun r I=>?_⟩,?_,⟨bd.O Y fun r I W=>?_,?_⟩,aC.O bf fun r I he=>?_,?_⟩
  ·rcases I with I|I
   ·rcases ai with ai|ai
    ·exact bE r I ai
    ·have:=ax r ai;have:=bi r I;omega
   ·rcases ai with ai|ai
    ·have:=bO r ai;omega
    ·have:=ax r ai;omega
  ·rcases I with I|I
   ·have:=bO r I;omega
   ·have:=ax r I;omega
  ·rcases W with W|rfl
   ·exact (al r (.inr (.inr W))).2 I
   ·exact bJ I
  ·rcases I with I|I|I
   ·exact⟨.inl (al r (.inl I)).1,(al r (.inl I)).2⟩
   ·exact⟨.inl (al r (.inr (.inl I))).1,(al r (.inr (.inl I))).2⟩
   ·obtain⟨h1,bS⟩:=aC.leads I;rcases cm r I with h|h
    ·exact⟨.inl (al r (.inr (.inr h))).1,(al r (.inr (.inr h))).2⟩
    ·refine⟨.inr ⟨h,by omega⟩,fun cw=>?_⟩;have:=bF r (bI r cw);omega
  ·exact a6 bb Y fun r I W=>by
    rcases W with W|rfl
    ·obtain⟨rfl,c,aD⟩:=c9 ap W;exact bQ bb aD (by decide) I rfl
    ·exact bQ bb ab (by decide) I rfl
  ·rcases W with W|rfl
   ·obtain⟨rfl,c,aD⟩:=c9 ap W;exact cb bd aD (by decide) I
   ·exact cb bd ab (by decide) I
  ·exact (h6.O ck Y fun r _ I W=>bh r W I).mono fun r I=>.inl I
  ·have he:r=aj:=he;subst he;exact cb aC bN (by decide) I
  ·refine⟨by rw[o5,bK];simp,fun j x f aS au=>?_⟩;have au:(s.elims++[e])[j]? =some f:=au;by_cases cz:j<s.elims.length
   ·rw[Z7 (by omega)] at aS;rw[Z7 cz] at au;exact ((jo.O aN Y fun r _ I W=>bh r W I).mono (R':=aq) fun r I=>.inl I).2 j x f aS au
   ·have bV:j=s.elims.length:=by have:=(x4.1 au).1;simp at this;omega
    rw[Z8 (by omega),bK,bV,V2] at aS;rw[Z8 (by omega),bV,V2] at au;cases aS;cases au;exact⟨rfl,⟨⟨_,bT bP fun r I=>(ax r (.inl I)).1⟩,fun r I=>.inr (.inl I)⟩,⟨_,bT bR fun r I=>(ax r (.inr I)).1⟩,fun r I=>.inr (.inr I)⟩
 have cA:Grow A w aR an:=(Grow.ext (av.trans aA)).trans ⟨Y.mono fun r _ I=>aQ r I,fun r I=>I.imp id And.left,fun r I=>.inl I⟩;have cB:ad (dz w) w an:=jp (av.trans aA) cn;have cC:∀ r,aq r→R r∨w.heap.size≤r:=fun r I=>I.imp id fun I=>(ax r I).1;have cD:∀ r,aR r→A r∨ao.heap.size≤r:=fun r I=>I.imp id And.left;have cE:∀ r,R r→aq r:=fun r I=>.inl I
 clear_value aR aq
 intro dv aT _ _;have bX:=cu.ext aT;obtain⟨_,_,_,_,_,cF,_,_,ab,_,_,_,_,ap,aN⟩:=id bX;have cG:cF.length=s.elims.length+1:=by rw[aN.1];simp
 rw[aw,V bM.p rfl,aa (v:=.pointer (some ⟨ah,0,none⟩)) (by kernel_rfl) (ab.cell (o:=0+1) rfl),aw,V bM.p rfl,aa (v:=aO) (by kernel_rfl) (ab.cell (o:=0+4) rfl),ef kB.u ap,cG];obtain⟨dw,cH,cJ⟩:=bX.qZ;have cK:t.cells.length=s.cells.length:=by rw[←bq];simp[aH.bW]
 have cL:2<t.cells.length:=by rw[cK,oF];omega
 refine (oD (i:=2) (y:=2) cH rfl cL bt).mono ?_;rintro _ bY _ ⟨rfl,cM,cN,cO⟩;obtain⟨cP,A9,bZ,cQ⟩:=cJ cM bY _ cN cO;have cR:jn (t.set 2 ((s.elims.length+1:Nat):Int)):=bt.set (.inr (by omega)) _ _;have cS:cp bY aj ah A9 aq n {s with elims:=s.elims++[e]} (t.set 2 ((s.elims.length+1:Nat):Int)):=
  ⟨⟨aZ,a1,a2,aO,cQ⟩,by rw[aH.mB,bq];exact Ip e,cR,⟨ak.iD,ak.dX,ak.zero,ak.vars,ak.var,ak.funs⟩,b4⟩
 intro cT aU _ _;have bj:=cS.ext aU;obtain⟨dx,cU,dy,ev',dA,dC,dE,dF,b0,dG,dH,cV,dJ,dK⟩:=bj.1.parts;have dL:=ak.vars;obtain⟨x,aE⟩:∃ x,s.vars[e.v.toNat]? =some x:=⟨_,y0 (by have:=aK.has;omega)⟩;have cW:e.v=((e.v.toNat:Nat):Int):=by have:=aK.has;omega
 have cX:=(x4.1 aE).1;have b1:=((aW.ext aX).ext aY).ext aA;have dM:=b1.lt;have b2:¬A ge:=fun cZ=>by have:=bi ge cZ;omega
 have c0:ae cT ge cY [.int .i64 e.v,ay,bv]:=(((b1.O Y fun W=>b2 (aQ ge W)).ext aT).O bZ.1 fun W=>(cD ge W).elim b2 fun h=>by omega).ext aU;rw[aw,V bM.p rfl,aa (v:=.pointer (some ⟨ah,0,none⟩)) (by kernel_rfl) (b0.cell (o:=0+1) rfl),aw,V bM.p rfl,aa (v:=cU) (by kernel_rfl) (b0.cell (o:=0+2) rfl),V cY.p rfl,aa (v:=.int .i64 e.v) (by kernel_rfl) (c0.cell (o:=0+0) rfl),dt (y:=e.v) (i:=e.v.toNat) cW ac.u U.i (by kernel_rfl) cV.ls (oO cX)];have bk:iK s e={({s with elims:=s.elims++[e]}:aF) with vars:=s.vars.set e.v.toNat {x with gone:=1}}:=by
  unfold iK;rw[aE]
 have dN:=oQ (s:=({s with elims:=s.elims++[e]}:aF)) (i:=e.v.toNat) (x:=x) aE;have bm:({s with elims:=s.elims++[e]}:aF).vars[e.v.toNat]? =some x:=aE;obtain⟨dO,c1,c2⟩:=ak.var e.v.toNat x _ aE (y0 (show e.v.toNat<n.sizes.length by have:=aK.has;omega));have dP:=aH.tx t 2 ((s.elims.length+1:Nat):Int);refine (q3 (p:=eG ({s with elims:=s.elims++[e]}:aF) e.v.toNat+0) (s':=iK s e) bj (by rfl) (by omega) ?_ ?_ ?_ (.inr (by omega))).mono ?_
 ·rw[bk,tt bm (by omega)];rfl
 ·rw[bk];exact tv bm rfl
 ·rw[bk];exact et.tR (s:=({s with elims:=s.elims++[e]}:aF)) bj.2.2.2.1 bm rfl c1 c2
 rintro _ c3 _ ⟨rfl,c4,c5,c6,c7⟩;have c8:ad (dz w) w c3:=oL cB (jp aT (oL cP (jp aU c4)));exact⟨fun aJ=>absurd aK aJ,fun _=>⟨rfl,c8,c5,aq,_,_,_,cA.trans ((Grow.ext aT).trans (bZ.trans ((Grow.ext aU).trans c6))),c7,cE,cC⟩⟩
end
section
variable {w w':x2} {aj ah al:Nat} {A R:ag} {A9:Nat→ag} {aQ R9':ag} {n:aS} {s u u':aF} {t:aH} {h:List aH} {cs:List x1} {v:x1}
theorem bE.reads (p:bE w aj ah al A R A9 aQ n s u t h cs) (O:∀ r,aQ r→R9' r) (J:∀ r,R9' r→aQ r∨(¬dz w r∧r<w.heap.size∧r≠al∧ ∀ q,¬A9 q r)):bE w aj ah al A R A9 R9' n s u t h cs:=
 ⟨p.cE,p.js,p.box,bx.mono p.doc O fun q r h1 U=>(J r U).elim (fun I=>by obtain⟨_,_,_,_,_,_,_,_,_,_,_,_,_,V⟩:=p.doc;exact (V rfl).2 q r h1 I) fun I=>I.2.2.2 q h1,p.apart,fun r W=>(J r W).elim (p.read r) fun h=>⟨h.1,h.2.1,h.2.2.1⟩,p.out⟩
theorem J5 {af:r8} {y:x1} {xs:List x1} {e:iC} {K:x2→Prop} (p:bE w aj ah al A R A9 aQ n s u t h cs) (ag:∀ q r,A9 q r→r<w.heap.size) (O:cs[7]? =some v) (ai:bS w 3 y 1 xs) (ak:bi (fun _=>False) aQ w xs (oY e)) (aB:u.elims.length≤1000)
  (am:∀ bz bU w',ad (fun r=>A9 4 r∨r=al) w w'→bE w' aj ah al A R bz aQ n s {u with elims:=u.elims++[e]} t h bU→(∀ q r,bz q r→A9 q r∨w.heap.size≤r)→K w'):
  ax x3 (l9 #[fO,fO] af #[v,y]) w fun aa ab=>I x3 (x7 aK (.pointer (some ⟨al,0,none⟩)) 7) ab fun an=>ax x3 (o3 fO an aa) ab fun _ U=>K U:=by
 obtain⟨aq,aC,aD,aE,aF,V,ao,h1,aG,aH,aI,aJ,ap,W⟩:=id p.doc;obtain⟨W,ac⟩:=W rfl;have V:v=V:=by rw[ao] at O;exact (b9 O).symm
 subst V;have aL:=p.box.lt;have au:∀ r,aQ r→r<w.heap.size:=fun r h=>(p.read r h).2.1;refine ne (pl:=_) (l:=u.elims.map oY) aK.p rfl fO.u fO.i cg.i rfl p.box O ap ai ak (fun r J av=>⟨fun h=>h,ac 4 r av⟩) ⟨fun h=>(p.apart 4 al h).2.2 rfl,fun h=>h,fun h=>(p.read al h).2.2 rfl⟩ (by rw[u5];omega) (by rw[u5];omega) fun aa U Y aw ay=>?_;have ae:=bx.Jy p.doc (ng Y) (fun r J=>?_) ay (fun j r az J=>?_) (fun r J=>?_)
 ·refine am _ _ U Y (p.ub Y (fun r J h=>h.imp (fun h=>⟨4,h⟩) id) aw (u':={u with elims:=u.elims++[e]}) (by rw[←List.map_singleton,←b6] at ae;exact ae) fun q r J=>?_) fun q r J=>?_
  ·unfold eW at J;split at J
   ·rcases J with J|J|J
    ·exact .inl ⟨4,J⟩
    ·exact J.elim
    ·exact .inr J
   ·exact .inl ⟨q,J⟩
  ·unfold eW at J;split at J
   ·rename_i aA;subst aA;rcases J with J|J|J
    ·exact .inl J
    ·exact J.elim
    ·exact .inr J
   ·exact .inl J
 ·rcases J.1 with h|rfl
  ·exact .inl h
  ·exact .inr ⟨fun j h=>(p.apart j r h).2.2 rfl,fun h=>(p.read r h).2.2 rfl⟩
 ·rcases J with J|J|J
  ·exact W 4 j r (Ne.symm az) J
  ·exact J.elim
  ·exact fun h=>by have:=ag j r h;omega
 ·rcases J with J|J|J
  ·exact ac 4 r J
  ·exact J.elim
  ·exact fun h=>by have:=au r h;omega
theorem J6 {i:Nat} {K:Unit→x2→Prop} (p:bE w aj ah al A R A9 aQ n s u t h cs) (aw:∀ q r,A9 q r→r<w.heap.size) (U:cs[4]? =some v) (ac:y=(i:Int)) (ae:i<u.vars.length)
  (af:u'.zero=u.zero) (ag:u'.vars.map dA=u.vars.map dA) (hu:u'.vars.map (·.un)=u.vars.map (·.un)) (ai:u'.funs=u.funs) (he:u'.elims=u.elims) (ak:(u'.vars.map fun x=>decide (x.gone≠0))=(u.vars.map fun x=>decide (x.gone≠0)).set i true)
  (am:∀ w',ad (fun r=>A9 1 r) w w'→bE w' aj ah al A R A9 aQ n s u' t h cs→K () w'):
  I x3 (o6 ew v (.int .i64 y)) w fun p=>ax x3 (o3 ea p (.bool true)) w K:=by
 obtain⟨aq,ay,an,az,aA,aa,ao,h1,aB,ap,aC,aD,aE,V⟩:=id p.doc;obtain⟨V,ab⟩:=V rfl;have aa:v=an:=by rw[ao] at U;exact (b9 U).symm
 subst aa;refine tY (α:=Bool) (a:=true) (A:=fun _=>False) rfl ac ew.u ea.i ap (by rw[u5];exact ae) rfl rfl (fun r J h=>⟨fun h=>h,ab 1 r h⟩) fun w' W au=>?_;have O:=bx.Au p.doc (ng W) (fun r J=>.inl J.1) au (fun j r Y J=>J.elim (fun J=>V 1 j r (Ne.symm Y) J) False.elim) (fun r J=>J.elim (ab 1 r) False.elim);refine am w' W (p.row (q:=1) W (fun r _ h=>h) ?_ fun q r h=>.inl ⟨q,h⟩);have O:=bx.mH U O;have av:eW A9 1 (fun r=>A9 1 r∨False)=A9:=by
  funext j;unfold eW;split
  ·rename_i Y;subst Y;funext r;exact or_false _
  ·rfl
 rw[av] at O;unfold gy;rw[af,ag,hu,ai,he,ak];exact O
end
def gz (n:aS) (l:List Int):List Int:=(l.filter fun v:Int=>decide (0≤v∧v<n.sizes.length)).map fun v:Int=>n.sizes.getD v.toNat 0
theorem q7 {n:aS} {i:Nat} {x:Int} (h:l[i]? =some x):gz n (l.take (i+1))=gz n (l.take i)++if 0≤x∧x<n.sizes.length then[n.sizes.getD x.toNat 0] else[]:=by
 unfold gz;rw[u9,h,List.filter_append,b6];congr 1;by_cases I:0≤x∧x<(n.sizes.length:Int)
 ·rw[if_pos I];simp[I]
 ·rw[if_neg I];have:(List.filter (fun v:Int=>decide (0≤v∧v<(n.sizes.length:Int))) (some x).toList)=[]:=by simp;omega
  rw[this];rfl
def kl (m:Nat):List Int:=(X7 m).map fun i:Nat=>((i % 2:Nat):Int)-1
def km (n:aS) (a:db):List Int:=if a.ki then kl (min (aE (gz n (a.sc.take 4))) 100).toNat else a.t.take 40
section
variable {J w:x2} {al aW ge B:Nat} {n:aS} {s:aF} {a:db} {aA ay ce:x1} {K:x2→Prop}
set_option maxHeartbeats 1000000 in
theorem J7 (a7:kh J al n.k n.sizes s) (bw:∀ z∈n.sizes,1≤z∧z≤32) (aF:dT J aW n.k a aA ay ce B) (a8:ae w ge cg [.int .i64 a.i,ay,aA]) (cE:J.heap.size≤ge) (cF:B≤J.heap.size) (ap:Ext J w)
  (ba:∀ w' bv,Ext J w'→ae w' ge cg [.int .i64 a.i,ay,bv]→(∃ g,am .i64 U w' g bv (km n a))→(∀ r,leads bv r→B≤r)→K w'):
  I x3 (x7 aN (.pointer (some ⟨aW,0,none⟩)) 8) w fun bx=>
       I x3 (x6 ea bx) w fun bz=>
       Split bz (I x3 (x7 cg (.pointer (some ⟨ge,0,none⟩)) 2) w fun bA=>
       ax x3 (o3 ac bA (.slice none 0 0)) w fun(_:Unit) au=>
       I x3 (x7 aN (.pointer (some ⟨aW,0,none⟩)) 6) au fun bB=>
       I x3 (x6 ac bB) au fun bb=>
       I x3 (Z5 #[ac] U #[bb]) au fun bC=>
       bt (.int .i64 1) (.int .i64 0) au fun n aG ad bD=>
        I x3 (av .lss U false false aG bC) ad fun bE=>
        Split bE (be (α:=x1→x2→Prop) (fun(bF:x1) (bc:x2)=>
         I x3 (av .add U false true aG (.int .i64 1)) bc fun bG=>
         bD bF bG bc) fun bd=>
        I x3 (o6 ac bb aG) ad fun bH=>
        I x3 (x6 U bH) ad fun bf=>
        I x3 (aX (.pointer (some ⟨al,0,none⟩))) ad fun bI=>
        I x3 (x6 aK bI) ad fun bK=>
        af x3 mi [bK,bf] ad fun bL ag=>
        Split bL (I x3 (aX (.pointer (some ⟨al,0,none⟩))) ag fun bM=>
         I x3 (x7 aK bM 1) ag fun bN=>
         I x3 (x6 ac bN) ag fun bO=>
         I x3 (o6 ac bO bf) ag fun bP=>
         I x3 (x6 U bP) ag fun bQ=>
         I x3 (av .mul U false false n bQ) ag fun bR=>
         bd bR ag)
         (bd n ag))
         (I x3 (n0.min_ #[U,U] U #[n,(.int .i64 100)]) ad fun bS=>
       bJ (.int .i64 0) ad fun aH ai bT=>
        I x3 (av .lss U false false aH bS) ai fun bU=>
        Split bU (I x3 (x7 cg (.pointer (some ⟨ge,0,none⟩)) 2) ai fun bV=>
        I x3 (x6 ac bV) ai fun bW=>
        I x3 (av .rem U false true aH (.int .i64 2)) ai fun bX=>
        I x3 (av .sub U false true bX (.int .i64 1)) ai fun bY=>
        ax x3 (Z4 ac 1 #[(0,bY)]) ai fun bZ b0=>
        ax x3 (l9 #[ac,ac] ac #[bW,bZ]) b0 fun b1 bg=>
        I x3 (x7 cg (.pointer (some ⟨ge,0,none⟩)) 2) bg fun b2=>
        ax x3 (o3 ac b2 b1) bg fun(_:Unit) bh=>
        I x3 (av .add U false true aH (.int .i64 1)) bh fun b3=>
        bT b3 bh)
         (K ai)))
       (K w):=by
 rw[V aN.p rfl,aa (v:=.bool a.ki) (by kernel_rfl) ((aF.ext ap).c0.cell (o:=0+8) rfl),br];obtain⟨_,⟨b4,b5⟩,⟨cG,aJ⟩,cH,b7⟩:=id aF;refine⟨fun b8=>?_,fun b9=>ba w aA ap a8 ⟨b4,by unfold km;rw[b9];exact b5.ext ap⟩ fun r W=>b7 r (.inl W)⟩;have aO:km n a=kl (min (aE (gz n (a.sc.take 4))) 100).toNat:=by unfold km;rw[b8];rfl
 obtain⟨l,bi⟩:∃ l,l=a.sc.take 4:=⟨_,rfl⟩;rw[←bi] at aJ aO;have cI:l.length≤4:=by rw[bi,o8];omega
 rw[V cg.p rfl];refine bl (o:=0+2) ac.i rfl rfl a8 (by simp) fun bj ca cJ aP=>?_;have aP:ae bj ge cg [.int .i64 a.i,ay,.slice none 0 0]:=aP;have aQ:Ext J bj:=ap.then ca fun r W he=>by have he:r=ge:=he;omega
 rw[V aN.p rfl,aa (v:=ay) (by kernel_rfl) ((aF.ext aQ).c0.cell (o:=0+6) rfl),aL ac.u (aJ.ls.ext aQ)];refine bt.range l.length (fun i az aB=>Ext J aB∧ae aB ge cg [.int .i64 a.i,ay,.slice none 0 0]∧ ∃ m:Int,az= .int .i64 m∧m=aE (gz n (l.take i))∧0≤m∧m≤32 ^ i) (by omega) ⟨aQ,aP,1,rfl,rfl,by omega,by omega⟩ ?_ ?_
 ·rintro i _ aB cb hi ⟨aj,aC,m,rfl,hm,aR,bk⟩ cc;obtain⟨x,aS⟩:∃ x,l[i]? =some x:=⟨_,y0 hi⟩;have cK:(32:Int) ^ i≤32 ^ 3:=by
   have:=Nat.pow_le_pow_right (show 1≤32 by omega) (show i≤3 by omega);have cd:=Int.ofNat_le.2 this;simpa using cd
  rw[an,ab];refine⟨fun _=>?_,fun h=>by omega⟩;refine aM (fun az Y=>Ext J Y∧ae Y ge cg [.int .i64 a.i,ay,.slice none 0 0]∧ ∃ m:Int,az= .int .i64 m∧m=aE (gz n (l.take (i+1)))∧0≤m∧m≤32 ^ (i+1)) ?_ ?_
  ·rintro az Y ch;rw[aI];exact cc _ _ ch
  intro cL bm;have ci:=a7.ext aj;rw[aZ ac.u U.i (by kernel_rfl) (aJ.ls.ext aj) aS,aw];refine ci.load fun cM cj=>?_;refine (o1 (i:=x) cj).mono ?_;rintro _ Y _ ⟨rfl,ah⟩;have aT:=aj.trans ah;rw[ab];refine⟨fun ck=>?_,fun cl=>bm _ _ ⟨aT,aC.ext ah,m,rfl,?_,aR,?_⟩⟩
  ·obtain⟨aq,cN,cO,cP,cQ,cR,cm,cn,_⟩:=a7.ext aT;obtain⟨z,aU⟩:∃ z,n.sizes[x.toNat]? =some z:=⟨_,y0 (by omega)⟩;have cp:=bw z (x5 aU);have bn:0≤m*z∧m*z≤32 ^ i*32:=⟨Int.mul_nonneg aR (by omega),Int.mul_le_mul bk cp.2 (by omega) (by omega)⟩;rw[aw,V aK.p rfl,aa (v:=aq) (by kernel_rfl) (cm.cell (o:=0+1) rfl),dt (y:=x) (i:=x.toNat) (by omega) ac.u U.i (by kernel_rfl) cn aU,e0,wrap_i64 (by omega) (by omega)];refine bm _ _ ⟨aT,aC.ext ah,_,rfl,?_,bn.1,bn.2⟩;rw[q7 aS,if_pos ck,ql,←hm,u4,aU];rfl
  ·rw[q7 aS,if_neg cl,V9];exact hm
  ·rw[Int.pow_succ];have:(0:Int)≤32 ^ i:=Int.pow_nonneg (by omega);omega
 rintro _ aB cb ⟨aj,aC,m,rfl,hm,aR,bk⟩;rw[o9] at hm;rw[an,ab];refine⟨fun h=>by omega,fun _=>?_⟩;rw[hD];obtain⟨q,bo⟩:∃ q:Nat,min m 100=q:=⟨(min m 100).toNat,by omega⟩;have cS:q≤100:=by omega
 rw[bo];rw[←hm,bo,Z3] at aO;refine bJ.range q (fun i Y=>Ext J Y∧ ∃ bv g,ae Y ge cg [.int .i64 a.i,ay,bv]∧am .i64 U Y g bv (kl i)∧ ∀ r,leads bv r→J.heap.size≤r∧r≠ge) (by omega) ⟨aj,_,0,aC,am.nil _ _ _ _,fun r W=>by obtain⟨a,n,c,cq,cT⟩:=W;cases cq⟩ ?_ ?_
 ·rintro i Y cr hi ⟨ah,bv,g,ak,aV,ao⟩ ct;rw[an,ab];refine⟨fun _=>?_,fun h=>by omega⟩;rw[V cg.p rfl,aa (v:=bv) (by kernel_rfl) (ak.cell (o:=0+2) rfl),ik (by omega),Int.tmod_eq_emod_of_nonneg (by omega),dd,wrap_i64 (by omega) (by omega)];refine dx (k:=.i64) ac.u U.i rfl fun v5 cU cV cW aD cu=>?_;have cX:(kl i).length=i:=by unfold kl;simp
  refine fx ac.u U.i rfl (aV.ext aD) cu.ls (by simp;omega) (by simp;omega) fun aY cw cz a1 cA bp=>?_;have z4:=ah.size;have z5:=aD.size;have cB:Ext J cz:=(ah.trans aD).then bp fun r W he=>by have:=(ao r he).1;omega
  have cC:=(ak.ext aD).O bp fun he=>(ao ge he).2 rfl;rw[V cg.p rfl];refine bl (o:=0+2) ac.i a1.ls.cells.1 a1.ls.cells.2 cC (by simp) fun cD bq cY a2=>?_;have a2:ae cD ge cg [.int .i64 a.i,ay,aY]:=a2;have cZ:=ak.lt;have bu:∀ r,leads aY r→J.heap.size≤r∧r≠ge:=fun r W=>(cA r W).elim (ao r) fun h=>by omega
  rw[aI];refine ct _ ⟨cB.then bq fun r W he=>by have he:r=ge:=he;omega,aY,cw,a2,?_,bu⟩;have e:kl (i+1)=kl i++[((i:Int) % 2)-1]:=by unfold kl;rw[List.range_succ,b6];simp
  rw[e];exact a6 a1 bq fun r W he=>(bu r W).2 he
 ·rintro Y cr ⟨ah,bv,g,ak,aV,ao⟩;rw[an,ab];refine⟨fun h=>by omega,fun _=>ba Y bv ah ak ⟨g,by rw[aO];exact aV⟩ fun r W=>by have:=(ao r W).1;omega⟩
end
def gV (n:aS) (a:db):iC:=⟨a.i,a.sc.take 4,km n a⟩
open Classical in
noncomputable def l0 (n:aS) (s:aF) (a:db):aF:=if lY n s (gV n a) then iK s (gV n a) else s
section
variable {w0 w:x2} {aj ah al aW:Nat} {A R:ag} {A9:Nat→ag} {aQ:ag} {n:aS} {s:aF} {t:aH} {h:List aH} {cs:List x1} {a:db} {aA ay ce:x1} {Q:x1→x2→Prop}
set_option maxHeartbeats 2000000 in
theorem J8 (p:bE w0 aj ah al A R A9 aQ n s s t h cs) (bV:t.olds.length+2≤100000000) (ck:s.elims.length≤1000) (bm:Ext w0 w) (bo:dT w aW n.k a aA ay ce w0.heap.size) (bW:∀ w',ib w0 aj ah al A R A9 aQ n (l0 n s a) t h w'→Q (.bool true) w'):
  I x3 (x7 aN (.pointer (some ⟨aW,0,none⟩)) 1) w fun cl=>
       I x3 (x6 U cl) w fun cm=>
       I x3 (x7 aN (.pointer (some ⟨aW,0,none⟩)) 6) w fun cn=>
       I x3 (x6 ac cn) w fun cp=>
       I x3 (x7 aN (.pointer (some ⟨aW,0,none⟩)) 5) w fun cq=>
       I x3 (x6 ac cq) w fun cr=>
       I x3 (Instr.build cg #[(0,cm),(1,cp),(2,cr)]) w fun ct=>
       ax x3 (T7 cg true (.tuple #[])) w fun e cu=>
       ax x3 (o3 cg e ct) cu fun(_:Unit) aE=>
       be (α:=x2→Prop) (fun(aG:x2)=>
        be (α:=x1→x2→Prop) (fun(cw:x1) (bX:x2)=>
         I x3 (x6 cg e) bX fun cz=>
         af x3 vB [.pointer (some ⟨aj,0,none⟩),cz] bX fun cA bY=>
         I x3 (av .eql dL false false cA cw) bY fun cB=>
         Q cB bY) fun bZ=>
        cj aG fun aU=>
        I x3 (aX (.pointer (some ⟨al,0,none⟩))) aU fun cC=>
        I x3 (x6 aK cC) aU fun cD=>
        I x3 (x6 cg e) aU fun cF=>
        af x3 vJ [cD,cF] aU fun cG bp=>
        I x3 (Op.unary .not cG) bp fun cI=>
        Split cI (bZ (.int .i64 1) bp)
        (cj bp fun az=>
        I x3 (aX (.pointer (some ⟨al,0,none⟩))) az fun bq=>
        I x3 (x7 aK bq 7) az fun bx=>
        I x3 (x6 fO bx) az fun b0=>
        I x3 (x6 cg e) az fun cJ=>
        ax x3 (Z4 fO 1 #[(0,cJ)]) az fun cK aH=>
         (Ext az aH∨bb x3 (x6 fO bx) b0 aH∧bb x3 (x7 aK bq 7) bx aH∧bb x3 (aX (.pointer (some ⟨al,0,none⟩))) bq aH∧True)∧
        ax x3 (l9 #[fO,fO] fO #[b0,cK]) aH fun cL bA=>
         I x3 (aX (.pointer (some ⟨al,0,none⟩))) bA fun cM=>
         I x3 (x7 aK cM 7) bA fun cN=>
         ax x3 (o3 fO cN cL) bA fun(_:Unit) cO=>
          cj cO fun ap=>
        I x3 (aX (.pointer (some ⟨al,0,none⟩))) ap fun cP=>
        I x3 (x7 aK cP 4) ap fun cQ=>
        I x3 (x6 ew cQ) ap fun cR=>
        I x3 (x7 aN (.pointer (some ⟨aW,0,none⟩)) 1) ap fun cS=>
        I x3 (x6 U cS) ap fun cT=>
        I x3 (o6 ew cR cT) ap fun cU=>
        ax x3 (o3 ea cU (.bool true)) ap fun(_:Unit) cV=>
         bZ (.int .i64 0) cV)) fun b1=>
       I x3 (x7 aN (.pointer (some ⟨aW,0,none⟩)) 8) aE fun cW=>
       I x3 (x6 ea cW) aE fun cX=>
       Split cX (I x3 (x7 cg e 2) aE fun cY=>
       ax x3 (o3 ac cY (.slice none 0 0)) aE fun(_:Unit) aV=>
       I x3 (x7 aN (.pointer (some ⟨aW,0,none⟩)) 6) aV fun cZ=>
       I x3 (x6 ac cZ) aV fun b2=>
       I x3 (Z5 #[ac] U #[b2]) aV fun c1=>
       bt (.int .i64 1) (.int .i64 0) aV fun n bB ak c2=>
        I x3 (av .lss U false false bB c1) ak fun c4=>
        Split c4 (be (α:=x1→x2→Prop) (fun(c5:x1) (b3:x2)=>
         I x3 (av .add U false true bB (.int .i64 1)) b3 fun c6=>
         c2 c5 c6 b3) fun b4=>
        I x3 (o6 ac b2 bB) ak fun c7=>
        I x3 (x6 U c7) ak fun b5=>
        I x3 (aX (.pointer (some ⟨al,0,none⟩))) ak fun c8=>
        I x3 (x6 aK c8) ak fun c9=>
        af x3 mi [c9,b5] ak fun da an=>
        Split da (I x3 (aX (.pointer (some ⟨al,0,none⟩))) an fun db=>
         I x3 (x7 aK db 1) an fun dc=>
         I x3 (x6 ac dc) an fun dd=>
         I x3 (o6 ac dd b5) an fun de=>
         I x3 (x6 U de) an fun df=>
         I x3 (av .mul U false false n df) an fun dg=>
         b4 dg an)
         (b4 n an))
         (I x3 (n0.min_ #[U,U] U #[n,(.int .i64 100)]) ak fun dh=>
       bJ (.int .i64 0) ak fun bC aq di=>
        I x3 (av .lss U false false bC dh) aq fun dj=>
        Split dj (I x3 (x7 cg e 2) aq fun dk=>
        I x3 (x6 ac dk) aq fun dl=>
        I x3 (av .rem U false true bC (.int .i64 2)) aq fun dm=>
        I x3 (av .sub U false true dm (.int .i64 1)) aq fun dn=>
        ax x3 (Z4 ac 1 #[(0,dn)]) aq fun dp dq=>
        ax x3 (l9 #[ac,ac] ac #[dl,dp]) dq fun dr b6=>
        I x3 (x7 cg e 2) b6 fun ds=>
        ax x3 (o3 ac ds dr) b6 fun(_:Unit) b7=>
        I x3 (av .add U false true bC (.int .i64 1)) b7 fun dt=>
        di dt b7)
         (b1 aq)))
       (b1 aE):=by
 have aY:=p.cE.2.2.2.1;have ei:=p.box.lt;have z0:=bm.size;obtain⟨bD,⟨ej,b8⟩,⟨ek,bF⟩,em,aZ⟩:=id bo;rw[V aN.p rfl,aa (v:=.int .i64 a.i) (by kernel_rfl) (bD.cell (o:=0+1) rfl),V aN.p rfl,aa (v:=ay) (by kernel_rfl) (bD.cell (o:=0+6) rfl),V aN.p rfl,aa (v:=aA) (by kernel_rfl) (bD.cell (o:=0+5) rfl),
  cH (cs:=#[.int .i64 a.i,ay,aA]) (by obtain⟨_,_,_,rfl⟩:=bH bF.ls;obtain⟨_,_,_,rfl⟩:=bH b8.ls;kernel_rfl)]
 refine bu cg.i fun ge J en du dv=>?_;refine bN (vs:=[.int .i64 a.i,ay,aA]) cg.i rfl rfl ?_ dv fun dw dx eo dy=>?_
 ·intro u hu;simp at hu;rcases hu with rfl|rfl|rfl
  ·rfl
  ·exact bF.ls.cells.2
  ·exact b8.ls.cells.2
 have dz:Ext w dw:=du.then dx fun r W he=>by have he:r=ge:=he;omega
 refine c3 (fun aG=>∃ bv,Ext w aG∧ae aG ge cg [.int .i64 a.i,ay,bv]∧(∃ g,am .i64 U aG g bv (km n a))∧ ∀ r,leads bv r→w0.heap.size≤r) ?_ ?_
 rotate_left
 ·intro b9 aI;exact J7 (p.ext bm).look aY.dX.2.2 bo dy (by omega) (by omega) dz fun w' bv h1 ab bG dA=>aI _ ⟨bv,h1,ab,bG,dA⟩
 rintro dC ⟨bv,bI,a1,⟨ep,a2⟩,a7⟩;have aJ:=bm.trans bI;have ba:=bF.ext bI;have bd:(km n a).length≤1000000:=by
  unfold km kl;split
  ·rw[u5,List.length_range];omega
  ·rw[o8];omega
 have ca:(a.sc.take 4).length≤1000000:=by rw[o8];omega
 have aL:∀ {cb:x2},ae cb ge cg [.int .i64 a.i,ay,bv]→ ∀ {K:x1→Prop},I x3 (x6 cg (.pointer (some ⟨ge,0,none⟩))) cb K=K (.agg #[.int .i64 a.i,ay,bv]):=fun aO=>bw cg.p cg.i rfl aO.range;by_cases ao:lY n s (gV n a)
 rotate_left
 ·refine aM (fun v ag=>v= .int .i64 1∧Ext dC ag) ?_ ?_
  ·rintro _ ag ⟨rfl,Y⟩;rw[aL (a1.ext Y)];refine (AH (e:=gV n a) (p.ext (aJ.trans Y)).cE bV (ba.ls.ext Y) (a2.ls.ext Y) bd ca (by omega)).mono ?_;rintro v bK _ ⟨h1,_⟩;obtain⟨rfl,aP⟩:=h1 ao;rw[a8];exact bW _ (by unfold l0;rw[if_neg ao];exact jx p ((aJ.trans Y).trans aP))
  ·intro b9 aI ag Y _ _;rw[aw];refine (p.ext (aJ.trans Y)).look.load fun dD bL=>?_;rw[aL (a1.ext Y)];refine (AE (e:=gV n a) bL aY (ba.ls.ext Y) (a2.ls.ext Y) bd).mono ?_;rintro _ bK _ ⟨⟨b,rfl,aO⟩,aP⟩;rw[bc,br];exact⟨fun _=>aI _ _ ⟨rfl,Y.trans aP⟩,fun dE=>absurd (aO.1 (by simpa using dE)) ao⟩
 refine aM (fun v ag=>v= .int .i64 0∧ad (fun r=>(∃ q,A9 q r)∨r=al) w0 ag∧ae ag ge cg [.int .i64 a.i,ay,bv]∧aB .i64 ag ay (a.sc.take 4)∧aB .i64 ag bv (km n a)∧ ∃ bz R9' bU,bE ag aj ah al A R bz R9' n s (iK s (gV n a)) t h bU∧(∀ q r,bz q r→(∃ bM,A9 bM r)∨w0.heap.size≤r)∧(∀ r,aQ r→R9' r)∧ ∀ r,R9' r→aQ r∨w0.heap.size≤r) ?_ ?_
 ·rintro _ ag ⟨rfl,cc,dF,dG,dH,bz,R9',bU,bf,dI,dJ,dK⟩;rw[aL dF];refine (AH (e:=gV n a) bf.cE bV dG dH bd ca (by omega)).mono ?_;rintro v bK _ ⟨_,ab⟩;obtain⟨rfl,dM,dN,R',x,y,q,bP,dO,er,cd⟩:=ab ao;have z4:=cc.size;obtain⟨dP,es,et⟩:=o2 (t:=t) (i:=2) (x:=x);obtain⟨f1,f2,f3⟩:=o2 (t:=t.set 2 x) (i:=q) (x:=y);rw[a8];refine bW _ ?_;unfold l0;rw[if_pos ao];exact⟨dN,R',_,R9',_,bU,bf.prog dM bP dO bf.js.set.set cd (fun _ _ _ h=>h) bf.box.lt,(cc.mono fun r _ h=>.inr h).trans (bP.1.mono fun r _ h=>.inl h),fun r W=>(bP.2.1 r W).imp id fun h=>by omega,fun r W=>(cd r W).imp id fun h=>by omega,dJ,dK,fun q r W=>dI q r W.1,f1.trans dP,by omega,by omega⟩
 intro b9 aI ag Y _ _;rw[aw];have dQ:=aJ.trans Y;refine (p.ext dQ).look.load fun dD bL=>?_;rw[aL (a1.ext Y)];refine (AE (e:=gV n a) bL aY (ba.ls.ext Y) (a2.ls.ext Y) bd).mono ?_;rintro _ bK _ ⟨⟨b,rfl,aO⟩,aP⟩;rw[aO.2 ao,bc,br];refine⟨fun h=>by simp at h,fun _=>?_⟩;intro dR dS _ _;have aR:=(Y.trans aP).trans dS;have bQ:=aJ.trans aR;have bR:=a1.ext aR;have bg:=ba.ext aR;have bh:=a2.ext aR;have eu:=bQ.size;have bS:=(p.olds.ext bQ).reads (R9':=fun r=>aQ r∨leads ay r∨leads bv r) (fun r h=>.inl h) fun r W=>by
  rcases W with W|W|W
  ·exact .inl W
  ·obtain⟨c,aS⟩:=lS bg r W;have:=aZ r (.inr W);exact .inr ⟨oX aS (by decide),aS.lt,by omega,fun q h=>by have:=h.2;omega⟩
  ·obtain⟨c,aS⟩:=lS bh r W;have:=a7 r W;exact .inr ⟨oX aS (by decide),aS.lt,by omega,fun q h=>by have:=h.2;omega⟩
 obtain⟨dU,ch⟩:=bS.doc.at 7 (by omega);rw[aw,V aK.p rfl,aa (v:=dU) (by kernel_rfl) (bS.box.cell (o:=0+7) ch),aL bR];have own:bi (α:=kg) (fun _=>False) (fun r=>aQ r∨leads ay r∨leads bv r) dR [.int .i64 a.i,ay,bv] (oY (gV n a)):=
  ⟨[.int .i64 a.i],[ay,bv],fun _=>False,fun _=>False,rfl,fun _ h=>h,fun _ h=>h,fun _ _ h=>h.elim,rfl,[ay],[bv],fun _=>False,fun _=>False,rfl,fun _ h=>h,fun _ h=>h,fun _ _ h=>h.elim,j7 bg fun r h=>.inr (.inl h),j7 bh fun r h=>.inr (.inr h)⟩
 refine hF fO.u cg.i (by decide) rfl own fun ev ey ai _ dV=>?_;refine⟨.inl ai,?_⟩;have ez:=ai.size;simp only[aw];refine J5 (bS.ext ai) (fun q r h=>by have:=h.2;omega) ch dV (bO own ai) ck fun bz bU dW aC dY aT=>?_;have bj:∀ r,(A9 4 r∧r<w0.heap.size∨r=al)→r<w0.heap.size:=fun r W=>W.elim (fun h=>h.2) fun h=>by omega
 have dZ:=((bo.ext bI).ext (aR.trans ai)).O aC fun r _ h=>bj r h;have eb:=(bR.ext ai).O aC fun h=>by have:=bj ge h;omega
 have ec:=a6 (bg.ext ai) aC fun r W h=>by have:=bj r h;have:=aZ r (.inr W);omega
 have ed:=a6 (bh.ext ai) aC fun r W h=>by have:=bj r h;have:=a7 r W;omega
 intro eA au _ _;have bT:=dY.olds.ext au;have eB:=aC.size;have z9:=au.size;obtain⟨ee,ci⟩:=bT.doc.at 4 (by omega);have eC:=aY.vars;obtain⟨x,bk⟩:∃ x,s.vars[a.i.toNat]? =some x:=⟨_,y0 (by have:0≤a.i∧a.i<n.sizes.length:=ao.has;omega)⟩;have ef:a.i=((a.i.toNat:Nat):Int):=by have:0≤a.i∧a.i<n.sizes.length:=ao.has;omega
 have aD:iK s (gV n a)={({s with elims:=s.elims++[gV n a]}:aF) with vars:=s.vars.set a.i.toNat {x with gone:=1}}:=by
  unfold iK;rw[show (gV n a).v=a.i from rfl,bk]
 rw[V aK.p rfl,aa (v:=ee) (by kernel_rfl) (bT.box.cell (o:=0+4) ci),V aN.p rfl,aa (v:=.int .i64 a.i) (by kernel_rfl) ((dZ.ext au).c0.cell (o:=0+1) rfl)];refine J6 (u':=iK s (gV n a)) bT (fun q r h=>by have:=h.2;omega) ci ef (by exact (x4.1 bk).1) (by rw[aD]) (by rw[aD];exact nf bk rfl) (by rw[aD];exact nf bk rfl) (by rw[aD]) (by rw[aD]) (by rw[aD];exact U3 ..) fun eD bl eg=>?_;have eh:∀ r,(bz 1 r∧r<dW.heap.size)→(∃ bM,A9 bM r)∨w0.heap.size≤r:=fun r W=>(aT 1 r W.1).elim (fun h=>.inl ⟨1,h.1⟩) fun h=>.inr (by omega);refine aI _ _ ⟨rfl,fB ((((bQ.trans ai).O _).trans (aC.mono fun r _ h=>h.imp (fun h=>⟨4,h.1⟩) id)).trans (au.O _)) bl fun r W h=>(eh r h).elim .inl fun ab=>by omega,?_,?_,?_,_,_,bU,eg,fun q r W=>(aT q r W.1).elim (fun h=>.inl ⟨q,h.1⟩) fun h=>.inr (by omega),fun r W=>.inl W,fun r W=>?_⟩
 ·exact (eb.ext au).O bl fun h=>by
   rcases aT 1 ge h.1 with ab|ab
   ·have:=ab.2;omega
   ·have:=bR.lt;omega
 ·exact (a6 (ec.ext au) bl fun r W h=>by
   rcases aT 1 r h.1 with ab|ab
   ·have:=ab.2;have:=aZ r (.inr W);omega
   ·obtain⟨_,bG⟩:=bn bg W;omega).ls
 ·exact (a6 (ed.ext au) bl fun r W h=>by
   rcases aT 1 r h.1 with ab|ab
   ·have:=ab.2;have:=a7 r W;omega
   ·obtain⟨_,bG⟩:=bn bh W;omega).ls
 ·rcases W with W|W|W
  ·exact .inl W
  ·exact .inr (aZ r (.inr W))
  ·exact .inr (a7 r W)
end
theorem uf {n:aS} {s:aF} {O:List Int}:jy n s sc O↔2≤sc.length∧jw n s sc∧O=bd n.sizes sc:=by
 unfold jy bd;constructor
 ·rintro⟨h1,W,U,V⟩;refine⟨h1,U,Y8 fun i=>?_⟩;rw[x8];by_cases hi:i<sc.length
  ·obtain⟨v,J⟩:∃ v,sc[i]? =some v:=⟨_,y0 hi⟩;obtain⟨z,I⟩:∃ z,O[i]? =some z:=⟨_,y0 (by omega)⟩;rw[J,I,Z2,V i v z J I]
  ·rw[Z9 (by omega),Z9 (by omega)];rfl
 ·rintro⟨h1,U,rfl⟩;refine⟨h1,by rw[u5],U,fun i v z J I=>?_⟩;rw[x8,J,Z2] at I;exact b9 I
theorem J9 {n:aS} {s:aF} (h:jw n s l):l.Pairwise (·< ·):=by
 have step:∀ i x y,l[i]? =some x→l[i+1]? =some y→x<y:=fun i x y J I=>by
  obtain⟨v,O,_,_,_,V⟩:=h (i+1) (x4.1 I).1;rw[I] at O;cases O;have:=V (by omega);rwa [Nat.add_sub_cancel,u4,J] at this
 have all:∀ d i x y,l[i]? =some x→l[i+d+1]? =some y→x<y:=fun d=>by
  induction d with
  |zero=>exact step
  |succ d W=>
   intro i x y J I;obtain⟨z,U⟩:∃ z,l[i+d+1]? =some z:=⟨_,y0 (by have:=(x4.1 I).1;omega)⟩;exact Int.lt_trans (W i x z J U) (step _ z y U I)
 rw[V3];intro i j hi Y aa;exact all (j-i-1) i _ _ (y0 hi) (by rw[show i+(j-i-1)+1=j by omega];exact y0 Y)
section
variable {w:x2} {aj ah:Nat} {A R:ag} {n:aS} {s:aF} {t:aH}
theorem Ka {ai:x1} {szs cs:List Int} {g ao:Nat} (h:cp w aj ah A R n s t) (aa:aB .i64 w ay sc) (aI:∀ r,leads ay r→¬A r) (Y:cB w g ao ai szs n.k cs) (aJ:¬A g∧¬A ao∧ ∀ r,leads ai r→¬A r) (aK:sc.length≤6) (aN:∀ c∈cs,0≤c∧c≤n.k)
  (aO:t.cells.length+cs.length+1≤100000000) (bA:t.olds.length+cs.length+2≤100000000) (O:s.funs.length≤1000000):
  af x3 rR [.pointer (some ⟨aj,0,none⟩),ay,.pointer (some ⟨g,0,none⟩)] w fun r w'=>(¬jy n s sc szs→r= .tuple #[.int .i64 0,.int .i64 1]∧Ext w w')∧
   (jy n s sc szs→r= .tuple #[.int .i64 (s.funs.length:Int),.int .i64 0]∧ad (dz w) w w'∧ ∃ ae R',Grow A w ae w'∧cp w' aj ah ae R' n (fw s sc szs cs) (kd s t cs)∧(∀ r,R r→R' r)∧ ∀ r,R' r→R r∨leads ai r∨w.heap.size≤r):=by
 obtain⟨_,W,ap,U,aQ⟩:=id h;refine az func54 ?_;rw[cI fN.u];simp only[Z1,aP];refine aM (fun v J=>∃ b,v= .bool b∧(b=false↔jy n s sc szs)∧Ext w J) ?_ ?_
 rotate_left
 ·intro bB ak;rw[aL ac.u aa,an,ab];refine⟨fun bC=>ak _ _ ⟨true,rfl,⟨(fun h=>by cases h),fun h=>by have:=h.1;omega⟩,Ext.refl _⟩,fun bD=>?_⟩;refine (Ao h aa).mono ?_;rintro _ J _ ⟨⟨b,rfl,aq⟩,I⟩;rw[bc,br];refine⟨fun ag=>ak _ _ ⟨true,rfl,⟨(fun h=>by cases h),fun h=>by rw[aq.2 h.2.2.1] at ag;cases ag⟩,I⟩,fun aR=>?_⟩;have V:=aq.1 (by simpa using aR);rw[cI dM.u];simp only[Z1,aP];refine (sN (Y.ext I)).mono ?_;rintro _ aS _ ⟨rfl,aT⟩;have au:=I.trans aT;refine (nb (h.ext au)).mono ?_;rintro _ bE _ ⟨rfl,aU⟩;have av:=au.trans aU;rw[bF,ab];refine⟨fun aV=>absurd rfl aV,fun _=>?_⟩;refine (lC (Y.ext av)).mono ?_;rintro _ bG _ ⟨rfl,aW⟩;have aw:=av.trans aW;obtain⟨⟨aG,gs,_,aX,_⟩,_,aY,_⟩:=id Y;refine (sO (aX.ls.ext aw) (by have:=aY.1;omega)).mono ?_;rintro v5 bH _ ⟨aZ,bI,bJ,a1⟩;have al:=aw.trans aZ;refine (AF (h.ext al) (aa.ext al) (fun x a2=>(q6 V x a2).1) (by omega)).mono ?_;rintro bK bL _ ⟨ax,bM,a6,_⟩;refine (wE (a1.ls.ext ax) a6.ls).mono ?_;rintro _ bN _ ⟨rfl,a7⟩;rw[bc];exact ak _ _ ⟨_,rfl,⟨fun h=>uf.2 ⟨by omega,V,by simpa using h⟩,fun h=>by rw[decide_eq_true (uf.1 h).2.2];rfl⟩,(al.trans ax).trans a7⟩
 rintro _ J ⟨b,rfl,aA,I⟩;rw[br];refine⟨fun aC=>⟨fun _=>⟨by trivial,I⟩,fun V=>by rw[aA.2 V] at aC;cases aC⟩,fun a8=>?_⟩;have V:=aA.1 a8;obtain⟨ba,aD,am⟩:=uf.1 V;obtain⟨bb,bd,bO,be,bf⟩:=(h.ext I).1;refine (zJ bf W (aa.ext I) aI (Y.ext I) aJ (by omega) aO (by omega) ap.2.2 O).mono ?_;rintro _ aS _ ⟨rfl,bg,ae,R',bh,bi,bj,bk,bl⟩;obtain⟨_,⟨_,_,bm⟩,bP,bn⟩:=id Y;have bo:=oJ t (1::cs) (1::cs).length;have bp:=oK t (1::cs) (1::cs).length;have bq:=lO t (1::cs) (1::cs).length;simp only[j4] at bo bp;obtain⟨bt,bu,aE⟩:=o2 (t:=gU t (1::cs)) (i:=1) (x:=((s.funs.length+1:Nat):Int));have bw:jn (kd s t cs):=by
  refine⟨?_,?_,?_⟩
  ·show (aH.set _ _ _).cells.length≤_;rw[bu];unfold gU;simp only[j4];omega
  ·show (aH.set _ _ _).olds.length≤_;unfold gU at aE ⊢;simp only[j4] at aE ⊢;omega
  ·show (aH.set _ _ _).marks.length≤_;rw[bt];unfold gU;rw[bq];exact ap.2.2
 have aF:=q6 aD;have bx:et n.k n.sizes (fw s sc szs cs):=by
  refine⟨U.iD,U.dX,U.zero,U.vars,U.var,fun f O=>?_⟩;have O:f∈s.funs++[(⟨sc,szs,1,cs⟩:eF)]:=O;rcases n9.1 O with O|O
  ·exact U.funs f O
  ·obtain rfl:=j0.1 O;exact⟨⟨⟨fun v W=>by have:=aF v W;have:=U.dX.2.1;omega,aK⟩,J9 aD,fun v W=>(aF v W).2,by rw[←am];exact bn,by rw[←am];exact bm,aN⟩,am,ba⟩
 have bQ:=I.size;exact⟨fun ag=>absurd V ag,fun _=>⟨by trivial,jp I bg,ae,R',(Grow.ext I).trans bi,⟨⟨bb,bd,bh,be,bj⟩,zI W,bw,bx,aQ⟩,bk,fun r bz=>(bl r bz).imp id fun h=>h.imp id fun h=>by omega⟩⟩
end
section
variable {w w':x2} {aj ah al:Nat} {A R:ag} {A9:Nat→ag} {aQ R9' B:ag} {n:aS} {s u u':aF} {t:aH} {h:List aH} {cs:List x1} {v:x1}
theorem Kb {an:r8} {y:x1} {xs:List x1} {f:eF} {K:x2→Prop} (p:bE w aj ah al A R A9 aQ n s u t h cs) (ao:∀ q r,A9 q r→r<w.heap.size) (U:cs[6]? =some v) (ap:bS w 4 y 1 xs) (au:bi B aQ w xs (eu f)) (O:∀ r,B r→¬A r∧¬R r∧r≠al∧¬aQ r∧ ∀ q,¬A9 q r) (aG:u.funs.length≤1000)
  (av:∀ bz bU w',ad (fun r=>A9 3 r∨r=al) w w'→bE w' aj ah al A R bz aQ n s {u with funs:=u.funs++[f]} t h bU→(∀ q r,bz q r→A9 q r∨B r∨w.heap.size≤r)→K w'):
  ax x3 (l9 #[ck,ck] an #[v,y]) w fun aa ab=>I x3 (x7 aK (.pointer (some ⟨al,0,none⟩)) 6) ab fun aw=>ax x3 (o3 ck aw aa) ab fun _ V=>K V:=by
 obtain⟨aq,aH,aI,aJ,ay,ac,az,h1,ae,af,aL,aA,aM,W⟩:=id p.doc;obtain⟨W,ag⟩:=W rfl;have ac:v=ay:=by rw[az] at U;exact (b9 U).symm
 subst ac;have aN:=p.box.lt;have aB:∀ r,aQ r→r<w.heap.size:=fun r h=>(p.read r h).2.1;have ai:=q5 p.cE;refine ne (pl:=_) (l:=u.funs.map eu) aK.p rfl ck.u ck.i dj.i rfl p.box U aA ap au (fun r J ak=>⟨fun h=>(O r h).2.2.2.2 3 ak,ag 3 r ak⟩) ⟨fun h=>(p.apart 3 al h).2.2 rfl,fun h=>(O al h).2.2.1 rfl,fun h=>(p.read al h).2.2 rfl⟩ (by rw[u5];omega) (by rw[u5];omega) fun aa V Y aC aD=>?_;have am:=bx.gw p.doc (ng Y) (fun r J=>?_) aD (fun j r aE J=>?_) (fun r J=>?_)
 ·refine av _ _ V Y (p.Aw Y (fun r J h=>h.imp (fun h=>⟨3,h⟩) id) aC (u':={u with funs:=u.funs++[f]}) (by rw[←List.map_singleton,←b6] at am;exact am) fun q r J=>?_) fun q r J=>?_
  ·unfold eW at J;split at J
   ·rcases J with J|J|J
    ·exact .inl ⟨3,J⟩
    ·obtain⟨h1,ae,af,_⟩:=O r J;exact .inr ⟨h1,ae,af⟩
    ·exact .inr ⟨fun h=>by have:=ai r (.inl h);omega,fun h=>by have:=ai r (.inr h);omega,by omega⟩
   ·exact .inl ⟨q,J⟩
  ·unfold eW at J;split at J
   ·rename_i aF;subst aF;exact J
   ·exact .inl J
 ·rcases J.1 with h|rfl
  ·exact .inl h
  ·exact .inr ⟨fun j h=>(p.apart j r h).2.2 rfl,fun h=>(p.read r h).2.2 rfl⟩
 ·rcases J with J|J|J
  ·exact W 3 j r (Ne.symm aE) J
  ·exact (O r J).2.2.2.2 j
  ·exact fun h=>by have:=ao j r h;omega
 ·rcases J with J|J|J
  ·exact ag 3 r J
  ·exact (O r J).2.2.2.1
  ·exact fun h=>by have:=aB r h;omega
theorem Kc {szs:List Int} {i:Nat} (h:i<(aE szs).toNat):(gK szs k l)[i]? =some (ix k l[i]?):=by
 simp[gK,h]
set_option maxHeartbeats 1000000 in
theorem Kd {L co:List Int} {a2 ay a7:Nat} {aj aG:x1} {aJ:List x1} {K:x1→x2→Prop} (aL:am .i64 U w a2 aj L) (Y:bD L) (bK:aE L≤600) (ao:right k) (aM:ae w ay dk [aj,.int .i64 k,aG]) (aN:am .i64 ak w a7 aG (gK L k co))
  (a8:ae w al aK aJ) (ba:aJ[0]? =some (.int .i64 k))
  (bb:∀ w' g J aO,Ext w w'→cB w' g J aO L k (gK L k co)→w.heap.size≤g→w.heap.size≤J→(∀ r,leads aO r→w.heap.size≤r)→K (.pointer (some ⟨g,0,none⟩)) w'):
  I x3 (aX (.pointer (some ⟨al,0,none⟩))) w fun bc=>
        I x3 (x7 aK bc 0) w fun bd=>
        I x3 (x6 ak bd) w fun be=>
        af x3 rU [aj,be,(.int .i64 0)] w fun aP az=>
        I x3 (j6 aP 0) az fun aQ=>
        I x3 (j6 aP 1) az fun bL=>
        af x3 rV [aj] az fun aR aS=>
        I x3 (Z5 #[cQ] U #[aR]) aS fun bf=>
        bJ (.int .i64 0) aS fun ap W bg=>
         I x3 (av .lss U false false ap bf) W fun bh=>
         Split bh (I x3 (o6 cQ aR ap) W fun bi=>
         I x3 (x6 ac bi) W fun bj=>
         I x3 (x7 dk (.pointer (some ⟨ay,0,none⟩)) 2) W fun bk=>
         I x3 (x6 au bk) W fun bl=>
         I x3 (o6 au bl ap) W fun bo=>
         I x3 (x6 ak bo) W fun bp=>
         af x3 rW [aQ,bj,bp] W fun bM aT=>
         I x3 (av .add U false true ap (.int .i64 1)) aT fun bq=>
         bg bq aT)
         (K aQ W):=by
 have bN:=ao.1;have bO:=ao.2;rw[aw,V aK.p rfl,aa (v:=.int .i64 k) (by kernel_rfl) (a8.cell (o:=0+0) ba)];refine (pY aL.ls).mono ?_;rintro v aU _ ⟨aB,_,_,_,br⟩;obtain⟨g,J,sv,rfl,bt,bu,bw,aC⟩:=br Y (by omega) ⟨ao,by omega,by omega⟩;rw[aD (v:=.pointer (some ⟨g,0,none⟩)) rfl,aD (v:=.int .i64 0) rfl];refine (p8 _ ((aL.ext aB).ls) Y).mono ?_;rintro cn aV _ ⟨aW,aq⟩;rw[fR cQ.u aq];have bP:=aB.size;have aq:=jT aq;have bx:=hV Y.2;have bQ:=prod_bound Y;have bR:=aC.2.2.2;have bS:J<aU.heap.size:=by obtain⟨⟨_,_,_,_,bz⟩,_⟩:=aC;exact mY bz (by simp;omega)
 have aF:Ext w aV:=aB.trans aW;have bT:=aM.lt;refine bJ.range (bm L).length (fun i ah=>ad (fun r=>r=J) aV ah∧cB ah g J sv L k (upto (gK L k co) 0 i)) (by omega)
  ⟨ad.refl _ _,by rw[lw,qn];exact aC.ext aW⟩ ?_ ?_
 ·rintro i ah bA hi ⟨ag,ax⟩ bB;rw[an,ab];refine⟨fun _=>?_,fun h=>by omega⟩;have aY:(i:Int)<aE L:=by omega
  have bC:=ai.O aq ag fun r aH h he=>by
   have he:r=J:=he;rcases h with h|h
   ·have:=h.1;have:aU.heap.size≤r:=this;omega
   ·exact h
  refine io rfl rfl cQ.u ac.i (by kernel_rfl) bC (nZ Y.2 aY) fun aA bE=>?_;have bF:=(aM.ext aF).O ag fun h=>by have h:ay=J:=h;omega
  have a1:=Kc (szs:=L) (l:=co) (k:=k) (i:=i) (by omega);have bG:=a6 (aN.ext aF) ag fun r aH he=>by have he:r=J:=he;obtain⟨bU,bV⟩:=bn aN aH;omega
  rw[V dk.p rfl,aa (v:=aG) (by kernel_rfl) (bF.cell (o:=0+2) rfl),aZ au.u ak.i (by kernel_rfl) bG.ls a1];refine (wK (k:=k) ax (ff bE)).mono ?_;rintro _ bW _ ⟨rfl,bH,bI⟩;rw[aI];refine bB _ ⟨ag.trans bH,?_⟩;have e:mz L (ct L i) k (ix k co[i]?) (upto (gK L k co) 0 i)=upto (gK L k co) 0 (i+1):=by
   unfold mz;rw[nY Y.2 (by omega) aY];simp only;rw[if_pos ⟨ao,xJ (by omega) _⟩,Z3,ly a1]
  rw[←e];exact bI
 ·rintro ah bA ⟨ag,ax⟩;rw[an,ab];refine⟨fun h=>by omega,fun _=>?_⟩;rw[bx,←qn L k co,lx] at ax;exact bb ah g J sv (aF.then ag fun r aH h=>by have h:r=J:=h;omega) ax bt bu bw
end
end Go.Proofs.YtgbkinibgjmodaaGreatDoor
