/- own texts, made small by a tool (wip/ holds them as they were written): no statement of the seat. -/
import Derived.Test.YtikkpokkcdocoaaGreatDoorWc
set_option linter.defProp false
set_option linter.unusedVariables false
set_option linter.unusedSimpArgs false
set_option linter.unnecessarySimpa false
open Array renaming getElem?_eq_some_iff→j5
open BitVec renaming ofInt→T4
open Bool renaming not_true→X3,not_false→W3,eq_iff_iff→V7,and_eq_true→U3,or_eq_false_iff→U7,true_and→T6
open Decidable renaming not_not→X4
open Go renaming Value→x3,World→x4,TypeId→r9,IntKind→n9,Program→V1
open Go.Builtin renaming append_→Z3,len_→W9
open Go.Instr renaming loadAt→u5,fieldAt→u6,storeAt→o9,indexAt→j9,extract→Y1,buildSlice→Y8,sliceAt→U1
open Go.IntKind renaming i64→X9
open Go.Proofs.Tryz renaming prog→x8
open Int renaming toNat_natCast→r8
open List renaming getElem?_eq_some_iff→x5,mem_of_getElem?→x6,getElem?_eq_getElem→x7,getElem?_map→v8,getD_eq_getElem?_getD→u4,length_map→u7,take_add_one→u9,length_append→o4,replicate→o5,length_take→o7,take_length→o8,mem_map→l9,mem_append→j0,take_of_length_le→j4,mem_singleton→j6,eq_nil_of_length_eq_zero→c9,getElem?_set_self→b8,length_cons→Z2,map_append→Z4,length_set→Z9,getElem?_take_of_lt→Y0,getElem?_eq_none→Y2,getElem?_append_left→Y3,getElem?_append_right→Y5,append_assoc→Y6,ext_getElem?→Y9,getElem?_set→X1,mem_iff_getElem?→X5,drop_eq_getElem_cons→W0,range→W5,flatMap_cons→W6,mem_or_eq_of_mem_set→W7,length_eq_one_iff→V2,append_nil→V3,mem_cons→V4,mem_of_mem_take→U6,map_set→U8,map_cons→T0,length_singleton→T1,foldl_cons→S0,set_append_right→S1,getElem_mem→S4,getElem?_drop→S5,getElem?_zip_eq_some→S6,mem_filter→S7,map_map→R6,length_filter_le→Q0,length→Q4
open Nat renaming le_refl→o6,le_trans→Y7,mul_le_mul_right→X0,zero_le→X8,mul_one→U4,add_mul→U5,sub_self→T2,pow_le_pow_right→T9,add_assoc→R7,eq_zero_or_pos→Q5
open Ne renaming symm→R2
open Option renaming toList_some→l7,some→b9,isNone_some→Z6,map_some→Z7,map_eq_some_iff→X2,getD_some→V5,map→U2,isSome_some→R4,isSome_none→R5
open Option.some renaming inj→Z0,injEq→X7
open Prod.mk renaming injEq→S3
set_option maxHeartbeats 16000000
open Option renaming some→σ,none→ν
variable{w w':x4}{all cs l pl sizes t tl:Λ}{a e:r9}{c k n y:Int}{aO sv szv v z:x3}{K:x3->Prop}{B N ab ad gs gz j:Nat}{S:Nat->Prop}
namespace Go.Proofs.YtikkpokkcdocoaaGreatDoor
open Go Go.Vc Go.RowKit Go.Proofs Go.Proofs.Tryz
set_option maxRecDepth 100000
def gP{P:V1}{t G:r9}{k:n9}{b g:Nat}{x:x3}{m:Λ}{K:x3->x4->Prop}(y:P.underlying t=σ (.slice e))(hi:aQ P e 1 b z)(A:z.cells.size=1)(h:au k e w g v l)(B:aG k w x m)(C:(l.length+m.length)*b<=140737488355328)(E:l.length+m.length<=9223372036854775807)(F:∀a f w',au k e w' f a (l++m)->(∀r,leads a r->leads v r\/w.heap.size<=r)->ae (λr=>leads v r) w w'->K a w'):aB P (Z3 #[t,t] G #[v,x]) w K:=by
 rcases h.2 with⟨p,H⟩|⟨cap,cs,p,L,M⟩
 .have I:l=[]:=c9 H;subst I;have h':au k e w w.heap.size v []:=by rw[p];exact au.nil _ _ _ _
  refine jo y hi A h' B C E λa f w' q hm s=>F a f w' hm (λr j=>.inr ?_) (s.mono λr j he=>by have he:r=w.heap.size:=he;omega);obtain⟨J,_⟩:=bR hm j;omega
 .refine jo y hi A h B C E λa f w' q hm s=>F a f w' hm (λr j=>?_) (s.mono λr j he=>⟨_,_,_,p,he.symm⟩);obtain⟨J,_⟩:=bR hm j;rcases q with q|q
  .exact .inl ⟨_,_,_,p,by show g=r;omega⟩
  .exact .inr Ω
def addVar(s:ao)(u:Λ):ao:={s with vars:=s.vars++[newVar u]}
def NI(s:ao)(u:Λ):iC (addVar s u)=iC s++[((3+(s.vars.flatMap hL).length:Nat):Int)]:=by
 unfold iC addVar;rw[o4,T1,List.range_succ,Z4];congr 1
 .apply List.map_congr_left;intro i hi;have:=List.mem_range.1 hi;unfold fe;simp only[List.take_append_of_le_length (show i<=s.vars.length by omega)]
 .simp[fe]
def NJ{s:ao}{u:Λ}(a:s.funs=[]):(addVar s u).cells=s.cells++(0::0::u):=by
 unfold ao.cells addVar i7;simp only[a,List.flatMap_nil,V3,List.flatMap_append,List.flatMap_singleton,Y6];rfl
def eX(n:aK)(i j:Nat):ao:=⟨n.zero,(n.unary.take i).map newVar,(n.funs.take j).map (kB n.sizes),[]⟩
def C8{n:aK}{i:Nat}{u:Λ}(h:n.unary[i]?=σ u):eX n (i+1) 0=addVar (eX n i 0) u:=by
 unfold eX addVar;simp only[u9,h,l7,Z4,List.map_singleton]
def NK{n:aK}{i:Nat}{g:cJ}(h:n.funs[j]?=σ g):eX n i (j+1)=jb (eX n i j) g.1 (bI n.sizes g.1) g.2:=by
 unfold eX jb;simp only[u9,h,l7,Z4,List.map_singleton];rfl
def wI(n:aK):eX n n.unary.length n.funs.length=dr n:=by
 unfold eX dr;rw[o8,o8]
theorem wJ{α β:Type}{f:α->List β}{b:Nat}:∀{L:List α},(∀x∈L,(f x).length<=b)->(L.flatMap f).length<=L.length*b
 |[],_=>Ξ
 |x::L,h=>by
  rw[W6,o4,Z2,U5];have:=wJ (L:=L) λy a=>h y (.tail _ a);have:=h x (.head _);omega
def ts{n:aK}(a:jV n)(B:n.funs.length<=256)(i j:Nat):(eX n i j).cells.length<=2000000:=by
 rw[wA];have h1:=wJ (f:=hL) (b:=34) (L:=(eX n i j).vars) λx h=>by
  obtain⟨u,hu,rfl⟩:=l9.1 (show x∈(n.unary.take i).map newVar from h);obtain⟨p,q⟩:=X5.1 (U6 hu);have C:=a.kz;have E:=(x5.1 q).1;obtain⟨z,r⟩:=aF (l:=n.sizes) (i:=p) Ω;have w:=(a.unary p z u r q).1;have e:=a.sizes.2.2 z (x6 r);show u.length+2<=34;omega
 have w:=wJ (f:=h8) (b:=4097) (L:=(eX n i j).funs) λx h=>by
  obtain⟨g,y,rfl⟩:=l9.1 (show x∈(n.funs.take j).map (kB n.sizes)from h);have e:=(a.funs g (U6 y)).1;have s:=e.len;have A:=e.small;show g.2.length+1<=4097;omega
 have e:(eX n i j).vars.length<=64:=by
  show((n.unary.take i).map newVar).length<=64;rw[u7,o7];have:=a.kz;have:=a.sizes.2.1;omega
 have s:(eX n i j).funs.length<=256:=by
  show((n.funs.take j).map (kB n.sizes)).length<=256;rw[u7,o7];omega
 have A:=X0 34 e;have F:=X0 4097 s;omega
def Plain(t:ay):Prop:=t.marks=[]/\t.olds=[]/\hC t []/\t.iq=0
def Plain.set{t:ay}(h:Plain t)(i:Nat)(x:Int):Plain (t.set i x):=⟨(ay.wD _ _ _).trans h.1,(ay.wE h.1 _ _).trans h.2.1,h.2.2.1.set,(ay.CZ _ _ _).trans h.2.2.2⟩
def Plain.lay{t:ay}(h:Plain t)(l:Λ):Plain (mU t l):=⟨(qU _ _ _).trans h.1,(C3 h.1 _ _).trans h.2.1,h.2.2.1.fM l _,(C2 _ _ _).trans h.2.2.2⟩
def Plain.put{s:ao}{t:ay}(h:Plain t)(cs:Λ):Plain (oa s t cs):=(h.lay _).set _ _
def NL(w:x4)(R0:af)(n:aK)(v:x3)(w':x4):Prop:=Ext w w'/\∃ab ad A R t,v=Γ ab/\StateM w' ab ad A R n (dr n) t/\t.bV=(dr n).cells/\Plain t/\(∀r,A r->w.heap.size<=r)/\∀r,R r->R0 r\/w.heap.size<=r
def NM{w0:x4}{R0:af}{n:aK}(aQ:gd w0 B n)(ax:Ext w0 w)(bh:∀r o,w0.heap[r]?=σ o->fz o=true->R0 r)(aR:∀r,R0 r->r<w.heap.size)(C:jV n)(bi:n.funs.length<=256):ai x8 y4 [Γ B] w (NL w R0 n):=by
 have h:=aQ.ext ax;have bX:=C.kz;have c0:=C.sizes.2.1;refine az func62 ?_;rw[dc mC.u];simp only[Z6,aY];refine(Nu (n:=3) Ω).mono ?_;rintro _ J _ ⟨aA,ad,rfl,bZ⟩;rw[dq (cs:=#[Γ B,Γ ad,.slice ν 0 0,.slice ν 0 0,.slice ν 0 0]) Ψ];refine bk λab U c1 S V=>?_;have V:ac U ab cu [Γ B,Γ ad,.slice ν 0 0,.slice ν 0 0,.slice ν 0 0]:=V;have c2:=aA.size;have c3:=S.size;have c4:=V.lt;have b0:eQ U ab ad B (.slice ν 0 0) (.slice ν 0 0) (.slice ν 0 0) (λr=>r=ab\/(w.heap.size<=r/\r<J.heap.size)) R0 n ⟨0,[],[],[]⟩ ⟨o5 3 ⟨0,0⟩,[],[],0⟩:=by
  refine⟨⟨.inl rfl,λr q O=>?_,λr q=>?_,λr q=>?_⟩,0,0,0,[],[],λr=>w.heap.size<=r/\r<J.heap.size,w0,V,⟨aQ,ax.trans (aA.trans S),bh⟩,⟨(bZ.cut).ext S,λr q=>.inr q,λq=>?_,λr q=>?_⟩,au.nil _ _ _ _,⟨bg.nil _ _ _ _ _,rfl,λj x f W=>by simp at W⟩,bg.nil _ _ _ _ _,rfl,λj x f W=>by simp at W⟩
  .have O:=aR r O;rcases q with q|q<;>omega
  .have q:=aR r q;omega
  .rcases q with q|q<;>omega
  .omega
  .rcases q with q|q|q
   .obtain⟨a,c5,c,aT,c6⟩:=q;cases aT
   .exact (fu q).elim
   .exact (fu q).elim
 intro c7 X _ _;have b1:=b0.ext X;rw[aP cu.p 1 (V.ext X) rfl];refine(NB (h.ext ((aA.trans S).trans X))).mono ?_;rintro _ c8 _ ⟨rfl,aB⟩;refine⟨.inl aB,?_⟩;have b3:=b1.ext aB;obtain⟨aU,b4,b5⟩:=b3.qT;refine(tk (i:=0) (y:=0) b4 rfl Φ ⟨Ξ,Ξ,Ξ⟩).mono ?_;rintro _ bj _ ⟨_,b6,b7,b8⟩;obtain⟨b9,bl,aV⟩:=b5 b6 bj _ b7 b8;have aV:=aV.same (CX ⟨0,[],[],[]⟩ n.zero);have z3:=X.size;have z4:=aB.size;have ca:=((aA.trans S).trans X).trans aB;have bm:Ext w bj:=ca.then bl.1 λr q he=>by rcases he with he|he<;>omega
 refine(wB (h.ext bm)).mono ?_;rintro _ c9 _ ⟨rfl,bn⟩;refine bU.range n.sizes.length (λi aC=>∃A M t,Ext w aC/\eQ aC ab ad B M (.slice ν 0 0) (.slice ν 0 0) A R0 n (eX n i 0) t/\t.bV=(eX n i 0).cells/\Plain t/\∀r,A r->w.heap.size<=r) Ω
  ⟨b9,_,_,bm.trans bn,aV.ext bn,?_,?_,λr q=>?_⟩ ?_ ?_
 .rw[ay.qe];rfl
 .exact Plain.set (t:=⟨o5 3 ⟨0,0⟩,[],[],0⟩) ⟨rfl,rfl,⟨rfl,rfl,λc G=>by rw[(List.mem_replicate.1 G).2];exact o6 _,X8 _⟩,rfl⟩ _ _
 .rcases bl.2.1 r q with he|he
  .rcases he with he|he<;>omega
  .omega
 .rintro i aC cb hi ⟨A,M,t,P,aW,Y,Z,aD⟩ cc;obtain⟨u,hu⟩:=aF (l:=n.unary) (i:=i) Ω;obtain⟨bo,bq⟩:=aF (l:=n.sizes) (i:=i) Ω;have da:u.length<=32:=by
   have db:=(C.unary i bo u bq hu).1;have dd:=C.sizes.2.2 bo (x6 bq);omega
  refine bA Ω ?_;refine(CU (h.ext P) C).mono ?_;rintro de df _ ⟨cd,_,ce⟩;obtain⟨dg,dh,cg⟩:=ce u Ω (by rw[r8];exact hu);intro aX bt _ _;have aZ:=cd.trans bt;have bu:=aW.ext aZ;obtain⟨⟨_,_,_,ag⟩,a1,bw,ge,L,E,aU,w0,aE,_⟩:=id bu;have di:=aZ.size;have dj:=P.size;rw[aP cu.p 2 aE rfl];refine vp (l:=[0,0]) aq.u am.i Ω rfl Ψ λci dk dl dm aG bx=>?_;refine⟨.inl aG,?_⟩;refine gP aq.u am.i rfl bx ((cg.ext bt).ls.ext aG) Θ Θ λcj dn ck cl cm cn=>?_;have bz:∀r,leads ci r->aX.heap.size<=r:=λr q=>by obtain⟨aT,_⟩:=bR bx q;omega
  have aH:Ext aX ck:=aG.then cn λr q he=>by have:=bz r he;omega
  refine⟨.inl aH,?_⟩;have cp:=bu.ext aH;have cq:∀r,leads cj r->aX.heap.size<=r:=λr q=>by
   rcases cm r q with h|h
   .exact bz r h
   .have:=aG.size;omega
  have cr:t.cells.length<=2000000:=by
   have h1:=ts C bi i 0;rw[<-Y]at h1;unfold ay.bV at h1;rwa [u7]at h1
  have ct:t.olds.length=0:=by rw[Z.2.1];rfl
  have cw:t.marks.length=0:=by rw[Z.1];rfl
  refine(C7 cp cl.ls (λr q s=>by have:=ag r s;have:=cq r q;omega) Θ Θ Ω).mono ?_;rintro _ dp _ ⟨rfl,_,a2,a6,cz⟩;obtain⟨⟨bB,bC,cA,bD⟩,a1,bw,ge,L,E,aU,w0,aE,⟨cB,cC,bE⟩,⟨cD,bF,bG,aJ⟩,cE,⟨cF,cG⟩,cH,cI⟩:=id cz;refine⟨.inr (tq (off:=2) (z:=2) aE (λK=>by rw[aS cu.p rfl]) Ψ rfl),?_⟩;refine et (k:=.i64) an.u ah.i rfl λds dt bH du H cJ=>?_;have a7:=aE.ext H;refine⟨.inr (tq (off:=2) (z:=2) a7 (λK=>by rw[aS cu.p rfl]) Ψ rfl),?_⟩;have bI:(iC (eX n i 0)).length=i:=by
   unfold iC eX;simp only[u7,List.length_range,o7];omega
  have bJ:=cE.ext H;refine gP an.u ah.i rfl bJ cJ.ls (by rw[bI];simp;omega) (by rw[bI];simp;omega) λbK cK dv aj cL bL=>?_;have bM:=a7.aa bL λhe=>ch bJ a7 Φ he rfl;rw[bY,aS cu.p rfl];refine bp an.i aj.ls.cells.1 aj.ls.cells.2 bM Ξ λa8 ba dw bb=>?_;have bb:ac a8 ab cu [Γ B,Γ ad,bK,.slice ν 0 0,.slice ν 0 0]:=bb;rw[aL];have G:ae (λr=>leads M r\/r=ab) bH a8:=(bL.mono λr _ h=>.inl h).trans (ba.mono λr _ h=>.inr h);have dx:=aH.size;have z12:=a6.1.size;have dy:=H.size;have dz:=G.size;have bN:∀r,a2 r->w.heap.size<=r:=λr q=>(a6.2.1 r q).elim (aD r) λh=>Ω
  have bO:∀r,(leads M r\/r=ab)->a2 r:=λr q=>q.elim (λq=>(aJ r (.inl q)).1) λq=>q▸bB;have cM:(eX n (i+1) 0).cells=(eX n i 0).cells++(0::0::u):=by rw[C8 hu];exact NJ rfl
  have cN:t.cells.length=3+((eX n i 0).vars.flatMap hL).length:=by
   have h1:=congrArg Q4 Y;rw[wA]at h1;unfold ay.bV at h1;rw[u7]at h1;have:((eX n i 0).funs.flatMap h8).length=0:=by simp[eX]
   omega
  refine cc _ ⟨λr=>a2 r\/(bH.heap.size<=r/\r<a8.heap.size),bK,mU t ([0,0]++u),?_,⟨⟨.inl bB,λr q O=>?_,λr q=>by have:=cA r q;omega,λr q=>?_⟩,cK,bw,ge,L,E,aU,w0,bb,⟨cB,tn (cC.trans H) G λr o q cO I=>bC r (bO r I) (bE r o q cO),bE⟩,⟨(cD.ext H).aa G λr q I=>?_,λr q=>.inl (bF r q),bG,λr q=>?_⟩,?_,⟨(cF.ext H).aa G λr q I=>?_,?_⟩,(cH.ext H).aa G λr q I=>?_,?_⟩,?_,Z.lay _,λr q=>?_⟩
  .exact ((P.trans (aZ.trans aH)).then a6.1 λr q he=>by have:=aD r he;omega).trans H |>.then G λr q I=>by have:=bN r (bO r I);omega
  .rcases q with q|q
   .exact bC r q O
   .have O:=aR r O;omega
  .rcases q with q|q
   .have:=bD r q;omega
   .exact q.2
  .rcases I with I|rfl
   .exact (aJ r (.inl I)).2 q
   .exact bG q
  .rcases q with q|q|q
   .have dA:=(bR aj q);rcases cL r q with h|h
    .exact⟨.inl (aJ r (.inl h)).1,(aJ r (.inl h)).2⟩
    .refine⟨.inr ⟨h,by have:=ba.size;omega⟩,λcP=>by have:=bD r (bF r cP);omega⟩
   .exact (fu q).elim
   .exact (fu q).elim
  .rw[C8 hu,NI,<-cN];exact br aj ba λr q he=>by
    have he:r=ab:=he;subst he;exact ch aj bM Φ q rfl
  .exact (fu q).elim
  .refine⟨cG.1,λj x f W bc=>?_⟩;have bc:((n.funs.take 0).map (kB n.sizes))[j]?=σ f:=bc;simp at bc
  .exact (fu q).elim
  .refine⟨cI.1,λj x e W he=>?_⟩;have he:([]:List tm)[j]?=σ e:=he;simp at he
  .rw[C5,cM,Y];rfl
  .rcases q with q|q
   .exact bN r q
   .omega
 .rintro aC cb ⟨A,M,t,P,aW,Y,Z,aD⟩;refine b2 Ω ?_;refine(CT (h.ext P)).mono ?_;rintro _ dC _ ⟨rfl,bP⟩;refine bU.range n.funs.length (λj ak=>∃A R aN t,Ext w ak/\eQ ak ab ad B M aN (.slice ν 0 0) A R n (eX n n.sizes.length j) t/\t.bV=(eX n n.sizes.length j).cells/\Plain t/\(∀r,A r->w.heap.size<=r)/\∀r,R r->R0 r\/w.heap.size<=r) Ω
   ⟨A,_,_,t,P.trans bP,aW.ext bP,Y,Z,aD,λ_ h=>.inl h⟩ ?_ ?_
  .rintro j ak cQ cR ⟨A,R,aN,t,N,al,Q,ao,ap,bd⟩ cS;obtain⟨g,aO⟩:=aF (l:=n.funs) cR;have be:=(C.funs g (x6 aO)).1;refine bA Ω ?_;refine(NC (h.ext N) C aO).mono ?_;rintro aM dD _ ⟨av,gs,dE,bQ⟩;refine(NE aQ (ax.trans (N.trans av)) aO).mono ?_;rintro _ dF _ ⟨aw,gt,dG,cT,rfl,dH,dI,cU,bS⟩;have z0:=ax.size;have cV:∀r,leads cT r->r<w.heap.size:=λr q=>by obtain⟨c,bf⟩:=bS r q;have:=bf.lt;omega
   have cW:=(al.ext av).ext aw;have ag:∀r,A r->r<ak.heap.size:=al.1.2.2.2;have dJ:=av.size;have cr:t.cells.length<=2000000:=by
    have h1:=ts C bi n.sizes.length j;rw[<-Q]at h1;unfold ay.bV at h1;rwa [u7]at h1
   have ct:t.olds.length=0:=by rw[ao.2.1];rfl
   have cw:t.marks.length=0:=by rw[ao.1];rfl
   have dK:g.2.length<=4096:=by have:=be.len;have:=be.small;omega
   have dL:g.1.length<=6:=be.scope.2;refine(NH (sc:=g.1) cW Q (bQ.ls.ext aw) (λr q s=>by have:=ag r s;obtain⟨aT,_⟩:=bR bQ q;omega) cU ⟨λs=>by have:=ag _ s;omega,λs=>by have:=ag _ s;omega,λr q s=>by have:=ap r s;have:=cV r q;omega⟩ Ω Ω Ω Ω ?_).mono ?_
   .show ((n.funs.take j).map (kB n.sizes)).length<=_;rw[u7,o7];omega
   rintro _ dM _ ⟨rfl,_,aI,R',cX,bT,cY,dN,cZ⟩;rw[aL];have bW:=NK (i:=n.sizes.length) aO;refine cS _ ⟨aI,R',cX,oa (eX n n.sizes.length j) t g.2,((N.trans av).trans aw).then bT.1 (λr q s=>by have:=ap r s;omega),?_,?_,ao.put _,λr q=>?_,λr q=>?_⟩
   .rw[bW];exact cY
   .rw[bW];exact NG Q
   .rcases bT.2.1 r q with h|h
    .exact ap r h
    .have:=N.size;have:=aw.size;omega
   .rcases cZ r q with h|h|h
    .exact bd r h
    .exact .inl (by obtain⟨c,bf⟩:=bS r h;exact bh r _ bf rfl)
    .exact .inr (by have:=N.size;have:=av.size;have:=aw.size;omega)
  .rintro ak cQ ⟨A,R,aN,t,N,al,Q,ao,ap,bd⟩;refine b2 Ω ?_;have e:eX n n.sizes.length n.funs.length=dr n:=by rw[<-bX];exact wI n
   rw[e]at al Q;exact⟨N,ab,ad,A,R,t,rfl,⟨B,M,aN,_,al⟩,Q,ao,ap,bd⟩
def NN(L:Bytes l)(W:l.length<=100000):ai x8 HG [bT l] w λv w'=>v=kt l/\Ext w w':=by
 refine az func173 ?_;refine ii (λac ad J=>Ext w J/\∃(m:Λ)(s:Int),ac=bT m/\ad=Δ s/\Bytes m/\m.length<=100000/\pc l m s) ?_ ?_
 .rintro _ _ J ⟨M,m,s,rfl,rfl,H,aw,I⟩;rw[nP c5.u,bf,aj];refine⟨λN=>?_,λN=>?_⟩
  .have O:m=[]:=c9 Ω;exact⟨by rw[sx I (by rw[O];rfl)],M⟩
  have O:m≠[]:=λh=>N (by rw[h];rfl);refine pS.range m.length (λi _ _ P Q f=>Ext J f/\∃(n:Int)(a:Bool),P= .int .u64 n/\Q= .bool a/\mI n a ((m.take i).foldl e2 0)/\(m.take i).all gu=true) Ω ⟨Ext.refl _,0,false,rfl,rfl,Jk,rfl⟩ ?_ ?_
  .rintro i ae t3 _ _ f af hi ⟨B,n,a,rfl,rfl,p,C⟩ ag;obtain⟨b,q⟩:=aF (l:=m) hi;have ay:=H b (x6 q);rw[nP c5.u];refine bA Ω ?_;refine Ad (λ_ _ P Q j=>Ext J j/\∃(n:Int)(a:Bool),P= .int .u64 n/\Q= .bool a/\mI n a ((m.take (i+1)).foldl e2 0)/\(m.take (i+1)).all gu=true) ?_ ?_
   .rintro aA aB a3 a4 j ah;rw[aL];exact ag _ _ _ _ _ ah
   intro ax z;refine aW (λv j=>f=j/\v= .bool (!gu b)) ?_ ?_
   rotate_left
   .intro R e;rw[qg rfl c5.u H q,aR,aj];refine⟨λh=>e _ _ ⟨rfl,by unfold gu;rw[decide_eq_false Ω];rfl⟩,λh=>?_⟩;rw[qg rfl c5.u H q,bS];refine e _ _ ⟨rfl,?_⟩;unfold gu;congr 1;by_cases X:57<b
    .rw[decide_eq_true X,decide_eq_false Ω];rfl
    .rw[decide_eq_false X,decide_eq_true Ω];rfl
   rintro _ _ ⟨rfl,rfl⟩;cases S:gu b with
   |false=>
    rw[W3,bQ];exact⟨by rw[sx I (A0 q S)],M.trans B⟩
   |true=>
    rw[X3,aY];have ak:=of_decide_eq_true S;have K:=Jj p ak;rw[AY q,AX q,C,S]at z;have al:=p.1;have an:=p.2.1;refine aW (λv j=>f=j/\v= .bool (a||decide (461168601842738790<n))) ?_ ?_
    rotate_left
    .intro R e;rw[bS,aj];refine⟨λh=>e _ _ ⟨rfl,by rw[decide_eq_true h,Bool.or_true]⟩,λh=>e _ _ ⟨rfl,by rw[decide_eq_false h,Bool.or_false]⟩⟩
    rintro _ _ ⟨rfl,rfl⟩;by_cases E:a=true\/461168601842738790<n
    .have r:(a||decide (461168601842738790<n))=true:=by rcases E with h|h<;>simp[h]
     rw[if_pos E,r]at K;rw[r,bJ,X3,aY];exact z _ _ _ _ _ ⟨B,n,true,rfl,rfl,K,rfl⟩
    .have r:(a||decide (461168601842738790<n))=false:=by
      cases a with
      |true=>exact absurd (.inl rfl) E
      |false=>simp;omega
     rw[if_neg E,r]at K;have aC:¬461168601842738790<n:=λh=>E (.inr h);rw[r,bJ,W3,bQ,gp,qg rfl c5.u H q,ed,wrap_u8 Ω Ω,fp cI.u fC.u,wrap_u64 Ω Ω,wrap_u64 Ω Ω,aL,wrap_u64 Ω Ω];exact z _ _ _ _ _ ⟨B,_,false,rfl,rfl,K,rfl⟩
  .rintro ae t3 _ _ f af ⟨B,n,a,rfl,rfl,p,C⟩;rw[o8]at C p;rw[nP c5.u];refine b2 Ω ?_;have Y:=Jl p;have al:=p.1;have an:=p.2.1;have ao:∀{x:Int},x=m.foldl e2 0->0<=x->x<=4611686018427387904->(V x8 (convert fC am (.int .u64 x)) f λap=>
     V x8 (aJ .mul am false false (Δ s) ap) f λaq=>(λv w'=>v=kt l/\Ext w w') (.tuple #[aq,(Δ 0)]) f):=by
    intro x au N h1;rw[fp fC.u am.u,wrap_i64 Ω Ω,gp];have hw:X9.wrap (s*x)=s*x:=by
     rcases I.1 with rfl|rfl<;>exact wrap_i64 Ω Ω
    rw[hw];refine⟨?_,M.trans B⟩;rw[A3 I (AZ O C),au]
   refine aW (λv j=>f=j/\v= .int .u64 (m.foldl e2 0)) ?_ ?_
   .rintro _ _ ⟨rfl,rfl⟩;have Z:=sh (l:=m) (n:=0) C ⟨Int.le_refl _,Φ⟩;exact ao rfl Z.1 Z.2
   intro R e;refine aW (λv j=>f=j/\v= .bool (a||decide (4611686018427387904<n))) ?_ ?_
   .rintro _ _ ⟨rfl,rfl⟩;rw[cg];refine⟨λh=>e _ _ ⟨rfl,?_⟩,λh=>e _ _ ⟨rfl,?_⟩⟩
    .have h':a=true\/4611686018427387904<n:=by simpa using h
     rw[Y,if_pos h']
    .have h':¬(a=true\/4611686018427387904<n):=by
      intro G;rcases G with G|G
      .simp[G]at h
      .simp[G]at h
     rw[Y,if_neg h']
   .intro aD aa;cases a with
    |true=>rw[bQ];exact aa _ _ ⟨rfl,rfl⟩
    |false=>rw[aY,bS];exact aa _ _ ⟨rfl,by rw[Bool.false_or]⟩
 .intro ax z;refine aW (λv U=>w=U/\∃c:Bool,v= .bool c/\(c=true↔l[0]?=σ 45)) ?_ ?_
  .rintro _ _ ⟨rfl,c,rfl,ab⟩;rw[cg];refine⟨λav=>?_,λr=>?_⟩
   .obtain⟨m,rfl⟩:∃m,l=45::m:=by
     have:=ab.1 av;cases l with
     |nil=>simp at this
     |cons x m=>exact⟨m,by simp at this;rw[this]⟩
    rw[Ah (y:=1) (i:=1) rfl c5.u Ξ];exact z _ _ _ ⟨Ext.refl _,m,-1,rfl,rfl,λb A=>L b (.tail _ A),by simp at W;omega,A1⟩
   .refine z _ _ _ ⟨Ext.refl _,l,1,rfl,rfl,L,W,A2 λb A he=>?_⟩;subst he;have:=ab.2 A;rw[r]at this;cases this
  .intro R e;rw[nP c5.u,bS,aj];refine⟨λh=>?_,λh=>e _ _ ⟨rfl,false,rfl,?_⟩⟩
   .obtain⟨b,A⟩:=aF (l:=l) (i:=0) Ω;rw[qg (y:=0) (i:=0) rfl c5.u L A,bf];refine e _ _ ⟨rfl,_,rfl,?_⟩;rw[decide_eq_true_eq,A];exact⟨λh=>by rw[h],λh=>Z0 h⟩
   .have:l=[]:=c9 Ω;subst this;simp
def NO{s:Go.Sem x3}(h:V x8 s w λu=>u=v)(hk:K v):V x8 s w K:=by
 obtain⟨u,h1,rfl⟩:=h;exact⟨u,h1,hk⟩
abbrev hj:Type:=Λ×Int
def fN(x:hj):List x3:=[bT x.1,Δ x.2]
def wK(x:hj):∀u∈fN x,u.oneCell'=true:=by
 intro u hu;simp[fN]at hu;rcases hu with rfl|rfl<;>rfl
def jc(w:x4)(v:x3)(L:List hj):Prop:=cd w 2 v L.length (L.flatMap fN)
def wL{g:Nat}{L:List hj}(h:bg fN 2 cp w g v L):jc w v L:=h.sl
def C9{L:List hj}(h:jc w v L):V x8 (W9 #[fo] a #[v]) w K=K (Δ (L.length:Int)):=by
 obtain⟨_,_,_,_,_,rfl,_⟩:=h;exact hW fo.u
def NP{k n:Nat}{cs:List x3}(h:cd w k v n cs)(f:ae S w w')(p:∀r,leadsTo v r->¬S r):cd w' k v n cs:=by
 obtain⟨h1,b,o,base,cap,rfl,q,s,e,x⟩:=h;refine⟨h1,b,o,base,cap,rfl,q,s,e,?_⟩;rcases Q5 n with a|a
 .have:cs=[]:=c9 (by rw[h1,a,Nat.zero_mul]);subst this;intro j v y;simp at y
 .have z:=e a;exact hA f (p b ⟨⟨b,o,ν⟩,n,cap,by rw[z],rfl⟩) x
def jc.aa{L:List hj}(h:jc w v L)(a:ae S w w')(e:∀r,leadsTo v r->¬S r):jc w' v L:=NP h a e
def Da{x:hj}{L:List hj}(h:jc w v (x::L))(a:∀b o,w.rangeAt b o (fN x)->K (.pointer (σ ⟨b,o,ν⟩))):V x8 (j9 fo v (Δ 0)) w K:=by
 obtain⟨_,b,o,base,cap,rfl,_,_,e,f⟩:=h;have:=eK (P:=x8) (w:=w) (K:=K) (k:=.i64) (c:=cap) fo.u cp.i (show 0<(x::L).length by simp) e;rw[show((0:Nat):Int)=0 from rfl]at this;rw[this];refine a _ _ λj u hu=>?_;have p:=(x5.1 hu).1;rw[Nat.zero_mul,Nat.add_zero];exact f j u (by rw[W6,Y3 p];exact hu)
def NQ{x:hj}{L:List hj}(h:jc w v (x::L))(s:∀j,(∀w',jc w' v (x::L)->jc w' j L)->(∀r,leadsTo j r->leadsTo v r)->K j):V x8 (U1 fo v (σ (Δ 1)) ν ν) w K:=by
 have B:=h;obtain⟨_,b,o,base,cap,rfl,C,_⟩:=h;rw[hX fo.u cp.i (nF 1 1 rfl) jJ fG Ξ Ω (o6 _)];refine s _ (λw' y=>?_) λr z=>?_
 .have:=cd.part (l:=1) (h:=(x::L).length) (m:=cap) y Ξ (o6 _) Ω (o6 _);have e:(((x::L).flatMap fN).drop (1*2)).take (((x::L).length-1)*2)=L.flatMap fN:=by
   rw[W6];have A:(L.flatMap fN).length=L.length*2:=ix (k:=2) λ_ _=>rfl;show(L.flatMap fN).take _=_;rw[j4 (by rw[A,Z2,Nat.add_sub_cancel];exact o6 _)]
  rw[e]at this;exact this
 .obtain⟨a,n,c,f,p⟩:=z;split at f
  .cases f;exact⟨_,_,_,rfl,p⟩
  .cases base with
   |none=>cases f
   |some q=>cases f;exact⟨_,_,_,rfl,p⟩
def NR{g n:Nat}{L:List hj}(x:y=(n:Int))(h:bg fN 2 cp w g v L)(z:n<=L.length)(A:∀p,jc w p (L.take n)->(∀r,leadsTo p r->leadsTo v r)->K p):V x8 (U1 fo v ν (σ (Δ y)) ν) w K:=by
 have B:=wL h;obtain⟨_,b,o,base,cap,rfl,F,_⟩:=h.sl;rw[hX fo.u cp.i jI (nG n y x) fG (X8 _) Ω (o6 _)];refine A _ ?_ λr C=>?_
 .have:=cd.part (l:=0) (h:=n) (m:=cap) B (X8 _) z Ω (o6 _);have e:((L.flatMap fN).drop (0*2)).take ((n-0)*2)=(L.take n).flatMap fN:=by
   rw[Nat.zero_mul,List.drop_zero,Nat.sub_zero,qy (f:=fN) (k:=2) n λ_ _=>rfl]
  rw[e]at this;have E:(L.take n).length=n-0:=by rw[o7];omega
  unfold jc;rw[E];exact this
 .obtain⟨a,n,c,j,s⟩:=C;split at j
  .cases j;exact⟨_,_,_,rfl,s⟩
  .cases base with
   |none=>cases j
   |some q=>cases j;exact⟨_,_,_,rfl,s⟩
def NS(w:x4)(pl:Λ)(v:x3)(w':x4):Prop:=Ext w w'/\∃a L,∃bad:Int,v= .tuple #[a,Δ bad]/\jc w' a L/\L.map (·.1)=(lex pl).1/\(0<=bad↔(lex pl).2=false)/\(∀r,leadsTo a r->w.heap.size<=r)/\∀r,leadsTo a r->∃c,ac w' r cp c
def NT{p:x3}(S:aG .u8 w p pl)(aA:Bytes pl)(bc:pl.length<=65536):ai x8 G2 [p] w (NS w pl):=by
 refine az func118 ?_;rw[aU cM.u S];refine pS.range pl.length (λi _ _ A N J=>Ext w J/\∃g L,∃(q:List (Λ))(B:Λ)(op:Bool),N= .bool op/\bg fN 2 cp J g A L/\L.map (·.1)=(if op then q++[B]else q)/\(op=true->B.length<=i)/\L.length<=i/\ir (pl.drop i) q B op=lex pl/\∀r,leadsTo A r->w.heap.size<=r) S.le
  ⟨Ext.refl _,0,[],[],[],false,rfl,bg.nil _ _ _ _ _,rfl,(λh=>by cases h),o6 _,JE pl,λr C=>(fu C).elim⟩ ?_ ?_
 rotate_left
 .rintro aB t3 A N J aC ⟨G,g,L,q,B,op,rfl,E,z,_,_,s,H⟩;refine b2 Ω ?_;rw[List.drop_length]at s;have s:(if op then q++[B]else q,true)=lex pl:=s;exact⟨G,A,L,-1,rfl,wL E,by rw[z,<-s],by rw[<-s];simp,H,λr C=>by obtain⟨rfl,c,Y⟩:=en E C;exact⟨c,Y⟩⟩
 rintro i aB t3 A N J aC hi ⟨G,g,L,q,B,op,rfl,E,z,am,bd,s,H⟩ aE;obtain⟨b,Z⟩:=aF (l:=pl) hi;have be:=aA b (x6 Z);have an:pl.drop i=b::pl.drop (i+1):=by rw[W0 hi,(x5.1 Z).2]
 rw[an]at s;unfold ir at s;refine bA Ω ?_;refine Ad (λ_ _ A N aa=>Ext w aa/\∃g L,∃(q:List (Λ))(B:Λ)(op:Bool),N= .bool op/\bg fN 2 cp aa g A L/\L.map (·.1)=(if op then q++[B]else q)/\(op=true->B.length<=i+1)/\L.length<=i+1/\ir (pl.drop (i+1)) q B op=lex pl/\∀r,leadsTo A r->w.heap.size<=r) ?_ ?_
 .rintro bh bi a3 a4 aa aH;rw[aL];exact aE _ _ _ _ _ aH
 intro ax ao;rw[bb cM.u cI.i Ψ (S.ext G) Z];refine aW (λv O=>J=O/\v= .bool (cB b)) ?_ ?_
 rotate_left
 .intro ab y;unfold cB at y;rw[bf,aj];refine⟨λh=>y _ _ ⟨rfl,by rw[decide_eq_true (.inl h)]⟩,λh1=>?_⟩;rw[bf,aj];refine⟨λh=>y _ _ ⟨rfl,by rw[decide_eq_true (.inr (.inl h))]⟩,λU=>?_⟩;rw[bf,aj];refine⟨λh=>y _ _ ⟨rfl,by rw[decide_eq_true (.inr (.inr (.inl h)))]⟩,λaI=>?_⟩;rw[bf];refine y _ _ ⟨rfl,?_⟩;congr 1;rw[V7,decide_eq_true_eq,decide_eq_true_eq];exact⟨λh=>.inr (.inr (.inr h)),λh=>by rcases h with h|h|h|h;exact absurd h h1;exact absurd h U;exact absurd h aI;exact h⟩
 rintro _ _ ⟨rfl,rfl⟩;cases I:cB b with
 |true=>
  rw[bQ];rw[if_pos I]at s;exact ao _ _ _ _ _ ⟨G,g,L,_,[],false,rfl,E,z,(λh=>by cases h),Ω,s,H⟩
 |false=>
  rw[aY];rw[if_neg (by rw[I];simp)]at s;refine aW (λv O=>J=O/\v= .bool (!bO b)) ?_ ?_
  rotate_left
  .intro ab y;unfold bO at y;rw[aR,aj];refine⟨λh=>y _ _ ⟨rfl,by rw[decide_eq_false Ω];rfl⟩,λh=>?_⟩;rw[bS];refine y _ _ ⟨rfl,?_⟩;by_cases U:126<b
   .rw[decide_eq_true U,decide_eq_false Ω];rfl
   .rw[decide_eq_false U,decide_eq_true Ω];rfl
  rintro _ _ ⟨rfl,rfl⟩;cases hw:bO b with
  |false=>
   rw[W3,bQ];rw[if_neg (by rw[hw];simp)]at s;refine aW (λv O=>J=O/\∃W,jc J v W/\W.map (·.1)=q/\(∀r,leadsTo v r->w.heap.size<=r)/\∀r,leadsTo v r->leadsTo A r) ?_ ?_
   .rintro v _ ⟨rfl,W,ac,aJ,X,aK⟩;exact⟨G,v,W,(i:Int),rfl,ac,by rw[aJ,<-s],by rw[<-s];simp,X,λr C=>by obtain⟨rfl,c,Y⟩:=en E (aK r C);exact⟨c,Y⟩⟩
   .intro ab y;cases op with
    |false=>
     rw[aY];rw[if_neg Ξ]at z;exact y _ _ ⟨rfl,L,wL E,z,H,λ_ h=>h⟩
    |true=>
     rw[bQ];rw[if_pos rfl]at z;have ad:L.length=q.length+1:=by have:=congrArg Q4 z;simpa using this
     rw[e4 fo.u E,ed,wrap_i64 Ω Ω];refine NR (n:=q.length) Ω E Ω λQ ac X=>y _ _ ⟨rfl,_,ac,?_,λr C=>H r (X r C),X⟩;rw[List.map_take,z,List.take_left]
  |true=>
   rw[X3,aY];rw[if_pos hw]at s;refine aW (λA ae=>Ext w ae/\∃g M,∃x:hj,bg fN 2 cp ae g A (M++[x])/\M.map (·.1)=q/\x.1=(if op then B else[])/\(M++[x]).length<=i+1/\∀r,leadsTo A r->w.heap.size<=r) ?_ ?_
   .rintro bj ae ⟨ap,aM,M,x,aN,aO,af,aP,aq⟩;intro ag ah _ _;have R:=aN.ext ah;have au:(M++[x])[M.length]?=σ x:=Ξ
    have bk:(M++[x]).length=M.length+1:=Ξ
    rw[e4 fo.u R,ed,wrap_i64 Ω Ω,du (i:=M.length) Ω fo.u cp.i R Ω,aS cp.p rfl,aD (o:=M.length*2+0) Ψ (R.range au 0 _ rfl),aL,wrap_i64 Ω Ω];obtain⟨bl,av⟩:∃Q,aG .u8 ag Q [b]/\V x8 (U1 cM p (σ (Δ (i:Int))) (σ (Δ ((i:Int)+1))) ν) ag (λv=>v=Q):=by
     have aQ:=S.ext (ap.trans ah);have:=sj (P:=x8) (low:=σ (Δ (i:Int))) (high:=σ (Δ ((i:Int)+1))) (K:=λv=>aG .u8 ag v [b]) cM.u cI.i aQ (nF i _ rfl) (nG (i+1) ((i:Int)+1) Ω) Ω Ω λQ aw=>by
      have e:((ints .u8 pl).drop (i*1)).take ((i+1-i)*1)=ints .u8 [b]:=by
       simp only[U4,show i+1-i=1 by omega];rw[ints,<-List.map_drop,<-List.map_take,an];rfl
      rw[e]at aw;exact aG.of (n:=i+1-i) aw
     obtain⟨v,aT,aV⟩:=this;exact⟨v,aV,v,aT,rfl⟩
    refine NO av.2 ?_;have bm:x.1.length<=65536:=by
     rw[af];cases op with
     |true=>rw[if_pos rfl];have:=am rfl;omega
     |false=>simp
    rw[vr cM.u cI.u c5.u av.1,vq Θ,du (i:=M.length) Ω fo.u cp.i R Ω,aS cp.p rfl];refine pk (f:=fN) (j:=0) (a:=x) (a':=(x.1++[b],x.2)) c5.i rfl rfl R au rfl Ω λbn aX bo ay=>?_;have e:(M++[x]).set M.length (x.1++[b],x.2)=M++[(x.1++[b],x.2)]:=by
     rw[S1 _ _ (o6 _),T2];rfl
    rw[e]at ay;refine ao _ _ _ _ _ ⟨(ap.trans ah).then aX (λr C he=>by have:=aq r he;omega),aM,_,q,x.1++[b],true,rfl,ay,by rw[Z4,aO];rfl,λ_=>?_,by simp at aP ⊢;omega,?_,aq⟩
    .rw[o4,af];cases op with
     |true=>rw[if_pos rfl];have:=am rfl;simp;omega
     |false=>simp
    .rw[<-s,af];cases op with
     |true=>rfl
     |false=>rfl
   .intro ab y;cases op with
    |true=>
     rw[bJ,X3,aY];rw[if_pos rfl]at z;have ad:L.length=q.length+1:=by have:=congrArg Q4 z;simpa using this
     obtain⟨M,x,rfl⟩:∃M x,L=M++[x]:=by
      have:L≠[]:=λh=>by rw[h]at ad;simp at ad
      exact⟨L.dropLast,L.getLast this,(List.dropLast_concat_getLast this).symm⟩
     rw[Z4]at z;obtain⟨aZ,ak⟩:=List.append_inj' z Ξ;refine y _ _ ⟨G,g,M,x,E,aZ,?_,Ω,H⟩;rw[if_pos rfl];have ak:[x.1]=[B]:=ak;exact(List.cons.inj ak).1
    |false=>
     rw[bJ,W3,bQ];rw[if_neg Ξ]at z;rw[dq (cs:=#[bT [],Δ (i:Int)]) Ψ];refine iy (f:=fN) (a:=(([],(i:Int)):hj)) fo.u cp.i Ω rfl rfl λv9 bp bq br al a1=>?_;have a2:=E.ext al;refine iV (f:=fN) (a:=(([],(i:Int)):hj)) fo.u cp.i rfl a2 (by simpa using a1.sl) (wK _) Ω Ω λQ a6 bt a7 a8 ba=>?_;have bu:=G.size;have z9:=al.size;refine y _ _ ⟨(G.trans al).then ba (λr C he=>by have:=H r he;omega),a6,L,_,a7,z,rfl,Θ,λr C=>?_⟩;rcases a8 r C with h|h
     .exact H r h
     .omega
structure wM where
 v:x3
 t:Λ
 c:Int
def ob(y:wM):List x3:=[y.v,Δ y.c]
def kC(w:x4)(g:Nat)(v:x3)(l:List (Λ×Int)):Prop:=∃L:List wM,bg ob 2 ce w g v L/\(∀y∈L,∃gy,au .i64 am w gy y.v y.t)/\L.map (λy=>(y.t,y.c))=l
structure jd where
 aM:x3
 szv:x3
 o:Int
 cc:x3
def eY(h:jd):List x3:=[h.aM,h.szv,Δ h.o,h.cc]
def gQ(w:x4)(h:jd)(x:cv):Prop:=(∃g,au .i64 am w g h.aM x.scope)/\(∃g,au .i64 am w g h.szv x.sizes)/\h.o=x.other/\∃g,kC w g h.cc x.lines
def hl(w:x4)(r:Nat):Prop:=∃e c,ac w r e c/\e≠am/\e≠ce
def eG{g:Nat}(h:au .i64 am w g v l)(f:ae S w w')(j:∀r,S r->hl w r\/w.heap.size<=r):au .i64 am w' g v l:=br h f λr a I=>by
 rcases j r I with⟨e,c,p,q,_⟩|s
 .exact ch h p (λhe=>q he.symm) a rfl
 .obtain⟨x,y⟩:=bR h a;omega
def wN{α:Type}{f:α->List x3}{k:Nat}{g:Nat}{L:List α}(h:bg f k e w g v L)(p:ae S w w')(q:∀r,S r->(∃a c,ac w r a c/\a≠e)\/w.heap.size<=r):bg f k e w' g v L:=h.aa p λr j I=>by
 rcases q r I with⟨a,c,s,x⟩|y
 .exact cQ h s (λhe=>x he.symm) j
 .obtain⟨z,A⟩:=h.leads j;omega
def kC.dR{g:Nat}{l:List (Λ×Int)}(h:kC w g v l)(a:ae S w w')(f:∀r,S r->hl w r\/w.heap.size<=r):kC w' g v l:=by
 obtain⟨L,h1,j,p⟩:=h;refine⟨L,wN h1 a λr q=>(f r q).imp (λ⟨e,c,s,_,x⟩=>⟨e,c,s,x⟩) id,λy z=>?_,p⟩;obtain⟨gy,hm⟩:=j y z;exact⟨gy,eG hm a f⟩
def gQ.dR{h:jd}{x:cv}(ap:gQ w h x)(a:ae S w w')(e:∀r,S r->hl w r\/w.heap.size<=r):gQ w' h x:=by
 obtain⟨⟨g1,h1⟩,⟨f,j⟩,p,q,s⟩:=ap;exact⟨⟨g1,eG h1 a e⟩,⟨f,eG j a e⟩,p,q,s.dR a e⟩
def gQ.ext{h:jd}{x:cv}(ap:gQ w h x)(a:Ext w w'):gQ w' h x:=ap.dR (a.aa λ_=>False) λ_ h=>h.elim
def gQ.one{h:jd}{x:cv}(ap:gQ w h x):∀u∈eY h,u.oneCell'=true:=by
 obtain⟨⟨g1,h1⟩,⟨f,a⟩,j,p,L,e,_⟩:=ap;intro u hu;simp[eY]at hu;rcases hu with rfl|rfl|rfl|rfl
 .exact h1.ls.cells.2
 .exact a.ls.cells.2
 .rfl
 .exact (eP e.sl).2
def mj(w:x4)(a:x3)(f:List hj)(gs:Nat)(sv:x3)(L:List jd)(e:List cv):Prop:=(jc w a f/\∀r,leadsTo a r->∃c,ac w r cp c)/\bg eY 4 a6 w gs sv L/\e.length=L.length/\∀(i:Nat)h x,L[i]?=σ h->e[i]?=σ x->gQ w h x
def mj.dR{p:x3}{y:List hj}{L:List jd}{z:List cv}(h:mj w p y gs sv L z)(j:ae S w w')(q:∀r,S r->(∃e c,ac w r e c/\e≠am/\e≠ce/\e≠cp/\¬leadsTo sv r)\/w.heap.size<=r):mj w' p y gs sv L z:=by
 obtain⟨⟨h1,A⟩,B,E,F⟩:=h;have hw:∀r,leadsTo p r->¬S r:=λr a I=>by
  obtain⟨c,f⟩:=A r a;rcases q r I with⟨e,G,C,_,_,s,_⟩|H
  .exact s (ez C f)
  .have:=f.lt;omega
 refine⟨⟨h1.aa j hw,λr a=>?_⟩,B.aa j λr a I=>?_,E,λi ap x hi J=>(F i ap x hi J).dR j λr a=>(q r a).imp (λ⟨e,c,f,K,M,_⟩=>⟨e,c,f,K,M⟩) id⟩
 .obtain⟨c,f⟩:=A r a;exact⟨c,f.aa j (hw r a)⟩
 .rcases q r I with⟨e,G,C,_,_,_,s⟩|H
  .exact s a
  .obtain⟨N,O⟩:=B.leads a;omega
def gC(a:x3)(e f bad h big j told:Int)(sv:x3):List x3:=[a,Δ e,Δ f,Δ bad,Δ h,Δ big,Δ j,Δ told,sv]
def NU(N:Nat)(so:Option aE)(a:List hj)(e bad big told:Int)(L:List jd)(f:List cv):Prop:=match so with
 |some s=>bad=0/\e≠0/\(big≠0↔s.big=true)/\(s.big=false->told=s.told)/\True/\a.map (·.1)=s.toks/\(∀t∈s.toks,Bytes t/\t.length<=65536)/\f.map (λx=>(x.sizes,x.lines))=s.shared/\L.length+a.length<=100000
 |none=>bad≠0/\L.length<=N
def bM(w:x4)(g B:Nat)(H:af)(N:Nat)(so:Option aE):Prop:=100000<=N/\∃w0 a e gs sv L f,∃(j h bad p big q told:Int),w0.heap.size=B/\ae (λr=>r=g) w0 w/\(∃c,ac w0 g bD c)/\ac w g bD (gC a j h bad p big q told sv)/\mj w0 a e gs sv L f/\(∀r,leadsTo sv r->H r)/\NU N so e h bad big told L f
theorem mj.g{g:Nat}{e:x3}{f:List hj}{L:List jd}{j:List cv}(h:mj w e f gs sv L j)(q:ae (λr=>r=g) w w')(s:∃c,ac w g bD c):mj w' e f gs sv L j:=
 h.dR q λr a=>.inl (by
  have a:r=g:=a;subst a;obtain⟨c,p⟩:=s;exact⟨_,c,p,Φ,Φ,Φ,λx=>cQ h.2.1 p Φ x⟩)
def bM.new{g:Nat}{H:af}{so:Option aE}(h:bM w g B H N so)(a:ae S w w')(e:∀r,S r->B<=r):bM w' g B H N so:=by
 obtain⟨s,w0,x,y,gs,sv,L,z,A,C,bad,E,big,F,told,h1,f,j,G,J,K,M⟩:=h;have p:g<w0.heap.size:=by obtain⟨c,O⟩:=j;exact O.lt
 exact⟨s,w0,x,y,gs,sv,L,z,A,C,bad,E,big,F,told,h1,⟨Y7 f.size a.size,λr o q I p=>a.aV r o (f.aV r o q I p) I λP=>by
  have:=e r P;have:=(j5.1 q).1;omega⟩,j,G.aa a λI=>by have:=e g I;omega,J,K,M⟩
def bM.ext{g:Nat}{H:af}{so:Option aE}(h:bM w g B H N so)(a:Ext w w'):bM w' g B H N so:=h.new (a.aa λ_=>False) λ_ h=>h.elim
def bM.base{g:Nat}{H:af}{so:Option aE}(h:bM w g B H N so):bM w g w.heap.size H N so:=by
 obtain⟨e,w0,f,j,gs,sv,L,p,q,r,bad,s,big,x,told,h1,y,z,a,A,C,E⟩:=h;exact⟨e,w,f,j,gs,sv,L,p,q,r,bad,s,big,x,told,rfl,ae.refl _ _,⟨_,a⟩,a,A.g y z,C,E⟩
def bM.dR{g:Nat}{H:af}{so:Option aE}(h:bM w g B H N so)(j:ae S w w')(p:∀r,S r->(∃e c,ac w r e c/\e≠am/\e≠ce/\e≠cp/\e≠bD/\¬H r)\/w.heap.size<=r):bM w' g w'.heap.size H N so:=by
 obtain⟨z,w0,q,s,gs,sv,L,x,A,C,bad,E,big,F,told,h1,G,J,f,K,y,M⟩:=h.base;have O:mj w q s gs sv L x:=K.g G J;have a:=f.aa j λI=>by
  rcases p g I with⟨e,c,a,_,_,_,P,_⟩|Y
  .exact P (ez a f)
  .have:=f.lt;omega
 refine⟨z,w',q,s,gs,sv,L,x,A,C,bad,E,big,F,told,rfl,ae.refl _ _,⟨_,a⟩,a,O.dR j λr Q=>(p r Q).imp (λ⟨e,c,a,R,U,V,_,W⟩=>⟨e,c,a,R,U,V,λX=>W (y r X)⟩) id,y,M⟩
def bM.lt{g:Nat}{H:af}{so:Option aE}(h:bM w g B H N so):g<B/\B<=w.heap.size:=by
 obtain⟨f,w0,j,p,gs,sv,L,q,r,s,bad,x,big,y,told,h1,a,⟨c,e⟩,_⟩:=h;have:=e.lt;have:=a.size;omega
def h9{g:Nat}{H:af}{so:Option aE}(h:bM w g B H N so):∃a,∃(e f bad j big p told:Int),∃sv,ac w g bD (gC a e f bad j big p told sv)/\(so.isSome=true↔bad=0):=by
 obtain⟨x,w0,a,y,gs,sv,L,z,e,f,bad,j,big,p,told,h1,A,C,r,E,F,q⟩:=h;refine⟨a,e,f,bad,j,big,p,told,sv,r,?_⟩;cases so with
 |none=>exact⟨(λh=>by cases h),λh=>absurd h q.1⟩
 |some s=>exact⟨λ_=>q.1,λ_=>rfl⟩
def lq{g:Nat}{H:af}{so:Option aE}(h:bM w g B H N so):V x8 (bP (Γ g)) w (λa=>V x8 (u6 bD a 3) w λt45=>V x8 (u5 ah t45) w λt46=>V x8 (aJ .eql ah false true t46 (Δ 0)) w K)=K (.bool so.isSome):=by
 obtain⟨f,j,q,bad,r,big,s,told,sv,e,hi⟩:=h9 h;rw[aP bD.p 3 e rfl,bf];congr 2;rw[V7,decide_eq_true_eq];exact hi.symm
def qV{g:Nat}{H:af}{so:Option aE}(h:bM w g B H N so):V x8 (bP (Γ g)) w (λf=>V x8 (u6 bD f 3) w λt45=>V x8 (u5 ah t45) w λt46=>V x8 (aJ .neq ah false true t46 (Δ 0)) w K)=K (.bool (!so.isSome)):=by
 obtain⟨q,r,s,bad,x,big,y,told,sv,j,hi⟩:=h9 h;rw[aP bD.p 3 j rfl,bN];congr 2;cases e:so.isSome with
 |true=>have a:=hi.1 e;simp[a]
 |false=>
  have a:bad≠0:=λa=>by rw[hi.2 a]at e;cases e
  simp[a]
def px(w:x4)(g B:Nat)(H:af)(N:Nat)(so:Option aE)(w':x4):Prop:=ae (λr=>r=g) w w'/\bM w' g B H N so
def oc{g:Nat}{H:af}{so:Option aE}{e at_:Int}(h:bM w g B H N so)(he:e≠0):ai x8 nA [Γ g,Δ e,Δ at_] w λ_ w'=>px w g B H N ν w':=by
 refine az func123 ?_;rw[lq h];cases so with
 |none=>rw[R5,aY];exact⟨ae.refl _ _,h⟩
 |some s=>
  rw[R4,bQ];obtain⟨y,w0,f,z,gs,sv,L,A,j,q,bad,R,big,r,told,h1,C,E,G,I,K,M⟩:=h;rw[bY,aS bD.p rfl];refine bp (g:=g) (o:=3) ah.i rfl rfl G (by simp[gC]) λJ O S P=>?_;rw[bY,aS bD.p rfl];refine bp (g:=g) (o:=4) ah.i rfl rfl P (by simp[gC]) λU Q V a=>?_;have a:ac U g bD (gC f j q e at_ big r told sv):=a;have x:=O.trans Q;obtain⟨_,_,_,_,_,_,_,_,W⟩:=M;exact⟨x,y,w0,f,z,gs,sv,L,A,j,q,e,at_,big,r,told,h1,C.trans x,E,a,I,K,he,Ω⟩
def mW{g:Nat}{H:af}{so:Option aE}{b:Bool}{at_:Int}(h:bM w g B H N so):ai x8 rV [Γ g,.bool b,Δ at_] w λ_ w'=>px w g B H N (so.map (a8 b)) w':=by
 refine az func120 ?_;obtain⟨I,w0,e,K,gs,sv,L,M,f,j,bad,q,big,X,told,h1,O,P,r,Q,R,x⟩:=id h;refine aW (λv J=>w=J/\v= .bool (b&&decide (big=0)&&so.isSome)) ?_ ?_
 .rintro _ _ ⟨rfl,rfl⟩;rw[cg];refine⟨λS=>?_,λY=>⟨ae.refl _ _,I,w0,e,K,gs,sv,L,M,f,j,bad,q,big,X,told,h1,O,P,r,Q,R,?_⟩⟩
  .rw[U3,U3]at S;obtain⟨⟨Z,ak⟩,aa⟩:=S;rw[bY,aS bD.p rfl];refine bp (g:=g) (o:=5) ah.i rfl rfl r (by simp[gC]) λJ ab al ad=>?_;rw[bY,aS bD.p rfl];refine bp (g:=g) (o:=6) ah.i rfl rfl ad (by simp[gC]) λU ag am y=>?_;have y:ac U g bD (gC e f j bad q 5 at_ told sv):=y;have V:=ab.trans ag;refine⟨V,I,w0,e,K,gs,sv,L,M,f,j,bad,q,5,at_,told,h1,O.trans V,P,y,Q,R,?_⟩;cases so with
   |none=>cases aa
   |some s=>
    obtain⟨z,A,W,C,E⟩:=x;exact⟨z,A,⟨λ_=>by show(s.big||b)=true;rw[Z,Bool.or_true],λ_=>Ω⟩,λap=>C (U7.1 ap).1,E⟩
  .cases so with
   |none=>exact x
   |some s=>
    obtain⟨z,A,W,C,E⟩:=x;refine⟨z,A,?_,λap=>C (U7.1 ap).1,E⟩;show big≠0↔(s.big||b)=true;cases b with
    |false=>rw[Bool.or_false];exact W
    |true=>
     have a:big≠0:=by simpa using Y
     simp[a]
 .intro ax G;cases b with
  |false=>rw[aY];exact G _ _ ⟨rfl,Ξ⟩
  |true=>
   rw[bQ,aP bD.p 5 r rfl,bf,aj];refine⟨λa=>?_,λa=>G _ _ ⟨rfl,by rw[decide_eq_false a];simp⟩⟩;rw[lq h];exact G _ _ ⟨rfl,by rw[decide_eq_true a];simp⟩
def ju(so:Option aE):Option (Λ×aE):=so.bind dU
def Db{g:Nat}{H:af}{so:Option aE}(h:bM w g B H N so):ai x8 G3 [Γ g] w λv w'=>px w g B H N ((ju so).map (·.2)) w'/\∃(t:Λ)(n:Int),v= .agg #[bT t,Δ n]/\Bytes t/\t.length<=65536/\∀q,ju so=σ q->t=q.1:=by
 have aG:=h.lt;refine az func119 ?_;refine bw cp.i λa J bl y z=>?_;have h1:=h.ext y;have zero:∀{f:x4},px J g B H N ν f->ac f a cp [.string ⟨#[]⟩,Δ 0]->ju so=ν->(V x8 (Instr.build cp #[]) f λt9=>
   aB x8 (o9 cp (Γ a) t9) f λ(_:Unit)U=>
   V x8 (do loadVar cp (<-asAddr (Γ a))) U λaH=>(λv w'=>px w g B H N ((ju so).map (·.2)) w'/\∃(t:Λ)(n:Int),v= .agg #[bT t,Δ n]/\Bytes t/\t.length<=65536/\∀q,ju so=σ q->t=q.1) aH U):=by
  intro f j I Q;rw[dq (cs:=#[.string ⟨#[]⟩,Δ 0]) Ψ];refine b1 (vs:=[.string ⟨#[]⟩,Δ 0]) cp.i rfl rfl (by intro v Z;simp at Z;rcases Z with rfl|rfl<;>rfl) I λaI ab bm aJ=>?_;rw[fb cp.p cp.i rfl aJ.range,Q];have aK:=y.size;have bn:=aG;refine⟨⟨hD ((y.aa _).trans j.1) ab λr e he=>?_,j.2.new ab λr e=>?_⟩,[],0,rfl,(λb aL=>by cases aL),Ξ,λq R=>by cases R⟩
  .have he:r=a:=he;omega
  .have e:r=a:=e;omega
 rw[qV h1];cases so with
 |none=>
  rw[R5,W3,bQ];exact zero ⟨ae.refl _ _,h1⟩ z rfl
 |some s=>
 rw[R4,X3,aY];obtain⟨aM,w0,bo,S,gs,sv,L,ad,ag,ah,bad,ak,big,al,told,aN,am,an,A,K,aO,aQ⟩:=id h1;have aR:=K.g am an;obtain⟨⟨M,bq⟩,_⟩:=id aR;obtain⟨aT,ao,aU,aV,aW,ap,aq,aX,aZ⟩:=id aQ;rw[aP bD.p 0 A rfl,C9 M,bf,aj];refine⟨λau=>?_,λau=>?_⟩
 .have a1:S=[]:=c9 Ω;have C:s.toks=[]:=by rw[<-ap,a1];rfl
  have Q:ju (σ s)=ν:=by show dU s=ν;unfold dU;rw[C]
  intro f O _ _;have I:=A.ext O;rw[aP bD.p 2 I rfl,aP bD.p 1 I rfl];refine(oc (h1.ext O) ao).mono ?_;rintro _ aI _ j;have a2:=z.lt;exact zero ⟨(O.aa _).trans j.1,j.2⟩ ((z.ext O).aa j.1 λhe=>by have he:a=g:=he;omega) Q
 .obtain⟨x,E,rfl⟩:∃x l,S=x::l:=by
   cases S with
   |nil=>exact absurd rfl au
   |cons x l=>exact⟨x,l,rfl⟩
  have C:s.toks=x.1::E.map (·.1):=by rw[<-ap];rfl
  have a6:ju (σ s)=σ (x.1,{s with toks:=E.map (·.1)}):=by show dU s=_;unfold dU;rw[C]
  have av:=aq x.1 (by rw[C];exact .head _);rw[aP bD.p 0 A rfl];refine Da M λb o a7=>?_;rw[bE cp.p cp.i rfl a7];refine bw cp.i λaw br bt a8 ba=>?_;refine b1 (vs:=fN x) cp.i rfl rfl (wK x) ba λbb bc bu ax=>?_;have P:Ext J bb:=a8.put bc Ω;have ay:=A.ext P;rw[aP bD.p 0 ay rfl];refine NQ (M.aa (P.aa λ_=>False) λ_ _ h=>h) λW aA bd=>?_;have aC:=aA J M;rw[bY,aS bD.p rfl];refine bp (g:=g) (o:=0) fo.i (eP aC).1 (eP aC).2 ay (by simp[gC]) λG X bx Y=>?_;have Y:ac G g bD (gC W ag ah bad ak big al told sv):=Y;have a2:=A.lt;have bz:=ax.lt;have bA:=z.lt;have aK:=y.size;have be:ac G aw cp (fN x):=ax.aa X λhe=>by have he:aw=g:=he;omega
  rw[bE cp.p cp.i rfl be.range];have bg:ac G a cp [.string ⟨#[]⟩,Δ 0]:=(ac.ext z P).aa X λhe=>by have he:a=g:=he;omega
  refine b1 (vs:=fN x) cp.i rfl rfl (wK x) bg λbB aD bC bh=>?_;rw[fb cp.p cp.i rfl bh.range];have aF:ae (λr=>r=g) J G:=(P.aa _).trans X;rw[a6];refine⟨⟨hD ((y.aa _).trans aF) aD λr e he=>?_,?_⟩,x.1,x.2,rfl,av.1,av.2,λq R=>by cases R;rfl⟩
  .have he:r=a:=he;omega
  .have bi:mj w0 W E gs sv L ad:=⟨⟨aA w0 K.1.1,λr e=>K.1.2 r (bd r e)⟩,K.2⟩;have bj:bM G g B H N (σ {s with toks:=E.map (·.1)}):=⟨aM,w0,W,E,gs,sv,L,ad,ag,ah,bad,ak,big,al,told,aN,am.trans aF,an,Y,bi,aO,aT,ao,aU,aV,aW,rfl,λt bk=>aq t (by rw[C];exact .tail _ bk),aX,by simp at aZ;omega⟩;refine bj.new aD λr e=>?_;have e:r=a:=e;omega
def NV{lo hi:Int}{so:Option aE}:a7 lo hi so=match ju so with
  |none=>ν
  |some (w,s)=>match gv w with
   |none=>ν
   |some n=>if lo<=n/\n<=hi then σ (n,s)else ν:=by
 cases so with
 |none=>rfl
 |some s=>rfl
def kD{g:Nat}{H:af}{so:Option aE}{lo hi:Int}(h:bM w g B H N so):ai x8 lP [Γ g,Δ lo,Δ hi] w λv w'=>px w g B H N ((a7 lo hi so).map (·.2)) w'/\∃n at_:Int,v= .tuple #[Δ n,Δ at_]/\(∀q,a7 lo hi so=σ q->n=q.1)/\(a7 lo hi so=ν->n=0):=by
 have ay:=h.lt;refine az func121 ?_;refine(Db h).mono ?_;rintro _ J _ ⟨⟨M,h1⟩,t,at_,rfl,X,aA,O⟩;have aB:=h1.lt;refine bw cp.i λY U aC Z ab=>?_;refine b1 (vs:=[bT t,Δ at_]) cp.i rfl rfl (by intro v P;simp at P;rcases P with rfl|rfl<;>rfl) ab λac ad aD Q=>?_;have R:Ext J ac:=Z.put ad Ω;have ag:=h1.ext R;rw[aH cp.p 0 Q rfl];refine(NN X Ω).mono ?_;rintro _ C _ ⟨rfl,E⟩;have G:=ag.ext E;have S:=Q.ext E;have ah:=R.trans E;have aF:=M.size;obtain⟨n,e,ak,I,al⟩:∃n e:Int,kt t= .tuple #[Δ n,Δ e]/\(∀m,gv t=σ m->n=m/\e=0)/\(gv t=ν->e≠0):=by
  unfold kt;cases gv t with
  |none=>exact⟨0,4,rfl,(λm hm=>by cases hm),λ_=>Ω⟩
  |some m=>exact⟨m,0,rfl,(λm hm=>by cases hm;exact⟨rfl,rfl⟩),λh=>by cases h⟩
 rw[ak,bx,bz];have a:=NV (lo:=lo) (hi:=hi) (so:=so);have V:ae (λr=>r=g) w C:=M.trans (ah.aa _);refine dh (λx=>ae (λr=>r=g) C x/\bM x g B H N ((a7 lo hi so).map (·.2))) ?_ ?_
 .rintro x ⟨y,s⟩;rw[qV s];cases z:a7 lo hi so with
  |none=>
   rw[z]at s;rw[Option.map_none,R5,W3,bQ];exact⟨⟨V.trans y,s⟩,0,0,rfl,(λq z=>by cases z),λ_=>rfl⟩
  |some q=>
   rw[z]at s a;rw[Z7,R4,X3,aY];intro aG K _ _;have am:=(S.aa y λhe=>by have he:Y=g:=he;omega).ext K;rw[aH cp.p 1 am rfl];refine⟨⟨(V.trans y).trans (K.aa _),s.ext K⟩,n,at_,rfl,λaI an=>?_,λh=>by cases h⟩;cases an;cases j:ju so with
   |none=>rw[j]at a;cases a
   |some p=>
    obtain⟨bn,s1⟩:=p;have L:=O (bn,s1) j;subst L;rw[j]at a;simp only at a;cases f:gv t with
    |none=>rw[f]at a;cases a
    |some m=>
     rw[f]at a;simp only at a;split at a
     .cases a;exact(I m f).1
     .cases a
 .intro ax W;refine aW (λv x=>C=x/\∃c:Bool,v= .bool c/\(c=true->a7 lo hi so=ν)/\(c=false->(a7 lo hi so).map (·.2)=(ju so).map (·.2))) ?_ ?_
  .rintro _ _ ⟨rfl,c,rfl,ao,aq⟩;rw[cg];refine⟨λh=>?_,λh=>W _ ⟨ae.refl _ _,by rw[aq h];exact G⟩⟩;rw[aH cp.p 1 S rfl];refine(oc G Ω).mono ?_;rintro _ x _ ⟨y,s⟩;exact W _ ⟨y,by rw[ao h];exact s⟩
  .intro aJ A;rw[lq G];cases j:ju so with
   |none=>
    rw[j]at a;simp only at a;rw[Option.map_none,R5,aY];exact A _ _ ⟨rfl,false,rfl,(λh=>by cases h),λ_=>by rw[a,j];rfl⟩
   |some p=>
    obtain⟨bn,s1⟩:=p;have L:=O (bn,s1) j;subst L;rw[j]at a;simp only at a;rw[Z7,R4,bQ,bN,aj];refine⟨λhe=>?_,λhe=>?_⟩
    .refine A _ _ ⟨rfl,true,rfl,λ_=>?_,λh=>by cases h⟩;cases f:gv t with
     |none=>rw[a,f]
     |some m=>exact absurd (I m f).2 he
    .have au:e=0:=X4.1 he;cases f:gv t with
     |none=>exact absurd au (al f)
     |some m=>
      rw[f]at a;simp only at a;have av:=(I m f).1;subst av;rw[aR,aj];refine⟨λaw=>A _ _ ⟨rfl,true,rfl,λ_=>by rw[a,if_neg Ω],λh=>by cases h⟩,λaw=>?_⟩;rw[bS];refine A _ _ ⟨rfl,_,rfl,λap=>?_,λap=>?_⟩
      .rw[a,if_neg (by have:=of_decide_eq_true ap;omega)]
      .rw[a,if_pos (by have:=of_decide_eq_false ap;omega),j];rfl
def wO{ba bv:x3}{a b:Λ}(e:aG .i64 w ba a)(s:aG .i64 w bv b):ai x8 rW [ba,bv] w λv w'=>v= .bool (decide (a=b))/\Ext w w':=by
 refine az func174 ?_;rw[aU aq.u e,aU aq.u s,bN,aj];refine⟨λh=>⟨by rw[decide_eq_false];intro he;rw[he]at h;exact h rfl,Ext.refl _⟩,λh=>?_⟩;have z:a.length=b.length:=by have:=X4.1 h;omega
 rw[aU aq.u e];refine b4.range a.length (λi _ J=>Ext w J/\a.take i=b.take i) e.le ⟨Ext.refl _,rfl⟩ ?_ ?_
 .rintro i _ J k hi ⟨q,f⟩ hk;obtain⟨x,j⟩:=aF (l:=a) hi;obtain⟨y,r⟩:=aF (l:=b) (i:=i) Ω;refine bA Ω ?_;intro U A _ _;have p:=q.trans A;rw[bb aq.u am.i Ψ (e.ext p) j,bb aq.u am.i Ψ (s.ext p) r,bN,aj];refine⟨λB=>⟨by rw[decide_eq_false];intro he;rw[he,r]at j;exact B (Z0 j).symm,p⟩,λhe=>?_⟩;rw[aL];refine hk _ _ ⟨p,?_⟩;rw[u9,u9,f,j,r,X4.1 he]
 .rintro _ J k ⟨q,f⟩;rw[aR,aj];refine⟨λh=>Ω,λ_=>⟨?_,q⟩⟩;rw[o8,z,o8]at f;rw[decide_eq_true f]
def hn(w:x4)(B a:Nat)(x:cv):Prop:=∃aM szv cc g1 e f,ac w a a6 [aM,szv,Δ x.other,cc]/\au .i64 am w g1 aM x.scope/\au .i64 am w e szv x.sizes/\kC w f cc x.lines/\(∀r,leads aM r\/leads szv r->B<=r)/\(∀r,leads aM r->¬leads szv r)/\B<=a
def Dc(w:x4)(r:Nat):Prop:=(∃e c,ac w r e c/\e≠am/\e≠ce/\e≠a6)\/w.heap.size<=r
def hn.dR{f:Nat}{x:cv}(h:hn w B f x)(a:ae S w w')(q:∀r,S r->Dc w r):hn w' B f x:=by
 obtain⟨aM,szv,cc,g1,s,y,h1,z,A,C,E,F,G⟩:=h;have j:∀r,S r->hl w r\/w.heap.size<=r:=λr H=>(q r H).imp (λ⟨e,c,p,J,K,_⟩=>⟨e,c,p,J,K⟩) id;refine⟨aM,szv,cc,g1,s,y,h1.aa a λI=>?_,eG z a j,eG A a j,C.dR a j,E,F,G⟩;rcases q f I with⟨e,c,p,_,_,L⟩|M
 .exact L (ez p h1)
 .have:=h1.lt;omega
def hn.ext{a:Nat}{x:cv}(h:hn w B a x)(e:Ext w w'):hn w' B a x:=h.dR (e.aa λ_=>False) λ_ h=>h.elim
def kE{g:Nat}{H:af}{so:Option aE}(h:bM w g B H N so):∀r,r=g->Dc w r:=λr a=>by
 subst a;obtain⟨f,j,p,bad,q,big,s,told,sv,e,_⟩:=h9 h;exact .inl ⟨_,_,e,Φ,Φ,Φ⟩
def gR(g B:Nat):af:=λr=>r=g\/B<=r
def NW{k:Nat}{acc:Λ}{s:aE}:cO (λacc s=>match bd 0 (n-1) s with
 |none=>ν
 |some (v,s)=>if v∈acc then ν else σ (v,s)) (k+1) acc s=match bd 0 (n-1) s with
  |none=>ν
  |some (v,s')=>if v∈acc then ν else cO (λacc s=>match bd 0 (n-1) s with
 |none=>ν
 |some (v,s)=>if v∈acc then ν else σ (v,s)) k (acc++[v]) s':=by
 rw[cO];cases bd 0 (n-1) s with
 |none=>rfl
 |some q=>
  obtain⟨v,s'⟩:=q;simp only;by_cases a:v∈acc
  .rw[if_pos a,if_pos a]
  .rw[if_neg a,if_neg a]
def Dd(n:Int)(k:Nat)(acc:Λ)(s:aE):Option (Λ×aE):=cO (λacc s=>match bd 0 (n-1) s with
 |none=>ν
 |some (v,s)=>if v∈acc then ν else σ (v,s)) k acc s
def De{g f ar:Nat}{H:af}{s:aE}{so:Option aE}{ad:x3}{aP aQ:x4->Prop}(ap:bM w g B H N so)(b5:so=σ s\/(so=ν/\ar=0))(b6:hn w B f ⟨[],[],0,[]⟩)(b7:∀c,ac w f a6 c->c[3]?=σ (.slice ν 0 0))(bG:au .i64 am w gz ad all)(b8:∀r,leads ad r->r<B)(dl:all.length<=100001)(dm:ar<=4611686018427387904)(aT:so=σ s->s.toks.length<=100000)(aw:so=σ s->∀w' x,ae (gR g B) w w'->e3 all.length ar s=ν->bM w' g B H N ν->hn w' B f x->aP w')(ca:so=ν->aQ w)(aV:so=σ s->∀w' scope s',ae (gR g B) w w'->e3 all.length ar s=σ (scope,s')->bM w' g B H N (σ s')->hn w' B f ⟨scope,scope.map λv=>all.getD v.toNat 0,0,[]⟩->(∀c,ac w' f a6 c->c[3]?=σ (.slice ν 0 0))->aQ w'):
  bU (Δ 0) w λi z k=>
   ct (α:=x3->x4->Prop) (λ(cb:x3)(O:x4)=>
    Split cb (V x8 (W9 #[aq] ah #[ad]) O λt53=>
   V x8 (aJ .sub am false true t53 (Δ 1)) O λcd=>
   ai x8 lP [Γ g,(Δ 0),cd] O λt55 A=>
   V x8 (Y1 t55 0) A λaX=>
   V x8 (Y1 t55 1) A λce=>
   V x8 (bP (Γ g)) A λcg=>
   V x8 (u6 bD cg 3) A λci=>
   V x8 (u5 ah ci) A λcj=>
   V x8 (aJ .neq ah false true cj (Δ 0)) A λck=>
   Split ck (aP A)
    (V x8 (u6 a6 (Γ f) 0) A λcl=>
   V x8 (u5 aq cl) A λbH=>
   V x8 (W9 #[aq] ah #[bH]) A λt66=>
   bU (Δ 0) A λaZ E cm=>
    V x8 (aJ .lss ah false false aZ t66) E λcn=>
    Split cn (V x8 (j9 aq bH aZ) E λcp=>
    V x8 (u5 am cp) E λt70=>
    V x8 (aJ .eql am false false t70 aX) E λcq=>
    Split cq (ai x8 nA [Γ g,(Δ 4),ce] E λt76 a1=>aP a1)
     (V x8 (aJ .add ah false true aZ (Δ 1)) E λcr=>
    cm cr E))
     (V x8 (u6 a6 (Γ f) 0) E λcu=>
   V x8 (u5 aq cu) E λcw=>
   aB x8 (Y8 aq 1 #[(0,aX)]) E λcz ag=>
   aB x8 (Z3 #[aq,aq] aq #[cw,cz]) ag λcA a2=>
   V x8 (u6 a6 (Γ f) 0) a2 λcB=>
   aB x8 (o9 aq cB cA) a2 λ(_:Unit)R=>
   ef R λU=>
   V x8 (u6 a6 (Γ f) 1) U λa8=>
   V x8 (u5 aq a8) U λbI=>
   V x8 (j9 aq ad aX) U λcC=>
   V x8 (u5 am cC) U λcD=>
   aB x8 (Y8 aq 1 #[(0,cD)]) U λcE ab=>
    (Ext U ab\/bZ x8 (u5 aq a8) bI ab/\bZ x8 (u6 a6 (Γ f) 1) a8 ab/\True)/\
   aB x8 (Z3 #[aq,aq] aq #[bI,cE]) ab λcF ba=>
    V x8 (u6 a6 (Γ f) 1) ba λcG=>
    aB x8 (o9 aq cG cF) ba λ(_:Unit)W=>
     V x8 (aJ .add am false true i (Δ 1)) W λcH=>
   k cH W)))
     (aQ O)) λbJ=>
   V x8 (aJ .lss am false false i (Δ (ar:Int))) z λcI=>
   Split cI (V x8 (bP (Γ g)) z λcJ=>
   V x8 (u6 bD cJ 3) z λcK=>
   V x8 (u5 ah cK) z λt45=>
   V x8 (aJ .eql ah false true t45 (Δ 0)) z λt46=>
   bJ t46 z)
    (bJ (.bool false) z):=by
 have dn:=ap.lt;rcases b5 with rfl|⟨rfl,rfl⟩
 rotate_left
 .refine bU.range 0 (λ_ J=>w=J) Ω rfl (λi J k hi=>Ω) ?_;rintro _ k rfl;refine aW (λv O=>w=O/\v= .bool false) ?_ ?_
  .rintro _ _ ⟨rfl,rfl⟩;rw[aY];exact ca rfl
  .intro ax ak;rw[aR,aj];exact⟨λh=>Ω,λ_=>ak _ _ ⟨rfl,rfl⟩⟩
 have h:=ap;have aT:=aT rfl;have aw:=aw rfl;have aV:=aV rfl;refine bU.range ar (λi z=>∃scope P,ae (gR g B) w z/\bM z g B H N (σ P)/\hn z B f ⟨scope,scope.map λv=>all.getD v.toNat 0,0,[]⟩/\scope.length=i/\scope.length+P.toks.length<=100000/\e3 all.length ar s=Dd all.length (ar-i) scope P/\∀c,ac z f a6 c->c[3]?=σ (.slice ν 0 0)) Ω ⟨[],s,ae.refl _ _,h,b6,rfl,by simpa using aT,rfl,b7⟩ ?_ ?_
 rotate_left
 .rintro z k ⟨scope,P,ay,S,az,bK,cL,C,bc⟩;refine aW (λv O=>z=O/\v= .bool false) ?_ ?_
  .rintro _ _ ⟨rfl,rfl⟩;rw[aY];rw[T2]at C;exact aV z scope P ay C S az bc
  .intro ax ak;rw[aR,aj];exact⟨λh=>Ω,λ_=>ak _ _ ⟨rfl,rfl⟩⟩
 rintro i z k hi ⟨scope,P,ay,S,az,bK,cL,C,bc⟩ hk;refine aW (λv O=>z=O/\v= .bool true) ?_ ?_
 rotate_left
 .intro ax ak;refine bA Ω ?_;rw[lq S];exact ak _ _ ⟨rfl,rfl⟩
 rintro _ _ ⟨rfl,rfl⟩;rw[bQ];have bL:∀{w':x4},ae (gR g B) w w'->au .i64 am w' gz ad all:=λcM=>br bG cM λr e I=>by
  rcases I with rfl|I
  .obtain⟨cN,G,al,bad,cO,big,cP,told,sv,K,_⟩:=h9 h;exact ch bG K Φ e rfl
  .have:=b8 r e;omega
 rw[aU aq.u (bL ay).ls,ed,wrap_i64 Ω Ω];refine(kD S).mono ?_;rintro _ A _ ⟨⟨be,M⟩,n,at_,rfl,bg,cR⟩;rw[bx,bz,qV M];have bh:=az.dR be (kE S);have bi:ae (gR g B) w A:=ay.trans (be.mono λr _ h=>.inl h);have cS:=NW (n:=(all.length:Int)) (k:=ar-(i+1)) (acc:=scope) (s:=P);have cT:ar-i=(ar-(i+1))+1:=Ω
 rw[cT]at C;unfold Dd at C;rw[cS]at C;have cU:a7 0 ((all.length:Int)-1) (σ P)=bd 0 ((all.length:Int)-1) P:=rfl;rw[cU]at M bg cR ⊢;cases aA:bd 0 ((all.length:Int)-1) P with
 |none=>
  rw[aA]at M C;rw[Option.map_none,R5,W3,bQ];exact aw A _ bi C M bh
 |some q=>
  obtain⟨v,bj⟩:=q;rw[aA]at M C bg;have cV:n=v:=bg _ rfl;subst cV;have dp:=(h4 aA).1;have dq:=(dK aA).1;simp only at C;rw[Z7,R4,X3,aY];have M:bM A g B H N (σ bj):=M;obtain⟨aM,szv,cc,g1,cW,bk,f1,f2,f3,f4,f5,f6,f7⟩:=id bh;rw[aH a6.p 0 f1 rfl,aU aq.u f2.ls];have dr:scope.length<=100000:=Ω
  refine bU.range scope.length (λj E=>A=E/\n∉scope.take j) Ω ⟨rfl,Ξ⟩ ?_ ?_
  .rintro j _ cX cY ⟨rfl,aC⟩ cZ;obtain⟨u,hu⟩:=aF (l:=scope) cY;rw[aR,aj];refine⟨λ_=>?_,λh=>by simp only at h;omega⟩;rw[bb aq.u am.i Ψ f2.ls hu,bf,aj];refine⟨λhe=>?_,λc0=>?_⟩
   .refine (oc M Ω).mono ?_;rintro _ a1 _ ⟨bN,c1⟩;rw[if_pos (by rw[<-he];exact x6 hu)]at C;exact aw a1 _ (bi.trans (bN.mono λr _ h=>.inl h)) C c1 (bh.dR bN (kE M))
   .rw[aL];refine cZ _ ⟨rfl,?_⟩;rw[u9,hu];intro hm;rcases j0.1 hm with hm|hm
    .exact aC hm
    .simp at hm;exact c0 hm.symm
  .rintro _ cX ⟨rfl,aC⟩;rw[o8]at aC;rw[aR,aj];refine⟨λh=>by simp only at h;omega,λ_=>?_⟩;rw[if_neg aC]at C;rw[aH a6.p 0 f1 rfl];refine et aq.u am.i rfl λds dt ag du Q c2=>?_;have dv:=M.lt;refine gP aq.u am.i rfl (f2.ext Q) c2.ls Θ Θ λX bl a2 aD c3 bO=>?_;have aG:=f1.ext Q;have f113:=aG.aa bO λhe=>ch (f2.ext Q) aG Φ he rfl;rw[aS a6.p rfl];refine bp (g:=f) (o:=0) aq.i aD.ls.cells.1 aD.ls.cells.2 f113 Ξ λR bS dw aI=>?_;have aI:ac R f a6 [X,szv,Δ 0,cc]:=aI;intro U bm _ _;have an:ae (λr=>leads aM r\/r=f) ag R:=(bO.mono λr _ h=>.inl h).trans (bS.mono λr _ h=>.inr h);have bT:∀r,(leads aM r\/r=f)->gR g B r:=λr e=>.inr (e.elim (λe=>f5 r (.inl e)) λe=>e▸f7);have bV:ae (gR g B) w R:=(bi.trans (Q.aa _)).trans (an.mono λr _ e=>bT r e);have c4:ae (gR g B) w U:=bV.trans (bm.aa _);have c5:au .i64 am R cW szv _:=br (f3.ext Q) an λr e I=>by
    rcases I with I|rfl
    .exact f6 r I e
    .exact ch (f3.ext Q) aG Φ e rfl
   have c6:au .i64 am R bl X (scope++[n]):=br aD bS λr e he=>by
    have he:r=f:=he;subst he;exact ch aD f113 Φ e rfl
   have c7:∀r,(leads aM r\/r=f)->(∃c,ac ag r am c)\/∃c,ac ag r a6 c:=λr e=>by
    rcases e with e|rfl
    .obtain⟨G,_⟩:=bR f2 e;obtain⟨_,⟨ao,_⟩|⟨_,cs,ao,K,_⟩⟩:=f2.ext Q
     .rw[ao]at e;obtain⟨a,c8,c,G,al⟩:=e;cases G
     .exact .inl ⟨cs,G▸K⟩
    .exact .inr ⟨_,aG⟩
   have c9:kC R bk cc []:=by
    obtain⟨L,Y,da,bn⟩:=f4.dR (Q.aa λ_=>False) λ_ h=>h.elim;have bo:L=[]:=List.map_eq_nil_iff.1 bn;subst bo;refine⟨[],Y.aa an λr e I=>?_,λy bq=>(by cases bq),rfl⟩;rcases c7 r I with⟨c,K⟩|⟨c,K⟩
    .exact cQ Y K Φ e
    .exact cQ Y K Φ e
   have db:bM R g B H N (σ bj):=(M.ext Q).new an λr e=>by
    rcases bT r e with rfl|h
    .rcases e with e|e
     .exact f5 _ (.inl e)
     .exact e▸f7
    .exact h
   rw[aH a6.p 1 (aI.ext bm) rfl];have dc:all[n.toNat]?=σ (all.getD n.toNat 0):=by rw[u4,x7 Ω];rfl
   rw[fq (y:=n) (i:=n.toNat) Ω aq.u am.i Ψ (bL c4).ls dc];refine et aq.u am.i rfl λdx dy ab dz bW dd=>?_;refine⟨.inl bW,?_⟩;have Z:=bm.trans bW;have f316:=c5.ext Z;have bX:(scope.map λv=>all.getD v.toNat 0).length=scope.length:=u7 _;refine gP aq.u am.i rfl f316 dd.ls (by simp at bX ⊢;omega) (by simp at bX ⊢;omega) λbt de ba aK bY b0=>?_;have aN:=aI.ext Z;have b1:=aN.aa b0 λhe=>ch f316 aN Φ he rfl;rw[aS a6.p rfl];refine bp (g:=f) (o:=1) aq.i aK.ls.cells.1 aK.ls.cells.2 b1 Ξ λW b2 dA av=>?_;have av:ac W f a6 [X,bt,Δ 0,cc]:=av;rw[aL];have aO:ae (λr=>leads szv r\/r=f) ab W:=(b0.mono λr _ h=>.inl h).trans (b2.mono λr _ h=>.inr h);have b3:∀r,(leads szv r\/r=f)->B<=r:=λr e=>e.elim (λe=>f5 r (.inr e)) λe=>e▸f7;have bu:=c6.ext Z;have dC:=Q.size;have dD:=an.size;have bw:∀r,leads X r->B<=r/\¬leads szv r:=λr e=>by
    rcases c3 r e with h|h
    .exact⟨f5 r (.inl h),f6 r h⟩
    .exact⟨Ω,λbB=>by obtain⟨G,al⟩:=bR f3 bB;omega⟩
   have df:au .i64 am W bl X (scope++[n]):=br bu aO λr e I=>by
    rcases I with I|rfl
    .exact (bw r e).2 I
    .exact ch bu aN Φ e rfl
   have dg:=br aK b2 λr e he=>by
    have he:r=f:=he;subst he;exact ch aK b1 Φ e rfl
   have dh:kC W bk cc []:=by
    obtain⟨L,Y,da,bn⟩:=c9.dR (Z.aa λ_=>False) λ_ h=>h.elim;have bo:L=[]:=List.map_eq_nil_iff.1 bn;subst bo;refine⟨[],Y.aa aO λr e I=>?_,λy bq=>(by cases bq),rfl⟩;rcases I with I|rfl
    .obtain⟨G,_⟩:=bR f316 I;obtain⟨_,⟨ao,_⟩|⟨_,cs,ao,K,_⟩⟩:=f316
     .rw[ao]at I;obtain⟨a,c8,c,G,al⟩:=I;cases G
     .exact cQ Y (G▸K) Φ e
    .exact cQ Y aN Φ e
   refine hk _ ⟨scope++[n],bj,((bV.trans (Z.aa _)).trans (aO.mono λr _ e=>.inr (b3 r e))),(db.ext Z).new aO b3,⟨X,bt,cc,bl,de,bk,av,df,by rw[Z4];exact dg,dh,λr e=>?_,λr e bB=>?_,f7⟩,by rw[o4,bK];rfl,by rw[o4];simp;omega,C,λc bC=>?_⟩
   .rcases e with e|e
    .exact (bw r e).1
    .rcases bY r e with h|h
     .exact f5 r (.inr h)
     .have:=Z.size;omega
   .rcases bY r bB with h|h
    .exact (bw r e).2 h
    .obtain⟨G,al⟩:=bR bu e;omega
   .have di:c=[X,bt,Δ 0,cc]:=by
     unfold ac at bC av;rw[av]at bC;have:=(Obj.cells.inj (Z0 bC)).1;exact(Array.toList_inj.2 this).symm
    have dj:cc= .slice ν 0 0:=by
     obtain⟨dE,dF,dG,_,_,_,bE,_⟩:=az;have b4:=bc _ bE;have bF:=bE.aa be λhe=>by
      have he:f=g:=he;obtain⟨cN,G,al,bad,cO,big,cP,told,sv,K,_⟩:=h9 S;subst he;exact absurd (ez K bE) Φ
     unfold ac at bF f1;rw[f1]at bF;have dk:=Array.toList_inj.2 (Obj.cells.inj (Z0 bF)).1;have S:=congrArg (λl=>l[3]?) dk;simp at S;simp at b4;rw[S,b4]
    rw[di,dj];rfl
def NX{x:x3->x4->Prop}(h:aG .i64 w sv l)(h1:∀z∈l,1<=z)(I:∀c:Int,(4096<c↔dt l=true)->x (Δ c) w):
  b4 (Δ 1) (Δ 0) w λy q a K=>
   V x8 (aJ .lss ah false false q (Δ (l.length:Int))) a λL=>
   Split L (ct (α:=x3->x4->Prop) (λ(M:x3)(A:x4)=>
    V x8 (aJ .add ah false true q (Δ 1)) A λN=>
    K M N A) λB=>
   V x8 (j9 aq sv q) a λO=>
   V x8 (u5 am O) a λC=>
   ct (α:=x3->x4->Prop) (λ(P:x3)(f:x4)=>
    V x8 (aJ .mul am false false y P) f λE=>
    V x8 (aJ .gtr am false true E (Δ 4096)) f λQ=>
    Split Q (B (Δ 4097) f)
     (B E f)) λF=>
   V x8 (aJ .gtr am false true C (Δ 4096)) a λR=>
   Split R (F (Δ 4097) a)
    (F C a))
    (x y a):=by
 refine b4.range l.length (λi c J=>w=J/\∃p:Int,p=aN ((l.take i).map λk=>min k 4097)/\1<=p/\c=Δ (if 4096<p then 4097 else p)) h.le ⟨rfl,1,by simp[aN],Ω,by rw[if_neg Ω]⟩ ?_ ?_
 .rintro i _ _ S hi ⟨rfl,p,j,W,rfl⟩ X;obtain⟨z,r⟩:=aF (l:=l) hi;have Z:=h1 z (x6 r);have e:aN ((l.take (i+1)).map λk=>min k 4097)=p*min z 4097:=by
   rw[j,u9,r,l7,Z4,T0,List.map_nil,Ba]
  have aa:p*1<=p*min z 4097:=Int.mul_le_mul_of_nonneg_left Ω Ω;refine bA Ω ?_;refine aW (λv U=>w=U/\v=Δ (if 4096<p*min z 4097 then 4097 else p*min z 4097)) ?_ ?_
  .rintro _ _ ⟨rfl,rfl⟩;rw[aL];exact X _ _ ⟨rfl,_,e.symm,Ω,rfl⟩
  intro ax s;rw[bb aq.u am.i Ψ h r];refine aW (λv U=>w=U/\v=Δ (min z 4097)) ?_ ?_
  .rintro _ _ ⟨rfl,rfl⟩;rw[gp];by_cases G:4096<p
   .rw[if_pos G];have Y:(4097:Int)*1<=4097*min z 4097:=Int.mul_le_mul_of_nonneg_left Ω Ω;rw[wrap_i64 Ω Ω,bS,aj];refine⟨λ_=>s _ _ ⟨rfl,by rw[if_pos Ω]⟩,λab=>Ω⟩
   .rw[if_neg G];have Y:p*min z 4097<=4096*4097:=by
     have ac:=Int.mul_le_mul_of_nonneg_right (show p<=4096 by omega) (show 0<=min z 4097 by omega);have ad:=Int.mul_le_mul_of_nonneg_left (show min z 4097<=4097 by omega) (show(0:Int)<=4096 by omega);omega
    rw[wrap_i64 Ω Ω,bS,aj];exact⟨λap=>s _ _ ⟨rfl,by rw[if_pos ap]⟩,λap=>s _ _ ⟨rfl,by rw[if_neg ap]⟩⟩
  .intro ae H;rw[bS,aj];exact⟨λap=>H _ _ ⟨rfl,by congr 1;omega⟩,λap=>H _ _ ⟨rfl,by congr 1;omega⟩⟩
 .rintro _ _ S ⟨rfl,p,j,W,rfl⟩;rw[o8]at j;rw[aR,aj];refine⟨λh=>Ω,λ_=>I _ ?_⟩;unfold dt;rw[<-j,decide_eq_true_eq];split
  .exact⟨λ_=>Ω,λ_=>Ω⟩
  .exact Iff.rfl
def NY{g ak:Nat}{H:af}{so:Option aE}{ab:x4->Prop}(h:bM w g B H N so)(C:au .i64 am w gz szv sizes)(aG:∀z∈sizes,1<=z/\z<=av)(bn:sizes.length<=100001)(S:ac w ak ce [.slice ν 0 0,Δ 0])(aI:B<=ak)(ad:∀t w' aO gt,t.length=sizes.length->ae (λr=>r=g\/r=ak\/w.heap.size<=r) w w'->ac w' ak ce [aO,Δ 0]->au .i64 am w' gt aO t->(∀r,leads aO r->w.heap.size<=r)->bM w' g B H N ((e6 sizes [] so).map (·.2))->(∀q,e6 sizes [] so=σ q->t=q.1)->ab w'):
  bU (Δ 0) w λW s aK=>
      V x8 (aJ .lss ah false false W (Δ (sizes.length:Int))) s λaM=>
      Split aM (V x8 (j9 aq szv W) s λaN=>
      V x8 (u5 am aN) s λaP=>
      V x8 (aJ .sub am false true aP (Δ 1)) s λaQ=>
      ai x8 lP [Γ g,(Δ 0),aQ] s λag E=>
      V x8 (Y1 ag 0) E λaR=>
      V x8 (Y1 ag 1) E λbo=>
      V x8 (u6 ce (Γ ak) 0) E λaT=>
      V x8 (u5 aq aT) E λaU=>
      aB x8 (Y8 aq 1 #[(0,aR)]) E λaV aW=>
      aB x8 (Z3 #[aq,aq] aq #[aU,aV]) aW λaX aj=>
      V x8 (u6 ce (Γ ak) 0) aj λaY=>
      aB x8 (o9 aq aY aX) aj λ(_:Unit)al=>
      V x8 (aJ .add ah false true W (Δ 1)) al λaZ=>
      aK aZ al)
       (ab s):=by
 have bq:=S.lt;have bt:=h.lt;refine bU.range sizes.length (λj J=>∃t aO gt s1,t.length=j/\ae (λr=>r=g\/r=ak\/w.heap.size<=r) w J/\ac J ak ce [aO,Δ 0]/\au .i64 am J gt aO t/\(∀r,leads aO r->w.heap.size<=r)/\bM J g B H N s1/\e6 sizes [] so=e6 (sizes.drop j) t s1) C.ls.le
  ⟨[],_,0,so,rfl,ae.refl _ _,S,au.nil _ _ _ _,(λr e=>by obtain⟨a,n,c,M,X⟩:=e;cases M),h,rfl⟩ ?_ ?_
 rotate_left
 .rintro J a1 ⟨t,aO,gt,s1,O,x,P,G,y,K,he⟩;refine b2 Ω ?_;rw[List.drop_length]at he;cases s1 with
  |none=>
   have he:e6 sizes [] so=ν:=he;exact ad t J aO gt O x P G y (by rw[he];exact K) (λq f=>by rw[he]at f;cases f)
  |some s1=>
   have he:e6 sizes [] so=σ (t,s1):=he;exact ad t J aO gt O x P G y (by rw[he];exact K) (λq f=>by rw[he]at f;cases f;rfl)
 rintro j J a1 an ⟨t,aO,gt,s1,O,x,P,G,y,K,he⟩ a2;obtain⟨z,Y⟩:=aF (l:=sizes) an;have a6:=aG z (x6 Y);have bu:z<=4611686018427387904:=a6.2;have a8:au .i64 am J gz szv sizes:=br C x λr e I=>by
  rcases I with rfl|rfl|I
  .obtain⟨ba,M,X,bad,bc,big,bd,told,sv,L,_⟩:=h9 h;exact ch C L Φ e rfl
  .exact ch C S Φ e rfl
  .obtain⟨M,X⟩:=bR C e;omega
 refine bA Ω ?_;rw[bb aq.u am.i Ψ a8.ls Y,ed,wrap_i64 Ω Ω];refine(kD K).mono ?_;rintro _ U _ ⟨⟨Q,be⟩,n,at_,rfl,bf,bw⟩;rw[bx,bz];have bg:ak≠g:=Ω
 have ao:=P.aa Q λhe=>bg he;have bh:∃c,ac J g bD c:=by obtain⟨ba,M,X,bad,bc,big,bd,told,sv,L,_⟩:=h9 K;exact⟨_,L⟩
 have ap:au .i64 am U gt aO t:=br G Q λr e he=>by
  have he:r=g:=he;obtain⟨c,L⟩:=bh;exact ch G L Φ e he
 rw[aH ce.p 0 ao rfl];refine et aq.u am.i rfl λa3 bB bi bC A bj=>?_;refine gP aq.u am.i rfl (ap.ext A) bj.ls Θ Θ λaw bk bE R bl ax=>?_;have ay:=ao.ext A;have az:=ay.aa ax λhe=>ch (ap.ext A) ay Φ he rfl;rw[aS ce.p rfl];refine bp (g:=ak) (o:=0) aq.i R.ls.cells.1 R.ls.cells.2 az Ξ λaA aC bF Z=>?_;have Z:ac aA ak ce [aw,Δ 0]:=Z;rw[aL];have aD:ae (λr=>leads aO r\/r=ak) bi aA:=(ax.mono λr _ h=>.inl h).trans (aC.mono λr _ h=>.inr h);have bG:=x.size;have bH:=Q.size;have z3:=A.size;refine a2 _ ⟨t++[n],aw,bk,(a7 0 (z-1) s1).map (·.2),by simp[O],?_,Z,br R aC λr e he=>?_,λr e=>?_,?_,?_⟩
 .refine (x.trans (Q.mono λr _ h=>.inl h)).trans ((A.aa _).trans (aD.mono λr _ h=>?_));exact h.elim (λh=>.inr (.inr (y r h))) λh=>.inr (.inl h)
 .have he:r=ak:=he;subst he;exact ch R az Φ e rfl
 .rcases bl r e with h|h
  .exact y r h
  .omega
 .refine (be.ext A).new aD λr e=>?_;rcases e with e|rfl
  .have:=y r e;omega
  .exact aI
 .rw[he];have bm:sizes.drop j=z::sizes.drop (j+1):=by rw[W0 an,(x5.1 Y).2]
  rw[bm,BM];cases f:a7 0 (z-1) s1 with
  |none=>rfl
  |some q=>
   obtain⟨v,bI⟩:=q;have:=bf _ f;subst this;rfl
def wP{g:Nat}(h:au .i64 am w g v t):∀u∈ob ⟨v,t,c⟩,u.oneCell'=true:=by
 intro u hu;simp[ob]at hu;rcases hu with rfl|rfl
 .exact h.ls.cells.2
 .rfl
def NZ(sizes:Λ)(cnt i:Nat)(s0:aE)(A:List (Λ×Int))(so:Option aE):Prop:=(∃s,so=σ s/\cO (dV sizes) cnt [] s0=cO (dV sizes) (cnt-i) A s/\A.length+s.toks.length<=100000)\/(so=ν/\cO (dV sizes) cnt [] s0=ν)
def N0{g K g1 ba Y:Nat}{H:af}{s0:aE}{aM cc:x3}{scope:Λ}{o:Int}{aC:List (Λ×Int)}{b0:x4->Prop}(h:bM w g B H N (σ s0))(f1:ac w K a6 [aM,szv,Δ o,cc])(f2:au .i64 am w g1 aM scope)(f3:au .i64 am w ba szv sizes)(f4:kC w Y cc aC)(f5:∀r,leads aM r\/leads szv r->B<=r)(f6:∀r,leads aM r->¬leads szv r)(f7:B<=K)(cV:∀z∈sizes,1<=z/\z<=av)(cW:sizes.length<=100001)(eS:n<=4611686018427387904)(bq:0<n->aC=[]/\∀r,¬leadsTo cc r)(cX:s0.toks.length<=100000)(b3:∀w' A bt,ae (gR g B) w w'->hn w' B K ⟨scope,sizes,o,A⟩->bM w' g B H N bt->(n<=0->A=aC/\bt=σ s0)->(0<n->bt=(cO (dV sizes) n.toNat [] s0).map (·.2)/\∀q,cO (dV sizes) n.toNat [] s0=σ q->A=q.1)->b0 w'):
  bU (Δ 0) w λb4 ag cY=>
     ct (α:=x3->x4->Prop) (λ(cZ:x3)(b5:x4)=>
      Split cZ (aB x8 (Instr.alloc ce true (.tuple #[])) b5 λx Z=>
     V x8 (u6 a6 (Γ K) 1) Z λc0=>
     V x8 (u5 aq c0) Z λb6=>
     V x8 (W9 #[aq] ah #[b6]) Z λc1=>
     bU (Δ 0) Z λbu al c2=>
      V x8 (aJ .lss ah false false bu c1) al λc3=>
      Split c3 (V x8 (j9 aq b6 bu) al λc4=>
      V x8 (u5 am c4) al λc5=>
      V x8 (aJ .sub am false true c5 (Δ 1)) al λc6=>
      ai x8 lP [Γ g,(Δ 0),c6] al λb7 aG=>
      V x8 (Y1 b7 0) aG λc7=>
      V x8 (Y1 b7 1) aG λeU=>
      V x8 (u6 ce x 0) aG λc8=>
      V x8 (u5 aq c8) aG λc9=>
      aB x8 (Y8 aq 1 #[(0,c7)]) aG λda db=>
      aB x8 (Z3 #[aq,aq] aq #[c9,da]) db λdc b8=>
      V x8 (u6 ce x 0) b8 λdd=>
      aB x8 (o9 aq dd dc) b8 λ(_:Unit)b9=>
      V x8 (aJ .add ah false true bu (Δ 1)) b9 λde=>
      c2 de b9)
       (ai x8 lP [Γ g,(Δ 0),(Δ 4611686018427387904)] al λca E=>
     V x8 (Y1 ca 0) E λdf=>
     V x8 (Y1 ca 1) E λdg=>
     V x8 (u6 a6 (Γ K) 3) E λdi=>
     V x8 (u5 eg di) E λcb=>
     V x8 (W9 #[eg] ah #[cb]) E λdj=>
     bU (Δ 0) E λbB M dk=>
      V x8 (aJ .lss ah false false bB dj) M λdm=>
      Split dm (ct (α:=x4->Prop) (λ(ay:x4)=>
       V x8 (aJ .add ah false true bB (Δ 1)) ay λdn=>
       dk dn ay) λcd=>
      V x8 (j9 eg cb bB) M λdp=>
      V x8 (u5 ce dp) M λdq=>
      aB x8 (Instr.alloc ce true (.tuple #[])) M λy cg=>
      aB x8 (o9 ce y dq) cg λ(_:Unit)O=>
      ct (α:=x3->x4->Prop) (λ(dr:x3)(aI:x4)=>
       Split dr (ai x8 nA [Γ g,(Δ 4),dg] aI λeV ci=>
        cd ci)
        (cd aI)) λcj=>
      V x8 (bP (Γ g)) O λds=>
      V x8 (u6 bD ds 3) O λdt=>
      V x8 (u5 ah dt) O λdv=>
      V x8 (aJ .eql ah false true dv (Δ 0)) O λdw=>
      Split dw (V x8 (u6 ce x 0) O λdx=>
       V x8 (u5 aq dx) O λdy=>
      V x8 (u6 ce y 0) O λdz=>
      V x8 (u5 aq dz) O λdA=>
      ai x8 rW [dy,dA] O λdC ck=>
      cj dC ck)
       (cj (.bool false) O))
       (V x8 (u6 ce x 1) M λdD=>
     aB x8 (o9 am dD df) M λ(_:Unit)ab=>
     V x8 (u6 a6 (Γ K) 3) ab λdE=>
     V x8 (u5 eg dE) ab λdF=>
     V x8 (u5 ce x) ab λdG=>
     aB x8 (Y8 eg 1 #[(0,dG)]) ab λdH bb=>
     aB x8 (Z3 #[eg,eg] eg #[dF,dH]) bb λdI bC=>
     V x8 (u6 a6 (Γ K) 3) bC λdJ=>
     aB x8 (o9 eg dJ dI) bC λ(_:Unit)ad=>
     V x8 (aJ .add am false true b4 (Δ 1)) ad λdL=>
     cY dL ad)))
       (b0 b5)) λcl=>
     V x8 (aJ .lss am false false b4 (Δ n)) ag λdM=>
     Split dM (V x8 (bP (Γ g)) ag λdN=>
     V x8 (u6 bD dN 3) ag λdO=>
     V x8 (u5 ah dO) ag λdP=>
     V x8 (aJ .eql ah false true dP (Δ 0)) ag λdQ=>
     cl dQ ag)
      (cl (.bool false) ag):=by
 have dS:=h.lt;refine bU.range n.toNat (λi J=>∃A so cc Y,ae (gR g B) w J/\ac J K a6 [aM,szv,Δ o,cc]/\au .i64 am J g1 aM scope/\au .i64 am J ba szv sizes/\kC J Y cc A/\(0<n->∀r,leadsTo cc r->B<=r)/\bM J g B H N so/\(n<=0->A=aC/\so=σ s0)/\(0<n->NZ sizes n.toNat i s0 A so)) Ω
  ⟨aC,σ s0,cc,Y,ae.refl _ _,f1,f2,f3,f4,λW r C=>absurd C ((bq W).2 r),h,λ_=>⟨rfl,rfl⟩,λW=>.inl ⟨s0,rfl,by rw[(bq W).1];rfl,by rw[(bq W).1];simpa using cX⟩⟩ ?_ ?_
 rotate_left
 .rintro J k ⟨A,so,cc,Y,aK,az,bc,aN,aP,bF,an,cm,G⟩;refine aW (λv U=>J=U/\v= .bool false) ?_ ?_
  .rintro _ _ ⟨rfl,rfl⟩;rw[aY];refine b3 J A so aK ⟨aM,szv,cc,g1,ba,Y,az,bc,aN,aP,f5,f6,f7⟩ an cm λW=>?_;rcases G W with⟨s,rfl,he,_⟩|⟨rfl,he⟩
   .rw[T2]at he;rw[he];exact⟨rfl,λq P=>by cases P;rfl⟩
   .rw[he];exact⟨rfl,λq P=>by cases P⟩
  .intro ax bG;rw[aR,aj];exact⟨λh=>Ω,λ_=>bG _ _ ⟨rfl,rfl⟩⟩
 rintro i J k hi ⟨A,so,cc,Y,aK,az,bc,aN,aP,bF,an,cm,G⟩ hk;have W:0<n:=Ω
 refine aW (λv U=>J=U/\v= .bool so.isSome) ?_ ?_
 rotate_left
 .intro ax bG;refine bA Ω ?_;rw[lq an];exact bG _ _ ⟨rfl,rfl⟩
 rintro _ _ ⟨rfl,rfl⟩;rcases G W with⟨dl,rfl,he,eW⟩|⟨rfl,he⟩
 rotate_left
 .rw[R5,aY];refine b3 J A ν aK ⟨aM,szv,cc,g1,ba,Y,az,bc,aN,aP,f5,f6,f7⟩ an (λh=>Ω) λ_=>?_;rw[he];exact⟨rfl,λq P=>by cases P⟩
 rw[R4,bQ];have eX:=an.lt;refine bw ce.i λak Z eY aQ bH=>?_;have bH:ac Z ak ce [.slice ν 0 0,Δ 0]:=bH;have dT:=az.ext aQ;have cn:=aN.ext aQ;have eZ:=aQ.size;have e0:=az.lt;rw[aS a6.p rfl,aD Ψ (dT.cell (o:=0+1) rfl),aU aq.u cn.ls];refine NY (an.ext aQ) cn cV cW bH Ω λt al aO gt e1 dU dW dX dY dZ ea=>?_;refine(kD dZ).mono ?_;rintro _ E _ ⟨⟨bI,be⟩,c,at_,rfl,eb,e2⟩;rw[bx,bz];have bJ:ak≠g:=Ω
 have cp:K≠g:=by have:=h.lt;omega
 have ec:ae (λr=>r=g\/r=ak\/Z.heap.size<=r) Z E:=dU.trans (bI.mono λr _ h=>.inl h);have cq:∀{S:Nat->Prop},(∀r,S r->r=g\/J.heap.size<=r)->∀r,S r->hl J r\/J.heap.size<=r:=λed r C=>(ed r C).imp (λhe=>by
  subst he;obtain⟨cr,aT,aV,bad,cu,big,cw,told,sv,G,_⟩:=h9 an;exact⟨_,_,G,Φ,Φ⟩) id
 have bf:ae (λr=>r=g\/J.heap.size<=r) J E:=(aQ.aa _).trans (ec.mono λr _ h=>h.elim .inl λh=>h.elim (λh=>.inr Ω) λh=>.inr Ω);have cz:ac E K a6 [aM,szv,Δ o,cc]:=az.aa bf λh=>h.elim cp λh=>Ω
 obtain⟨L,bg,cA,bK⟩:=aP.dR bf (cq λr C=>C);have cB:ac E ak ce [aO,Δ 0]:=dW.aa bI λhe=>bJ he;have cC:au .i64 am E gt aO t:=br dX bI λr C he=>by
  have he:r=g:=he;have:=dY r C;omega
 have e3:L.length=A.length:=by rw[<-bK,u7]
 rw[aH a6.p 3 cz rfl,e4 eg.u bg];generalize cD:(a7 0 4611686018427387904 (U2 (λx=>x.snd) (e6 sizes [] (σ dl)))).map (·.2)=ao at be;have e5:=bf.size;refine bU.range L.length (λj M=>ae (λr=>r=g) E M/\bM M g B H N (if t∈(L.take j).map (·.t)then ν else ao)) bg.le ⟨ae.refl _ _,by simpa using be⟩ ?_ ?_
 .rintro j M ee cE ⟨Q,aX⟩ ef;obtain⟨y,R⟩:=aF (l:=L) cE;have bL:∃c,ac E g bD c:=by obtain⟨cr,aT,aV,bad,cu,big,cw,told,sv,G,_⟩:=h9 be;exact⟨_,G⟩
  have ap:∀r,r=g->hl E r\/E.heap.size<=r:=λr C=>by
   subst C;obtain⟨c,G⟩:=bL;exact .inl ⟨_,c,G,Φ,Φ⟩
  have bh:=wN bg Q λr C=>(ap r C).imp (λ⟨e,c,G,_,aZ⟩=>⟨e,c,G,aZ⟩) id;obtain⟨e7,eh⟩:=cA y (x6 R);have cF:=eG eh Q ap;have bN:=eG cC Q ap;have bi:=cB.aa Q λhe=>bJ he;refine bA Ω ?_;have bO:t∈(L.take (j+1)).map (·.t)↔t∈(L.take j).map (·.t)\/t=y.t:=by
   rw[u9,R,l7,Z4,j0];simp
  refine dh (λay=>ae (λr=>r=g) E ay/\bM ay g B H N (if t∈(L.take (j+1)).map (·.t)then ν else ao)) ?_ ?_
  .rintro ay ei;rw[aL];exact ef _ ei
  intro e8 cG;rw[du rfl eg.u ce.i bh cE,bE ce.p ce.i rfl (bh.range R)];refine bw ce.i λgy cg e9 ej ek=>?_;refine b1 (vs:=ob y) ce.i rfl rfl (wP cF) ek λO em fa eo=>?_;have a1:Ext M O:=ej.put em Ω;have cH:=aX.ext a1;have cI:ae (λr=>r=g) E O:=Q.trans (a1.aa _);refine aW (λv aI=>∃b:Bool,v= .bool b/\Ext O aI/\(b=true->t=y.t)/\(b=false->t≠y.t\/(if t∈(L.take j).map (·.t)then ν else ao)=ν)) ?_ ?_
  .rintro _ aI ⟨b,rfl,bR,ep,er⟩;have aw:=cH.ext bR;cases b with
   |true=>
    rw[bQ];refine(oc aw Ω).mono ?_;rintro _ ci _ ⟨es,et⟩;refine cG _ ⟨(cI.trans (bR.aa _)).trans es,?_⟩;rw[if_pos (bO.2 (.inr (ep rfl)))];exact et
   |false=>
    rw[aY];refine cG _ ⟨cI.trans (bR.aa _),?_⟩;by_cases hm:t∈(L.take j).map (·.t)
    .rw[if_pos (bO.2 (.inl hm))];rw[if_pos hm]at aw;exact aw
    .rw[if_neg hm]at aw;rcases er rfl with aZ|cJ
     .rw[if_neg (λh=>(bO.1 h).elim hm aZ)];exact aw
     .rw[if_neg hm]at cJ;rw[cJ]at aw ⊢;split<;>exact aw
  .intro fb cK;rw[lq cH];cases a2:(if t∈(L.take j).map (·.t)then ν else ao)with
   |none=>
    rw[R5,aY];exact cK _ _ ⟨false,rfl,Ext.refl _,(λh=>by cases h),λ_=>.inr a2⟩
   |some fc=>
    rw[R4,bQ];have eu:=bi.ext a1;rw[aH ce.p 0 eu rfl,aH ce.p 0 eo rfl];refine(wO (bN.ls.ext a1) (cF.ls.ext a1)).mono ?_;rintro _ ck _ ⟨rfl,ev⟩;exact cK _ _ ⟨_,rfl,ev,λh=>of_decide_eq_true h,λh=>.inl (of_decide_eq_false h)⟩
 .rintro M ee ⟨Q,aX⟩;rw[o8]at aX;have ew:L.map (·.t)=A.map (·.1):=by rw[<-bK,R6];rfl
  rw[ew]at aX;have bL:∃c,ac E g bD c:=by obtain⟨cr,aT,aV,bad,cu,big,cw,told,sv,G,_⟩:=h9 be;exact⟨_,G⟩
  have ap:∀r,r=g->hl E r\/E.heap.size<=r:=λr C=>by
   subst C;obtain⟨c,G⟩:=bL;exact .inl ⟨_,c,G,Φ,Φ⟩
  have cL:∀r,(r=g\/J.heap.size<=r)->hl J r\/J.heap.size<=r:=cq λr C=>C;have bj:ae (λr=>r=g\/J.heap.size<=r) J M:=bf.trans (Q.mono λr _ h=>.inl h);have ey:=cz.aa Q λhe=>cp he;have ez:=eG bc bj cL;have eA:=eG aN bj cL;have bh:=wN bg Q λr C=>(ap r C).imp (λ⟨e,c,G,_,aZ⟩=>⟨e,c,G,aZ⟩) id;have eB:∀y∈L,∃gy,au .i64 am M gy y.v y.t:=λy R=>by
   obtain⟨gy,hm⟩:=cA y R;exact⟨gy,eG hm Q ap⟩
  have bN:=eG cC Q ap;have bi:=cB.aa Q λhe=>bJ he;refine b2 Ω ?_;rw[aS ce.p rfl];refine bp (g:=ak) (o:=1) am.i rfl rfl bi Ξ λab aA fd bS=>?_;have bS:ac ab ak ce [aO,Δ c]:=bS;have eC:K≠ak:=Ω
  have cM:=ey.aa aA λhe=>eC he;have fe:J.heap.size<=ak:=Ω
  have eD:∀r,leadsTo cc r->r≠ak:=λr C=>by obtain⟨aT,aV⟩:=aP.choose_spec.1.leads C;omega
  have eE:=bh.aa aA λr C he=>eD r C he;rw[aH a6.p 3 cM rfl,bE ce.p ce.i rfl bS.range];let a:wM:=⟨aO,t,c⟩;have bk:∀{v:x3}{a8:Nat}{l:Λ},au .i64 am M a8 v l->au .i64 am ab a8 v l:=λhm=>br hm aA λr C he=>by
   have he:r=ak:=he;exact ch hm bi Φ C he
  have cN:=bk bN;refine iy (f:=ob) (a:=a) eg.u ce.i Ω rfl rfl λv45 ff bb fg X eF=>?_;have bT:=eE.ext X;refine iV (f:=ob) (a:=a) eg.u ce.i rfl bT (by simpa using eF.sl) (wP (cN.ext X)) Ω Ω λbV cP bC bl eH cR=>?_;have bW:=cM.ext X;have cS:=bW.aa cR λhe=>cQ bT bW Φ he;rw[aS a6.p rfl];refine bp (g:=K) (o:=3) eg.i (eP bl.sl).1 (eP bl.sl).2 cS Ξ λad cT fh bX=>?_;have bX:ac ad K a6 [aM,szv,Δ o,bV]:=bX;rw[aL];have bY:ae (λr=>leadsTo cc r\/r=K) bb ad:=(cR.mono λr _ h=>.inl h).trans (cT.mono λr _ h=>.inr h);have bm:∀{v:x3}{a8:Nat}{l:Λ},au .i64 am bb a8 v l->au .i64 am ad a8 v l:=λhm=>br hm bY λr C I=>by
   rcases I with I|rfl
   .obtain⟨rfl,fi,G⟩:=en bT I;exact ch hm G Φ C rfl
   .exact ch hm bW Φ C rfl
  have cU:∀r,(leadsTo cc r\/r=K)->B<=r:=λr C=>C.elim (λC=>bF W r C) λC=>C▸f7;have eI:bM ab g B H N (if t∈A.map (·.1)then ν else ao):=aX.new aA λr C=>by
   have C:r=ak:=C;omega
  have eJ:=(eI.ext X).new bY cU;have eK:ae (gR g B) J ad:=((bj.mono λr _ h=>h.elim .inl λh=>.inr Ω).trans (aA.mono λr _ h=>.inr (by have h:r=ak:=h;omega))).trans ((X.aa _).trans (bY.mono λr _ h=>.inr (cU r h)));have eL:kC ad cP bV (A++[(t,c)]):=⟨L++[a],bl.aa cT λr C he=>by
   have he:r=K:=he;subst he;exact cQ bl cS Φ C,λy R=>by
   rcases j0.1 R with R|R
   .obtain⟨gy,hm⟩:=eB y R;exact⟨gy,bm ((bk hm).ext X)⟩
   .rw[j6.1 R];exact⟨gt,bm (cN.ext X)⟩,by rw[Z4,bK];rfl⟩
  refine hk _ ⟨A++[(t,c)],_,bV,cP,aK.trans eK,bX,bm ((bk ez).ext X),bm ((bk eA).ext X),eL,λ_ r C=>?_,eJ,λh=>Ω,λ_=>?_⟩
  .rcases eH r C with h|h
   .exact bF W r h
   .have:=aK.size;have:=bj.size;have:=aA.size;have:=X.size;have:=dS.2;omega
  .have eM:n.toNat-i=(n.toNat-(i+1))+1:=Ω
   rw[eM]at he;obtain⟨eN,eO⟩:=BQ (sizes:=sizes) (acc:=A) (st:=dl) (t:=t) (c:=c) ea eb;cases P:a7 0 av ((e6 sizes [] (σ dl)).map (·.2))with
   |none=>
    have a2:ao=ν:=by rw[<-cD];show(a7 0 av _).map _=ν;rw[P];rfl
    rw[pg (eN P)]at he;refine .inr ⟨?_,he⟩;rw[a2];split<;>rfl
   |some q=>
    have a2:ao=σ q.2:=by rw[<-cD];show(a7 0 av _).map _=_;rw[P];rfl
    have bo:=eO q P;by_cases hm:t∈A.map (·.1)
    .rw[if_pos hm]at bo;rw[pg bo]at he;exact .inr ⟨by rw[if_pos hm],he⟩
    .rw[if_neg hm]at bo;rw[sF bo]at he;refine .inl ⟨q.2,by rw[if_neg hm,a2],he,?_⟩;cases bZ:e6 sizes [] (σ dl)with
     |none=>rw[bZ]at P;cases P
     |some p=>
      rw[bZ]at P;obtain⟨bn,s1⟩:=p;have aT:iP sizes [] dl=σ (bn,s1):=bZ;obtain⟨u,_,_,eQ⟩:=vK aT;have aV:bd 0 av s1=σ q:=P;obtain⟨fj,fk⟩:=q;have eR:=dK aV;have:=eQ.1;have:=eR.1;rw[o4];simp only[T1];omega
def jY(s:aE):Prop:=s.big=false->0<=s.told/\s.told<=16384
def jZ(neg:Bool)(ar:Nat)(scope sizes:Λ)(e:Option aE):Option (cv×aE):=match a7 0 av (e.map (a8 (decide (6<ar)||dt sizes)))with
 |none=>ν
 |some (other,f)=>match dW sizes f with
  |none=>ν
  |some (lines,a)=>σ (⟨scope,sizes,other,lines⟩,if neg=true then{a with shared:=a.shared++[(sizes,lines)]}else a)
def Df{s s':aE}{l:List (Λ×Int)}(h:dW sizes s=σ (l,s')):s'.toks.length+1<=s.toks.length/\s'.shared=s.shared:=by
 unfold dW at h;cases e:bd (-av) av s with
 |none=>rw[e]at h;cases h
 |some q=>
  obtain⟨n,s1⟩:=q;have p:=dK e;have z:=p.1;have r:=p.eqs.2.2;rw[e]at h;simp only at h;split at h
  .split at h
   .cases h
   .split at h
    .cases h;exact⟨Ω,r⟩
    .cases h
  .have h':cO (dV sizes) n.toNat [] (a8 (decide (16384<min (s1.told+n) av)) {s1 with told:=min (s1.told+n) av})=σ (l,s'):=h;have:=ku (f:=dV sizes) (λ_ t=>t.toks.length<=s1.toks.length/\t.shared=s1.shared) (λacc t a bn w y=>by
    obtain⟨_,_,_,x⟩:=pd y;have h1:=x.1;have j:=x.eqs.2.2;exact⟨by have:=w.1;omega,j.trans w.2⟩) n.toNat [] (a8 (decide (16384<min (s1.told+n) av)) {s1 with told:=min (s1.told+n) av}) l s' ⟨o6 _,rfl⟩ h'
   obtain⟨⟨h1,j⟩,_⟩:=this;exact⟨Ω,j.trans r⟩
def tt{g:Nat}{H:af}{s:aE}(h:bM w g B H N (σ s)):s.toks.length<=100000/\s.shared.length+s.toks.length<=100000:=by
 obtain⟨j,w0,p,q,gs,sv,L,r,x,y,bad,z,big,A,told,h1,C,E,F,e,G,I,J,K,M,O,a,P,f,Q⟩:=h;have R:=e.2.2.1;refine⟨by rw[<-a,u7];omega,by rw[<-a,<-f,u7,u7];omega⟩
def Dg(w:x4)(g h B:Nat)(H:af)(e:Option (cv×aE))(v:x3)(w':x4):Prop:=∃f x a,ae (λr=>r=g\/H r\/r=h\/B<=r) w w'/\v= .agg (eY f).toArray/\gQ w' f x/\bM w' g w'.heap.size a 100001 (e.map (·.2))/\(∀q,e=σ q->x=q.1)/\(∀r,H r->a r)/\(∀r,a r->H r\/B<=r)/\∀r,a r->r<w'.heap.size
def Dh{g E ar:Nat}{H:af}{R:Option aE}{neg:Bool}{dw:Int}{scope:Λ}{Q:x3->x4->Prop}(h:bM w g B H 100000 R)(dx:hn w B E ⟨scope,sizes,0,[]⟩)(fj:∀c,ac w E a6 c->c[3]?=σ (.slice ν 0 0))(dy:∀z∈sizes,1<=z/\z<=av)(fk:sizes.length<=100001)(dz:ac w N a6 [.slice ν 0 0,.slice ν 0 0,Δ 0,.slice ν 0 0])(ju:N<B)(cF:¬H N)(cG:∀r,H r->r<B)(fm:∀ao,R=σ ao->jY ao)(fo:∀v w',Dg w g N B H (jZ neg ar scope sizes R) v w'->Q v w'):
  V x8 (u6 a6 (Γ E) 1) w λfp=>
  V x8 (u5 aq fp) w λdA=>
  V x8 (W9 #[aq] ah #[dA]) w λfq=>
  b4 (Δ 1) (Δ 0) w λdC cX aC fs=>
   V x8 (aJ .lss ah false false cX fq) aC λft=>
   Split ft (ct (α:=x3->x4->Prop) (λ(fv:x3)(dE:x4)=>
    V x8 (aJ .add ah false true cX (Δ 1)) dE λfw=>
    fs fv fw dE) λdF=>
   V x8 (j9 aq dA cX) aC λfx=>
   V x8 (u5 am fx) aC λdG=>
   ct (α:=x3->x4->Prop) (λ(fy:x3)(cH:x4)=>
    V x8 (aJ .mul am false false dC fy) cH λdH=>
    V x8 (aJ .gtr am false true dH (Δ 4096)) cH λfz=>
    Split fz (dF (Δ 4097) cH)
     (dF dH cH)) λdI=>
   V x8 (aJ .gtr am false true dG (Δ 4096)) aC λfA=>
   Split fA (dI (Δ 4097) aC)
    (dI dG aC))
    (ct (α:=x4->Prop) (λ(bW:x4)=>
   ai x8 lP [(Γ g),(Δ 0),(Δ 4611686018427387904)] bW λdJ bA=>
   V x8 (Y1 dJ 0) bA λfB=>
   V x8 (Y1 dJ 1) bA λjv=>
   V x8 (u6 a6 (Γ E) 2) bA λfD=>
   aB x8 (o9 am fD fB) bA λ(_:Unit)bf=>
   ai x8 lP [(Γ g),(Δ (-4611686018427387904)),(Δ 4611686018427387904)] bf λdL O=>
   V x8 (Y1 dL 0) O λbB=>
   V x8 (Y1 dL 1) O λdM=>
   V x8 (bP (Γ g)) O λfE=>
   V x8 (u6 bD fE 3) O λfF=>
   V x8 (u5 ah fF) O λfG=>
   V x8 (aJ .neq ah false true fG (Δ 0)) O λfH=>
   Split fH (V x8 (u5 a6 (Γ E)) O λbX=>
    aB x8 (o9 a6 (Γ N) bX) O λ(_:Unit)bg=>
    V x8 (do loadVar a6 (<-asAddr (Γ N))) bg λb0=>
 Q b0 bg)
    (ct (α:=x4->Prop) (λ(aT:x4)=>
    bU (Δ 0) aT λdN bm fI=>
     ct (α:=x3->x4->Prop) (λ(fJ:x3)(b2:x4)=>
      Split fJ (aB x8 (Instr.alloc ce true (.tuple #[])) b2 λx cI=>
     V x8 (u6 a6 (Γ E) 1) cI λfK=>
     V x8 (u5 aq fK) cI λdO=>
     V x8 (W9 #[aq] ah #[dO]) cI λfL=>
     bU (Δ 0) cI λcY bC fM=>
      V x8 (aJ .lss ah false false cY fL) bC λfN=>
      Split fN (V x8 (j9 aq dO cY) bC λfO=>
      V x8 (u5 am fO) bC λfP=>
      V x8 (aJ .sub am false true fP (Δ 1)) bC λfQ=>
      ai x8 lP [(Γ g),(Δ 0),fQ] bC λdP b3=>
      V x8 (Y1 dP 0) b3 λfR=>
      V x8 (Y1 dP 1) b3 λjw=>
      V x8 (u6 ce x 0) b3 λfS=>
      V x8 (u5 aq fS) b3 λfU=>
      aB x8 (Y8 aq 1 #[(0,fR)]) b3 λfV fW=>
      aB x8 (Z3 #[aq,aq] aq #[fU,fV]) fW λfX dQ=>
      V x8 (u6 ce x 0) dQ λfY=>
      aB x8 (o9 aq fY fX) dQ λ(_:Unit)dS=>
      V x8 (aJ .add ah false true cY (Δ 1)) dS λfZ=>
      fM fZ dS)
       (ai x8 lP [(Γ g),(Δ 0),(Δ 4611686018427387904)] bC λdT bF=>
     V x8 (Y1 dT 0) bF λgb=>
     V x8 (Y1 dT 1) bF λgc=>
     V x8 (u6 a6 (Γ E) 3) bF λgd=>
     V x8 (u5 eg gd) bF λdU=>
     V x8 (W9 #[eg] ah #[dU]) bF λgf=>
     bU (Δ 0) bF λcZ bG gg=>
      V x8 (aJ .lss ah false false cZ gf) bG λgh=>
      Split gh (ct (α:=x4->Prop) (λ(dX:x4)=>
       V x8 (aJ .add ah false true cZ (Δ 1)) dX λgi=>
       gg gi dX) λdY=>
      V x8 (j9 eg dU cZ) bG λgj=>
      V x8 (u5 ce gj) bG λgk=>
      aB x8 (Instr.alloc ce true (.tuple #[])) bG λy gl=>
      aB x8 (o9 ce y gk) gl λ(_:Unit)aG=>
      ct (α:=x3->x4->Prop) (λ(gm:x3)(dZ:x4)=>
       Split gm (ai x8 nA [(Γ g),(Δ 4),gc] dZ λjx gn=>
        dY gn)
        (dY dZ)) λea=>
      V x8 (bP (Γ g)) aG λgp=>
      V x8 (u6 bD gp 3) aG λgq=>
      V x8 (u5 ah gq) aG λgu=>
      V x8 (aJ .eql ah false true gu (Δ 0)) aG λgv=>
      Split gv (V x8 (u6 ce x 0) aG λgw=>
       V x8 (u5 aq gw) aG λgx=>
      V x8 (u6 ce y 0) aG λgA=>
      V x8 (u5 aq gA) aG λgB=>
      ai x8 rW [gx,gB] aG λgD gE=>
      ea gD gE)
       (ea (.bool false) aG))
       (V x8 (u6 ce x 1) bG λgF=>
     aB x8 (o9 am gF gb) bG λ(_:Unit)cJ=>
     V x8 (u6 a6 (Γ E) 3) cJ λgH=>
     V x8 (u5 eg gH) cJ λgI=>
     V x8 (u5 ce x) cJ λgJ=>
     aB x8 (Y8 eg 1 #[(0,gJ)]) cJ λgK gL=>
     aB x8 (Z3 #[eg,eg] eg #[gI,gK]) gL λgM eb=>
     V x8 (u6 a6 (Γ E) 3) eb λgN=>
     aB x8 (o9 eg gN gM) eb λ(_:Unit)ec=>
     V x8 (aJ .add am false true dN (Δ 1)) ec λgO=>
     fI gO ec)))
       (ct (α:=x4->Prop) (λ(ag:x4)=>
     V x8 (u5 a6 (Γ E)) ag λgP=>
     aB x8 (o9 a6 (Γ N) gP) ag λ(_:Unit)ee=>
     V x8 (do loadVar a6 (<-asAddr (Γ N))) ee λgS=>
 Q gS ee) λeh=>
    Split (.bool neg) (ef b2 λap=>
     V x8 (bP (Γ g)) ap λc0=>
     V x8 (u6 bD c0 8) ap λc1=>
     V x8 (u5 dD c1) ap λei=>
     V x8 (u5 a6 (Γ E)) ap λgT=>
     aB x8 (Y8 dD 1 #[(0,gT)]) ap λgU aV=>
     (Ext ap aV\/bZ x8 (u5 dD c1) ei aV/\bZ x8 (u6 bD c0 8) c1 aV/\bZ x8 (bP (Γ g)) c0 aV/\True)/\
     aB x8 (Z3 #[dD,dD] dD #[ei,gU]) aV λgV cK=>
      V x8 (bP (Γ g)) cK λgW=>
      V x8 (u6 bD gW 8) cK λgX=>
      aB x8 (o9 dD gX gV) cK λ(_:Unit)bn=>
      eh bn)
     (eh b2))) λej=>
     V x8 (aJ .lss am false false dN bB) bm λgY=>
     Split gY (V x8 (bP (Γ g)) bm λgZ=>
     V x8 (u6 bD gZ 3) bm λg0=>
     V x8 (u5 ah g0) bm λg2=>
     V x8 (aJ .eql ah false true g2 (Δ 0)) bm λg3=>
     ej g3 bm)
      (ej (.bool false) bm)) λek=>
   V x8 (aJ .lss am false true bB (Δ 0)) O λg4=>
   Split g4 (ct (α:=x3->x4->Prop) (λ(g5:x3)(X:x4)=>
     Split g5 (ai x8 nA [(Γ g),(Δ 4),dM] X λjy c2=>
     V x8 (u5 a6 (Γ E)) c2 λg6=>
     aB x8 (o9 a6 (Γ N) g6) c2 λ(_:Unit)em=>
     V x8 (do loadVar a6 (<-asAddr (Γ N))) em λg7=>
 Q g7 em)
     (V x8 (bP (Γ g)) X λg8=>
    V x8 (u6 bD g8 8) X λg9=>
    V x8 (u5 dD g9) X λha=>
    V x8 (Op.unary .neg bB) X λhb=>
    V x8 (aJ .sub am false true hb (Δ 1)) X λhc=>
    V x8 (j9 dD ha hc) X λhd=>
    V x8 (u6 a6 hd 3) X λhf=>
    V x8 (u5 eg hf) X λhg=>
    V x8 (u6 a6 (Γ E) 3) X λhh=>
    aB x8 (o9 eg hh hg) X λ(_:Unit)eo=>
    ek eo)) λep=>
    ef O λP=>
    V x8 (Op.unary .neg bB) P λhj=>
    V x8 (bP (Γ g)) P λho=>
    V x8 (u6 bD ho 8) P λhp=>
    V x8 (u5 dD hp) P λhq=>
    V x8 (W9 #[dD] ah #[hq]) P λhr=>
    V x8 (aJ .gtr am false false hj hr) P λhs=>
    Split hs (ep (.bool true) P)
    (V x8 (bP (Γ g)) P λht=>
    V x8 (u6 bD ht 8) P λhv=>
    V x8 (u5 dD hv) P λhx=>
    V x8 (Op.unary .neg bB) P λhy=>
    V x8 (aJ .sub am false true hy (Δ 1)) P λhz=>
    V x8 (j9 dD hx hz) P λhA=>
    V x8 (u6 a6 hA 1) P λhB=>
    V x8 (u5 aq hB) P λhC=>
    V x8 (u6 a6 (Γ E) 1) P λhD=>
    V x8 (u5 aq hD) P λhE=>
    ai x8 rW [hC,hE] P λhF c3=>
    V x8 (Op.unary .not hF) c3 λhG=>
    ep hG c3))
    (V x8 (bP (Γ g)) O λhH=>
    V x8 (u6 bD hH 7) O λhI=>
    V x8 (u5 am hI) O λhJ=>
    V x8 (aJ .add am false false hJ bB) O λhK=>
    V x8 (bP (Γ g)) O λhL=>
    V x8 (u6 bD hL 7) O λhM=>
    aB x8 (o9 am hM hK) O λ(_:Unit)aI=>
    ct (α:=x4->Prop) (λ(aK:x4)=>
     V x8 (bP (Γ g)) aK λhN=>
     V x8 (u6 bD hN 7) aK λhO=>
     V x8 (u5 am hO) aK λhP=>
     V x8 (aJ .gtr am false true hP (Δ 16384)) aK λhQ=>
     ai x8 rV [(Γ g),hQ,dM] aK λjz c4=>
     ek c4) λer=>
    V x8 (bP (Γ g)) aI λhR=>
    V x8 (u6 bD hR 7) aI λhS=>
    V x8 (u5 am hS) aI λhT=>
    V x8 (aJ .gtr am false true hT (Δ 4611686018427387904)) aI λhU=>
    Split hU (V x8 (bP (Γ g)) aI λhV=>
    V x8 (u6 bD hV 7) aI λhW=>
    aB x8 (o9 am hW (Δ 4611686018427387904)) aI λ(_:Unit)es=>
    er es)
    (er aI)))) λet=>
  V x8 (aJ .gtr am false true (Δ (ar:Int)) (Δ 6)) aC λhX=>
  Split hX (ai x8 rV [(Γ g),(.bool true),(Δ dw)] aC λjA hY=>
  et hY)
   (V x8 (aJ .gtr am false true dC (Δ 4096)) aC λhZ=>
  ai x8 rV [(Γ g),hZ,(Δ dw)] aC λjB h0=>
  et h0)):=by
 have h2:=h.lt;have eu:N≠g:=λhe=>by
  obtain⟨aw,Z,ab,bad,ay,big,az,told,sv,C,_⟩:=h9 h;subst he;exact absurd (ez C dz) Φ
 obtain⟨aM,szv,cc,g1,cL,cM,f1,f2,f3,f4,f5,f6,f7⟩:=id dx;have b5:E≠g:=Ω
 have ret:∀{G:x4}{x:cv}{S:af},hn G B E x->ac G N a6 [.slice ν 0 0,.slice ν 0 0,Δ 0,.slice ν 0 0]->ae (λr=>r=g\/H r\/B<=r) w G->bM G g G.heap.size S 100001 ((jZ neg ar scope sizes R).map (·.2))->(∀q,jZ neg ar scope sizes R=σ q->x=q.1)->¬S N->(∀r,H r->S r)->(∀r,S r->H r\/B<=r)->(∀r,S r->r<G.heap.size)->
   (V x8 (u5 a6 (Γ E)) G λbX=>
    aB x8 (o9 a6 (Γ N) bX) G λ(_:Unit)bg=>
    V x8 (do loadVar a6 (<-asAddr (Γ N))) bg λb0=>Q b0 bg):=by
  intro G x S c5 c6 h3 h5 h6 h7 c7 h8 ia;obtain⟨aM,szv,cc,g1,cL,cM,c8,c9,da,db,dc,ev,ew⟩:=c5;let ad:jd:=⟨aM,szv,x.other,cc⟩;have b6:gQ G ad x:=⟨⟨g1,c9⟩,⟨cL,da⟩,rfl,cM,db⟩;rw[bE a6.p a6.i rfl (show G.rangeAt E 0 (eY ad)from c8.range)];refine b1 (vs:=eY ad) a6.i rfl rfl b6.one c6 λjC dd ib ic=>?_;rw[fb a6.p a6.i rfl ic.range];have ie:∀r,r=N->hl G r\/G.heap.size<=r:=λr j=>by subst j;exact .inl ⟨_,_,c6,Φ,Φ⟩
  refine fo _ _ ⟨ad,x,S,(h3.mono λr _ h=>?_).trans (dd.mono λr _ h=>.inr (.inr (.inl h))),rfl,b6.dR dd ie,h5.dR dd λr j=>.inl ?_,h6,c7,h8,λr j=>by rw[ib];exact ia r j⟩
  .exact h.elim .inl λh=>h.elim (λh=>.inr (.inl h)) λh=>.inr (.inr (.inr h))
  .have j:r=N:=j;subst j;exact⟨_,_,c6,Φ,Φ,Φ,Φ,h7⟩
 have de:∀{G:x4},ae (gR g B) w G->ac G N a6 [.slice ν 0 0,.slice ν 0 0,Δ 0,.slice ν 0 0]:=λaX=>dz.aa aX λI=>I.elim eu λh=>Ω
 have df:∀{G:x4},ae (gR g B) w G->ae (λr=>r=g\/H r\/B<=r) w G:=λaX=>aX.mono λr _ h=>h.elim .inl λh=>.inr (.inr h);have ey:∀{G:x4}{eA:Nat}{S:af}{so:Option aE},bM G g eA S 100000 so->bM G g eA S 100001 so:=λj=>by
  obtain⟨b7,w0,aw,bh,gs,sv,L,aA,Z,ab,bad,ay,big,az,told,h1,ig,ih,ii,ij,dg,di⟩:=j;refine⟨Ω,w0,aw,bh,gs,sv,L,aA,Z,ab,bad,ay,big,az,told,h1,ig,ih,ii,ij,dg,?_⟩;rename_i so;cases so with
  |none=>exact⟨di.1,by have:=di.2;omega⟩
  |some s=>exact di
 have eB:∀{G:x4}{x:cv},hn G B E x->ae (gR g B) w G->bM G g B H 100000 ν->jZ neg ar scope sizes R=ν->(V x8 (u5 a6 (Γ E)) G λbX=>
    aB x8 (o9 a6 (Γ N) bX) G λ(_:Unit)bg=>
    V x8 (do loadVar a6 (<-asAddr (Γ N))) bg λb0=>Q b0 bg):=λc5 aX j eC=>
  ret c5 (de aX) (df aX) (by rw[eC];exact ey j.base) (λq U=>by rw[eC]at U;cases U) cF (λ_ h=>h) (λ_ h=>.inl h) λr j=>by have:=cG r j;have:=aX.size;omega
 rw[aH a6.p 1 f1 rfl,aU aq.u f3.ls];refine NX f3.ls (λz ik=>(dy z ik).1) λc aX=>?_;refine dh (λbW=>ae (λr=>r=g) w bW/\bM bW g B H 100000 (R.map (a8 (decide (6<ar)||dt sizes)))) ?_ ?_
 rotate_left
 .intro ax aZ;rw[bS,aj];refine⟨λdg=>?_,λdg=>?_⟩
  .refine (mW h).mono ?_;rintro _ J _ a1;refine aZ _ ⟨a1.1,?_⟩;rw[decide_eq_true (show 6<ar by omega),Bool.true_or];exact a1.2
  .rw[bS];refine(mW h).mono ?_;rintro _ J _ a1;refine aZ _ ⟨a1.1,?_⟩;have e:dt sizes=decide (4096<c):=by rw[V7,decide_eq_true_eq];exact aX.symm
   rw[decide_eq_false (show¬6<ar by omega),Bool.false_or,e];exact a1.2
 rintro bW ⟨il,im⟩;refine(kD im).mono ?_;rintro _ bA _ ⟨⟨io,ip⟩,o,jD,rfl,iq,jE⟩;rw[bx,bz];have bH:ae (λr=>r=g) w bA:=il.trans io;have jF:=dx.dR bH (kE h);have f123:=f1.aa bH λhe=>b5 he;rw[aS a6.p rfl];refine bp (g:=E) (o:=2) am.i rfl rfl f123 Ξ λbf b8 jG bI=>?_;have bI:ac bf E a6 [aM,szv,Δ o,cc]:=bI;have dj:∀r,r=g->hl w r\/w.heap.size<=r:=λr j=>(kE h r j).imp (λ⟨e,c,C,a2,ba,_⟩=>⟨e,c,C,a2,ba⟩) id;have bK:∀{G:x4}{c:List x3},ac G E a6 c->∀r,r=E->hl G r\/G.heap.size<=r:=λC r j=>by subst j;exact .inl ⟨_,_,C,Φ,Φ⟩
 have f224:=eG (eG f2 bH dj) b8 (bK f123);have f324:=eG (eG f3 bH dj) b8 (bK f123);have eD:=(f4.dR bH dj).dR b8 (bK f123);have bL:=ip.new b8 λr j=>by have j:r=E:=j;omega
 have eE:ae (gR g B) w bf:=(bH.mono λr _ h=>.inl h).trans (b8.mono λr _ h=>.inr (by have h:r=E:=h;omega));refine(kD bL).mono ?_;rintro _ O _ ⟨⟨bi,bb⟩,n,jH,rfl,ir,eF⟩;rw[bx,bz,qV bb];have eH:ae (gR g B) w O:=eE.trans (bi.mono λr _ h=>.inl h);have it:hn bf B E ⟨scope,sizes,o,[]⟩:=⟨aM,szv,cc,g1,cL,cM,bI,f224,f324,eD,f5,f6,f7⟩;have eI:=it.dR bi (kE bL);cases bc:a7 (-4611686018427387904) 4611686018427387904 (U2 (λx=>x.snd) (a7 0 4611686018427387904 (R.map (a8 (decide (6<ar)||dt sizes)))))with
 |none=>
  rw[bc]at bb;rw[Option.map_none,R5,W3,bQ];refine eB eI eH bb ?_;unfold jZ;cases W:a7 0 av (R.map (a8 (decide (6<ar)||dt sizes)))with
  |none=>rfl
  |some p=>
   obtain⟨o',M⟩:=p;have iu:a7 0 4611686018427387904 (R.map (a8 (decide (6<ar)||dt sizes)))=σ (o',M):=W;rw[iu]at bc;have e:bd (-av) av M=ν:=bc;simp only;unfold dW;rw[e]
 |some q=>
 obtain⟨jI,K⟩:=q;have iv:=ir _ bc;subst iv;rw[bc]at bb;have bb:bM O g B H 100000 (σ K):=bb;rw[Z7,R4,X3,aY];obtain⟨M,W,dk⟩:∃M,a7 0 av (R.map (a8 (decide (6<ar)||dt sizes)))=σ (o,M)/\bd (-av) av M=σ (n,K):=by
  cases W:a7 0 4611686018427387904 (R.map (a8 (decide (6<ar)||dt sizes)))with
  |none=>rw[W]at bc;cases bc
  |some p=>
   obtain⟨o',M⟩:=p;have:=iq _ W;subst this;rw[W]at bc;exact⟨M,W,bc⟩
 have ca:jZ neg ar scope sizes R=match dW sizes M with
   |none=>ν
   |some (lines,K)=>σ (⟨scope,sizes,o,lines⟩,if neg=true then{K with shared:=K.shared++[(sizes,lines)]}else K):=by
  unfold jZ;rw[W]
 have iw:=(h4 dk).1;have ix: -4611686018427387904<=n/\n<=4611686018427387904:=iw;have eJ:dW sizes M=(if n<0 then match K.shared[(-n-1).toNat]? with
   |none=>ν
   |some (z,l)=>if z=sizes then σ (l,K)else ν
  else cO (dV sizes) n.toNat [] (a8 (decide (16384<min (K.told+n) av)) {K with told:=min (K.told+n) av})):=by
  unfold dW;rw[dk];rfl
 have iz:jY K:=by
  cases bN:R with
  |none=>rw[bN]at W;cases W
  |some ao=>
   rw[bN]at W;have dl:bd 0 av (a8 (decide (6<ar)||dt sizes) ao)=σ (o,M):=W;have cN:=(dK dl).eqs;have cb:=(dK dk).eqs;intro C;rw[cb.2.1,cN.2.1]at C;rw[cb.1,cN.1];exact fm ao bN (U7.1 C).1
 refine dh (λaT=>ae (gR g B) w aT/\∃bo cd cP bj,ac aT E a6 [aM,szv,Δ o,bo]/\au .i64 am aT g1 aM scope/\au .i64 am aT cL szv sizes/\kC aT cd bo cP/\bM aT g B H 100000 (σ bj)/\(0<n->cP=[]/\∀r,¬leadsTo bo r)/\dW sizes M=(if n<=0 then σ (cP,bj)else cO (dV sizes) n.toNat [] bj)) ?_ ?_
 .rintro aT ⟨iA,bo,cd,cP,bj,c8,c9,da,db,dc,ev,ew⟩;refine N0 dc c8 c9 da db f5 f6 f7 dy fk ix.2 ev (tt dc).1 λb2 A dm iB eK eL iC cg=>?_;have bO:=iA.trans iB;have bq:dm=(dW sizes M).map (·.2)/\∀q,dW sizes M=σ q->A=q.1:=by
   rw[ew];by_cases dn:n<=0
   .obtain⟨Z,ab⟩:=iC dn;rw[if_pos dn];exact⟨ab,λq U=>by cases U;exact Z⟩
   .rw[if_neg dn];exact cg Ω
  obtain⟨bq,a1⟩:=bq;cases neg with
  |false=>
   refine dh (λag=>b2=ag) ?_ ?_
   .rintro _ rfl;refine ret eK (de bO) (df bO) ?_ ?_ cF (λ_ h=>h) (λ_ h=>.inl h) λr j=>by have:=cG r j;have:=bO.size;omega
    .have:(jZ false ar scope sizes R).map (·.2)=dm:=by
      rw[ca,bq];cases dW sizes M with
      |none=>rfl
      |some p=>rfl
     rw[this];exact ey eL.base
    .intro q U;rw[ca]at U;cases ak:dW sizes M with
     |none=>rw[ak]at U;cases U
     |some p=>
      rw[ak]at U;have:=a1 p ak;cases U;rw[this]
   .intro ax aZ;rw[aY];exact aZ _ rfl
  |true=>
   refine dh (λag=>∃S,ae (λr=>r=g\/H r\/B<=r) w ag/\hn ag B E ⟨scope,sizes,o,A⟩/\ac ag N a6 [.slice ν 0 0,.slice ν 0 0,Δ 0,.slice ν 0 0]/\bM ag g ag.heap.size S 100001 ((jZ true ar scope sizes R).map (·.2))/\¬S N/\(∀r,H r->S r)/\(∀r,S r->H r\/B<=r)/\∀r,S r->r<ag.heap.size) ?_ ?_
   .rintro ag ⟨S,iD,iE,a3,a4,a5,iF,iG,iH⟩;refine ret iE a3 iD a4 ?_ a5 iF iG iH;intro q U;rw[ca]at U;cases ak:dW sizes M with
    |none=>rw[ak]at U;cases U
    |some p=>
     rw[ak]at U;have:=a1 p ak;cases U;rw[this]
   .intro ax aZ;rw[bQ];intro ap ch _ _;have iI:=eL.ext ch;have iJ:=eK.ext ch;have iK:=(de bO).ext ch;obtain⟨b7,w0,aw,bh,gs,sv,L,aA,Z,ab,bad,ay,big,az,told,cR,br,bt,al,bu,bk,bw⟩:=id iI;have iL:=bu.g br bt;obtain⟨⟨iM,eM⟩,aN,ci,cj⟩:=id iL;have iN:∀r,leadsTo sv r->r<B:=λr j=>cG r (bk r j);rw[aP bD.p 8 al rfl];obtain⟨eN,eO,bo,eQ,eR,cd,eS,eU,eV,eW,iO,iP,iQ⟩:=id iJ;let ad:jd:=⟨eN,eO,o,bo⟩;let x:cv:=⟨scope,sizes,o,A⟩;have b6:gQ ap ad x:=⟨⟨eQ,eU⟩,⟨eR,eV⟩,rfl,cd,eW⟩;rw[bE a6.p a6.i rfl (show ap.rangeAt E 0 (eY ad)from eS.range)];refine iy (f:=eY) (a:=ad) dD.u a6.i Ω rfl rfl λjJ jK aV jL Y iR=>?_;refine⟨.inl Y,?_⟩;have jM:L.length<=100000:=by
     cases dm with
     |none=>exact bw.2
     |some s=>have:=bw.2.2.2.2.2.2.2.2;omega
    have dp:=aN.ext Y;refine iV (f:=eY) (a:=ad) dD.u a6.i rfl dp (by simpa using iR.sl) (b6.ext Y).one Ω Ω λeX iS cK ck iT eZ=>?_;have dq:=al.ext Y;have e0:=dq.aa eZ λhe=>cQ dp dq Φ he;rw[bY,aS bD.p rfl];refine bp (g:=g) (o:=8) dD.i (eP ck.sl).1 (eP ck.sl).2 e0 (by simp[gC]) λbn dr jN cS=>?_;have cS:ac bn g bD (gC aw Z ab bad ay big az told eX):=cS;have aO:ae (λr=>leadsTo sv r\/r=g) aV bn:=(eZ.mono λr _ h=>.inl h).trans (dr.mono λr _ h=>.inr h);have cT:∀r,(leadsTo sv r\/r=g)->hl aV r\/aV.heap.size<=r:=λr j=>by
     rcases j with j|rfl
     .obtain⟨rfl,c,C⟩:=en dp j;exact .inl ⟨_,c,C,Φ,Φ⟩
     .exact .inl ⟨_,_,dq,Φ,Φ⟩
    have e1:∀{ad x},gQ ap ad x->gQ bn ad x:=λhe=>(he.ext Y).dR aO cT;have z50:=ch.size;have jO:=Y.size;have z53:=aO.size;have jP:=bO.size;have jQ:=h2.2;refine aZ _ ⟨λr=>H r\/(ap.heap.size<=r/\r<bn.heap.size),?_,?_,?_,?_,?_,λr j=>.inl j,λr j=>j.imp id λj=>Ω,λr j=>?_⟩
    .refine (((df bO).trans (ch.aa _)).trans (Y.aa _)).trans (aO.mono λr _ j=>?_);exact j.elim (λj=>.inr (.inl (bk r j))) .inl
    .have iU:=eS.ext Y;refine⟨eN,eO,bo,eQ,eR,cd,iU.aa aO λj=>?_,eG (eU.ext Y) aO cT,eG (eV.ext Y) aO cT,(eW.dR (Y.aa λ_=>False) λ_ h=>h.elim).dR aO cT,iO,iP,iQ⟩;rcases j with j|j
     .have:=iN _ j;omega
     .exact b5 j
    .exact (iK.ext Y).aa aO λj=>j.elim (λj=>cF (bk _ j)) eu
    .refine⟨Ω,bn,aw,bh,iS,eX,L++[ad],aA++[x],Z,ab,bad,ay,big,az,told,rfl,ae.refl _ _,⟨_,cS⟩,cS,⟨⟨?_,λr j=>?_⟩,ck.aa dr λr j he=>?_,by rw[o4,o4,ci];rfl,λi iW iX hi cl=>?_⟩,λr j=>?_,?_⟩
     .refine (iM.aa (Y.aa λ_=>False) λ_ _ h=>h).aa aO λr j I=>?_;obtain⟨c,C⟩:=eM r j;rcases I with I|rfl
      .obtain⟨rfl,iY,ds⟩:=en aN I;exact absurd (ez C ds) Φ
      .exact absurd (ez C al) Φ
     .obtain⟨c,C⟩:=eM r j;refine⟨c,(C.ext Y).aa aO λI=>?_⟩;rcases I with I|rfl
      .obtain⟨rfl,iY,ds⟩:=en aN I;exact absurd (ez C ds) Φ
      .exact absurd (ez C al) Φ
     .have he:r=g:=he;subst he;exact cQ ck e0 Φ j
     .by_cases iZ:i<L.length
      .rw[Y3 iZ]at hi;rw[Y3 Ω]at cl;exact e1 (cj i iW iX hi cl)
      .rw[Y5 Ω]at hi;rw[Y5 Ω]at cl;have i0:i-L.length=0:=by have:=(x5.1 hi).1;simp at this;omega
       have c7:i-aA.length=0:=Ω
       rw[i0]at hi;rw[c7]at cl;cases hi;cases cl;exact e1 b6
     .rcases iT r j with h|h
      .exact .inl (bk r h)
      .have:=(ck.leads j);have:=dr.size;exact .inr ⟨Ω,Ω⟩
     .rw[ca];cases ak:dW sizes M with
      |none=>
       rw[ak]at bq;rw[bq]at bw;exact⟨bw.1,by rw[o4];simp;have:=bw.2;omega⟩
      |some p=>
       obtain⟨lines,bj⟩:=p;rw[ak]at bq;rw[bq]at bw;have i1:=a1 _ ak;obtain⟨cm,cn,cp,cq,cr,bR,cu,aQ,cU⟩:=id bw;have e2:=Df ak;refine⟨cm,cn,cp,cq,cr,bR,cu,?_,?_⟩
       .show (aA++[x]).map _=bj.shared++[(sizes,lines)];rw[Z4,aQ];simp only[x,T0,List.map_nil];rw[i1]
       .have jR:M.shared.length+M.toks.length<=100000:=by
         cases bN:R with
         |none=>rw[bN]at W;cases W
         |some ao=>
          rw[bN]at W h;have dl:bd 0 av (a8 (decide (6<ar)||dt sizes) ao)=σ (o,M):=W;have t9:=dK dl;have cN:=t9.1;have cb:=t9.eqs.2.2;have t3:=(tt h).2;have e3:(a8 (decide (6<ar)||dt sizes) ao).toks=ao.toks:=rfl;have e5:(a8 (decide (6<ar)||dt sizes) ao).shared=ao.shared:=rfl;rw[e3]at cN;rw[e5]at cb;rw[cb];omega
        have e6:L.length=bj.shared.length:=by rw[<-aQ,u7,ci]
        have i2:bh.length=bj.toks.length:=by rw[<-bR,u7]
        rw[e2.2]at e6;rw[o4,e6,i2];simp only[T1];have:=e2.1;omega
    .rintro (j|j)
     .exact cF j
     .omega
    .rcases j with j|j
     .have:=cG r j;omega
     .exact j.2
 .intro ax aZ;rw[aR,aj];refine⟨λi3=>?_,λi4=>?_⟩
  .
   refine aW (λv X=>Ext O X/\∃b:Bool,v= .bool b/\(b=true->dW sizes M=ν)/\(b=false->∃lines,dW sizes M=σ (lines,K)/\K.shared[(-n-1).toNat]?=σ (sizes,lines))) ?_ ?_
   .rintro _ X ⟨bT,b,rfl,i5,i6⟩;have cV:=bb.ext bT;have i7:=eI.ext bT;have e7:=eH.trans (bT.aa _);cases b with
    |true=>
     rw[bQ];refine(oc cV Ω).mono ?_;rintro _ c2 _ ⟨e8,i8⟩;exact eB (i7.dR e8 (kE cV)) (e7.trans (e8.mono λr _ h=>.inl h)) i8 (by rw[ca,i5 rfl])
    |false=>
     rw[aY];obtain⟨lines,i9,bV⟩:=i6 rfl;obtain⟨b7,w0,aw,bh,gs,sv,L,aA,Z,ab,bad,ay,big,az,told,cR,br,bt,al,bu,bk,cm,cn,cp,cq,cr,bR,cu,aQ,cU⟩:=id cV;obtain⟨_,aN,ci,cj⟩:=bu.g br bt;have cw:(-n-1).toNat<L.length:=by
      have h1:=(x5.1 bV).1;rw[<-aQ,u7]at h1;omega
     obtain⟨hk,cz⟩:∃h,L[(-n-1).toNat]?=σ h:=⟨_,x7 cw⟩;obtain⟨be,cA⟩:=aF (l:=aA) (i:=(-n-1).toNat) Ω;obtain⟨_,_,_,ja,an⟩:=cj _ hk be cz cA;have jb:be.lines=lines:=by
      rw[<-aQ,v8,cA]at bV;have:=Z0 bV;exact(Prod.mk.inj this).2
     rw[aP bD.p 8 al rfl,lV,wrap_i64 Ω Ω,ed,wrap_i64 Ω Ω,du (i:=(-n-1).toNat) Ω dD.u a6.i aN cw,aS a6.p rfl,aD Ψ (aN.range cz 3 _ rfl)];obtain⟨jS,e9,jT,jU⟩:=id an;have cW:ac X E a6 [aM,szv,Δ o,cc]:=(bI.aa bi λhe=>b5 he).ext bT;have jc:=(eG f224 bi λr j=>(kE bL r j).imp (λ⟨e,c,C,a2,ba,_⟩=>⟨e,c,C,a2,ba⟩) id).ext bT;have je:=(eG f324 bi λr j=>(kE bL r j).imp (λ⟨e,c,C,a2,ba,_⟩=>⟨e,c,C,a2,ba⟩) id).ext bT;rw[aS a6.p rfl];refine bp (g:=E) (o:=3) eg.i (eP e9.sl).1 (eP e9.sl).2 cW Ξ λeo cB jV jf=>?_;refine aZ _ ⟨e7.trans (cB.mono λr _ h=>.inr (by have h:r=E:=h;omega)),hk.cc,ja,lines,K,jf,eG jc cB (bK cW),eG je cB (bK cW),?_,cV.new cB λr j=>by have j:r=E:=j;omega,λh=>Ω,by rw[i9,if_pos Ω]⟩;rw[<-jb];exact an.dR cB (bK cW)
   .intro jW fa;intro P cC _ _;have jg:=bb.ext cC;obtain⟨b7,w0,aw,bh,gs,sv,L,aA,Z,ab,bad,ay,big,az,told,cR,br,bt,al,bu,bk,cm,cn,cp,cq,cr,bR,cu,aQ,cU⟩:=id jg;obtain⟨_,aN,ci,cj⟩:=bu.g br bt;have jX:K.shared.length=L.length:=by rw[<-aQ,u7,ci]
    have an:=eJ;rw[if_pos i3]at an;rw[lV,wrap_i64 Ω Ω,aP bD.p 8 al rfl,e4 dD.u aN,bS,aj];refine⟨λcg=>fa _ _ ⟨cC,true,rfl,λ_=>?_,λh=>by cases h⟩,λcg=>?_⟩
    .rw[an,Y2 Ω]
    have cw:(-n-1).toNat<L.length:=Ω
    obtain⟨hk,cz⟩:∃h,L[(-n-1).toNat]?=σ h:=⟨_,x7 cw⟩;obtain⟨be,cA⟩:=aF (l:=aA) (i:=(-n-1).toNat) Ω;obtain⟨_,⟨gz,jh⟩,_,_⟩:=cj _ hk be cz cA;have bV:K.shared[(-n-1).toNat]?=σ (be.sizes,be.lines):=by rw[<-aQ,v8,cA];rfl
    rw[bV]at an;simp only at an;rw[aP bD.p 8 al rfl,lV,wrap_i64 Ω Ω,ed,wrap_i64 Ω Ω,du (i:=(-n-1).toNat) Ω dD.u a6.i aN cw,aS a6.p rfl,aD Ψ (aN.range cz 1 _ rfl)];have ji:ac P E a6 [aM,szv,Δ o,cc]:=(bI.aa bi λhe=>b5 he).ext cC;have jj:=(eG f324 bi λr j=>(kE bL r j).imp (λ⟨e,c,C,a2,ba,_⟩=>⟨e,c,C,a2,ba⟩) id).ext cC;rw[aH a6.p 1 ji rfl];refine(wO jh.ls jj.ls).mono ?_;rintro _ c3 _ ⟨rfl,jk⟩;rw[bJ];refine fa _ _ ⟨cC.trans jk,_,rfl,λC=>?_,λC=>?_⟩
    .have jl:be.sizes≠sizes:=by simpa using C
     rw[an,if_neg jl]
    .have fc:be.sizes=sizes:=by simpa using C
     exact⟨be.lines,by rw[an,if_pos fc],by rw[bV,fc]⟩
  .
   have an:=eJ;rw[if_neg i4]at an;obtain⟨b7,w0,aw,bh,gs,sv,L,aA,Z,ab,bad,ay,big,az,told,cR,br,bt,al,bu,bk,cm,cn,cp,cq,cr,bR,cu,aQ,cU⟩:=id bb;rw[aP bD.p 7 al rfl,aL];generalize jm:X9.wrap (told+n)=bl;have fd:K.big=false->bl=K.told+n/\0<=bl:=λC=>by
    obtain⟨e3,e5⟩:=iz C;have jn:=cq C;rw[<-jm,jn,wrap_i64 Ω Ω];exact⟨rfl,Ω⟩
   rw[bY,aS bD.p rfl];refine bp (g:=g) (o:=7) am.i rfl rfl al (by simp[gC]) λaI fe j0 cD=>?_;have cD:ac aI g bD (gC aw Z ab bad ay big az bl sv):=cD;refine dh (λaK=>ae (λr=>r=g) O aK/\ac aK g bD (gC aw Z ab bad ay big az (min bl av) sv)) ?_ ?_
   rotate_left
   .intro j1 ff;rw[aP bD.p 7 cD rfl,bS,aj];refine⟨λcg=>?_,λcg=>ff _ ⟨fe,?_⟩⟩
    .rw[bY,aS bD.p rfl];refine bp (g:=g) (o:=7) am.i rfl rfl cD (by simp[gC]) λes jo j2 jp=>?_;refine ff _ ⟨fe.trans jo,?_⟩;have e:min bl av=4611686018427387904:=by unfold av;omega
     rw[e];exact jp
    .have e:min bl av=bl:=by unfold av;omega
     rw[e];exact cD
   rintro aK ⟨fg,fh⟩;have jq:bM aK g B H 100000 (σ {K with told:=min (K.told+n) av}):=⟨b7,w0,aw,bh,gs,sv,L,aA,Z,ab,bad,ay,big,az,_,cR,br.trans fg,bt,fh,bu,bk,cm,cn,cp,λC=>by
    have C:K.big=false:=C;rw[(fd C).1],cr,bR,cu,aQ,cU⟩
   rw[aP bD.p 7 fh rfl,bS];refine(mW jq).mono ?_;rintro _ c4 _ ⟨jr,fi⟩;have js:(σ {K with told:=min (K.told+n) av}).map (a8 (decide (16384<min bl av)))=σ (a8 (decide (16384<min (K.told+n) av)) {K with told:=min (K.told+n) av}):=by
    show σ (a8 _ _)=_;congr 1;unfold a8;cases C:K.big with
    |true=>simp
    |false=>rw[(fd C).1]
   rw[js]at fi;have cE:ae (λr=>r=g) bf c4:=(bi.trans fg).trans jr;have dv:∀r,r=g->hl bf r\/bf.heap.size<=r:=λr j=>(kE bL r j).imp (λ⟨e,c,C,a2,ba,_⟩=>⟨e,c,C,a2,ba⟩) id;have jt:cc= .slice ν 0 0:=by
    have:=fj _ f1;simpa using this
   refine aZ _ ⟨eE.trans (cE.mono λr _ h=>.inl h),cc,cM,[],_,bI.aa cE λhe=>b5 he,eG f224 cE dv,eG f324 cE dv,eD.dR cE dv,fi,λ_=>⟨rfl,λr j=>by rw[jt]at j;exact fu j⟩,?_⟩;rw[an];by_cases eF:n<=0
   .have:n=0:=Ω
    subst this;rw[if_pos (Int.le_refl _)];rfl
   .rw[if_neg eF]
def Di{s:aE}:da all s=match bd (-av) av s with
  |none=>ν
  |some (a,s1)=>match e3 all.length a.natAbs s1 with
   |none=>ν
   |some (scope,e)=>jZ (decide (a<0)) a.natAbs scope (scope.map λv=>all.getD v.toNat 0) (σ e):=by
 unfold da;cases bd (-av) av s with
 |none=>rfl
 |some q=>
  obtain⟨a,s1⟩:=q;simp only;cases e3 all.length a.natAbs s1 with
  |none=>rfl
  |some p=>
   obtain⟨scope,e⟩:=p;simp only;unfold jZ;show _=match bd 0 av (a8 (decide (6<a.natAbs)||dt (scope.map λv=>all.getD v.toNat 0)) e)with
    |none=>ν
    |some (other,f)=>_
   cases bd 0 av (a8 (decide (6<a.natAbs)||dt (scope.map λv=>all.getD v.toNat 0)) e)with
   |none=>rfl
   |some j=>
    obtain⟨o,f⟩:=j;simp only;cases dW (scope.map λv=>all.getD v.toNat 0) f with
    |none=>rfl
    |some r=>
     obtain⟨ls,w⟩:=r;by_cases h:a<0
     .simp[h]
     .simp[h]
def wQ(w:x4)(g:Nat)(H:af)(e:Option (cv×aE))(v:x3)(w':x4):Prop:=∃f x a,ae (λr=>r=g\/H r) w w'/\v= .agg (eY f).toArray/\gQ w' f x/\bM w' g w'.heap.size a 100001 (e.map (·.2))/\(∀q,e=σ q->x=q.1)/\(∀r,H r->a r)/\(∀r,a r->H r\/w.heap.size<=r)/\∀r,a r->r<w'.heap.size
def Dj{k:Nat}{s s':aE}(h:e3 n k s=σ (l,s')):s'.toks.length+l.length<=s.toks.length/\s'.told=s.told/\s'.big=s.big/\s'.shared=s.shared/\∀v∈l,0<=v/\v<n:=by
 have:=ku (f:=kv n) (λ(acc:Λ)t=>t.toks.length+acc.length<=s.toks.length/\t.told=s.told/\t.big=s.big/\t.shared=s.shared/\∀v∈acc,0<=v/\v<n) (λacc t a bn j e=>by
  unfold kv at e;cases r:bd 0 (n-1) t with
  |none=>rw[r]at e;cases e
  |some q=>
   obtain⟨v,C⟩:=q;rw[r]at e;simp only at e;split at e
   .cases e
   .cases e;have w:=dK r;have E:=(h4 r).1;obtain⟨x,z,A⟩:=w.eqs;have t0:=w.1;refine⟨by have:=j.1;rw[o4];simp only[T1];omega,x.trans j.2.1,z.trans j.2.2.1,A.trans j.2.2.2.1,λy p=>?_⟩;rcases j0.1 p with p|p
    .exact j.2.2.2.2 y p
    .rw[j6.1 p];omega) k [] s l s' ⟨Ξ,rfl,rfl,rfl,λv B=>by cases B⟩ h
 exact this.1
def N1{g B0:Nat}{H:af}{s:aE}{P:x3}(h:bM w g B0 H 100000 (σ s))(ad:au .i64 am w gz P all)(ag:∀z∈all,1<=z/\z<=av)(aQ:all.length<=100001)(Q:∀r,H r->r<w.heap.size)(bj:jY s):
  ai x8 za [Γ g,P] w (wQ w g H (da all s)):=by
 have bW:=h.lt;refine az func122 ?_;refine bw a6.i λG J bX R S=>?_;have S:ac J G a6 [.slice ν 0 0,.slice ν 0 0,Δ 0,.slice ν 0 0]:=S;refine bw a6.i λM U bY W X=>?_;have X:ac U M a6 [.slice ν 0 0,.slice ν 0 0,Δ 0,.slice ν 0 0]:=X;have h1:=(h.ext R).base;have ah:=h1.ext W;have bZ:=R.size;have aS:=S.lt;have b0:=X.lt;refine(kD ah).mono ?_;rintro _ E _ ⟨⟨Y,j⟩,a,b2,rfl,ak,al⟩;rw[bx,bz,aR];have bk:M≠g:=Ω
 have an:G≠g:=Ω
 have ao:=X.aa Y λhe=>bk he;have aq:=(S.ext W).aa Y λhe=>an he;have aT:au .i64 am E gz P all:=br ((ad.ext R).ext W) Y λr e he=>by
  have he:r=g:=he;obtain⟨aU,B,K,bad,aV,big,aX,told,sv,Z,_⟩:=h9 h;subst he;exact ch ad Z Φ e rfl
 have aY:∀r,leads P r->r<J.heap.size:=λr e=>by obtain⟨B,K⟩:=bR ad e;omega
 have aw:hn E J.heap.size M ⟨[],[],0,[]⟩:=⟨_,_,_,0,0,0,ao,au.nil _ _ _ _,au.nil _ _ _ _,⟨[],bg.nil _ _ _ _ _,λy bl=>(by cases bl),rfl⟩,(λr e=>by rcases e with⟨a,n,c,B,K⟩|⟨a,n,c,B,K⟩<;>cases B),(λr e=>by obtain⟨a,n,c,B,K⟩:=e;cases B),Ω⟩;have ay:∀c,ac E M a6 c->c[3]?=σ (.slice ν 0 0):=λc aA=>by
  unfold ac at aA ao;rw[ao]at aA;have:=Array.toList_inj.2 (Obj.cells.inj (Z0 aA)).1;simp at this;rw[<-this];rfl
 have aZ:ae (λr=>r=g) J E:=(W.aa _).trans Y;have b3:J.heap.size<=E.heap.size:=aZ.size;have aC:∀{f:x4}{aD:Option (cv×aE)}{v:x3}{w':x4},ae (gR g J.heap.size) E f->aD=da all s->Dg f g G J.heap.size H aD v w'->wQ w g H (da all s) v w':=by
  rintro f aD v w' C rfl ⟨O,x,bm,aF,aG,aH,aI,a1,a2,a8,bn⟩;refine⟨O,x,bm,?_,aG,aH,aI,a1,a2,λr e=>(a8 r e).imp id λh=>Ω,bn⟩;refine hD (hD ((R.aa _).trans (aZ.mono λr _ h=>.inl h)) C λr e he=>?_) aF λr e he=>?_
  .exact he.elim .inl λhe=>Ω
  .rcases he with he|he|he|he
   .exact .inl he
   .exact .inr he
   .omega
   .omega
 have bo:∀{f:x4}{x:cv},ae (gR g J.heap.size) E f->da all s=ν->bM f g J.heap.size H 100000 ν->hn f J.heap.size M x->
   (V x8 (u5 a6 (Γ M)) f λbp=>
    aB x8 (o9 a6 (Γ G) bp) f λ(_:Unit)ba=>
    V x8 (do loadVar a6 (<-asAddr (Γ G))) ba λbq=>wQ w g H (da all s) bq ba):=by
  intro f x C bb aJ bt;obtain⟨aM,szv,cc,g1,bu,bA,aF,aG,aH,aI,a1,a2,a8⟩:=bt;let O:jd:=⟨aM,szv,x.other,cc⟩;have bc:gQ f O x:=⟨⟨g1,aG⟩,⟨bu,aH⟩,rfl,bA,aI⟩;have aK:=aq.aa C λI=>I.elim an λh=>Ω
  rw[bE a6.p a6.i rfl (show f.rangeAt M 0 (eY O)from aF.range)];refine b1 (vs:=eY O) a6.i rfl rfl bc.one aK λb4 aL b5 bB=>?_;rw[fb a6.p a6.i rfl bB.range];have bC:∀r,r=G->hl f r\/f.heap.size<=r:=λr e=>by subst e;exact .inl ⟨_,_,aK,Φ,Φ⟩
  have b6:=C.size;refine aC C rfl ⟨O,x,H,aL.mono λr _ h=>.inr (.inr (.inl h)),rfl,bc.dR aL bC,?_,(λq A=>by rw[bb]at A;cases A),λ_ h=>h,λ_ h=>.inl h,λr e=>by have:=Q r e;omega⟩;rw[bb];have bD:bM f g J.heap.size H 100001 ν:=by
   obtain⟨b7,w0,aU,bF,gs,sv,L,bG,B,K,bad,aV,big,aX,told,h1,ah,j,bH,bI,aN,be⟩:=aJ;exact⟨Ω,w0,aU,bF,gs,sv,L,bG,B,K,bad,aV,big,aX,told,h1,ah,j,bH,bI,aN,be.1,by have:=be.2;omega⟩
  refine bD.dR aL λr e=>.inl ?_;have e:r=G:=e;subst e;exact⟨_,_,aK,Φ,Φ,Φ,Φ,λap=>by have:=Q _ ap;omega⟩
 have N:=Di (all:=all) (s:=s);have bJ:a7 (-4611686018427387904) 4611686018427387904 (σ s)=bd (-av) av s:=rfl;rw[bJ]at j ak al;have b8: -4611686018427387904<=a/\a<=4611686018427387904:=by
  cases A:bd (-av) av s with
  |none=>have:=al A;omega
  |some q=>have:=ak q A;rw[this];exact(h4 (n:=q.1) (s':=q.2) A).1
 refine aW (λv bK=>E=bK/\v=Δ (a.natAbs:Int)) ?_ ?_
 rotate_left
 .intro ax bf;rw[aj];refine⟨λca=>?_,λcb=>bf _ _ ⟨rfl,by congr 1;omega⟩⟩;rw[lV,wrap_i64 Ω Ω];exact bf _ _ ⟨rfl,by congr 1;omega⟩
 rintro _ _ ⟨rfl,rfl⟩;have bh:∀r,H r->r<J.heap.size:=λr e=>by have:=Q r e;omega
 have bi:¬H G:=λap=>by have:=Q _ ap;omega
 have bL:∀{scope:Λ},(∀v∈scope,0<=v/\v<(all.length:Int))->∀z∈scope.map (λv=>all.getD v.toNat 0),1<=z/\z<=av:=λbN z bO=>by
  obtain⟨v,bP,rfl⟩:=l9.1 bO;have:=bN v bP;refine ag _ ?_;rw[u4,x7 Ω];exact S4 _
 cases A:bd (-av) av s with
 |none=>
  rw[A]at j N;have bQ:=al A;subst bQ;refine De (s:=s) (ar:=(0:Int).natAbs) j (.inr ⟨rfl,rfl⟩) aw ay aT aY aQ Φ (λh=>by cases h) ?_ ?_ ?_
  .intro h;cases h
  .intro _;exact Dh (neg:=decide ((0:Int)<0)) j aw ay (λz ag=>by cases ag) Ξ aq aS bi bh (λbS I=>by cases I) λv w' aO=>aC (ae.refl _ _) (by rw[N];rfl) aO
  .intro h;cases h
 |some q=>
  obtain⟨a',s1⟩:=q;rw[A]at j N;have:=ak _ A;subst this;simp only at N;have j:bM E g J.heap.size H 100000 (σ s1):=j;have bT:=dK A;refine De (s:=s1) (ar:=a.natAbs) j (.inl rfl) aw ay aT aY aQ Ω (λ_=>(tt j).1) ?_ ?_ ?_
  .intro _ f x C ab aJ aP;exact bo C (by rw[N,ab]) aJ aP
  .intro h;cases h
  .intro _ f scope s' C ab aN aP bU;obtain⟨cd,bV,t3,t4,t5⟩:=Dj ab;rw[ab]at N;obtain⟨B,K,ce⟩:=bT.eqs;refine Dh (neg:=decide (a<0)) aN aP bU (bL t5) ?_ (aq.aa C λI=>I.elim an λh=>Ω) aS bi bh (λbS I=>?_) λv w' aO=>aC C N.symm aO
   .rw[u7];have:=(tt j).1;omega
   .cases I;intro Z;rw[t3,K]at Z;rw[bV,B];exact bj Z
def N2{s s':aE}{l:List (Λ×Int)}(h:dW sizes s=σ (l,s'))(r:jY s):jY s':=by
 unfold dW at h;cases j:bd (-av) av s with
 |none=>rw[j]at h;cases h
 |some q=>
  obtain⟨n,s1⟩:=q;obtain⟨w,x,t3⟩:=(dK j).eqs;have p:jY s1:=λe=>by rw[w];exact r (by rw[<-x];exact e)
  rw[j]at h;simp only at h;split at h
  .split at h
   .cases h
   .split at h
    .cases h;exact p
    .cases h
  .rename_i G;have h':cO (dV sizes) n.toNat [] (a8 (decide (16384<min (s1.told+n) av)) {s1 with told:=min (s1.told+n) av})=σ (l,s'):=h;have:=ku (f:=dV sizes) (λ_ t=>jY t) (λacc t a bn y z=>by
    obtain⟨_,_,_,A⟩:=pd z;obtain⟨B,C,H⟩:=A.eqs;intro e;rw[B];exact y (by rw[<-C];exact e)) n.toNat [] (a8 (decide (16384<min (s1.told+n) av)) {s1 with told:=min (s1.told+n) av}) l s' (λe=>by
     obtain⟨E,F⟩:=U7.1 e;have I:=p E;have J:=of_decide_eq_false F;show 0<=min (s1.told+n) av/\min (s1.told+n) av<=16384;unfold av at*;omega) h'
   exact this.1
def N3{s s':aE}{x:cv}(h:da all s=σ (x,s')):s'.toks.length+1<=s.toks.length/\(jY s->jY s'):=by
 rw[Di]at h;cases r:bd (-av) av s with
 |none=>rw[r]at h;cases h
 |some q=>
  obtain⟨a,s1⟩:=q;rw[r]at h;simp only at h;have A:=dK r;cases I:e3 all.length a.natAbs s1 with
  |none=>rw[I]at h;cases h
  |some p=>
   obtain⟨scope,f⟩:=p;rw[I]at h;simp only at h;obtain⟨T,F,t3,_⟩:=Dj I;unfold jZ at h;have e:a7 0 av ((σ f).map (a8 (decide (6<a.natAbs)||dt (scope.map λv=>all.getD v.toNat 0))))=bd 0 av (a8 (decide (6<a.natAbs)||dt (scope.map λv=>all.getD v.toNat 0)) f):=rfl;rw[e]at h;cases w:bd 0 av (a8 (decide (6<a.natAbs)||dt (scope.map λv=>all.getD v.toNat 0)) f)with
   |none=>rw[w]at h;cases h
   |some G=>
    obtain⟨o,B⟩:=G;rw[w]at h;simp only at h;have C:=dK w;cases j:dW (scope.map λv=>all.getD v.toNat 0) B with
    |none=>rw[j]at h;cases h
    |some H=>
     obtain⟨ls,y⟩:=H;rw[j]at h;simp only[X7,S3]at h;obtain⟨_,J⟩:=h;have U:=Df j;have K:(a8 (decide (6<a.natAbs)||dt (scope.map λv=>all.getD v.toNat 0)) f).toks=f.toks:=rfl;have L:=C.1;rw[K]at L;have V:=A.1;obtain⟨M,N,_⟩:=A.eqs;obtain⟨f1,f2,_⟩:=C.eqs;have z:s'.toks=y.toks/\s'.told=y.told/\s'.big=y.big:=by
      rw[<-J];split<;>exact⟨rfl,rfl,rfl⟩
     refine⟨by rw[z.1];omega,λO=>?_⟩;have P:jY B:=λE=>by
      rw[f2]at E;rw[f1];have Q:f.big=false:=(U7.1 E).1;show 0<=f.told/\f.told<=16384;rw[F,M];exact O (by rw[<-N,<-t3];exact Q)
     have R:=N2 j P;intro S;rw[z.2.1];exact R (by rw[<-z.2.2];exact S)
def bM.shrink{g:Nat}{H:af}{so:Option aE}(h:bM w g B H N so):∃a,bM w g B a N so/\(∀r,a r->H r)/\∀r,a r->∃c,ac w r a6 c:=by
 obtain⟨s,w0,x,y,gs,sv,L,z,A,C,bad,E,big,F,told,h1,f,j,G,p,I,J⟩:=h;refine⟨λr=>leadsTo sv r,⟨s,w0,x,y,gs,sv,L,z,A,C,bad,E,big,F,told,h1,f,j,G,p,λr e=>e,J⟩,I,λr e=>?_⟩;obtain⟨rfl,c,q⟩:=en p.2.1 e;refine⟨c,q.aa f λhe=>?_⟩;obtain⟨M,K⟩:=j;subst he;exact absurd (ez q K) Φ
def bM.low{g:Nat}{H:af}{s:aE}(h:bM w g B H N (σ s)):bM w g B H 100000 (σ s):=by
 obtain⟨F,w0,a,e,gs,sv,L,f,j,p,bad,q,big,r,told,h1,x,y,z,A,C,E⟩:=h;exact⟨o6 _,w0,a,e,gs,sv,L,f,j,p,bad,q,big,r,told,h1,x,y,z,A,C,E⟩
def bM.up{g M:Nat}{H:af}{so:Option aE}(h:bM w g B H N so)(F:N<=M):bM w g B H M so:=by
 obtain⟨G,w0,e,f,gs,sv,L,j,p,q,bad,r,big,x,told,h1,y,z,A,C,E,a⟩:=h;refine⟨Ω,w0,e,f,gs,sv,L,j,p,q,bad,r,big,x,told,h1,y,z,A,C,E,?_⟩;cases so with
 |none=>exact⟨a.1,by have:=a.2;omega⟩
 |some s=>exact a
def lr{α:Type}(f:List α->aE->Option (α×aE))(cnt i:Nat)(a:Option aE)(A:List α)(so:Option aE):Prop:=a.bind (cO f cnt [])=(match so with
 |none=>ν
 |some s=>cO f (cnt-i) A s)
def lr.step{α:Type}{f:List α->aE->Option (α×aE)}{cnt i:Nat}{j:Option aE}{A:List α}{s:aE}{a:α}{p:Option aE}(h:lr f cnt i j A (σ s))(hi:i<cnt)(h1:p=(f A s).map (·.2))(r:∀q,f A s=σ q->a=q.1):lr f cnt (i+1) j (A++[a]) p:=by
 unfold lr at*;rw[h,show cnt-i=(cnt-(i+1))+1 by omega];simp only;cases e:f A s with
 |none=>rw[pg e,h1,e];rfl
 |some q=>
  obtain⟨a',s'⟩:=q;have:=r _ e;subst this;rw[sF e,h1,e];rfl
def N4{s0:aE}{acc:Λ}{most p:Int}{F:List cv}{x y z A G so6 e:Option aE}(h1:x=((dU s0).map (·.2)).map (a8 (decide (64<t.length))))(P:∀q,dU s0=σ q->t=q.1)(r:y=((a7 1 av x).map (·.2)).map (a8 (decide (64<n))))(M:∀q,a7 1 av x=σ q->n=q.1)(h:z=(a7 1 av y).map (·.2))(hm:∀q,a7 1 av y=σ q->most=q.1)(f:A=((a7 0 av z).map (·.2)).map (a8 (decide (256<p))))(N:∀q,a7 0 av z=σ q->p=q.1)(a:G=((a7 1 av A).map (·.2)).map (a8 (decide (2147483648<k))))(hk:∀q,a7 1 av A=σ q->k=q.1)(w:G.bind (cO (fV most) n.toNat [])=so6.map λs=>(acc,s))(j:so6.bind (cO (λ_ s=>da acc s) p.toNat [])=e.map λs=>(F,s)):hZ s0=e.map λs=>(⟨t,k,acc,F⟩,s):=by
 unfold hZ;cases H:dU s0 with
 |none=>
  rw[H]at h1;subst h1;subst r;subst h;subst f;subst a;have:so6=ν:=by cases so6 with|none=>rfl|some s=>cases w
  subst this;cases e with|none=>rfl|some s=>cases j
 |some Q=>
 obtain⟨bn,s1⟩:=Q;have:=P _ H;subst this;rw[H]at h1;have h1:x=σ (a8 (decide (64<t.length)) s1):=h1;subst h1;simp only;have R:a7 1 av (σ (a8 (decide (64<t.length)) s1))=bd 1 av (a8 (decide (64<t.length)) s1):=rfl;rw[R]at r M;cases I:bd 1 av (a8 (decide (64<t.length)) s1)with
 |none=>
  rw[I]at r;subst r;subst h;subst f;subst a;have:so6=ν:=by cases so6 with|none=>rfl|some s=>cases w
  subst this;cases e with|none=>rfl|some s=>cases j
 |some S=>
 obtain⟨aa,B⟩:=S;have:=M _ I;subst this;rw[I]at r;have r:y=σ (a8 (decide (64<n)) B):=r;subst r;simp only;have T:a7 1 av (σ (a8 (decide (64<n)) B))=bd 1 av (a8 (decide (64<n)) B):=rfl;rw[T]at h hm;cases J:bd 1 av (a8 (decide (64<n)) B)with
 |none=>
  rw[J]at h;subst h;subst f;subst a;have:so6=ν:=by cases so6 with|none=>rfl|some s=>cases w
  subst this;cases e with|none=>rfl|some s=>cases j
 |some U=>
 obtain⟨bW,C⟩:=U;have:=hm _ J;subst this;rw[J]at h;have h:z=σ C:=h;subst h;simp only;have V:a7 0 av (σ C)=bd 0 av C:=rfl;rw[V]at f N;cases K:bd 0 av C with
 |none=>
  rw[K]at f;subst f;subst a;have:so6=ν:=by cases so6 with|none=>rfl|some s=>cases w
  subst this;cases e with|none=>rfl|some s=>cases j
 |some W=>
 obtain⟨ab,E⟩:=W;have:=N _ K;subst this;rw[K]at f;have f:A=σ (a8 (decide (256<p)) E):=f;subst f;simp only;have X:a7 1 av (σ (a8 (decide (256<p)) E))=bd 1 av (a8 (decide (256<p)) E):=rfl;rw[X]at a hk;cases L:bd 1 av (a8 (decide (256<p)) E)with
 |none=>
  rw[L]at a;subst a;have:so6=ν:=by cases so6 with|none=>rfl|some s=>cases w
  subst this;cases e with|none=>rfl|some s=>cases j
 |some Y=>
 obtain⟨ac,O⟩:=Y;have:=hk _ L;subst this;rw[L]at a;have a:G=σ (a8 (decide (2147483648<k)) O):=a;subst a;simp only;have w:cO (fV most) n.toNat [] (a8 (decide (2147483648<k)) O)=so6.map λs=>(acc,s):=w;rw[w];cases so6 with
 |none=>cases e with|none=>rfl|some s=>cases j
 |some Z=>
  simp only[Z7];have j:cO (λ_ s=>da acc s) p.toNat [] Z=e.map λs=>(F,s):=j;rw[j];cases e<;>rfl
def py(w:x4)(gr:Nat)(e:x3)(a:List cv):Prop:=∃L,bg eY 4 a6 w gr e L/\a.length=L.length/\∀(i:Nat)h x,L[i]?=σ h->a[i]?=σ x->gQ w h x
def od(w:x4)(e:Nat)(f:cb):Prop:=∃szv gz a gr,ac w e dI [bT f.name,Δ f.k,szv,a]/\au .i64 am w gz szv f.sizes/\py w gr a f.funs
def py.ext{gr:Nat}{a:x3}{e:List cv}(h:py w gr a e)(f:Ext w w'):py w' gr a e:=by
 obtain⟨L,h1,j,p⟩:=h;exact⟨L,h1.ext f,j,λi ap x hi q=>(p i ap x hi q).ext f⟩
def od.ext{e:Nat}{f:cb}(h:od w e f)(a:Ext w w'):od w' e f:=by
 obtain⟨szv,gz,j,gr,h1,p,q⟩:=h;exact⟨szv,gz,j,gr,h1.ext a,p.ext a,q.ext a⟩
def N5(w:x4)(pl:Λ)(v:x3)(w':x4):Prop:=Ext w w'/\∃n e:Int,(gw pl=ν->v= .tuple #[.pointer ν,Δ n,Δ e])/\∀f,gw pl=σ f->∃a,v= .tuple #[Γ a,Δ n,Δ e]/\od w' a f
def N6{w0:x4}{g A:Nat}{so6:Option aE}{acc:Λ}{R bad:Int}{p:x3}{Q:x3->x4->Prop}(db:ae (λr=>w0.heap.size<=r) w0 w)(b2:ac w A dI [bT t,Δ k,szv,.slice ν 0 0])(dc:au .i64 am w gz szv acc)(h:bM w g B bu 100000 so6)(dd:∀s,so6=σ s->jY s/\s.toks.length<=100000/\(∀z∈acc,1<=z/\z<=av)/\acc.length<=100001)(fb:w0.heap.size<=g)(fc:w0.heap.size<=A)(de:aG .u8 w0 p pl)(fd:0<=R/\R<=4611686018427387904)(bj:∀v w' M bk,Ext w0 w'->so6.bind (cO (λ_ s=>da acc s) R.toNat [])=bk.map (λs=>(M,s))->
   (∀s,bk=σ s->s.toks=[]/\¬0<=bad/\s.big=false->v= .tuple #[Γ A,Δ (pl.length:Int),Δ 0]/\od w' A ⟨t,k,acc,M⟩)->
   ((∀s,bk=σ s->¬(s.toks=[]/\¬0<=bad/\s.big=false))->∃n e:Int,v= .tuple #[.pointer ν,Δ n,Δ e])->Q v w'):
  bU (Δ 0) w λb3 E df=>
   ct (α:=x3->x4->Prop) (λ(dg:x3)(N:x4)=>
    Split dg (ef N λJ=>
   V x8 (bP (Γ A)) J λaH=>
   V x8 (u6 dI aH 3) J λaI=>
   V x8 (u5 dD aI) J λbl=>
   V x8 (bP (Γ A)) J λdi=>
   V x8 (u6 dI di 2) J λdj=>
   V x8 (u5 aq dj) J λdk=>
   ai x8 za [(Γ g),dk] J λdl ak=>
    (Ext J ak\/bZ x8 (u5 dD aI) bl ak/\bZ x8 (u6 dI aH 3) aI ak/\bZ x8 (bP (Γ A)) aH ak/\True)/\
   aB x8 (Y8 dD 1 #[(0,dl)]) ak λdm S=>
    (Ext J S\/bZ x8 (u5 dD aI) bl S/\bZ x8 (u6 dI aH 3) aI S/\bZ x8 (bP (Γ A)) aH S/\True)/\
    aB x8 (Z3 #[dD,dD] dD #[bl,dm]) S λdn aZ=>
     V x8 (bP (Γ A)) aZ λdp=>
     V x8 (u6 dI dp 3) aZ λdq=>
     aB x8 (o9 dD dq dn) aZ λ(_:Unit)aK=>
     V x8 (aJ .add am false true b3 (Δ 1)) aK λdr=>
   df dr aK)
     (ct (α:=x4->Prop) (λ(P:x4)=>
   ct (α:=x4->Prop) (λ(G:x4)=>
    V x8 (bP (Γ g)) G λds=>
    V x8 (u6 bD ds 3) G λdt=>
    V x8 (u5 ah dt) G λdu=>
    V x8 (aJ .neq ah false true du (Δ 0)) G λdv=>
    Split dv (ef G λZ=>
     V x8 (bP (Γ g)) Z λdw=>
     V x8 (u6 bD dw 4) Z λdx=>
     V x8 (u5 ah dx) Z λdy=>
     V x8 (bP (Γ g)) Z λdz=>
     V x8 (u6 bD dz 3) Z λdA=>
     V x8 (u5 ah dA) Z λdC=>
     Q (.tuple #[(.pointer ν),dy,dC]) Z)
     (V x8 (bP (Γ g)) G λdE=>
    V x8 (u6 bD dE 5) G λdF=>
    V x8 (u5 ah dF) G λdG=>
    V x8 (aJ .neq ah false true dG (Δ 0)) G λdH=>
    Split dH (ef G λab=>
     V x8 (bP (Γ g)) ab λdJ=>
     V x8 (u6 bD dJ 6) ab λdK=>
     V x8 (u5 ah dK) ab λdL=>
     V x8 (bP (Γ g)) ab λdM=>
     V x8 (u6 bD dM 5) ab λdN=>
     V x8 (u5 ah dN) ab λdO=>
     Q (.tuple #[(.pointer ν),dL,dO]) ab)
     (V x8 (W9 #[cM] ah #[p]) G λdP=>
    Q (.tuple #[(Γ A),dP,(Δ 0)]) G))) λb4=>
   ct (α:=x3->x4->Prop) (λ(dQ:x3)(a1:x4)=>
    Split dQ (ai x8 nA [(Γ g),(Δ 11),(Δ bad)] a1 λfe b5=>
     b4 b5)
     (b4 a1)) λb6=>
   V x8 (bP (Γ g)) P λdS=>
   V x8 (u6 bD dS 3) P λdT=>
   V x8 (u5 ah dT) P λdU=>
   V x8 (aJ .eql ah false true dU (Δ 0)) P λdV=>
   Split dV (V x8 (aJ .geq ah false true (Δ bad) (Δ 0)) P λdW=>
   b6 dW P)
    (b6 (.bool false) P)) λb7=>
  ct (α:=x3->x4->Prop) (λ(dX:x3)(U:x4)=>
   Split dX (V x8 (bP (Γ g)) U λdY=>
    V x8 (u6 bD dY 0) U λdZ=>
    V x8 (u5 fo dZ) U λea=>
    V x8 (j9 fo ea (Δ 0)) U λeb=>
    V x8 (u6 cp eb 1) U λec=>
    V x8 (u5 ah ec) U λed=>
    ai x8 nA [(Γ g),(Δ 4),ed] U λff bm=>
    b7 bm)
    (b7 U)) λb8=>
  V x8 (bP (Γ g)) N λee=>
  V x8 (u6 bD ee 3) N λeg=>
  V x8 (u5 ah eg) N λeh=>
  V x8 (aJ .eql ah false true eh (Δ 0)) N λei=>
  Split ei (V x8 (bP (Γ g)) N λej=>
  V x8 (u6 bD ej 0) N λek=>
  V x8 (u5 fo ek) N λem=>
  V x8 (W9 #[fo] ah #[em]) N λeo=>
  V x8 (aJ .gtr ah false true eo (Δ 0)) N λep=>
  b8 ep N)
   (b8 (.bool false) N))) λb9=>
   V x8 (aJ .lss am false false b3 (Δ R)) E λer=>
   Split er (V x8 (bP (Γ g)) E λes=>
   V x8 (u6 bD es 3) E λet=>
   V x8 (u5 ah et) E λeu=>
   V x8 (aJ .eql ah false true eu (Δ 0)) E λev=>
   b9 ev E)
    (b9 (.bool false) E):=by
 have ca:A≠g:=λhe=>by
  obtain⟨al,ad,ag,bad,an,big,ao,told,sv,C,_⟩:=h9 h;subst he;exact absurd (ez C b2) Φ
 refine⟨λbn E=>∃i:Nat,bn=Δ (i:Int)/\i<=R.toNat/\ae (λr=>w0.heap.size<=r) w0 E/\∃O gr M so,∃H:af,ac E A dI [bT t,Δ k,szv,O]/\au .i64 am E gz szv acc/\py E gr O M/\(∀r,leadsTo O r->w0.heap.size<=r/\¬H r)/\¬H A/\(∀r,leads szv r->¬H r)/\(∀r,H r->w0.heap.size<=r)/\bM E g E.heap.size H 100001 so/\lr (λ_ s=>da acc s) R.toNat i so6 M so/\
   ∀s,so=σ s->jY s/\M.length+s.toks.length<=100000/\(∀z∈acc,1<=z/\z<=av)/\acc.length<=100001,λbn _=>R.toNat-(b0 bn).toNat,
  ⟨0,rfl,X8 _,db,_,0,[],so6,bu,b2,dc,⟨[],bg.nil _ _ _ _ _,rfl,λi h x hi=>by simp at hi⟩,λr y=>(fu y).elim,id,λr _ h=>h,λr h=>h.elim,h.base.up Ω,?_,λs I=>?_⟩,?_⟩
 .unfold lr;cases so6<;>rfl
 .obtain⟨ew,ey,a3,a4⟩:=dd s I;exact⟨ew,by simpa using ey,a3,a4⟩
 rintro _ E ⟨i,rfl,hi,a2,O,gr,M,so,H,cb,cc,cd,aM,bo,eA,cg,Y,bq,eB⟩;refine aW (λv N=>E=N/\((v= .bool true/\i<R.toNat/\∃s,so=σ s)\/(v= .bool false/\(so=ν\/i=R.toNat)))) ?_ ?_
 rotate_left
 .intro ax br;rw[aR,aj];refine⟨λch=>?_,λfg=>br _ _ ⟨rfl,.inr ⟨rfl,.inr Ω⟩⟩⟩;rw[lq Y];cases so with
  |none=>exact br _ _ ⟨rfl,.inr ⟨rfl,.inl rfl⟩⟩
  |some s=>exact br _ _ ⟨rfl,.inl ⟨rfl,Ω,s,rfl⟩⟩
 rintro _ _ ⟨rfl,⟨rfl,ch,s,rfl⟩|⟨rfl,eC⟩⟩
 .
  rw[bQ];intro J aw _ _;obtain⟨ci,fh,cj,ck⟩:=eB s rfl;have aN:=cb.ext aw;obtain⟨eD,cl,aO,cm⟩:=(Y.ext aw).low.shrink;have bt:=cc.ext aw;have eE:=cd.ext aw;rw[aP dI.p 3 aN rfl,aP dI.p 2 aN rfl];refine(N1 cl bt cj ck (λr y=>by obtain⟨c,C⟩:=cm r y;exact C.lt) ci).mono ?_;rintro _ ak _ ⟨bw,x,cn,ay,rfl,cq,eF,eH,fi,cr,eI⟩;have cu:∃c,ac J g bD c:=by obtain⟨al,ad,ag,bad,an,big,ao,told,sv,C,_⟩:=h9 cl;exact⟨_,C⟩
  have cw:∀r,(r=g\/eD r)->hl J r\/J.heap.size<=r:=λr y=>by
   rcases y with rfl|y
   .obtain⟨c,C⟩:=cu;exact .inl ⟨_,c,C,Φ,Φ⟩
   .obtain⟨c,C⟩:=cm r y;exact .inl ⟨_,c,C,Φ,Φ⟩
  have bx:=aN.aa ay λy=>y.elim (λhe=>ca he) λy=>bo (aO _ y);have st:∀{w':x4},ac w' A dI [bT t,Δ k,szv,O]->bZ x8 (u5 dD (.pointer (σ ⟨A,0+3,ν⟩))) O w'/\bZ x8 (u6 dI (Γ A) 3) (.pointer (σ ⟨A,0+3,ν⟩)) w'/\bZ x8 (bP (Γ A)) (Γ A) w'/\True:=λC=>
   ⟨l3 Ψ (C.cell (o:=0+3) rfl),js (by rw[aS dI.p rfl]),js (by rw[bY]),trivial⟩
  refine⟨.inr (st bx),?_⟩;refine iy (f:=eY) (a:=bw) dD.u a6.i Ω rfl rfl λfj fk S fm W eJ=>?_;refine⟨.inr (st (bx.ext W)),?_⟩;obtain⟨L,az,bz,bA⟩:=id eE;have eK:bg eY 4 a6 ak gr O L:=az.aa ay λr y I=>I.elim (λhe=>by
   obtain⟨c,C⟩:=cu;subst he;exact cQ az C Φ y) λI=>(aM r y).2 (aO r I)
  have bB:=eK.ext W;refine iV (f:=eY) (a:=bw) dD.u a6.i rfl bB (by simpa using eJ.sl) (cq.ext W).one Ω Ω λcz eL aZ a7 eM cA=>?_;have bC:=bx.ext W;have cB:=bC.aa cA λhe=>cQ bB bC Φ he;rw[bY,aS dI.p rfl];refine bp (g:=A) (o:=3) dD.i (eP a7.sl).1 (eP a7.sl).2 cB Ξ λaK cC fp bE=>?_;have bE:ac aK A dI [bT t,Δ k,szv,cz]:=bE;have fq:i<=4611686018427387904:=Ω
  rw[aL,wrap_i64 Ω Ω];have aA:ae (λr=>leadsTo O r\/r=A) S aK:=(cA.mono λr _ h=>.inl h).trans (cC.mono λr _ h=>.inr h);have cD:∀r,(leadsTo O r\/r=A)->∃e c,ac S r e c/\e≠am/\e≠ce/\e≠cp/\e≠bD:=λr y=>by
   rcases y with y|rfl
   .obtain⟨rfl,c,C⟩:=en bB y;exact⟨_,c,C,Φ,Φ,Φ,Φ⟩
   .exact⟨_,_,bC,Φ,Φ,Φ,Φ⟩
  have bF:∀r,(leadsTo O r\/r=A)->hl S r\/S.heap.size<=r:=λr y=>by
   obtain⟨e,c,C,bG,bH,_⟩:=cD r y;exact .inl ⟨e,c,C,bG,bH⟩
  have fs:=aw.size;have ft:=ay.size;have fv:=W.size;have fw:=aA.size;have cE:∀r,leadsTo O r->r<J.heap.size:=λr y=>by obtain⟨ad,ag⟩:=az.leads y;omega
  have aQ:∀r,r<J.heap.size->¬H r->¬cn r:=λr y eN bI=>(cr r bI).elim (λh=>eN (aO r h)) λh=>Ω
  have eO:∀r,leads szv r->r<J.heap.size:=λr y=>by obtain⟨ad,ag⟩:=bR bt y;omega
  refine⟨⟨i+1,rfl,Ω,?_,cz,eL,M++[x],_,cn,bE,eG ((eG bt ay cw).ext W) aA bF,⟨L++[bw],a7.aa cC λr y he=>?_,by rw[o4,o4,bz];rfl,λj cF eQ aC aT=>?_⟩,λr y=>?_,aQ A aN.lt bo,λr y=>aQ r (eO r y) (eA r y),λr y=>?_,?_,bq.step ch rfl λq K=>eH q K,λs' X=>?_⟩,by simp only[b0];omega⟩
  .refine (((a2.trans (aw.aa _)).trans (ay.mono λr _ h=>?_)).trans (W.aa _)).trans (aA.mono λr _ h=>?_)
   .exact h.elim (λh=>Ω) λh=>cg r (aO r h)
   .exact h.elim (λh=>(aM r h).1) λh=>Ω
  .have he:r=A:=he;subst he;exact cQ a7 cB Φ y
  .by_cases eR:j<L.length
   .rw[Y3 eR]at aC;rw[Y3 Ω]at aT;exact(((bA j cF eQ aC aT).dR ay cw).ext W).dR aA bF
   .rw[Y5 Ω]at aC;rw[Y5 Ω]at aT;have eS:j-L.length=0:=by have:=(x5.1 aC).1;simp at this;omega
    have eU:j-M.length=0:=Ω
    rw[eS]at aC;rw[eU]at aT;cases aC;cases aT;exact(cq.ext W).dR aA bF
  .rcases eM r y with h|h
   .exact⟨(aM r h).1,aQ r (cE r h) (aM r h).2⟩
   .exact⟨by have:=a2.size;omega,λbI=>by have:=eI r bI;omega⟩
  .rcases cr r y with h|h
   .exact cg r (aO r h)
   .have:=a2.size;omega
  .refine (eF.ext W).dR aA λr y=>.inl ?_;obtain⟨e,c,C,bG,bH,eV,eW⟩:=cD r y;refine⟨e,c,C,bG,bH,eV,eW,?_⟩;rcases y with y|rfl
   .exact aQ r (cE r y) (aM r y).2
   .exact aQ _ aN.lt bo
  .cases bJ:da acc s with
   |none=>rw[bJ]at X;cases X
   |some q=>
    obtain⟨fx,cG⟩:=q;rw[bJ]at X;cases X;obtain⟨fy,eX⟩:=N3 bJ;refine⟨eX ci,?_,cj,ck⟩;rw[o4];simp only[T1];omega
 .
  rw[aY];have bK:so6.bind (cO (λ_ s=>da acc s) R.toNat [])=so.map λs=>(M,s):=by
   unfold lr at bq;rw[bq];cases so with
   |none=>rfl
   |some s=>
    rcases eC with h|rfl
    .cases h
    .simp only[T2];rfl
  have row:∀{w':x4},ae (λr=>r=g) E w'->py w' gr O M/\ac w' A dI [bT t,Δ k,szv,O]/\au .i64 am w' gz szv acc:=λa8=>by
   obtain⟨al,ad,ag,bad,an,big,ao,told,sv,C,_⟩:=h9 Y;have cH:∀r,r=g->hl E r\/E.heap.size<=r:=λr y=>by subst y;exact .inl ⟨_,_,C,Φ,Φ⟩
   obtain⟨L,az,bz,bA⟩:=id cd;refine⟨⟨L,az.aa a8 λr y he=>?_,bz,λi h x hi eZ=>(bA i h x hi eZ).dR a8 cH⟩,cb.aa a8 λhe=>ca he,eG cc a8 cH⟩;have he:r=g:=he;subst he;exact cQ az C Φ y
  refine dh (λP=>ae (λr=>r=g) E P/\bM P g E.heap.size H 100001 (so.bind λs=>if s.toks=[]then σ s else ν)) ?_ ?_
  rotate_left
  .intro fz cI;refine aW (λv U=>E=U/\∃b:Bool,v= .bool b/\(b=true->∃s,so=σ s/\s.toks≠[])/\(b=false->∀s,so=σ s->s.toks=[])) ?_ ?_
   .rintro _ _ ⟨rfl,b,rfl,bL,bO⟩;cases b with
    |true=>
     obtain⟨s,rfl,ba⟩:=bL rfl;rw[bQ];obtain⟨cJ,cK,al,aV,gs,sv,L,cL,ad,ag,bV,an,big,ao,told,cN,bb,bc,aF,bd,cP,cR,cT,be,cU,cV,bf,cW,cX,cY⟩:=id Y;obtain⟨⟨bW,e0⟩,_⟩:=bd.g bb bc;obtain⟨x,fA,rfl⟩:∃x l,aV=x::l:=by
      cases aV with
      |nil=>exact absurd bf.symm (by simpa using ba)
      |cons x l=>exact⟨x,l,rfl⟩
     rw[aP bD.p 0 aF rfl];refine Da bW λb o e1=>?_;rw[aS cp.p rfl,aD Ψ (e1 1 _ rfl)];refine(oc Y Ω).mono ?_;rintro _ bm _ ⟨e2,e3⟩;refine cI _ ⟨e2,?_⟩;show bM bm g _ H 100001 (if s.toks=[]then σ s else ν);rw[if_neg ba];exact e3
    |false=>
     rw[aY];refine cI _ ⟨ae.refl _ _,?_⟩;cases so with
     |none=>exact Y
     |some s=>
      show bM _ g _ H 100001 (if s.toks=[]then σ s else ν);rw[if_pos (bO rfl s rfl)];exact Y
   .intro fB cZ;rw[lq Y];cases so with
    |none=>
     rw[R5,aY];exact cZ _ _ ⟨rfl,false,rfl,(λh=>by cases h),λ_ s I=>by cases I⟩
    |some s=>
     rw[R4,bQ];obtain⟨cJ,cK,al,aV,gs,sv,L,cL,ad,ag,bV,an,big,ao,told,cN,bb,bc,aF,bd,cP,cR,cT,be,cU,cV,bf,cW,cX,cY⟩:=id Y;obtain⟨⟨bW,e0⟩,_⟩:=bd.g bb bc;rw[aP bD.p 0 aF rfl,C9 bW,bS];have fD:aV.length=s.toks.length:=by rw[<-bf,u7]
     refine cZ _ _ ⟨rfl,_,rfl,λh=>⟨s,rfl,λaX=>?_⟩,λh s' X=>?_⟩
     .have:=of_decide_eq_true h;have cF:s.toks.length=0:=by rw[aX];rfl
      omega
     .cases X;have:=of_decide_eq_false h;exact c9 Ω
  rintro P ⟨c0,bX⟩;refine dh (λG=>ae (λr=>r=g) E G/\bM G g E.heap.size H 100001 (so.bind λs=>if s.toks=[]/\¬0<=bad then σ s else ν)) ?_ ?_
  rotate_left
  .intro fE c1;refine aW (λv a1=>P=a1/\∃b:Bool,v= .bool b/\(b=true->(so.bind λs=>if s.toks=[]/\¬0<=bad then σ s else ν)=ν)/\(b=false->(so.bind λs=>if s.toks=[]/\¬0<=bad then σ s else ν)=so.bind λs=>if s.toks=[]then σ s else ν)) ?_ ?_
   .rintro _ _ ⟨rfl,b,rfl,bL,bO⟩;cases b with
    |true=>
     rw[bQ];refine(oc bX Ω).mono ?_;rintro _ b5 _ ⟨e4,e5⟩;exact c1 _ ⟨c0.trans e4,by rw[bL rfl];exact e5⟩
    |false=>
     rw[aY];exact c1 _ ⟨c0,by rw[bO rfl];exact bX⟩
   .intro fF c2;rw[lq bX];cases K:(so.bind λs=>if s.toks=[]then σ s else ν)with
    |none=>
     rw[R5,aY];refine c2 _ _ ⟨rfl,false,rfl,(λh=>by cases h),λ_=>?_⟩;cases so with
     |none=>rfl
     |some s=>
      have K:(if s.toks=[]then σ s else ν)=ν:=K;show(if s.toks=[]/\¬0<=bad then σ s else ν)=(if s.toks=[]then σ s else ν);rw[K];split at K
      .cases K
      .rename_i ba;rw[if_neg (λh=>ba h.1)]
    |some s=>
     rw[R4,bQ,cS];refine c2 _ _ ⟨rfl,_,rfl,λh=>?_,λh=>?_⟩
     .have aX:=of_decide_eq_true h;cases so with
      |none=>rfl
      |some s=>exact if_neg λh=>h.2 aX
     .have aX:=of_decide_eq_false h;cases so with
      |none=>rfl
      |some s=>
       show(if s.toks=[]/\¬0<=bad then σ s else ν)=(if s.toks=[]then σ s else ν);by_cases I:s.toks=[]
       .rw[if_pos I,if_pos ⟨I,aX⟩]
       .rw[if_neg I,if_neg λh=>I h.1]
  rintro G ⟨c3,bh⟩;obtain⟨e6,e7,e8⟩:=row c3;have e9:ae (λr=>w0.heap.size<=r) w0 G:=a2.trans (c3.mono λr _ h=>by have h:r=g:=h;omega);have bi:Ext w0 G:=e9.ext λr y he=>Ω
  rw[qV bh];cases K:(so.bind λs=>if s.toks=[]/\¬0<=bad then σ s else ν)with
  |none=>
   rw[R5,W3,bQ];intro Z c4 _ _;obtain⟨al,ad,ag,bV,an,big,ao,told,sv,C,_⟩:=h9 (bh.ext c4);rw[aP bD.p 4 C rfl,aP bD.p 3 C rfl];refine bj _ _ M so (bi.trans c4) bK (λs I ap=>?_) λ_=>⟨_,_,rfl⟩;subst I;have K:(if s.toks=[]/\¬0<=bad then σ s else ν)=ν:=K;rw[if_pos ⟨ap.1,ap.2.1⟩]at K;cases K
  |some s=>
   rw[K]at bh;rw[R4,X3,aY];obtain⟨s',rfl,X⟩:∃s',so=σ s'/\(if s'.toks=[]/\¬0<=bad then σ s' else ν)=σ s:=by
    cases so with
    |none=>cases K
    |some s'=>exact⟨s',rfl,K⟩
   split at X
   .rename_i c5;cases X;obtain⟨cJ,cK,al,aV,gs,sv,L,cL,ad,ag,bV,an,big,ao,told,cN,bb,bc,aF,bd,cP,cR,cT,be,cU,cV,bf,cW,cX,cY⟩:=id bh;rw[aP bD.p 5 aF rfl,bN,aj];refine⟨λb1=>?_,λb1=>?_⟩
    .intro ab c6 _ _;have c7:=aF.ext c6;rw[aP bD.p 6 c7 rfl,aP bD.p 5 c7 rfl];refine bj _ _ M _ (bi.trans c6) bK (λcG c8 ap=>?_) λ_=>⟨_,_,rfl⟩;cases c8;rw[be.1 b1]at ap;cases ap.2.2
    .rw[aU cM.u (de.ext bi)];refine bj _ _ M _ bi bK (λcG c8 ap=>⟨rfl,szv,gz,O,gr,e7,e8,e6⟩) λfa=>?_;refine absurd ⟨c5.1,c5.2,?_⟩ (fa s rfl);cases C:s.big with
     |false=>rfl
     |true=>exact absurd (be.2 C) b1
   .cases X
def Zero(so:Option aE):Prop:=∀s,so=σ s->s.told=0/\s.toks.length<=100000
def Zero.big{so:Option aE}(h:Zero so)(b:Bool):Zero (so.map (a8 b)):=λs I=>by
 cases so with
 |none=>cases I
 |some s0=>cases I;exact h s0 rfl
def zero_num{lo hi:Int}{so:Option aE}(h:Zero so):Zero ((a7 lo hi so).map (·.2)):=λs I=>by
 cases so with
 |none=>cases I
 |some s0=>
  have I:U2 (λx=>x.2) (bd lo hi s0)=σ s:=I;cases a:bd lo hi s0 with
  |none=>rw[a]at I;cases I
  |some q=>
   obtain⟨n,s1⟩:=q;rw[a]at I;cases I;have e:=dK a;have:=e.1;obtain⟨h1,f⟩:=h s0 rfl;exact⟨e.eqs.1.trans h1,by show s1.toks.length<=100000;omega⟩
def N7{so:Option aE}(h:Zero so):Zero ((ju so).map (·.2)):=λs I=>by
 cases so with
 |none=>cases I
 |some s0=>
  have I:U2 (λx=>x.2) (dU s0)=σ s:=I;cases a:dU s0 with
  |none=>rw[a]at I;cases I
  |some q=>
   obtain⟨n,s1⟩:=q;rw[a]at I;cases I;obtain⟨J,U⟩:=sy a;obtain⟨h1,e⟩:=h s0 rfl;have:s0.toks.length=s1.toks.length+1:=by rw[J];rfl
   exact⟨by show s1.told=0;rw[U];exact h1,by show s1.toks.length<=100000;omega⟩
def N8{so:Option aE}{f:cb}(h:hZ ⟨(lex pl).1,0,false,[]⟩=so.map λs=>(f,s))(a:¬65536<pl.length):gw pl=so.bind λs=>if s.toks=[]/\(lex pl).2=true/\s.big=false then σ f else ν:=by
 unfold gw;rw[if_neg a,h]<;>cases so<;>rfl
def N9(a:pl.length<=60000):(∀t∈(lex pl).1,Bytes t/\t.length<=65536)/\(lex pl).1.length<=60000:=by
 refine⟨λt e=>?_,Y7 (qc pl.length pl (o6 _)) a⟩;obtain⟨_,f,j⟩:=sg pl.length pl (o6 _) t e;refine⟨λb h=>?_,Ω⟩;have:=of_decide_eq_true (f b h);omega
def Dk{p:x3}(an:aG .u8 w p pl)(cz:Bytes pl)(cA:pl.length<=60000):ai x8 Gs [p] w (N5 w pl):=by
 obtain⟨cB,dP⟩:=N9 cA;refine az func60 ?_;rw[aU cM.u an,bS,aj];refine⟨λh=>Ω,λ_=>?_⟩;refine(NT an cz Ω).mono ?_;rintro _ J _ ⟨aI,ao,bh,bad,rfl,bi,bj,cC,dQ,bl⟩;rw[bx,bz,aU cM.u (an.ext aI),dq (cs:=#[ao,Δ (pl.length:Int),Δ 4,Δ 0,Δ 0,Δ 0,Δ 0,Δ 0,.slice ν 0 0]) (by obtain⟨_,_,_,_,_,rfl,_⟩:=bi;kernel_rfl)];refine bk λg U dR aw W=>?_;have W:ac U g bD (gC ao (pl.length:Int) 4 0 0 0 0 0 (.slice ν 0 0)):=W;have dS:=aI.size;have dT:=aw.size;have dU:=W.lt;refine dh (λC=>Ext w C/\ae (λr=>r=g) U C/\∃X Y:Int,Y≠0/\ac C g bD (gC ao X Y 0 0 0 0 0 (.slice ν 0 0))) ?_ ?_
 rotate_left
 .intro ax S;have bm:=aI.trans aw;rw[cS,aj];refine⟨λ_=>?_,λ_=>S _ ⟨bm,ae.refl _ _,_,_,Ω,W⟩⟩;rw[bY,aS bD.p rfl];refine bp (g:=g) (o:=1) ah.i rfl rfl W (by simp[gC]) λdV cD dW cE=>?_;rw[bY,aS bD.p rfl];refine bp (g:=g) (o:=2) ah.i rfl rfl cE (by simp[gC]) λdX cF dY cG=>?_;have E:=cD.trans cF;exact S _ ⟨bm.then E λr j he=>by have he:r=g:=he;omega,E,bad,11,Ω,cG⟩
 rintro C ⟨bn,aJ,X,Y,cH,bo⟩;have z3:=aJ.size;have cI:bM C g C.heap.size bu 100000 (σ ⟨(lex pl).1,0,false,[]⟩):=by
  refine⟨o6 _,C,ao,bh,0,_,[],[],X,Y,0,0,0,0,0,rfl,ae.refl _ _,⟨_,bo⟩,bo,⟨⟨?_,λr j=>?_⟩,bg.nil _ _ _ _ _,rfl,λi h x hi=>by simp at hi⟩,λr j=>fu j,rfl,cH,Ξ,λ_=>rfl,trivial,bj,cB,rfl,?_⟩
  .refine (bi.aa (aw.aa λ_=>False) λ_ _ h=>h).aa aJ λr j he=>?_;have he:r=g:=he;obtain⟨c,O⟩:=bl r j;have:=O.lt;omega
  .obtain⟨c,O⟩:=bl r j;exact⟨c,(O.ext aw).aa aJ λhe=>by have he:r=g:=he;have:=O.lt;omega⟩
  .have:bh.length=(lex pl).1.length:=by rw[<-bj,u7]
   simp only[List.length_nil];omega
 have dZ:∀{R:x4}{cJ N:Nat}{H:af}{so:Option aE},bM R g cJ H N so->True:=λ_=>trivial;rw[dq (cs:=#[bT [],Δ 0,.slice ν 0 0,.slice ν 0 0]) Ψ];refine bk λA cK ea aK ay=>?_;have ay:ac cK A dI [bT [],Δ 0,.slice ν 0 0,.slice ν 0 0]:=ay;have eb:C.heap.size<=A:=Ω
 have ec:=ay.lt;have cL:A≠g:=Ω
 have K:∀{R Z:x4}{c:List x3},ac R A dI c->ae (λr=>r=g) R Z->ac Z A dI c:=λO E=>O.aa E λhe=>cL he;refine(Db (cI.ext aK)).mono ?_;rintro _ cN _ ⟨⟨aM,cP⟩,t,bq,rfl,ed,ee,cQ⟩;refine bw cp.i λbt ef eg cR cT=>?_;refine b1 (vs:=[bT t,Δ bq]) cp.i rfl rfl (by intro v bA;simp at bA;rcases bA with rfl|rfl<;>rfl) cT λcU cV eh bB=>?_;have aA:Ext cN cU:=cR.put cV Ω;have cW:=(K ay aM).ext aA;rw[aH cp.p 0 bB rfl,bY,aS dI.p rfl];refine bp (g:=A) (o:=0) c5.i rfl rfl cW Ξ λaN aO ei aQ=>?_;have aQ:ac aN A dI [bT t,Δ 0,.slice ν 0 0,.slice ν 0 0]:=aQ;have cX:=(cP.ext aA).new aO λr j=>by have j:r=A:=j;omega
 have z4:=aK.size;have z5:=aM.size;have ej:=aA.size;have bC:ac aN bt cp [bT t,Δ bq]:=bB.aa aO λhe=>by have he:bt=A:=he;omega
 rw[aH cp.p 0 bC rfl,nP c5.u,bS,aH cp.p 1 bC rfl];have cY:ae (λr=>w.heap.size<=r) w aN:=((((bn.aa _).trans (aK.aa _)).trans (aM.mono λr _ h=>by have h:r=g:=h;omega)).trans (aA.aa _)).trans (aO.mono λr _ h=>by have h:r=A:=h;omega);have up:∀{R Z:x4},ae (λr=>w.heap.size<=r) w R->ae (λr=>r=g) R Z->ae (λr=>w.heap.size<=r) w Z:=λh k=>h.trans (k.mono λr _ h=>by have h:r=g:=h;omega);refine(mW cX).mono ?_;rintro _ ek _ ⟨bE,ab⟩;have cZ:=up cY bE;have c0:=K aQ bE;generalize aT:(((ju (σ ⟨(lex pl).1,0,false,[]⟩)).map (·.2)).map (a8 (decide ((64:Int)<(t.length:Int)))))=aV at ab;refine(kD ab).mono ?_;rintro _ em _ ⟨⟨bF,c1⟩,n,en,rfl,bG,c2⟩;rw[bx,bz,bS];refine(mW c1).mono ?_;rintro _ eo _ ⟨bH,bI⟩;have c3:=up (up cZ bF) bH;have c4:=K (K c0 bF) bH;generalize bJ:((a7 1 4611686018427387904 aV).map (·.2)).map (a8 (decide (64<n)))=aX at bI;refine(kD bI).mono ?_;rintro _ ep _ ⟨⟨bK,bL⟩,most,er,rfl,hm,c6⟩;rw[bx,bz];generalize bN:(a7 1 4611686018427387904 aX).map (·.2)=aZ at bL;refine(kD bL).mono ?_;rintro _ es _ ⟨⟨bO,c7⟩,a1,eu,rfl,bP,c8⟩;rw[bx,bz,bS];refine(mW c7).mono ?_;rintro _ ev _ ⟨bR,bU⟩;generalize bV:((a7 0 4611686018427387904 aZ).map (·.2)).map (a8 (decide (256<a1)))=bW at bU;refine(kD bU).mono ?_;rintro _ ew _ ⟨⟨bX,c9⟩,k,ey,rfl,hk,ez⟩;rw[bx,bz,bS];refine(mW c9).mono ?_;rintro _ eA _ ⟨bZ,b2⟩;generalize b3:((a7 1 4611686018427387904 bW).map (·.2)).map (a8 (decide (2147483648<k)))=ad at b2;have da:=up (up (up (up (up c3 bK) bO) bR) bX) bZ;have db:=K (K (K (K (K c4 bK) bO) bR) bX) bZ;rw[bY,aS dI.p rfl];refine bp (g:=A) (o:=1) am.i rfl rfl db Ξ λb4 b5 eB a2=>?_;have a2:ac b4 A dI [bT t,Δ k,.slice ν 0 0,.slice ν 0 0]:=a2;have dc:=b2.new b5 λr j=>by have j:r=A:=j;omega
 have b6:ae (λr=>w.heap.size<=r) w b4:=da.trans (b5.mono λr _ h=>by have h:r=A:=h;omega);have eC:0<=n/\n<=4611686018427387904:=by
  cases B:a7 1 4611686018427387904 aV with
  |none=>have:=c2 B;omega
  |some q=>have ab:=bG q B;have:=mQ (n:=q.1) (s':=q.2) B;omega
 have eD:0<=most/\most<=4611686018427387904:=by
  cases B:a7 1 4611686018427387904 aX with
  |none=>have:=c6 B;omega
  |some q=>have ab:=hm q B;have:=mQ (n:=q.1) (s':=q.2) B;omega
 have dd:0<=a1/\a1<=4611686018427387904:=by
  cases B:a7 0 4611686018427387904 aZ with
  |none=>have:=c8 B;omega
  |some q=>have ab:=bP q B;have:=mQ (n:=q.1) (s':=q.2) B;omega
 have de:Zero (σ (⟨(lex pl).1,0,false,[]⟩:aE)):=λs I=>by cases I;exact⟨rfl,by simp only;omega⟩
 have df:Zero aV:=by rw[<-aT];exact(N7 de).big _
 have dg:Zero aX:=by rw[<-bJ];exact(zero_num df).big _
 have di:Zero aZ:=by rw[<-bN];exact zero_num dg
 have dj:Zero bW:=by rw[<-bV];exact(zero_num di).big _
 have b7:Zero ad:=by rw[<-b3];exact(zero_num dj).big _
 have eE:=b6.size;refine⟨λa6 P=>∃i:Nat,a6=Δ (i:Int)/\i<=n.toNat/\ae (λr=>w.heap.size<=r) w P/\∃szv gz acc so,ac P A dI [bT t,Δ k,szv,.slice ν 0 0]/\au .i64 am P gz szv acc/\(∀r,leads szv r->C.heap.size<=r)/\bM P g C.heap.size bu 100000 so/\lr (fV most) n.toNat i ad acc so/\∀s,so=σ s->s.told=0/\acc.length+s.toks.length<=100000/\∀z∈acc,1<=z/\z<=av,λa6 _=>n.toNat-(b0 a6).toNat,
  ⟨0,rfl,X8 _,b6,_,0,[],ad,a2,au.nil _ _ _ _,(λr j=>by obtain⟨a,aB,c,X,Y⟩:=j;cases X),dc,?_,λs I=>⟨(b7 s I).1,by simpa using(b7 s I).2,λz dk=>by cases dk⟩⟩,?_⟩
 .unfold lr;cases ad<;>rfl
 rintro _ P ⟨i,rfl,hi,ba,szv,gz,acc,so,b8,b9,ca,ag,bb,cb⟩;refine aW (λv dl=>P=dl/\((v= .bool true/\i<n.toNat/\∃s,so=σ s)\/(v= .bool false/\(so=ν\/i=n.toNat)))) ?_ ?_
 rotate_left
 .intro ax S;rw[aR,aj];refine⟨λcc=>?_,λeF=>S _ _ ⟨rfl,.inr ⟨rfl,.inr Ω⟩⟩⟩;rw[lq ag];cases so with
  |none=>exact S _ _ ⟨rfl,.inr ⟨rfl,.inl rfl⟩⟩
  |some s=>exact S _ _ ⟨rfl,.inl ⟨rfl,Ω,s,rfl⟩⟩
 rintro _ _ ⟨rfl,⟨rfl,cc,s,rfl⟩|⟨rfl,dm⟩⟩
 .rw[bQ];obtain⟨dn,eH,dp⟩:=cb s rfl;refine(kD ag).mono ?_;rintro _ eI _ ⟨⟨dr,ds⟩,z,eJ,rfl,bc,eK⟩;rw[bx,bz,bS];refine(mW ds).mono ?_;rintro _ eL _ ⟨dt,du⟩;have aC:=dr.trans dt;have cd:=K b8 aC;have dv:∀r,r=g->hl P r\/P.heap.size<=r:=λr j=>(kE ag r j).imp (λ⟨e,c,O,dw,dx,_⟩=>⟨e,c,O,dw,dx⟩) id;have ce:=eG b9 aC dv;rw[aP dI.p 2 cd rfl];refine et aq.u am.i rfl λa22 eM dy eN V dz=>?_;refine gP aq.u am.i rfl (ce.ext V) dz.ls Θ Θ λcg dA eO aD dC ci=>?_;have cj:=cd.ext V;have ck:=cj.aa ci λhe=>ch (ce.ext V) cj Φ he rfl;rw[bY,aS dI.p rfl];refine bp (g:=A) (o:=2) aq.i aD.ls.cells.1 aD.ls.cells.2 ck Ξ λcl cm eP be=>?_;have be:ac cl A dI [bT t,Δ k,cg,.slice ν 0 0]:=be;rw[aL,wrap_i64 Ω Ω];have cn:ae (λr=>leads szv r\/r=A) dy cl:=(ci.mono λr _ h=>.inl h).trans (cm.mono λr _ h=>.inr h);have cq:∀r,(leads szv r\/r=A)->C.heap.size<=r:=λr j=>j.elim (ca r) λj=>Ω
  have eQ:w.heap.size<=C.heap.size:=bn.size;have eR:=aC.size;have z22:=V.size;have eS:=ba.size;have eU:=ag.lt;refine⟨⟨i+1,rfl,Ω,((up ba aC).trans (V.aa _)).trans (cn.mono λr _ h=>by have:=cq r h;omega),cg,dA,acc++[z],((a7 1 most (σ s)).map (·.2)).map (a8 (decide (32<z))),be,br aD cm λr j he=>?_,λr j=>?_,(du.ext V).new cn cq,?_,λs' L=>?_⟩,by simp only[b0];omega⟩
  .have he:r=A:=he;subst he;exact ch aD ck Φ j rfl
  .rcases dC r j with h|h
   .exact ca r h
   .omega
  .refine bb.step cc ?_ λq B=>?_
   .show (U2 _ (bd 1 most s)).map _=_;unfold fV;cases B:bd 1 most s with
    |none=>rfl
    |some q=>
     have:=bc q B;obtain⟨cr,aF⟩:=q;subst this;rfl
   .unfold fV at B;cases M:bd 1 most s with
    |none=>rw[M]at B;cases B
    |some ak=>
     rw[M]at B;have:=bc ak M;obtain⟨cr,aF⟩:=ak;cases B;exact this
  .cases M:bd 1 most s with
   |none=>
    have L:(U2 (λx=>x.2) (bd 1 most s)).map (a8 (decide (32<z)))=σ s':=L;rw[M]at L;cases L
   |some ak=>
    have L:(U2 (λx=>x.2) (bd 1 most s)).map (a8 (decide (32<z)))=σ s':=L;rw[M]at L;have dD:=bc ak M;obtain⟨cr,aF⟩:=ak;cases L;have ct:=dK M;have ho:=(h4 M).1;have eV:=ct.1;refine⟨by show aF.told=0;rw[ct.eqs.1];exact dn,?_,λy al=>?_⟩
    .rw[o4];show acc.length+1+aF.toks.length<=100000;omega
    .rcases j0.1 al with al|al
     .exact dp y al
     .rw[j6.1 al,dD];exact⟨ho.1,by unfold av;have:=ho.2;simp only at*;omega⟩
 .rw[aY];have dE:ad.bind (cO (fV most) n.toNat [])=so.map λs=>(acc,s):=by
   unfold lr at bb;rw[bb];cases so with
   |none=>rfl
   |some s=>
    rcases dm with h|rfl
    .cases h
    .simp only[T2];rfl
  refine N6 ba b8 b9 ag (λs I=>?_) Ω Ω an dd λv w' dF dG bf dH dJ cu=>?_
  .obtain⟨dL,eW,a3⟩:=cb s I;exact⟨λ_=>by rw[dL];omega,Ω,a3,Ω⟩
  .have dM:(decide ((64:Int)<(t.length:Int)))=decide (64<t.length):=by rw[V7,decide_eq_true_eq,decide_eq_true_eq];omega
   rw[dM]at aT;have dN:=N4 (s0:=⟨(lex pl).1,0,false,[]⟩) aT.symm (λq B=>cQ q B) bJ.symm bG bN.symm hm bV.symm bP b3.symm hk dE dH;have Q:=N8 dN Ω;have cw:¬0<=bad↔(lex pl).2=true:=by
    rw[cC];cases (lex pl).2<;>simp
   cases dG with
   |none=>
    obtain⟨aB,e,rfl⟩:=cu λs I=>by cases I
    exact⟨bf,aB,e,λ_=>rfl,λf G=>by rw[Q]at G;cases G⟩
   |some s=>
    have Q:gw pl=if s.toks=[]/\(lex pl).2=true/\s.big=false then σ ⟨t,k,acc,dF⟩else ν:=Q;by_cases E:s.toks=[]/\(lex pl).2=true/\s.big=false
    .rw[if_pos E]at Q;obtain⟨rfl,dO⟩:=dJ s rfl ⟨E.1,cw.2 E.2.1,E.2.2⟩;exact⟨bf,_,_,(λG=>by rw[Q]at G;cases G),λf G=>⟨A,rfl,by rw[Q]at G;cases G;exact dO⟩⟩
    .rw[if_neg E]at Q;obtain⟨aB,e,rfl⟩:=cu λs' L ap=>by
      cases L;exact E ⟨ap.1,cw.1 ap.2.1,ap.2.2⟩
     exact⟨bf,aB,e,λ_=>rfl,λf G=>by rw[Q]at G;cases G⟩
def Dl{a b:Int}:ai x8 H0 [Δ a,Δ b] w λv w'=>v=Δ (min a b)/\Ext w w':=by
 refine az func202 ?_;rw[aR,aj];exact⟨λh=>⟨by congr 1;omega,Ext.refl _⟩,λh=>⟨by congr 1;omega,Ext.refl _⟩⟩
def Oa{s:jd}{x:cv}(h:gQ w s x)(O:(x.lines.map (·.1)).Nodup)(P:aG .i64 w aO t):ai x8 Is [.agg (eY s).toArray,aO,Δ k] w λv w'=>v=Δ (jQ x k t)/\Ext w w':=by
 obtain⟨⟨g1,Q⟩,⟨aq,R⟩,S,au,L,f,V,E⟩:=id h;refine az func247 ?_;refine bk λW J av z a=>?_;have a:ac J W a6 (eY s):=by
  obtain⟨_,_,_,X⟩:=c8 Q.ls;obtain⟨_,_,_,Y⟩:=c8 R.ls;obtain⟨_,_,_,_,_,Z,_⟩:=f.sl;simp only[eY,X,Y,Z]at a ⊢;exact a
 have aa:=f.ext z;have ab:L.length=x.lines.length:=by rw[<-E,u7]
 rw[aH a6.p 2 a rfl,aH a6.p 3 a rfl,e4 eg.u aa,S];refine b4.range L.length (λi j U=>Ext J U/\∃c:Int,j=Δ c/\min c k=lk x k i t) f.le ⟨Ext.refl _,x.other,rfl,(B9 x k t).symm⟩ ?_ ?_
 .rintro i _ U ad hi ⟨e,c,rfl,q⟩ ae;obtain⟨y,A⟩:=aF (l:=L) hi;obtain⟨gy,G⟩:=V y (x6 A);have B:=z.trans e;have af:x.lines[i]?=σ (y.t,y.c):=by rw[<-E,v8,A];rfl
  have H:=Cb (k:=k) O af t;refine bA Ω ?_;refine aW (λj I=>Ext J I/\∃c:Int,j=Δ c/\min c k=lk x k (i+1) t) ?_ ?_
  .rintro j I ag;rw[aL];exact ae _ _ ag
  intro ax K;have M:=f.ext B;rw[du rfl eg.u ce.i M hi,bE ce.p ce.i rfl (M.range A)];refine bw ce.i λak aw ay ah al=>?_;refine b1 (vs:=ob y) ce.i rfl rfl (wP G) al λam an aA N=>?_;have r:Ext U am:=ah.put an Ω;rw[aH ce.p 0 N rfl];refine(wO ((G.ls.ext B).ext r) ((P.ext B).ext r)).mono ?_;rintro _ aB _ ⟨rfl,C⟩;rw[aj];refine⟨λhe=>?_,λao=>?_⟩
  .rw[aH ce.p 1 (N.ext C) rfl];refine K _ _ ⟨(e.trans r).trans C,y.c,rfl,?_⟩;rw[H,if_pos he.symm]
  .refine K _ _ ⟨(e.trans r).trans C,c,rfl,?_⟩;rw[H,if_neg λhe=>ao he.symm,q]
 .rintro _ U ad ⟨e,c,rfl,q⟩;rw[ab,Ca]at q;refine b2 Ω ?_;refine Dl.mono ?_;rintro _ aC _ ⟨rfl,ap⟩;exact⟨by rw[q],(z.trans e).trans ap⟩
def Ob{cw:x3}(h:aG .i64 w cw l)(M:l.Nodup)(ag:l.length<=64):ai x8 Ir [cw] w λv w'=>Ext w w'/\∃g,au .i64 ah w' g v (bo l)/\∀r,leads v r->w.heap.size<=r:=by
 refine az func246 ?_;have N:∀i,i<=64->(((W5 i).map λ(v:Nat)=>(v:Int)).filter λv=>decide (v∈l)).length<=i:=λi _=>by
  have:=Q0 (λv=>decide (v∈l)) ((W5 i).map λ(v:Nat)=>(v:Int));simp at this;omega
 refine b4.range 64 (λi e J=>Ext w J/\∃g,au .i64 ah J g e (((W5 i).map λ(v:Nat)=>(v:Int)).filter λv=>decide (v∈l))/\∀r,leads e r->w.heap.size<=r) Ω ⟨Ext.refl _,0,au.nil _ _ _ _,λr y=>by obtain⟨a,n,c,O,ak⟩:=y;cases O⟩ ?_ ?_
 .rintro i e J k hi ⟨z,g,hm,C⟩ hk;refine bA Ω ?_;rw[aU aq.u (h.ext z)];have P:=N i Ω;generalize Q:(((W5 i).map λ(v:Nat)=>(v:Int)).filter λv=>decide (v∈l))=A at hm P;refine b4.range l.length (λj e U=>Ext w U/\∃g,au .i64 ah U g e (A++(if(i:Int)∈l.take j then[(i:Int)]else[]))/\∀r,leads e r->w.heap.size<=r) h.le ⟨z,g,by simpa using hm,C⟩ ?_ ?_
  .rintro j R U S V ⟨q,E,f,s⟩ W;obtain⟨x,G⟩:=aF (l:=l) V;refine bA Ω ?_;refine aW (λe B=>Ext w B/\∃g,au .i64 ah B g e (A++(if(i:Int)∈l.take (j+1)then[(i:Int)]else[]))/\∀r,leads e r->w.heap.size<=r) ?_ ?_
   .rintro al B X;rw[aL];exact W _ _ X
   intro ax L;have H:(i:Int)∈l.take (j+1)↔(i:Int)∈l.take j\/(i:Int)=x:=by
    rw[u9,G,l7,j0,j6]
   rw[bb aq.u am.i Ψ (h.ext q) G,bf,aj];refine⟨λhe=>?_,λY=>?_⟩
   .have Z:(i:Int)∉l.take j:=λhm=>by
     obtain⟨p,I⟩:=X5.1 hm;have aa:p<j:=by have:=(x5.1 I).1;rw[o7]at this;omega
     rw[Y0 aa,<-he]at I;have:=kw M I G;omega
    rw[if_neg Z,V3]at f;refine et (k:=.i64) an.u ah.i rfl λa3 ao B av K ab=>?_;refine gP an.u ah.i rfl (f.ext K) ab.ls Θ Θ λaw ac ay ad ae af=>?_;have aA:=q.size;have z3:=K.size;refine L _ _ ⟨(q.trans K).then af λr y he=>by have:=s r he;omega,ac,?_,λr y=>(ae r y).elim (s r) λh=>Ω⟩;rw[if_pos (H.2 (.inr he.symm))];exact ad
   .refine L _ _ ⟨q,E,?_,s⟩;have:((i:Int)∈l.take (j+1))=((i:Int)∈l.take j):=propext ⟨λap=>(H.1 ap).resolve_right λhe=>Y he.symm,λap=>H.2 (.inl ap)⟩;simp only[this];exact f
  .rintro R U S ⟨q,E,f,s⟩;rw[o8]at f;refine b2 Ω ?_;rw[aL];refine hk _ _ ⟨q,E,?_,s⟩;rw[List.range_succ,Z4,List.filter_append,Q];by_cases hm:(i:Int)∈l
   .rw[if_pos hm]at f;simpa[hm]using f
   .rw[if_neg hm]at f;simpa[hm]using f
 .rintro e J k ⟨z,g,hm,C⟩;rw[aR,aj];exact⟨λh=>Ω,λ_=>⟨z,g,hm,C⟩⟩
structure fy where
 aM:x3
 szv:x3
 aZ:x3
 sc:Λ
 cs:Λ
def dm(h:fy):List x3:=[h.aM,h.szv,h.aZ]
def pz(h:fy)(r:Nat):Prop:=leads h.aZ r\/leads h.aM r\/leads h.szv r
def fO(w:x4)(sizes:Λ)(h:fy):Prop:=(∃g,au .i64 ah w g h.aM h.sc)/\(∃g,au .i64 ah w g h.szv (bI sizes h.sc))/\∃g,au .i64 am w g h.aZ h.cs
def fO.ext{h:fy}(ap:fO w sizes h)(a:Ext w w'):fO w' sizes h:=by
 obtain⟨⟨g1,h1⟩,⟨e,f⟩,j,p⟩:=ap;exact⟨⟨g1,h1.ext a⟩,⟨e,f.ext a⟩,j,p.ext a⟩
def fO.one{h:fy}(ap:fO w sizes h):∀u∈dm h,u.oneCell'=true:=by
 obtain⟨⟨g1,h1⟩,⟨f,a⟩,j,e⟩:=ap;intro u hu;simp[dm]at hu;rcases hu with rfl|rfl|rfl
 .exact h1.ls.cells.2
 .exact a.ls.cells.2
 .exact e.ls.cells.2
def Dm{f:cb}{x:cv}{ad:jd}(h:gQ w ad x)(aE:fd N f)(bN:x∈f.funs)(cA:au .i64 am w gz sv f.sizes):
  ai x8 HX [.agg (eY ad).toArray,sv,Δ f.k] w λv w'=>Ext w w'/\∃c:fy,v= .agg (dm c).toArray/\c.sc=bo x.scope/\c.cs=(h5 f.sizes f.k x).2/\fO w' f.sizes c/\∀r,pz c r->w.heap.size<=r:=by
 obtain⟨af,cB,dP⟩:=aE.funs x bN;have bO:=sW af aE.sizes.2.1;have bP:=sV bO af.scope.1;have cC:(bo x.scope).length<=6:=by rw[bP.length_eq];exact cB
 have cD:=pq aE bN;have bQ:=BZ x.scope;obtain⟨⟨g1,aG⟩,⟨dQ,cE⟩,dR,dS,cF⟩:=id h;refine az func198 ?_;refine bk λbe J dT bS ag=>?_;have ag:ac J be a6 (eY ad):=by
  obtain⟨L,cG,_⟩:=cF;obtain⟨_,_,_,E⟩:=c8 aG.ls;obtain⟨_,_,_,K⟩:=c8 cE.ls;obtain⟨_,_,_,_,_,cH,_⟩:=cG.sl;simp only[eY,E,K,cH]at ag ⊢;exact ag
 refine bw aX.i λbT U dU bg bh=>?_;have bi:=bS.trans bg;rw[aH a6.p 0 (ag.ext bg) rfl];refine(Ob (aG.ls.ext bi) af.scope.1 Ω).mono ?_;rintro aM bV _ ⟨aI,gr,bj,cI⟩;rw[dq (cs:=#[aM,.slice ν 0 0,.slice ν 0 0]) (by obtain⟨_,_,_,rfl⟩:=c8 bj.ls;kernel_rfl)];refine bw aX.i λB dV cJ cK cL=>?_;refine b1 (vs:=[aM,.slice ν 0 0,.slice ν 0 0]) aX.i rfl rfl (by intro u hu;simp at hu;rcases hu with rfl|rfl;exact bj.ls.cells.2;rfl) cL λM cM dW X=>?_;have aJ:Ext bV M:=cK.put cM Ω;have bW:=(bi.trans aI).trans aJ;have V:=bj.ext aJ;have bl:=((ag.ext bg).ext aI).ext aJ;have bX:=(bh.ext aI).ext aJ;have dX:=bi.size;have z3:=aI.size;have dY:=bW.size;have dZ:=X.lt;have ea:B=bV.heap.size:=cJ;rw[aH aX.p 0 X rfl,aU an.u V.ls];have bY:∀v∈bo x.scope,0<=v/\v<f.sizes.length:=λv hm=>af.scope.2 v ((qF bO).1 hm);have bm:∀{w':x4},ae (λr=>r=B\/M.heap.size<=r) M w'->Ext w w':=λbn=>bW.then bn λr s he=>Ω
 have bq:(bI f.sizes (bo x.scope)).length=(bo x.scope).length:=by simp[bI]
 refine bU.range (bo x.scope).length (λi O=>ae (λr=>r=B\/M.heap.size<=r) M O/\∃szv gs,ac O B aX [aM,szv,.slice ν 0 0]/\au .i64 ah O gs szv ((bI f.sizes (bo x.scope)).take i)/\∀r,leads szv r->M.heap.size<=r) Ω
  ⟨ae.refl _ _,_,0,X,au.nil _ _ _ _,λr s=>by obtain⟨a,n,c,E,K⟩:=s;cases E⟩ ?_ ?_
 .rintro i O cN hi ⟨P,szv,gs,cO,ak,aK⟩ cP;obtain⟨v,bt⟩:=aF (l:=(bo x.scope)) hi;have eb:=bY v (x6 bt);have cQ:au .i64 ah O gr aM (bo x.scope):=br V P λr s I=>by
   rcases I with rfl|I
   .exact ch V X Φ s rfl
   .obtain⟨E,K⟩:=bR V s;omega
  refine bA Ω ?_;rw[bb an.u ah.i Ψ cQ.ls bt];intro ec ao _ _;have bZ:=cO.ext ao;have cR:f.sizes[v.toNat]?=σ (f.sizes.getD v.toNat 0):=by rw[u4,x7 Ω];rfl
  rw[aH aX.p 1 bZ rfl,fq (y:=v) (i:=v.toNat) Ω aq.u am.i Ψ (cA.ext ((bm P).trans ao)).ls cR];refine et (k:=.i64) an.u ah.i rfl λed ee cS ef av cT=>?_;refine⟨.inl av,?_⟩;have b0:=(ak.ext ao).ext av;refine gP an.u ah.i rfl b0 cT.ls Θ Θ λcU cV eg aP cW b3=>?_;have b5:=bZ.ext av;have b7:=b5.aa b3 λhe=>ch b0 b5 Φ he rfl;rw[aS aX.p rfl];refine bp (g:=B) (o:=1) an.i aP.ls.cells.1 aP.ls.cells.2 b7 Ξ λcX b8 eh cY=>?_;rw[aL];have cZ:ae (λr=>leads szv r\/r=B) cS cX:=(b3.mono λr _ h=>.inl h).trans (b8.mono λr _ h=>.inr h);have c0:=P.size;have ei:=(ao.trans av).size;refine cP _ ⟨((P.trans (ao.aa _)).trans (av.aa _)).trans (cZ.mono λr _ h=>h.elim (λh=>.inr (aK r h)) .inl),cU,cV,cY,?_,λr s=>(cW r s).elim (aK r) λh=>Ω⟩;have e:(bI f.sizes (bo x.scope)).take (i+1)=(bI f.sizes (bo x.scope)).take i++[f.sizes.getD v.toNat 0]:=by
   unfold bI;rw[<-List.map_take,<-List.map_take,u9,bt,l7,Z4];rfl
  rw[e];exact br aP b8 λr s he=>by
   have he:r=B:=he;subst he;exact ch aP b7 Φ s rfl
 rintro O cN ⟨P,szv,gs,bx,ak,aK⟩;rw[<-bq,o8]at ak;refine b2 Ω ?_;have ej:=bm P;have aQ:ca (bI f.sizes (bo x.scope)):=⟨by rw[bq];exact cC,me aE.sizes.2.2 bY⟩;have c1:=cD.small;rw[aH aX.p 1 bx rfl];refine(vx _ ak.ls aQ).mono ?_;rintro c2 C _ ⟨aR,b9⟩;have ek:=io aQ.2;have em:=l8 aQ.2;have en:aN (bI f.sizes (bo x.scope))<=4096:=c1;rw[gq b6.u b9];have aT:ae (λr=>r=B\/M.heap.size<=r) M C:=P.trans (aR.aa _);have aw:=bx.ext aR;have cc:=ak.ext aR;have c0:=P.size;have ep:=aR.size;have bz:au .i64 ah C gr aM (bo x.scope):=br V aT λr s I=>by
  rcases I with rfl|I
  .exact ch V X Φ s rfl
  .obtain⟨E,K⟩:=bR V s;omega
 have bB:ac C be a6 (eY ad):=bl.aa aT λI=>I.elim (λhe=>by subst he;exact absurd (ez bl X) Φ) λh=>by have:=bl.lt;omega
 have cd:=bX.aa aT λI=>I.elim (λhe=>by have:=bh.lt;omega) λh=>by have:=bX.lt;omega
 have ce:∀{w':x4},ae (λr=>r=B\/C.heap.size<=r) C w'->Ext w w':=λbn=>(bm aT).then bn λr s he=>by
  have he:r=B\/C.heap.size<=r:=he;omega
 have er:B<C.heap.size:=aw.lt;refine bU.range (bc (bI f.sizes (bo x.scope))).length (λq z=>ae (λr=>r=B\/C.heap.size<=r) C z/\∃aZ ay,ac z B aX [aM,szv,aZ]/\au .i64 am z ay aZ (((bc (bI f.sizes (bo x.scope))).take q).map λt=>jQ x f.k (pe x.scope (bo x.scope) t))/\∀r,leads aZ r->C.heap.size<=r) Ω
  ⟨ae.refl _ _,_,0,aw,au.nil _ _ _ _,λr s=>by obtain⟨a,n,c,E,K⟩:=s;cases E⟩ ?_ ?_
 .rintro q z c3 c4 ⟨G,aZ,ay,aA,aB,aY⟩ c5;obtain⟨t,a1⟩:∃t,(bc (bI f.sizes (bo x.scope)))[q]?=σ t:=⟨_,x7 c4⟩;have es:t.length=(bo x.scope).length:=by
   have c6:=o1 aQ.2 (i:=q) Ω;rw[c6]at a1;cases a1;rw[jp,bq]
  have bC:=ce G;have c7:al.rep (α:=List (Λ)) true (eo O.heap.size) bu z [c2] (bc (bI f.sizes (bo x.scope))):=al.aa b9 G λr s h I=>by
   rcases h with h|h
   .have h:O.heap.size<=r:=h;have:=bx.lt;rcases I with I|I<;>omega
   .exact h
  have Y:∀{Q:Nat}{R:x3}{S:Λ},au .i64 ah C Q R S->au .i64 ah z Q R S:=λhm=>br hm G λr s I=>by
   rcases I with rfl|I
   .exact ch hm aw Φ s rfl
   .obtain⟨E,K⟩:=bR hm s;omega
  have cg:=Y bz;have ci:ac z be a6 (eY ad):=bB.aa G λI=>I.elim (λhe=>by subst he;exact absurd (ez bB aw) Φ) λh=>by have:=bB.lt;omega
  refine bA Ω ?_;refine gL (α:=Λ) rfl rfl b6.u an.i Ψ c7 a1 λaO c9=>?_;have da:=dJ c9;rw[aH a6.p 0 ci rfl,aU aq.u (aG.ls.ext bC)];have z12:=G.size;refine b4.range x.scope.length (λp H a2=>Ext z a2/\∃go,au .i64 am a2 go H ((x.scope.take p).map λv=>t.getD ((bo x.scope).idxOf v) 0)/\∀r,leads H r->z.heap.size<=r) Ω ⟨Ext.refl _,0,au.nil _ _ _ _,λr s=>by obtain⟨a,n,c,E,K⟩:=s;cases E⟩ ?_ ?_
  .rintro p H a2 db dc ⟨Z,go,aC,cj⟩ dd;obtain⟨v,bD⟩:=aF (l:=x.scope) dc;have de:v∈bo x.scope:=bP.mem_iff.2 (x6 bD);refine bA Ω ?_;have df:=bC.trans Z;have dg:=aA.ext Z;have dh:=cg.ext Z;rw[bb aq.u am.i Ψ (aG.ls.ext df) bD,aH aX.p 0 dg rfl,aU an.u dh.ls];generalize ck:((x.scope.take p).map λv=>t.getD ((bo x.scope).idxOf v) 0)=A at aC;have eu:A.length=p:=by rw[<-ck,u7,o7];omega
   refine b4.range (bo x.scope).length (λj H a7=>Ext z a7/\∃go,au .i64 am a7 go H (A++if v∈(bo x.scope).take j then[t.getD ((bo x.scope).idxOf v) 0]else[])/\∀r,leads H r->z.heap.size<=r) Ω ⟨Z,go,by simpa using aC,cj⟩ ?_ ?_
   .rintro j di a7 dj dk ⟨W,bF,ab,aD⟩ dl;obtain⟨u,hu⟩:=aF (l:=(bo x.scope)) dk;have dn:=cg.ext W;refine bA Ω ?_;refine aW (λH bG=>Ext z bG/\∃go,au .i64 am bG go H (A++if v∈(bo x.scope).take (j+1)then[t.getD ((bo x.scope).idxOf v) 0]else[])/\∀r,leads H r->z.heap.size<=r) ?_ ?_
    .rintro ev bG dp;rw[aL];exact dl _ _ dp
    intro ax cl;have bH:v∈(bo x.scope).take (j+1)↔v∈(bo x.scope).take j\/v=u:=by
     rw[u9,hu,l7,j0,j6]
    rw[bb an.u ah.i Ψ dn.ls hu,bf,aj];refine⟨λhe=>?_,λbJ=>?_⟩
    .have dr:v∉(bo x.scope).take j:=λhm=>by
      obtain⟨ds,bK⟩:=X5.1 hm;have dt:ds<j:=by have:=(x5.1 bK).1;rw[o7]at this;omega
      rw[Y0 dt,<-he]at bK;have:=kw bQ bK hu;omega
     rw[if_neg dr,V3]at ab;have du:t[j]?=σ (t.getD ((bo x.scope).idxOf v) 0):=by
      have:(bo x.scope).idxOf v=j:=qH bQ (by rw[hu,he]);rw[this,u4,x7 (show j<t.length by omega)];rfl
     rw[bb an.u ah.i Ψ (da.ext W) du];refine et aq.u am.i rfl λew ey eA eB bL dv=>?_;refine gP aq.u am.i rfl (ab.ext bL) dv.ls Θ Θ λeC dw eD dx dy dz=>?_;have eE:=W.size;have eF:=bL.size;refine cl _ _ ⟨(W.trans bL).then dz λr s he=>by have:=aD r he;omega,dw,?_,λr s=>(dy r s).elim (aD r) λh=>Ω⟩;rw[if_pos (bH.2 (.inr he.symm))];exact dx
    .refine cl _ _ ⟨W,bF,?_,aD⟩;have:(v∈(bo x.scope).take (j+1))=(v∈(bo x.scope).take j):=propext ⟨λap=>(bH.1 ap).resolve_right λhe=>bJ he.symm,λap=>bH.2 (.inl ap)⟩;simp only[this];exact ab
   .rintro di a7 dj ⟨W,bF,ab,aD⟩;rw[o8,if_pos de]at ab;refine b2 Ω ?_;rw[aL];refine dd _ _ ⟨W,bF,?_,aD⟩;rw[u9,bD,l7,Z4,ck];exact ab
  .rintro H a2 db ⟨Z,go,aC,cj⟩;rw[o8]at aC;refine b2 Ω ?_;intro eH cm _ _;have a8:=Z.trans cm;have dA:=aA.ext a8;have dC:=ci.ext a8;rw[aH aX.p 2 dA rfl,bE a6.p a6.i rfl dC.range];refine(Oa (h.ext (bC.trans a8)) af.lines.1 (aC.ls.ext cm)).mono ?_;rintro _ eI _ ⟨rfl,bM⟩;refine⟨.inl bM,?_⟩;refine et aq.u am.i rfl λeJ eK dD eL cn dE=>?_;refine⟨.inl (bM.trans cn),?_⟩;have ba:=(a8.trans bM).trans cn;have cp:=aB.ext ba;refine gP aq.u am.i rfl cp dE.ls Θ Θ λdF dG eM bd dH cq=>?_;have cr:=aA.ext ba;have ct:=cr.aa cq λhe=>ch cp cr Φ he rfl;rw[aS aX.p rfl];refine bp (g:=B) (o:=2) aq.i bd.ls.cells.1 bd.ls.cells.2 ct Ξ λdI cu eN dK=>?_;rw[aL];have dL:ae (λr=>leads aZ r\/r=B) dD dI:=(cq.mono λr _ h=>.inl h).trans (cu.mono λr _ h=>.inr h);have eO:=ba.size;refine c5 _ ⟨(G.trans (ba.aa _)).trans (dL.mono λr _ h=>h.elim (λh=>.inr (aY r h)) .inl),dF,dG,dK,?_,λr s=>(dH r s).elim (aY r) λh=>Ω⟩;rw[u9,a1,l7,Z4];exact br bd cu λr s he=>by
    have he:r=B:=he;subst he;exact ch bd ct Φ s rfl
 .rintro z c3 ⟨G,aZ,ay,aA,aB,aY⟩;rw[o8]at aB;refine b2 Ω ?_;have Y:∀{Q:Nat}{R:x3}{S:Λ},au .i64 ah C Q R S->au .i64 ah z Q R S:=λhm=>br hm G λr s I=>by
   rcases I with rfl|I
   .exact ch hm aw Φ s rfl
   .obtain⟨E,K⟩:=bR hm s;omega
  let c:fy:=⟨aM,szv,aZ,bo x.scope,(h5 f.sizes f.k x).2⟩;have dM:fO z f.sizes c:=⟨⟨gr,Y bz⟩,⟨gs,Y cc⟩,ay,aB⟩;rw[bE aX.p aX.i rfl (show z.rangeAt B 0 (dm c)from aA.range)];have cw:=cd.aa G λI=>I.elim (λhe=>by have:=bh.lt;omega) λh=>by have:=cd.lt;omega
  refine b1 (vs:=dm c) aX.i rfl rfl dM.one cw λdN cz eP dO=>?_;rw[fb aX.p aX.i rfl dO.range];have aV:∀{Q:Nat}{R:x3}{S:Λ}{e:r9},e≠aX->au .i64 e z Q R S->au .i64 e dN Q R S:=λbJ hm=>br hm cz λr s he=>by
   have he:r=bT:=he;exact ch hm cw bJ s he
  refine⟨(ce G).then cz λr s he=>by have he:r=bT:=he;have:=bS.size;omega,c,rfl,rfl,rfl,⟨⟨gr,aV Φ (Y bz)⟩,⟨gs,aV Φ (Y cc)⟩,ay,aV Φ aB⟩,λr s=>?_⟩;rcases s with s|s|s
  .have:=aY r s;omega
  .have:=cI r s;omega
  .have:=aK r s;omega
def Dn{h:fy}{g:Nat}(e:fO w sizes h)(a:ac w' g aX (x3.agg (dm h).toArray).cells.toList):ac w' g aX (dm h):=by
 obtain⟨⟨g1,h1⟩,⟨s,f⟩,x,j⟩:=e;obtain⟨_,_,_,p⟩:=c8 h1.ls;obtain⟨_,_,_,q⟩:=c8 f.ls;obtain⟨_,_,_,r⟩:=c8 j.ls;simp only[dm,p,q,r]at a ⊢;exact a
def Oc{a b:fy}(R:fO w sizes a)(S:fO w sizes b)(Y:jt a.sc)(Z:jt b.sc):ai x8 zm [.agg (dm a).toArray,.agg (dm b).toArray] w λv w'=>v= .bool (decide (db a.sc<db b.sc))/\Ext w w':=by
 obtain⟨⟨ga,W⟩,_⟩:=id R;obtain⟨⟨av,aa⟩,_⟩:=id S;have I:=(wa Y Z).1;refine az func200 ?_;refine bk λg1 J aw ab L=>?_;refine bk λac U ax X M=>?_;have L:=(Dn R L).ext X;have M:=Dn S M;have r:=ab.trans X;have s:=W.ls.ext r;have B:=aa.ls.ext r;have z:∀{w':x4},Ext U w'->∀{K:x3->Prop},V x8 (u6 aX (Γ g1) 0) w' (λt=>V x8 (u5 an t) w' K)=K a.aM:=λe K=>by
  rw[aH aX.p 0 (L.ext e) rfl]
 have C:∀{w':x4},Ext U w'->∀{K:x3->Prop},V x8 (u6 aX (Γ ac) 0) w' (λt=>V x8 (u5 an t) w' K)=K b.aM:=λe K=>by
  rw[aH aX.p 0 (M.ext e) rfl]
 rw[z (Ext.refl _),aU an.u s,C (Ext.refl _),aU an.u B,bN,aj];refine⟨λad=>?_,λae=>?_⟩
 .rw[z (Ext.refl _),aU an.u s,C (Ext.refl _),aU an.u B,aR];refine⟨?_,r⟩;congr 1;rw[V7,decide_eq_true_eq,decide_eq_true_eq,I];exact⟨λh=>.inl Ω,λh=>by rcases h with h|h<;>omega⟩
 have af:a.sc.length=b.sc.length:=by have:=X4.1 ae;omega
 rw[z (Ext.refl _),aU an.u s];refine b4.range a.sc.length (λi _ N=>Ext U N/\∀(j:Nat)(x y:Int),j<i->a.sc[j]?=σ x->b.sc[j]?=σ y->x=y) W.ls.le ⟨Ext.refl _,λj x y ag=>Ω⟩ ?_ ?_
 .rintro i _ N k hi ⟨O,E⟩ hk;obtain⟨x,e⟩:=aF (l:=a.sc) hi;obtain⟨y,G⟩:=aF (l:=b.sc) (i:=i) Ω;have f:fY a.sc b.sc=fY (a.sc.drop i) (b.sc.drop i):=ta E Ω Ω;have ak:a.sc.drop i=x::a.sc.drop (i+1):=by rw[W0 hi,(x5.1 e).2]
  have al:b.sc.drop i=y::b.sc.drop (i+1):=by rw[W0 (show i<b.sc.length by omega),(x5.1 G).2]
  rw[ak,al]at f;simp only[fY]at f;refine bA Ω ?_;intro ay am _ _;have q:=O.trans am;rw[z q,bb an.u ah.i Ψ (s.ext q) e,C q,bb an.u ah.i Ψ (B.ext q) G,bN,aj];refine⟨λad=>?_,λhe=>?_⟩
  .intro aA ao _ _;have A:=q.trans ao;rw[z A,bb an.u ah.i Ψ (s.ext A) e,C A,bb an.u ah.i Ψ (B.ext A) G,aR];refine⟨?_,r.trans A⟩;congr 1;rw[V7,decide_eq_true_eq,decide_eq_true_eq,I,f];by_cases H:x<y
   .rw[if_pos H];exact⟨λ_=>.inr ⟨af,Ω⟩,λ_=>H⟩
   .rw[if_neg H,if_pos (show y<x by omega)];exact⟨λh=>absurd h H,λh=>by rcases h with h|h<;>omega⟩
  .rw[aL];refine hk _ _ ⟨q,λj ap aq ag P Q=>?_⟩;by_cases au:j=i
   .subst au;rw[e]at P;rw[G]at Q;cases P;cases Q;exact X4.1 he
   .exact E j ap aq Ω P Q
 .rintro _ N k ⟨O,E⟩;rw[aR,aj];refine⟨λh=>Ω,λ_=>⟨?_,r.trans O⟩⟩;congr 1;symm;rw[decide_eq_false_iff_not,I];have f:fY a.sc b.sc=fY (a.sc.drop a.sc.length) (b.sc.drop a.sc.length):=ta E (o6 _) Ω;rw[List.drop_length,show b.sc.drop a.sc.length=[]from List.drop_eq_nil_of_le Ω]at f;rw[f];simp only[fY];omega
def dx(h:fy):cJ:=(h.sc,h.cs)
def kF(w:x4)(B g:Nat)(v:x3)(sizes:Λ)(L:List fy):Prop:=bg dm 3 aX w g v L/\(∀h∈L,fO w sizes h/\∀r,pz h r->B<=r)/\(∀(i j:Nat)x y,L[i]?=σ x->L[j]?=σ y->i≠j->∀r,leads x.aZ r->¬leads y.aZ r)/\∀r,leadsTo v r->B<=r
def mX{h:fy}(y:fO w sizes h)(q:ae S w w')(s:∀r,S r->(∃e c,ac w r e c/\e≠ah/\e≠am)\/w.heap.size<=r\/((∃c,ac w r am c)/\¬leads h.aZ r)):fO w' sizes h:=by
 obtain⟨⟨g1,h1⟩,⟨z,A⟩,B,j⟩:=y;have x:∀{g:Nat}{v:x3}{l:Λ},au .i64 ah w g v l->au .i64 ah w' g v l:=λhm=>br hm q λr a I=>by
  rcases s r I with⟨e,c,f,p,_⟩|C|⟨⟨c,f⟩,_⟩
  .exact ch hm f (λhe=>p he.symm) a rfl
  .obtain⟨E,F⟩:=bR hm a;omega
  .exact ch hm f Φ a rfl
 refine⟨⟨g1,x h1⟩,⟨z,x A⟩,B,br j q λr a I=>?_⟩;rcases s r I with⟨e,c,f,_,p⟩|C|⟨_,G⟩
 .exact ch j f (λhe=>p he.symm) a rfl
 .obtain⟨E,F⟩:=bR j a;omega
 .exact G a
def kF.ext{g:Nat}{L:List fy}(h:kF w B g v sizes L)(a:Ext w w'):kF w' B g v sizes L:=⟨h.1.ext a,λx e=>⟨(h.2.1 x e).1.ext a,(h.2.1 x e).2⟩,h.2.2⟩
section
variable{α:Type}{f:α->List x3}{k:Nat}{P:V1}{w:x4}{e:r9}{g:Nat}{v:x3}{L:List α}
def Od{M:List α}(h:bg f k e w g v L)(j:L.map f=M.map f):bg f k e w g v M:=by
 have p:L.length=M.length:=by have:=congrArg Q4 j;simpa using this
 have hm:L.flatMap f=M.flatMap f:=by rw[List.flatMap_def,List.flatMap_def,j]
 refine⟨by rw[<-p,<-hm];exact h.1,λa q=>?_⟩;obtain⟨b,r,he⟩:=l9.1 (show f a∈L.map f by rw[j];exact l9.2 ⟨a,q,rfl⟩);rw[<-he];exact h.2 b r
def Do{t:r9}{b l h':Nat}{low high:Option x3}(r:P.underlying t=σ (.slice e))(hi:aQ P e k b z)(h:bg f k e w g v L)(h1:lX low l)(s:lY high L.length h')(p:l<=h')(ap:h'<=L.length)(x:∀q,(∀w',bg f k e w' g v L->cd w' k q ((L.drop l).take (h'-l)).length (((L.drop l).take (h'-l)).flatMap f))->K q):V P (U1 t v low high ν) w K:=by
 have y:=h.sl;obtain⟨_,B,o,base,cap,rfl,C,_⟩:=y;rw[hX r hi h1 s fG p Ω (o6 _)];refine x _ λw' j=>?_;have:=cd.part (l:=l) (h:=h') (m:=cap) j.sl p ap Ω (o6 _);rw[sM l j.2,qy (h'-l) (λa A=>j.2 a (List.mem_of_mem_drop A))]at this;have el:((L.drop l).take (h'-l)).length=h'-l:=by rw[o7,List.length_drop];omega
 rw[el];exact this
def wR{t O:r9}{b:Nat}{x:x3}{M:List α}{K:x3->x4->Prop}(A:P.underlying t=σ (.slice e))(hi:aQ P e k b z)(G:z.cells.size=k)(h:bg f k e w g v L)(H:cd w k x M.length (M.flatMap f))(Q:∀a∈M,(f a).length=k)(h1:∀a∈M,∀u∈f a,u.oneCell'=true)(B:(L.length+M.length)*b<=140737488355328)(I:L.length+M.length<=9223372036854775807)(J:∀j p w',bg f k e w' p j (L++M)->(∀r,leadsTo j r->leadsTo v r\/w.heap.size<=r)->ae (λr=>leadsTo v r) w w'->K j w'):aB P (Z3 #[t,t] O #[v,x]) w K:=by
 have N:∀u∈M.flatMap f,u.oneCell'=true:=λu hu=>by
  obtain⟨a,R,hu⟩:=List.mem_flatMap.1 hu;exact h1 a R u hu
 have C:∀j p w',bX w' p e k j (L.length+M.length) (L.flatMap f++M.flatMap f)->bg f k e w' p j (L++M):=λj p w' hm=>⟨by simpa using hm,λb B=>by
  rcases j0.1 B with h'|h'
  .exact h.2 b h'
  .exact Q b h'⟩
 rcases h.1.2 with⟨q,S⟩|⟨cap,cs,q,T,_⟩
 .have hm:bX w w.heap.size e k v L.length (L.flatMap f):=⟨h.1.1,.inl ⟨q,S⟩⟩;subst q;refine nJ A A hi G hm H N (by simpa using B) (by simpa[maxLen]using I) λj p w' E s F=>J j p w' (C _ _ _ s) (λr y=>.inr ?_) (F.mono λr y h=>Ω);have:=((C _ _ _ s).leads y).1;omega
 .refine nJ A A hi G h.1 H N (by simpa using B) (by simpa[maxLen]using I) λj p w' E s F=>J j p w' (C _ _ _ s) (λr y=>?_) (F.mono λr y h=>⟨_,_,_,q,h.symm⟩);have:=((C _ _ _ s).leads y).1;rcases E with E|E
  .exact .inl ⟨_,_,_,q,by show g=r;omega⟩
  .exact .inr Ω
def Oe{t:r9}{b:Nat}{K:x3->x4->Prop}(a:P.underlying t=σ (.slice e))(hi:aQ P e k b z)(h:∀v g w',g=w.heap.size->Ext w w'->bg f k e w' g v []->K v w'):aB P (Y8 t 0 #[]) w K:=
 jK a hi Ω (cs:=#[]) (by simp[Instr.fill]) λg w' j p q=>by
  exact h _ g w' j p ⟨by simpa using bX.full (k:=k) (n:=0) q Ξ (by simp[maxLen]),λc r=>by cases r⟩
end
def wS{α:Type}{A B:List α}{s:Nat}{a:α}(I:s<B.length)(e:A[s]?=σ a):(A.take s++B.drop s).set s a=A.take (s+1)++B.drop (s+1):=by
 have f:=(x5.1 e).1;have h1:(A.take s).length=s:=by rw[o7];omega
 rw[S1 _ _ Ω,h1,T2,W0 I,List.set_cons_zero,u9,e,l7,Y6];rfl
def Dp{α:Type}{A B:List α}{s:Nat}(I:s<=A.length):(A.take s++B.drop s)[s]?=B[s]?:=by
 have h1:(A.take s).length=s:=by rw[o7];omega
 rw[Y5 Ω,h1,T2,S5,Nat.add_zero]
theorem Dq{g:cJ}:∀{l:List cJ}{i:Nat},(∀p<i,∀x,l[p]?=σ x->db x.1<db g.1)->i<=l.length->(∀x,l[i]?=σ x->¬db x.1<db g.1)->hF g l=l.take i++g::l.drop i
 |[],i,_,a,_=>by
  have:i=0:=by simpa using a
  subst this;rfl
 |x::l,0,_,_,e=>by
  unfold hF;rw[if_neg (e x rfl)];rfl
 |x::l,i+1,h1,a,e=>by
  unfold hF;rw[if_pos (h1 0 Ω x rfl),Dq (i:=i) (λp h y f=>h1 (p+1) Ω y f) (by simpa using a) (λy f=>e y f)];rfl
def Of{g:Nat}{L:List fy}{h:fy}{s:Nat}{K:Unit->x4->Prop}(f:kF w B g v sizes L)(G:L[j]?=σ h)(I:s<h.cs.length)(Y:∀w',ae (λr=>leads h.aZ r) w w'->(∀r,leads h.aZ r->∃c,ac w r am c)->kF w' B g v sizes (L.set j {h with cs:=h.cs.set s n})->K () w'):
  V x8 (j9 aq h.aZ (Δ (s:Int))) w λt=>aB x8 (o9 am t (Δ n)) w K:=by
 obtain⟨h1,P,Q,Z⟩:=f;have N:=(x5.1 G).1;obtain⟨R,ab⟩:=P h (x6 G);obtain⟨_,_,S,H⟩:=id R;have J:∀r,leads h.aZ r->∃c,ac w r am c:=λr f=>by
  obtain⟨rfl,_⟩:=bR H f;obtain⟨_,⟨ad,_⟩|⟨cap,full,_,C,_⟩⟩:=H
  .obtain⟨a,n,c,e,_⟩:=f;rw[ad]at e;cases e
  .exact⟨_,C⟩
 have af:∀r,r=S->leads h.aZ r:=λr he=>by
  subst he;obtain⟨_,⟨_,ay⟩|⟨cap,full,e,C,_⟩⟩:=H
  .omega
  .exact⟨_,_,_,e,rfl⟩
 rw[h0 rfl aq.u am.i H I];refine h2 am.i H I λw' E az ag=>?_;have E:=E.mono (T:=λr=>leads h.aZ r) λr _ he=>af r he;refine Y w' E J ⟨?_,λx A=>?_,λp q x y A ah ai r aj ak=>?_,Z⟩
 .refine Od (h1.aa E λr f I=>?_) ?_
  .obtain⟨c,C⟩:=J r I;exact cQ h1 C Φ f
  .rw[U8];symm;refine Y9 λp=>?_;rw[X1,v8];by_cases z:j=p
   .subst z;rw[if_pos rfl,if_pos (by simpa using N),G];rfl
   .rw[if_neg z]
 .have al:x={h with cs:=h.cs.set s n}\/∃p,p≠j/\L[p]?=σ x:=by
   obtain⟨p,z⟩:=X5.1 A;rw[X1]at z;by_cases F:j=p
   .subst F;rw[if_pos rfl,if_pos N]at z;exact .inl (Z0 z).symm
   .rw[if_neg F]at z;exact .inr ⟨p,λh=>F h.symm,z⟩
  rcases al with rfl|⟨p,an,z⟩
  .obtain⟨⟨g1,U⟩,⟨ao,W⟩,_⟩:=R;refine⟨⟨⟨g1,br U E λr f I=>?_⟩,⟨ao,br W E λr f I=>?_⟩,S,ag⟩,ab⟩
   .obtain⟨c,C⟩:=J r I;exact ch U C Φ f rfl
   .obtain⟨c,C⟩:=J r I;exact ch W C Φ f rfl
  .obtain⟨ap,au⟩:=P x (x6 z);refine⟨mX ap E λr f=>.inr (.inr ⟨J r f,λO=>Q p j x h z G an r O f⟩),au⟩
 .have X:∀{p:Nat}{x:fy},(L.set j {h with cs:=h.cs.set s n})[p]?=σ x->∃M,L[p]?=σ M/\M.aZ=x.aZ:=λ{p x}A=>by
   rw[X1]at A;by_cases F:j=p
   .subst F;rw[if_pos rfl,if_pos N]at A;cases A;exact⟨h,G,rfl⟩
   .rw[if_neg F]at A;exact⟨x,A,rfl⟩
  obtain⟨M,O,ex⟩:=X A;obtain⟨av,aw,ax⟩:=X ah;exact Q p q M av O aw ai r (by rw[ex];exact aj) (by rw[ax];exact ak)
def lu(f:cb)(j:Nat):List cJ:=(((ft f).take j).filter fH).foldl (λl g=>hF g l) []
def Dr{f:cb}{x:cJ}(h:(ft f)[j]?=σ x):lu f (j+1)=if fH x then hF x (lu f j)else lu f j:=by
 unfold lu;rw[u9,h,l7,List.filter_append,List.foldl_append];cases I:fH x with
 |true=>rw[List.filter_cons_of_pos I];rfl
 |false=>rw[List.filter_cons_of_neg (by simp[I])];rfl
def Og(f:cb):lu f (ft f).length=fI f:=by unfold lu fI;rw[o8]
theorem Ds(g:cJ):∀l,(hF g l).length=l.length+1
 |[]=>rfl
 |h::l=>by
  unfold hF;split
  .rw[Z2,Ds g l,Z2]
  .rfl
def Oh{f:cb}(e:j<=(ft f).length):(lu f j).length<=j:=by
 induction j with
 |zero=>simp[lu]
 |succ j a=>
  have:=a Ω;rw[Dr (x:=(ft f)[j]) (x7 Ω)];split
  .rw[Ds];omega
  .omega
def Oi{g:Nat}{l:x3}{f:cb}{L:List fy}{Q:x3->x4->Prop}(aA:fd N f)(A:kF w B g l f.sizes L)(aC:L.map dx=ft f)(bN:∀out w' go z,Ext w w'->bg dm 3 aX w' go out z->(∀h∈z,h∈L)->(∀h∈z,fO w' f.sizes h)->z.map dx=fI f->(∀r,leadsTo out r->w.heap.size<=r)->Q out w'):
  V x8 (W9 #[cX] ah #[l]) w λbO=>
 b4 (.slice ν 0 0) (Δ 0) w λout aD S bP=>
  V x8 (aJ .lss ah false false aD bO) S λbR=>
  Split bR (ct (α:=x3->x4->Prop) (λ(bT:x3)(U:x4)=>
   V x8 (aJ .add ah false true aD (Δ 1)) U λbV=>
   bP bT bV U) λbe=>
  V x8 (j9 cX l aD) S λbW=>
  V x8 (u5 aX bW) S λbX=>
  aB x8 (Instr.alloc aX true (.tuple #[])) S λal bf=>
  aB x8 (o9 aX al bX) bf λ(_:Unit)O=>
  V x8 (u6 aX al 2) O λbY=>
  V x8 (u5 aq bY) O λbh=>
  V x8 (W9 #[aq] ah #[bh]) O λb3=>
  b4 (.bool false) (Δ 0) O λbi aE C b5=>
   V x8 (aJ .lss ah false false aE b3) C λb6=>
   Split b6 (ct (α:=x3->x4->Prop) (λ(b7:x3)(Z:x4)=>
    V x8 (aJ .add ah false true aE (Δ 1)) Z λb8=>
    b5 b7 b8 Z) λbj=>
   V x8 (j9 aq bh aE) C λb9=>
   V x8 (u5 am b9) C λca=>
   Split bi (bj (.bool true) C)
    (V x8 (aJ .gtr am false true ca (Δ 0)) C λcc=>
   bj cc C))
    (V x8 (Op.unary .not bi) C λcd=>
  Split cd (be out C)
   (bU (Δ 0) C λi an ce=>
   ct (α:=x3->x4->Prop) (λ(ch:x3)(W:x4)=>
    Split ch (V x8 (aJ .add ah false true i (Δ 1)) W λci=>
   ce ci W)
     (ef W λG=>
  V x8 (u5 aX al) G λcj=>
  V x8 (U1 cX out (σ i) ν ν) G λbk=>
  aB x8 (Y8 cX 1 #[(0,cj)]) G λck ab=>
   (Ext G ab\/bZ x8 (U1 cX out (σ i) ν ν) bk ab/\True)/\
  aB x8 (Z3 #[cX,cX] cX #[ck,bk]) ab λcl aG=>
   aB x8 (Y8 cX 0 #[]) aG λcm ao=>
  V x8 (U1 cX out ν (σ i) ν) ao λcn=>
  aB x8 (Z3 #[cX,cX] cX #[cm,cn]) ao λcp aI=>
  aB x8 (Z3 #[cX,cX] cX #[cp,cl]) aI λcq aK=>
  be cq aK)) λbl=>
   ef an λH=>
   V x8 (W9 #[cX] ah #[out]) H λcr=>
   V x8 (aJ .lss ah false false i cr) H λcu=>
   Split cu (V x8 (j9 cX out i) H λcw=>
   V x8 (u5 aX cw) H λcz=>
   V x8 (u5 aX al) H λcA=>
   ai x8 zm [cz,cA] H λcB bm=>
    bl cB bm)
    (bl (.bool false) H))))
   (Q out S):=by
 have cC:L.length=(ft f).length:=by rw[<-aC,u7]
 have dh:L.length<=256:=by have:=(lj aA).2.2;have:=aA.la;omega
 have bn:=(lj aA).1;rw[e4 cX.u A.1];refine b4.range L.length (λj out J=>∃go z,Ext w J/\bg dm 3 aX J go out z/\(∀h∈z,h∈L)/\z.map dx=lu f j/\∀r,leadsTo out r->w.heap.size<=r) A.1.le
  ⟨0,[],Ext.refl _,bg.nil _ _ _ _ _,λh ap=>(by cases ap),rfl,λr A=>(fu A).elim⟩ ?_ ?_
 rotate_left
 .rintro out J cD ⟨go,z,bo,ac,P,ad,aM⟩;rw[aR,aj];refine⟨λh=>Ω,λ_=>bN _ _ go z bo ac P (λh ap=>((A.ext bo).2.1 h (P h ap)).1) ?_ aM⟩;rw[ad,cC,Og]
 rintro j out S cD bp ⟨go,z,au,ac,P,ad,aM⟩ cE;obtain⟨h,ap⟩:=aF (l:=L) bp;have hm:(ft f)[j]?=σ (dx h):=by rw[<-aC,v8,ap];rfl
 have cF:=bn _ (x6 hm);have di:z.length<=256:=by
  have:=Oh (f:=f) (j:=j) Ω;rw[<-ad,u7]at this;omega
 have ae:=A.ext au;obtain⟨aN,_⟩:=ae.2.1 h (x6 ap);obtain⟨_,_,dj,cG⟩:=id aN;refine bA Ω ?_;refine aW (λaP U=>∃aQ af,Ext w U/\bg dm 3 aX U aQ aP af/\(∀h∈af,h∈L)/\af.map dx=lu f (j+1)/\∀r,leadsTo aP r->w.heap.size<=r) ?_ ?_
 .rintro aP U ⟨aQ,af,h1,cH,cI,cJ,cK⟩;rw[aL];exact cE _ _ ⟨aQ,af,h1,cH,cI,cJ,cK⟩
 intro ax ag;rw[du rfl cX.u aX.i ae.1 bp,bE aX.p aX.i rfl (ae.1.range ap)];refine bw aX.i λbq bf dk cL cM=>?_;refine b1 (vs:=dm h) aX.i rfl rfl aN.one cM λO cN dl br=>?_;have bt:Ext S O:=cL.put cN Ω;have aS:=cG.ext bt;rw[aH aX.p 2 br rfl,aU aq.u aS.ls];refine b4.range h.cs.length (λq sv C=>Ext O C/\sv= .bool ((h.cs.take q).any λc=>decide (0<c))) aS.ls.le ⟨Ext.refl _,rfl⟩ ?_ ?_
 .rintro q _ C cO cP ⟨X,rfl⟩ cQ;obtain⟨c,bu⟩:=aF (l:=h.cs) cP;have e:(h.cs.take (q+1)).any (λc=>decide (0<c))=((h.cs.take q).any (λc=>decide (0<c))||decide (0<c)):=by
   rw[u9,bu,l7,List.any_append];simp
  refine bA Ω ?_;refine aW (λsv Z=>Ext O Z/\sv= .bool ((h.cs.take (q+1)).any λc=>decide (0<c))) ?_ ?_
  .rintro _ Z ⟨cR,rfl⟩;rw[aL];exact cQ _ _ ⟨cR,rfl⟩
  intro ax ag;rw[bb aq.u am.i Ψ (aS.ext X).ls bu,cg];refine⟨λcS=>ag _ _ ⟨X,by rw[e,cS];rfl⟩,λcT=>?_⟩;rw[bS];exact ag _ _ ⟨X,by rw[e,cT];rfl⟩
 rintro _ C cO ⟨X,rfl⟩;have bx:=br.ext X;have R:=bt.trans X;rw[o8];refine b2 Ω ?_;rw[bJ,cg];have av:=Dr hm;have cU:(h.cs.any λc=>decide (0<c))=fH (dx h):=rfl;rw[cU];refine⟨λaT=>?_,λI=>?_⟩
 .have aT:fH (dx h)=false:=by simpa using aT
  rw[aT]at av;exact ag _ _ ⟨go,z,au.trans R,ac.ext R,P,by rw[ad,av];rfl,aM⟩
 have I:fH (dx h)=true:=by simpa using I
 rw[I,if_pos rfl]at av;refine⟨λaV an=>∃i:Nat,aV=Δ (i:Int)/\i<=z.length/\Ext C an/\∀p<i,∀x,z[p]?=σ x->db x.sc<db h.sc,λaV _=>z.length-(b0 aV).toNat,⟨0,rfl,X8 _,Ext.refl _,λp aZ=>Ω⟩,?_⟩;rintro _ an ⟨i,rfl,hi,cV,a1⟩;refine aW (λaO W=>Ext C W/\((aO= .bool true/\i<z.length/\∀x,z[i]?=σ x->db x.sc<db h.sc)\/(aO= .bool false/\∀x,z[i]?=σ x->¬db x.sc<db h.sc))) ?_ ?_
 rotate_left
 .intro dn a2;intro H cW _ _;have Y:=cV.trans cW;have a6:=ac.ext (R.trans Y);rw[e4 cX.u a6,aR,aj];refine⟨λa1=>?_,λdp=>a2 _ _ ⟨Y,.inr ⟨rfl,λx s=>absurd (x5.1 s).1 Ω⟩⟩⟩;obtain⟨x,s⟩:=aF (l:=z) (i:=i) Ω;have bz:=P x (x6 s);have cY:jt x.sc:=(bn (dx x) (by rw[<-aC];exact l9.2 ⟨x,bz,rfl⟩)).scope;have bB:=ae.ext (R.trans Y);rw[du rfl cX.u aX.i a6 Ω,bE aX.p aX.i rfl (a6.range s),bE aX.p aX.i rfl (show H.rangeAt bq 0 (dm h)from(bx.ext Y).range)];refine(Oc (bB.2.1 x bz).1 (bB.2.1 h (x6 ap)).1 cY cF.scope).mono ?_;rintro _ bm _ ⟨rfl,bC⟩;by_cases aw:db x.sc<db h.sc
  .rw[decide_eq_true aw];exact a2 _ _ ⟨Y.trans bC,.inl ⟨rfl,Ω,λy E=>by rw[s]at E;cases E;exact aw⟩⟩
  .rw[decide_eq_false aw];exact a2 _ _ ⟨Y.trans bC,.inr ⟨rfl,λy E=>by rw[s]at E;cases E;exact aw⟩⟩
 rintro _ W ⟨bD,⟨rfl,dq,cZ⟩|⟨rfl,c0⟩⟩
 .rw[bQ,aL,wrap_i64 Ω Ω];refine⟨⟨i+1,rfl,Ω,bD,λp aZ x s=>?_⟩,by simp only[b0];omega⟩;by_cases c1:p=i
  .subst c1;exact cZ x s
  .exact a1 p Ω x s
 .rw[aY];intro G c2 _ _;have ak:=bD.trans c2;have ay:=ac.ext (R.trans ak);have c3:=ae.ext (R.trans ak);have a7:∀x∈z,∀u∈dm x,u.oneCell'=true:=λx s=>(c3.2.1 x (P x s)).1.one;have c4:∀u∈dm h,u.oneCell'=true:=aN.one;rw[bE aX.p aX.i rfl (show G.rangeAt bq 0 (dm h)from(bx.ext ak).range)];refine Do (h':=z.length) cX.u aX.i ay (nF i _ rfl) jJ hi (o6 _) λdr bF=>?_;refine iy (f:=dm) (k:=3) (a:=h) cX.u aX.i Ω rfl rfl λds dt ab dv a8 bG=>?_;refine⟨.inl a8,?_⟩;have c5:(z.drop i).take (z.length-i)=z.drop i:=j4 (by rw[List.length_drop];omega);rw[c5]at bF;refine wR (M:=z.drop i) cX.u aX.i rfl bG (bF ab (ay.ext a8)) (λ_ _=>rfl) (λa K=>a7 a (List.mem_of_mem_drop K)) Θ Θ λdw dy aG ba dz c6=>?_;have bH:Ext G aG:=a8.then c6 λr A he=>by have:=(bG.leads he).1;omega
  refine Oe (f:=dm) (k:=3) cX.u aX.i λdA dC ao dD bc az=>?_;have bd:=bH.trans bc;refine Do (h':=i) cX.u aX.i (ay.ext bd) jI (nG i _ rfl) (X8 _) hi λdE bI=>?_;rw[List.drop_zero,Nat.sub_zero]at bI;refine wR (M:=z.take i) cX.u aX.i rfl az (bI ao (ay.ext bd)) (λ_ _=>rfl) (λa K=>a7 a (U6 K)) Θ Θ λc7 dF aI c8 c9 bK=>?_;have dG:=bH.size;have dH:=bc.size;have da:=(ba.ext bc).aa bK λr A I=>by have:=(ba.leads A).1;have:=(ba.leads A).2;have:=(az.leads I).1;omega
  refine wR (M:=[h]++z.drop i) cX.u aX.i rfl c8 da.sl (λ_ _=>rfl) (λa K=>?_) Θ Θ λdI dc aK dd de df=>?_
  .rcases j0.1 K with K|K
   .rw[j6.1 K];exact c4
   .exact a7 a (List.mem_of_mem_drop K)
  have bL:Ext G aI:=bd.then bK λr A he=>by have:=(az.leads he).1;omega
  have bM:∀r,leadsTo c7 r->G.heap.size<=r:=λr A=>(c9 r A).elim (λh=>by have:=(az.leads h).1;omega) λh=>Ω
  have dg:Ext G aK:=bL.then df λr A he=>by have:=bM r he;omega
  have dJ:=(au.trans (R.trans ak)).size;have dK:=bL.size;refine ag _ _ ⟨dc,_,(au.trans (R.trans ak)).trans dg,dd,λx s=>?_,?_,λr A=>(de r A).elim (λh=>by have:=bM r h;omega) λh=>Ω⟩
  .rcases j0.1 s with s|s
   .exact P x (U6 (by simpa using s))
   .rcases j0.1 s with s|s
    .rw[j6.1 s];exact x6 ap
    .exact P x (List.mem_of_mem_drop s)
  .rw[av,<-ad,Dq (i:=i) (λp aZ x s=>?_) (by simpa using hi) (λx s=>?_)]
   .simp
   .rw[v8]at s;cases E:z[p]? with
    |none=>rw[E]at s;cases s
    |some y=>rw[E]at s;cases s;exact a1 p aZ y E
   .rw[v8]at s;cases E:z[i]? with
    |none=>rw[E]at s;cases s
    |some y=>rw[E]at s;cases s;exact c0 y E
def Oj(w:x4)(f:cb)(v:x3)(w':x4):Prop:=Ext w w'/\∃go a,bg dm 3 aX w' go v a/\(∀h∈a,fO w' f.sizes h/\∀r,pz h r->w.heap.size<=r)/\a.map dx=fI f/\∀r,leadsTo v r->w.heap.size<=r
def lv(k:Int)(sc cs:Λ)(h:cJ):cJ:=if h.1=sc then(h.1,ee k h.2 cs)else h
def Ol{bL:Nat}{f:cb}(cH:od w bL f)(R:fd N f):ai x8 Hd [Γ bL] w (Oj w f):=by
 have hk:=R.k;obtain⟨szv,gz,av,gr,a2,bM,cI⟩:=id cH;obtain⟨bN,a7,cJ,cK⟩:=id cI;refine az func136 ?_;rw[aP dI.p 3 a2 rfl,e4 dD.u a7];refine b4.range bN.length (λi l J=>∃g L,Ext w J/\kF J w.heap.size g l f.sizes L/\L.map dx=eO f i) a7.le
  ⟨0,[],Ext.refl _,⟨bg.nil _ _ _ _ _,λh ap=>(by cases ap),λi j x y a8=>(by simp at a8),λr C=>(fu C).elim⟩,rfl⟩ ?_ ?_
 rotate_left
 .rintro l J cL ⟨g,L,S,C,V⟩;rw[<-cJ,CJ]at V;rw[aR,aj];refine⟨λh=>Ω,λ_=>Oi R C V λout w' go cM a8 ba cN W cO cP=>?_⟩;have cQ:=S.size;exact⟨S.trans a8,go,cM,ba,λh ap=>⟨W h ap,(C.2.1 h (cN h ap)).2⟩,cO,λr C=>by have:=cP r C;omega⟩
 rintro i l J cL hi ⟨g,L,S,C,V⟩ cR;obtain⟨bc,bO⟩:=aF (l:=bN) hi;obtain⟨x,bd⟩:=aF (l:=f.funs) (i:=i) Ω;have be:=x6 bd;have bf:=cK i bc x bO bd;have bP:=pq R be;obtain⟨cS,dJ,dK⟩:=CI R i;have bQ:L.length=(eO f i).length:=by rw[<-V,u7]
 have dL:=R.la;have bS:=a7.ext S;refine bA Ω ?_;refine aW (λl' U=>∃g L,Ext w U/\kF U w.heap.size g l' f.sizes L/\L.map dx=eO f (i+1)) ?_ ?_
 .rintro l' U bh;rw[aL];exact cR _ _ bh
 intro ax bT;rw[du rfl dD.u a6.i bS hi,bE a6.p a6.i rfl (bS.range bO)];refine bw a6.i λak dM dN cT cU=>?_;refine b1 (vs:=eY bc) a6.i rfl rfl bf.one cU λcV cW dO cY=>?_;have bV:Ext J cV:=cT.put cW Ω;have dP:=bV.size;refine aW (λa1 aw=>∃G c,a1=Γ G/\Ext J aw/\ac aw G aX (dm c)/\c.sc=bo x.scope/\c.cs=(h5 f.sizes f.k x).2/\fO aw f.sizes c/\J.heap.size<=G/\∀r,pz c r->J.heap.size<=r) ?_ ?_
 rotate_left
 .intro dQ bW;intro cZ bX _ _;have ay:=bV.trans bX;have aA:=S.trans ay;have c0:=cY.ext bX;have bY:=a2.ext aA;have dR:=ay.size;rw[bE a6.p a6.i rfl (show cZ.rangeAt ak 0 (eY bc)from c0.range),aP dI.p 2 bY rfl,aP dI.p 1 bY rfl];refine⟨?_,?_⟩
  .refine (Dm (bf.ext aA) R be (bM.ext aA)).mono ?_;rintro _ dS _ ⟨bi,c,rfl,h1,bj,W,O⟩;refine bw aX.i λG dT bZ bk aB=>?_;refine⟨.inl (bi.trans bk),?_⟩;refine b1 (vs:=dm c) aX.i rfl rfl W.one aB λdU b0 dV c1=>?_;have dW:=bi.size;refine bW _ _ ⟨G,c,rfl,(ay.trans bi).trans (bk.then b0 λr C he=>by have he:r=G:=he;omega),c1,h1,bj,?_,Ω,λr C=>by have:=O r C;omega⟩;exact mX (W.ext bk) b0 λr C=>.inl ⟨_,_,by have C:r=G:=C;subst C;exact aB,Φ,Φ⟩
  .refine bw aX.i λG dX bZ aC aB=>?_;refine⟨.inl aC,?_⟩;have b3:=aA.trans aC;refine(Dm (bf.ext b3) R be (bM.ext b3)).mono ?_;rintro _ dY _ ⟨b5,c,rfl,h1,bj,W,O⟩;have b6:=aB.ext b5;have dZ:=aC.size;refine b1 (vs:=dm c) aX.i rfl rfl W.one b6 λea b7 eb c2=>?_;refine bW _ _ ⟨G,c,rfl,ay.trans ((aC.trans b5).then b7 λr C he=>by have he:r=G:=he;omega),c2,h1,bj,?_,Ω,λr C=>by have:=O r C;omega⟩;exact mX W b7 λr C=>.inl ⟨_,_,by have C:r=G:=C;subst C;exact b6,Φ,Φ⟩
 rintro _ aw ⟨G,c,rfl,bl,c3,af,aE,c4,bZ,O⟩;have b8:=C.ext bl;have c5:∀h∈L,∀r,leads h.aZ r->r<J.heap.size:=λh ap r c6=>by
  obtain⟨⟨_,_,c7,ca⟩,_⟩:=C.2.1 h ap;have:=bR ca c6;omega
 have c8:∀{j:Nat},decide (c.sc∈(L.take j).map (·.sc))=decide (bo x.scope∈((eO f i).take j).map (·.1)):=λ{j}=>by
  rw[af,<-V,<-List.map_take,R6];rfl
 have cQ:=S.size;rw[e4 cX.u b8.1];refine b4.range L.length (λj av P=>∃E,av= .bool (decide (c.sc∈(L.take j).map (·.sc)))/\Ext w P/\J.heap.size<=P.heap.size/\kF P w.heap.size g l f.sizes E/\E.map dx=((eO f i).map (lv f.k c.sc c.cs)).take j++(eO f i).drop j/\ac P G aX (dm c)/\fO P f.sizes c/\∀h∈E,∀r,leads h.aZ r->r<J.heap.size) C.1.le
  ⟨L,Ξ,S.trans bl,bl.size,b8,by simpa using V,c3,c4,c5⟩ ?_ ?_
 .rintro j _ P c9 cc ⟨E,rfl,ag,da,aG,M,bm,bn,X⟩ db;have dc:E.length=L.length:=by
   have:=congrArg Q4 M;simp only[u7,o4,o7,List.length_drop]at this;omega
  obtain⟨h,ap⟩:=aF (l:=E) (i:=j) Ω;have aI:(eO f i)[j]?=σ (dx h):=by
   have cd:(E.map dx)[j]?=σ (dx h):=by rw[v8,ap];rfl
   rw[M,Dp (by rw[u7];omega)]at cd;exact cd
  have aJ:((eO f i).map (lv f.k c.sc c.cs))[j]?=σ (lv f.k c.sc c.cs (dx h)):=by rw[v8,aI];rfl
  have dd:∃y,L[j]?=σ y/\y.sc=h.sc:=by
   refine⟨_,x7 cc,?_⟩;rw[<-V,v8,x7 cc]at aI;exact congrArg Prod.fst (Z0 aI)
  obtain⟨y,K,de⟩:=dd;have bp:(c.sc∈(L.take (j+1)).map (·.sc))↔c.sc∈(L.take j).map (·.sc)\/h.sc=c.sc:=by
   rw[u9,K,l7,Z4,j0,List.map_singleton,j6,de];exact or_congr Iff.rfl ⟨λe=>e.symm,λe=>e.symm⟩
  have ce:fw f.sizes f.k (dx h):=cS _ (x6 aI);refine bA Ω ?_;refine aW (λav Q=>∃E,av= .bool (decide (c.sc∈(L.take (j+1)).map (·.sc)))/\Ext w Q/\J.heap.size<=Q.heap.size/\kF Q w.heap.size g l f.sizes E/\E.map dx=((eO f i).map (lv f.k c.sc c.cs)).take (j+1)++(eO f i).drop (j+1)/\ac Q G aX (dm c)/\fO Q f.sizes c/\∀h∈E,∀r,leads h.aZ r->r<J.heap.size) ?_ ?_
  .rintro ec Q bh;rw[aL];exact db _ _ bh
  intro ed ch;intro df al _ _;have aK:=aG.ext al;have ci:=bm.ext al;have cj:=bn.ext al;obtain⟨dg,ef⟩:=aK.2.1 h (x6 ap);obtain⟨⟨g1,h1⟩,_,c7,ca⟩:=id dg;obtain⟨⟨eg,dh⟩,_,eh,ck⟩:=id cj;rw[du rfl cX.u aX.i aK.1 Ω,aS aX.p rfl,aD (v:=h.aM) Ψ (aK.1.range ap 0 _ rfl),aH aX.p 0 ci rfl];refine(JP h1.ls dh.ls).mono ?_;rintro _ ei _ ⟨rfl,ab⟩;have cl:=aK.ext ab;have bq:=ci.ext ab;have cm:=cj.ext ab;have cn:=(ag.trans al).trans ab;have z9:=(al.trans ab).size;rw[aj];refine⟨λbr=>?_,λcp=>?_⟩
  rotate_left
  .refine ch _ _ ⟨E,?_,cn,Ω,cl,?_,bq,cm,X⟩
   .congr 1;exact decide_eq_decide.2 ⟨λh=>bp.2 (.inl h),λh=>(bp.1 h).resolve_right cp⟩
   .have e:lv f.k c.sc c.cs (dx h)=dx h:=if_neg cp;rw[e]at aJ;rw[<-wS Ω aJ,<-M];symm;refine Y9 λp=>?_;rw[X1];by_cases an:j=p
    .subst an;rw[if_pos rfl,if_pos Θ,v8,ap];rfl
    .rw[if_neg an]
  have di:h.cs.length=c.cs.length:=by
   have dj:h.cs.length=_:=ce.len;have dk:c.cs.length=(aN (bI f.sizes (h5 f.sizes f.k x).1)).toNat:=by rw[aE];exact bP.len
   rw[dj,dk,show(dx h).1=h.sc from rfl,br,af];rfl
  have ej:(ee f.k h.cs c.cs).length=h.cs.length:=by unfold ee;rw[List.length_zipWith];omega
  rw[aH aX.p 2 bq rfl,aU aq.u (ck.ext ab).ls];refine bU.range c.cs.length (λs Y=>Ext w Y/\J.heap.size<=Y.heap.size/\kF Y w.heap.size g l f.sizes (E.set j {h with cs:=(ee f.k h.cs c.cs).take s++h.cs.drop s})/\ac Y G aX (dm c)/\fO Y f.sizes c) ck.ls.le
   ⟨cn,Ω,?_,bq,cm⟩ ?_ ?_
  .have e:E.set j {h with cs:=(ee f.k h.cs c.cs).take 0++h.cs.drop 0}=E:=by
    refine Y9 λp=>?_;rw[X1];by_cases an:j=p
    .subst an;rw[if_pos rfl,if_pos Ω,ap];rfl
    .rw[if_neg an]
   rw[e];exact cl
  .rintro s Y dl I ⟨bt,cq,aO,bu,bx⟩ dn;refine bA Ω ?_;intro ek ao _ _;have ad:=aO.ext ao;have cr:=bu.ext ao;have ct:=bx.ext ao;have cu:=bt.trans ao;have aQ:(E.set j {h with cs:=(ee f.k h.cs c.cs).take s++h.cs.drop s})[j]?=σ {h with cs:=(ee f.k h.cs c.cs).take s++h.cs.drop s}:=by
    rw[X1,if_pos rfl,if_pos Ω]
   have cw:j<(E.set j {h with cs:=(ee f.k h.cs c.cs).take s++h.cs.drop s}).length:=by rw[Z9];omega
   obtain⟨⟨_,_,dp,bz⟩,dq⟩:=ad.2.1 _ (x6 aQ);obtain⟨_,_,em,dr⟩:=id ct;obtain⟨a,bB⟩:=aF (l:=h.cs) (i:=s) Ω;obtain⟨b,au⟩:=aF (l:=c.cs) I;have ds:s<({h with cs:=(ee f.k h.cs c.cs).take s++h.cs.drop s}:fy).cs.length:=by show s<((ee f.k h.cs c.cs).take s++h.cs.drop s).length;rw[o4,o7,List.length_drop];omega
   have dt:((ee f.k h.cs c.cs).take s++h.cs.drop s)[s]?=σ a:=by rw[Dp Ω];exact bB
   have bC:(ee f.k h.cs c.cs)[s]?=σ (min (a+b) f.k):=by
    unfold ee;rw[List.getElem?_zipWith,bB,au]
   have eo:=ce.h7 a (x6 bB);have ep:=bP.h7 b (by rw[<-aE];exact x6 au);have dv:=a2.ext cu;rw[du rfl cX.u aX.i ad.1 cw,aS aX.p rfl,aD (v:=h.aZ) Ψ (ad.1.range aQ 2 _ rfl),du rfl cX.u aX.i ad.1 cw,aS aX.p rfl,aD (v:=h.aZ) Ψ (ad.1.range aQ 2 _ rfl),bb aq.u am.i Ψ bz.ls dt,aH aX.p 2 cr rfl,bb aq.u am.i Ψ dr.ls au,aP dI.p 1 dv rfl];refine(mb Ω Ω).mono ?_;rintro _ er _ ⟨rfl,ae⟩;refine⟨.inl ae,?_⟩;have z12:=(ao.trans ae).size;refine Of (h:={h with cs:=(ee f.k h.cs c.cs).take s++h.cs.drop s}) (ad.ext ae) aQ ds λes aT cz bD=>?_;rw[aL];have dw:=ct.ext ae;have cA:=cr.ext ae;have et:=aT.size;refine dn _ ⟨(cu.trans ae).then aT λr C he=>by have:=dq r (.inl he);omega,Ω,?_,?_,?_⟩
   .rw[List.set_set]at bD;have e:=wS (A:=ee f.k h.cs c.cs) (B:=h.cs) (s:=s) Ω bC;simp only[e]at bD;exact bD
   .exact cA.aa aT λI=>by
     obtain⟨eu,dy⟩:=cz _ I;exact absurd (ez cA dy) Φ
   .refine mX dw aT λr C=>.inr (.inr ⟨cz r C,λdz=>?_⟩);have:=O r (.inl dz);have:=X h (x6 ap) r C;omega
  .rintro Y dl ⟨bt,cq,aO,bu,bx⟩;refine b2 Ω ?_;have e:(ee f.k h.cs c.cs).take c.cs.length++h.cs.drop c.cs.length=ee f.k h.cs c.cs:=by
    rw[<-di,List.drop_length,V3,j4 Ω]
   simp only[e]at aO;refine ch _ _ ⟨_,?_,bt,cq,aO,?_,bu,bx,λz H r C=>?_⟩
   .congr 1;symm;exact decide_eq_true (bp.2 (.inr br))
   .have dA:lv f.k c.sc c.cs (dx h)=dx {h with cs:=ee f.k h.cs c.cs}:=if_pos br;rw[dA]at aJ;rw[U8,M,wS Ω aJ]
   .rcases W7 H with H|rfl
    .exact X z H r C
    .exact X h (x6 ap) r C
 rintro _ P c9 ⟨E,rfl,ag,da,aG,M,bm,bn,X⟩;refine b2 Ω ?_;rw[c8,bQ,o8,bJ,cg];have cB:=ws bd;have bC:((eO f i).map (lv f.k c.sc c.cs)).take L.length++(eO f i).drop L.length=(eO f i).map (lv f.k c.sc c.cs):=by
  rw[bQ,List.drop_length,V3,j4 (by rw[u7];exact o6 _)]
 rw[bC]at M;have dc:E.length=L.length:=by
  have:=congrArg Q4 M;rw[u7,u7]at this;omega
 refine⟨λaV=>?_,λbF=>?_⟩
 .have aV:bo x.scope∉(eO f i).map (·.1):=by simpa using aV
  have dC:(eO f i).map (lv f.k c.sc c.cs)=eO f i:=by
   refine(List.map_congr_left λz H=>?_).trans (List.map_id _);exact if_neg λhe=>aV (l9.2 ⟨z,H,by rw[he,af]⟩)
  rw[dC]at M;rw[bE aX.p aX.i rfl (show P.rangeAt G 0 (dm c)from bm.range)];refine iy (f:=dm) (k:=3) (a:=c) cX.u aX.i Ω rfl rfl λev dp Q ew aY bz=>?_;have Z:=aG.ext aY;have cC:=bn.ext aY;refine iV (f:=dm) (a:=c) cX.u aX.i rfl Z.1 (by simpa using bz.sl) cC.one Ω Ω λey dE df ba dF bG=>?_;have cD:∀r,leadsTo l r->∃e c,ac Q r e c/\e≠ah/\e≠am:=λr C=>by
   obtain⟨rfl,c,au⟩:=en Z.1 C;exact⟨_,c,au,Φ,Φ⟩
  have eA:=aY.size;have eB:=ag.size;refine bT _ _ ⟨dE,E++[c],(ag.trans aY).then bG λr C he=>by have:=Z.2.2.2 r he;omega,⟨ba,λz H=>?_,λp q y z K H dG r bH bK=>?_,λr C=>(dF r C).elim (Z.2.2.2 r) λh=>Ω⟩,?_⟩
  .rcases j0.1 H with H|H
   .exact⟨mX (Z.2.1 z H).1 bG λr C=>.inl (cD r C),(Z.2.1 z H).2⟩
   .rw[j6.1 H];exact⟨mX cC bG λr C=>.inl (cD r C),λr C=>by have:=O r C;omega⟩
  .have cE:∀{p:Nat}{y:fy},(E++[c])[p]?=σ y->E[p]?=σ y\/(p=E.length/\y=c):=λ{p y}K=>by
    rw[List.getElem?_append]at K;split at K
    .exact .inl K
    .by_cases dH:p-E.length=0
     .rw[dH]at K;cases K;exact .inr ⟨Ω,rfl⟩
     .rw[Y2 Θ]at K;cases K
   rcases cE K with cF|⟨eC,rfl⟩<;>rcases cE H with cG|⟨eq,rfl⟩
   .exact Z.2.2.1 p q y z cF cG dG r bH bK
   .have:=X y (x6 cF) r bH;have:=O r (.inl bK);omega
   .have:=X z (x6 cG) r bK;have:=O r (.inl bH);omega
   .omega
  .rw[Z4,M,cB,CH λz H he=>aV (l9.2 ⟨z,H,he⟩)];show _++[(c.sc,c.cs)]=_;rw[af,aE];rfl
 .have bF:bo x.scope∈(eO f i).map (·.1):=by simpa using bF
  refine bT _ _ ⟨g,E,ag,aG,?_⟩;rw[M,cB];unfold iv;rw[if_pos (show(h5 f.sizes f.k x).1∈_ from bF)];refine List.map_congr_left λz _=>?_;unfold lv;rw[af,aE];rfl
def wT(w:x4)(B:Nat)(v:x3)(n:aK):Prop:=∃szv gz a f aT e gr L,v= .agg #[Δ n.k,szv,Δ n.zero,a,e]/\au .i64 ah w gz szv n.sizes/\hK w f a aT/\aT.map (·.l)=n.unary/\bg dm 3 aX w gr e L/\(∀h∈L,fO w n.sizes h)/\L.map dx=n.funs/\(∀r,leads szv r->B<=r)/\∀h∈L,∀r,pz h r->B<=r
def z9:List x3:=[Δ 0,.slice ν 0 0,Δ 0,.slice ν 0 0,.slice ν 0 0]
def mY(w:x4)(C gt gs go:Nat)(szv aZ:x3)(f:cb)(a:List fy)(w':x4):Prop:=Ext w w'/\C<=w'.heap.size/\ac w' gt dH z9/\au .i64 ah w' gs szv f.sizes/\bg dm 3 aX w' go aZ a/\(∀r,leadsTo aZ r->r<C)/\∀h∈a,fO w' f.sizes h
def mY.ext{U:x4}{C gt go:Nat}{aZ:x3}{f:cb}{e:List fy}(h:mY w C gt gs go szv aZ f e w')(a:Ext w' U):mY w C gt gs go szv aZ f e U:=by
 obtain⟨h1,z,j,p,q,r,s⟩:=h;have:=a.size;exact⟨h1.trans a,Ω,j.ext a,p.ext a,q.ext a,r,λx y=>(s x y).ext a⟩
def Om(w w':x4)(C gt:Nat)(r:Nat):Prop:=w.heap.size<=r/\r≠gt/\((∃c,ac w' r dH c)\/(∃c,ac w' r aq c)\/((∃c,ac w' r aX c)/\C<=r))
def mY.aa{U:x4}{C gt go:Nat}{aZ:x3}{f:cb}{y:List fy}(h:mY w C gt gs go szv aZ f y w')(p:ae S w' U)(q:∀r,S r->Om w w' C gt r):mY w C gt gs go szv aZ f y U:=by
 obtain⟨h1,J,E,z,s,A,F⟩:=h;have:=p.size;have B:∀r,S r->∃e c,ac w' r e c/\e≠ah/\e≠am:=λr j=>by
  obtain⟨_,_,⟨c,a⟩|⟨c,a⟩|⟨⟨c,a⟩,_⟩⟩:=q r j
  .exact⟨_,c,a,Φ,Φ⟩
  .exact⟨_,c,a,Φ,Φ⟩
  .exact⟨_,c,a,Φ,Φ⟩
 refine⟨h1.then p λr j I=>by have:=(q r I).1;omega,Ω,E.aa p λI=>(q _ I).2.1 rfl,br z p λr j I=>?_,s.aa p λr j I=>?_,A,λx G=>mX (F x G) p λr j=>.inl (B r j)⟩
 .obtain⟨e,c,a,H,_⟩:=B r I;exact ch z a (λhe=>H he.symm) j rfl
 .obtain⟨_,_,⟨c,a⟩|⟨c,a⟩|⟨_,K⟩⟩:=q r I
  .exact cQ s a Φ j
  .exact cQ s a Φ j
  .have:=A r j;omega
def Dt(w:x4)(C f:Nat)(szv:x3)(k:Int)(n:aK)(j:List fy)(w':x4):Prop:=∃a p aT e gr L,ac w' f dH [Δ k,szv,Δ n.zero,a,e]/\hK w' p a aT/\aT.map (·.l)=n.unary/\(∀r,leadsTo a r->w.heap.size<=r)/\bg dm 3 aX w' gr e L/\(∀h∈L,h∈j)/\L.map dx=n.funs/\∀r,leadsTo e r->C<=r
def Du{bZ:Nat}{f:cb}(b0:od w bZ f)(Q:fd N f):ai x8 Gv [Γ bZ] w λv w'=>Ext w w'/\wT w' w.heap.size v (cH f):=by
 have hk:=Q.k;have dD:=Q.sizes.2.1;obtain⟨dE,dF,dG,dJ,b3,b4,dK⟩:=id b0;refine az func64 ?_;refine bw dH.i λgt J dM aR aV=>?_;have aV:ac J gt dH z9:=aV;rw[aP dI.p 1 (b3.ext aR) rfl,dq (cs:=#[Δ f.k,.slice ν 0 0,Δ 0,.slice ν 0 0,.slice ν 0 0]) Ψ];refine bw dH.i λA U dN b5 cK=>?_;refine b1 (vs:=[Δ f.k,.slice ν 0 0,Δ 0,.slice ν 0 0,.slice ν 0 0]) dH.i rfl rfl (by intro u hu;simp at hu;rcases hu with rfl|rfl|rfl|rfl<;>rfl) cK λcL b6 dO cM=>?_;have bu:Ext w cL:=(aR.trans b5).then b6 λr q he=>by have he:r=A:=he;have:=aR.size;omega
 have dP:=aV.lt;have E:A≠gt:=Ω
 have cN:=(aV.ext b5).aa b6 λhe=>by have he:gt=A:=he;omega
 rw[aP dI.p 2 (b3.ext bu) rfl,aU aq.u (b4.ext bu).ls];have dQ:=aR.size;refine bU.range f.sizes.length (λi V=>Ext w V/\ac V gt dH z9/\∃szv gs B H aT,ac V A dH [Δ f.k,szv,Δ 0,B,.slice ν 0 0]/\au .i64 ah V gs szv (f.sizes.take i)/\(∀r,leads szv r->w.heap.size<=r)/\hK V H B aT/\aT.map (·.l)=(f.sizes.take i).map (λz=>o5 z.toNat 0)/\∀r,leadsTo B r->w.heap.size<=r) Ω
  ⟨bu,cN,_,0,_,0,[],cM,au.nil _ _ _ _,(λr q=>by obtain⟨a,n,c,cO,dR⟩:=q;cases cO),⟨bg.nil _ _ _ _ _,λx bx=>(by cases bx)⟩,rfl,λr q=>(fu q).elim⟩ ?_ ?_
 .rintro i V cP hi ⟨W,bz,szv,gs,B,H,aT,aC,aW,aY,bB,aE,a1⟩ cS;obtain⟨z,C⟩:=aF (l:=f.sizes) hi;have dS:=Q.sizes.2.2 z (x6 C);have dT:aT.length=i:=by have:=congrArg Q4 aE;simp only[u7,o7]at this;omega
  refine bA Ω ?_;rw[bb aq.u am.i Ψ (b4.ext W).ls C,aH dH.p 1 aC rfl];refine et (k:=.i64) an.u ah.i rfl λa5 dU b7 dV ak cT=>?_;have aG:=aW.ext ak;refine gP an.u ah.i rfl aG cT.ls Θ Θ λbC b8 dW a2 cU b9=>?_;have bD:=aC.ext ak;have ca:=bz.ext ak;have cc:=bD.aa b9 λhe=>ch aG bD Φ he rfl;rw[aS dH.p rfl];refine bp (g:=A) (o:=1) an.i a2.ls.cells.1 a2.ls.cells.2 cc Ξ λa6 cd dX a7=>?_;have a7:ac a6 A dH [Δ f.k,bC,Δ 0,B,.slice ν 0 0]:=a7;have bF:ae (λr=>leads szv r\/r=A) b7 a6:=(b9.mono λr _ h=>.inl h).trans (cd.mono λr _ h=>.inr h);have cV:au .i64 ah a6 b8 bC (f.sizes.take (i+1)):=by
   rw[u9,C];exact br a2 cd λr q he=>by
    have he:r=A:=he;subst he;exact ch a2 cc Φ q rfl
  have al:∀r,(leads szv r\/r=A)->∃e c,ac b7 r e c/\e≠am/\e≠aq:=λr q=>by
   rcases q with q|rfl
   .obtain⟨rfl,_⟩:=bR aG q;obtain⟨_,⟨cW,_⟩|⟨cap,full,_,s,_⟩⟩:=aG
    .obtain⟨a,n,c,e,_⟩:=q;rw[cW]at e;cases e
    .exact⟨_,_,s,Φ,Φ⟩
   .exact⟨_,_,bD,Φ,Φ⟩
  have cY:=(bB.ext ak).aa bF al;have z4:=W.size;have z5:=ak.size;have ce:Ext w a6:=(W.trans ak).then bF λr q he=>by
   rcases he with he|he
   .have:=aY r he;omega
   .omega
  have cZ:=ca.aa bF λI=>by
   rcases I with I|I
   .exact ch aG ca Φ I rfl
   .omega
  intro dY cg _ _;have c0:=a7.ext cg;rw[aH dH.p 3 c0 rfl];obtain⟨X,rfl⟩:∃n:Nat,z=n:=⟨z.toNat,Ω⟩;refine jL (k:=.i64) aq.u am.i Ω Ω λa8 c1 dZ bG c2=>?_;refine⟨.inl bG,?_⟩;have c3:au .i64 am c1 a8 (.slice (σ ⟨a8,0,ν⟩) X X) (o5 X 0):=au.of (bX.full (k:=1) (n:=X) c2 Ξ (by simp[maxLen];omega));let a:ln:=⟨.slice (σ ⟨a8,0,ν⟩) X X,o5 X 0⟩;refine iy (f:=n2) (a:=a) cR.u aq.i Ω rfl rfl λea eb bH ec bJ c4=>?_;refine⟨.inl (bG.trans bJ),?_⟩;have ao:=(cg.trans bG).trans bJ;have aI:=cY.ext ao;refine iV (f:=n2) (a:=a) cR.u aq.i rfl aI.1 (by simpa using c4.sl) (λu hu=>by rw[j6.1 (show u∈[a.v]from hu)];rfl) Ω Ω λbK bL ed K bM ci=>?_;have av:∀{r:Nat},leadsTo B r->∃c,ac bH r aq c:=λq=>by
   obtain⟨rfl,c,s⟩:=en aI.1 q;exact⟨c,s⟩
  have bN:=a7.ext ao;have cj:=bN.aa ci λhe=>cQ aI.1 bN Φ he;rw[aS dH.p rfl];refine bp cR.i (eP K.sl).1 (eP K.sl).2 cj Ξ λc5 ck ee c6=>?_;rw[aL];have R:ae (λr=>leadsTo B r\/r=A) bH c5:=(ci.mono λr _ h=>.inl h).trans (ck.mono λr _ h=>.inr h);have bO:∀r,(leadsTo B r\/r=A)->∃e c,ac bH r e c/\e≠am/\e≠ah:=λr q=>by
   rcases q with q|rfl
   .obtain⟨c,s⟩:=av q;exact⟨_,c,s,Φ,Φ⟩
   .exact⟨_,_,bN,Φ,Φ⟩
  have cl:=cV.ext ao;have ef:=ce.size;have eg:=ao.size;have cm:=cZ.ext ao;refine cS _ ⟨(ce.trans ao).then R (λr q he=>?_),cm.aa R (λI=>?_),bC,b8,bK,bL,aT++[a],c6,br cl R (λr q I=>?_),λr q=>?_,⟨K.aa ck λr q he=>?_,λy M=>?_⟩,?_,λr q=>?_⟩
  .rcases he with he|rfl
   .have:=a1 r he;omega
   .omega
  .rcases I with I|I
   .exact cQ aI.1 cm Φ I
   .omega
  .obtain⟨e,c,s,_,E⟩:=bO r I;exact ch cl s (λhe=>E he.symm) q rfl
  .rcases cU r q with h|h
   .exact aY r h
   .omega
  .have he:r=A:=he;subst he;exact cQ K cj Φ q
  .rcases j0.1 M with M|M
   .exact aI.qQ R (λr q=>by obtain⟨e,c,s,E,_⟩:=bO r q;exact⟨e,c,s,E⟩) y M
   .rw[j6.1 M];have cn:=c3.ext bJ;exact⟨a8,br cn R λr q I=>by
     obtain⟨e,c,s,E,_⟩:=bO r I;exact ch cn s (λhe=>E he.symm) q rfl⟩
  .rw[Z4,aE,u9,C,l7,Z4];rfl
  .rcases bM r q with h|h
   .exact a1 r h
   .omega
 rintro V cP ⟨W,bz,szv,gs,B,H,aT,aC,aW,aY,bB,aE,a1⟩;refine b2 Ω ?_;rw[o8]at aW aE;refine(Ol (b0.ext W) Q).mono ?_;rintro aZ ba _ ⟨aw,go,O,K,cp,cq,eh⟩;have cr:O.length=(fI f).length:=by rw[<-cq,u7]
 have ei:O.length<=256:=by
  have h1:=(qG Q).2.length_eq;have bc:=(lj Q).2.2;have ej:=Q0 fH (ft f);have ek:=Q.la;omega
 have z4:=W.size;have em:=aw.size;have eo:=aC.lt;rw[e4 cX.u K];refine bU.range O.length (λi Y=>mY w ba.heap.size gt gs go szv aZ f O Y/\Dt w ba.heap.size A szv f.k (dL f i) O Y) K.le
  ⟨⟨W.trans aw,o6 _,bz.ext aw,aW.ext aw,K,λr q=>by have:=K.leads q;omega,λh ap=>(cp h ap).1⟩,B,H,aT,_,0,[],aC.ext aw,bB.ext aw,aE,a1,bg.nil _ _ _ _ _,λx bx=>(by cases bx),rfl,λr q=>(fu q).elim⟩ ?_ ?_
 rotate_left
 .rintro Y c7 ⟨ay,B,H,aT,Z,gr,L,bd,be,ab,aJ,aK,aA,ad,aM⟩;obtain⟨c8,ep,ct,bP,er,es,da⟩:=id ay;have bh:=pu f O.length;rw[cr,ti]at bh;rw[cr,ti]at bd ab ad;refine b2 Ω ?_;rw[bE dH.p dH.i rfl (show Y.rangeAt A 0 [Δ f.k,szv,Δ (cH f).zero,B,Z]from bd.range)];refine b1 (vs:=[Δ f.k,szv,Δ (cH f).zero,B,Z]) dH.i rfl rfl (λu hu=>?_) ct λeu aO ev db=>?_
  .simp at hu;rcases hu with rfl|rfl|rfl|rfl|rfl
   .rfl
   .exact bP.ls.cells.2
   .rfl
   .exact (eP be.1.sl).2
   .exact (eP aK.sl).2
  rw[fb dH.p dH.i rfl db.range];have al:∀r,r=gt->∃e c,ac Y r e c/\e≠am/\e≠aq/\e≠ah/\e≠aX:=λr q=>by
   subst q;exact⟨_,_,ct,Φ,Φ,Φ,Φ⟩
  refine⟨c8.then aO λr q he=>by have he:r=gt:=he;omega,szv,gs,B,H,aT,Z,gr,L,?_,?_,be.aa aO (λr q=>?_),ab,aK.aa aO (λr q I=>?_),λh ap=>?_,ad,aY,λh ap r q=>by have:=(cp h (aA h ap)).2 r q;omega⟩
  .rw[bh.1]
  .rw[bh.2.1];refine br bP aO λr q I=>?_;obtain⟨e,c,s,_,_,E,_⟩:=al r I;exact ch bP s (λhe=>E he.symm) q rfl
  .obtain⟨e,c,s,h1,bc,_⟩:=al r q;exact⟨e,c,s,h1,bc⟩
  .obtain⟨e,c,s,_,_,_,E⟩:=al r I;exact cQ aK s (λhe=>E he.symm) q
  .rw[bh.2.1];exact mX (da h (aA h ap)) aO λr q=>by
    obtain⟨e,c,s,h1,_,bc,_⟩:=al r q;exact .inl ⟨e,c,s,bc,h1⟩
 rintro i Y c7 hi ⟨ay,B,H,aT,Z,gr,L,bd,be,ab,aJ,aK,aA,ad,aM⟩ dc;obtain⟨y,M⟩:=aF (l:=O) hi;have bi:=x6 M;have cu:(fI f)[i]?=σ (dx y):=by rw[<-cq,v8,M];rfl
 have bQ:fw f.sizes f.k (dx y):=sX Q _ (x6 cu);have bS:=wv cu;obtain⟨ew,ey,eA,eB⟩:=pu f i;refine bA Ω ?_;refine dh (λbT=>mY w ba.heap.size gt gs go szv aZ f O bT/\Dt w ba.heap.size A szv f.k (dL f (i+1)) O bT) ?_ ?_
 .rintro bT h;rw[aL];exact dc _ h
 intro ax bV;rw[du rfl cX.u aX.i ay.2.2.2.2.1 hi,bE aX.p aX.i rfl (ay.2.2.2.2.1.range M)];refine bw aX.i λdd eC eD de df=>?_;refine b1 (vs:=dm y) aX.i rfl rfl (ay.2.2.2.2.2.2 y bi).one df λcw dg eE bj=>?_;have bk:Ext Y cw:=de.put dg Ω;have bl:=ay.ext bk;have af:=bd.ext bk;have bW:=be.ext bk;have bm:=aK.ext bk;obtain⟨eF,eH,cz,eI,eJ,eK,cA⟩:=id bl;obtain⟨⟨eL,cB⟩,_,di,cC⟩:=cA y bi;rw[aH aX.p 0 bj rfl,aU an.u cB.ls];have eM:aT.length=f.sizes.length:=by have:=congrArg Q4 ab;rw[u7]at this;omega
 have eN:L.length<=256:=by have:=congrArg Q4 ad;rw[u7]at this;omega
 rw[bf,aj];refine⟨λeO=>?_,λeQ=>?_⟩
 .
  have ag:y.sc=[]:=c9 Ω;have G:dL f (i+1)={dL f i with zero:=y.cs.getD 0 0}:=by rw[bS];unfold iZ;simp only[dx,ag]
  have eR:y.cs.length=1:=by have:=bQ.len;simpa[dx,ag,bI,aN]using this
  have dj:y.cs[0]?=σ (y.cs.getD 0 0):=by rw[u4,x7 Ω];rfl
  rw[aH aX.p 2 bj rfl,fq (y:=0) (i:=0) rfl aq.u am.i Ψ cC.ls dj,aS dH.p rfl];refine bp am.i rfl rfl af Ξ λdk P dl dn=>?_;refine bV _ ⟨bl.aa P λr q=>?_,B,H,aT,Z,gr,L,?_,bW.aa P (λr q=>?_),by rw[G];exact ab,aJ,bm.aa P (λr q I=>?_),aA,by rw[G];exact ad,aM⟩
  .have q:r=A:=q;subst q;exact⟨Ω,E,.inl ⟨_,af⟩⟩
  .rw[G];exact dn
  .have q:r=A:=q;subst q;exact⟨_,_,af,Φ,Φ⟩
  .have I:r=A:=I;subst I;exact cQ bm af Φ q
 rw[bf,aj];refine⟨λh1=>?_,λeS=>?_⟩
 .
  obtain⟨v,ag⟩:∃v,y.sc=[v]:=V2.1 Ω;have eU:=bQ.scope.1 v (by show v∈y.sc;rw[ag];exact .head _);have eV:=bQ.vars v (by show v∈y.sc;rw[ag];exact .head _);have G:dL f (i+1)={dL f i with unary:=(dL f i).unary.set v.toNat y.cs}:=by rw[bS];unfold iZ;simp only[dx,ag]
  intro dp S _ _;have bY:=af.ext S;have cD:=bj.ext S;have aQ:=bW.ext S;have dr:=bl.ext S;have cE:=bm.ext S;rw[aH dH.p 3 bY rfl,aH aX.p 0 cD rfl];refine qf (y:=0) (i:=0) rfl an.u ah.i (cB.ls.ext S) (show y.sc[0]?=σ v by rw[ag];rfl) λb o ds=>?_;rw[aD Ψ ds,aH aX.p 2 cD rfl];obtain⟨u,hu⟩:=aF (l:=aT) (i:=v.toNat) Ω;rw[du (i:=v.toNat) Ω cR.u aq.i aQ.1 Ω];let a:ln:=⟨y.aZ,y.cs⟩;have bn:=cC.ext S;refine pk (f:=n2) (j:=0) (a:=u) (a':=a) aq.i bn.ls.cells.1 bn.ls.cells.2 aQ.1 hu rfl Ω λdk P dl dt=>?_;have av:∀{r:Nat},leadsTo B r->∃c,ac dp r aq c:=λq=>by
   obtain⟨rfl,c,s⟩:=en aQ.1 q;exact⟨c,s⟩
  refine bV _ ⟨dr.aa P λr q=>?_,B,H,aT.set v.toNat a,Z,gr,L,?_,⟨dt,λz C=>?_⟩,?_,aJ,cE.aa P (λr q I=>?_),aA,by rw[G];exact ad,aM⟩
  .obtain⟨c,s⟩:=av q;exact⟨aJ r q,λhe=>(by subst he;exact absurd (ez s (cz.ext S)) Φ),.inr (.inl ⟨c,s⟩)⟩
  .rw[G];exact bY.aa P λhe=>cQ aQ.1 bY Φ he
  .rcases W7 C with C|rfl
   .exact aQ.qQ P (λr q=>by obtain⟨c,s⟩:=av q;exact⟨_,c,s,Φ⟩) z C
   .exact⟨di,br bn P λr q I=>by
     obtain⟨c,s⟩:=av I;exact ch bn s Φ q rfl⟩
  .rw[G,U8,ab]
  .obtain⟨c,s⟩:=av I;exact cQ cE s Φ q
 .
  have G:dL f (i+1)={dL f i with funs:=(dL f i).funs++[dx y]}:=by
   rw[bS];unfold iZ;have cF:2<=(dx y).1.length:=by show 2<=y.sc.length;omega
   generalize dx y=g at cF ⊢;obtain⟨sc,cs⟩:=g
   match sc,cF with
   |_::_::_,_=>rfl
  rw[aH dH.p 4 af rfl,bE aX.p aX.i rfl (show cw.rangeAt dd 0 (dm y)from bj.range)];refine iy (f:=dm) (k:=3) (a:=y) cX.u aX.i Ω rfl rfl λeW eX dv eY aB dw=>?_;have bo:=bm.ext aB;have dy:=bW.ext aB;have bq:=af.ext aB;have dz:=bl.ext aB;refine iV (f:=dm) (a:=y) cX.u aX.i rfl bo (by simpa using dw.sl) (cA y bi).one Ω Ω λbK bL eZ bt bM cG=>?_;have cI:=bq.aa cG λhe=>cQ bo bq Φ he;rw[aS dH.p rfl];refine bp cX.i (eP bt.sl).1 (eP bt.sl).2 cI Ξ λdA cJ e0 dC=>?_;have R:ae (λr=>leadsTo Z r\/r=A) dv dA:=(cG.mono λr _ h=>.inl h).trans (cJ.mono λr _ h=>.inr h);have e1:=aB.size;refine bV _ ⟨dz.aa R λr q=>?_,B,H,aT,bK,bL,L++[y],?_,dy.aa R (λr q=>?_),by rw[G];exact ab,aJ,bt.aa cJ (λr q I=>?_),λz C=>?_,?_,λr q=>?_⟩
  .rcases q with q|rfl
   .obtain⟨rfl,c,s⟩:=en bo q;have:=aM _ q;refine⟨Ω,λhe=>?_,.inr (.inr ⟨⟨c,s⟩,this⟩)⟩;subst he;exact absurd (ez s (cz.ext aB)) Φ
   .exact⟨Ω,E,.inl ⟨_,bq⟩⟩
  .rw[G];exact dC
  .rcases q with q|rfl
   .obtain⟨rfl,c,s⟩:=en bo q;exact⟨_,c,s,Φ,Φ⟩
   .exact⟨_,_,bq,Φ,Φ⟩
  .have I:r=A:=I;subst I;exact cQ bt cI Φ q
  .rcases j0.1 C with C|C
   .exact aA z C
   .rw[j6.1 C];exact bi
  .rw[G,Z4,ad];rfl
  .rcases bM r q with h|h
   .exact aM r h
   .omega
def qW(w:x4)(S:Nat->Prop)(e:r9):Prop:=∀r,S r->∃c,ac w r e c
def wU{k:n9}{g:Nat}(h:au k a w g v l)(f:ae S w w')(j:qW w S e)(p:a≠e):au k a w' g v l:=br h f λr q I=>by
 obtain⟨c,s⟩:=j r I;exact ch h s p q rfl
def Dv{α:Type}{f:α->List x3}{k:Nat}{g:Nat}{L:List α}(h:bg f k a w g v L)(j:ae S w w')(p:qW w S e)(q:a≠e):bg f k a w' g v L:=h.aa j λr s I=>by
 obtain⟨c,x⟩:=p r I;exact cQ h x q s
def wV{r:Nat}{c:List x3}(h:ac w r a c)(f:ae S w w')(j:qW w S e)(p:a≠e):ac w' r a c:=h.aa f λI=>by
 obtain⟨c,q⟩:=j r I;exact p (ez h q)
def Dw{g:Nat}{c:List x3}(h:ac w g e c):qW w (λr=>r=g) e:=λr a=>by
 have a:r=g:=a;subst a;exact⟨c,h⟩
def qX{k:n9}{g:Nat}(h:au k e w g v l):qW w (λr=>leads v r) e:=λr f=>by
 have f:leads v r:=f;obtain⟨rfl,_⟩:=bR h f;obtain⟨_,⟨p,_⟩|⟨cap,full,_,q,_⟩⟩:=h
 .obtain⟨a,n,c,j,_⟩:=f;rw[p]at j;cases j
 .exact⟨_,q⟩
def aw(x:be):Λ:=((W5 x.un.length).map λv:Nat=>(v:Int)).filter λv=>!dropped x.mask v
def wW{P:V1}{k:n9}{t:r9}{b:Nat}{K:x3->x4->Prop}(a:P.underlying t=σ (.slice e))(hi:aQ P e 1 b z)(f:∀v g w',g=w.heap.size->Ext w w'->au k e w' g v []->K v w'):aB P (Y8 t 0 #[]) w K:=
 jK a hi Ω (cs:=#[]) (by simp[Instr.fill]) λg w' h j p=>f _ g w' h j (au.of (n:=0) (bX.full (by simpa using p) Ξ (by simp[maxLen])))
def On{n:aK}(h:wT w B v n){g:Nat}(j:ac w' g dH v.cells.toList):∃szv gz a f aT e gr L,ac w' g dH [Δ n.k,szv,Δ n.zero,a,e]/\au .i64 ah w gz szv n.sizes/\hK w f a aT/\aT.map (·.l)=n.unary/\bg dm 3 aX w gr e L/\(∀h∈L,fO w n.sizes h)/\L.map dx=n.funs/\(∀r,leads szv r->B<=r)/\∀h∈L,∀r,pz h r->B<=r:=by
 obtain⟨szv,gz,a,f,aT,e,gr,L,rfl,p,q,x,s,y,z⟩:=h;obtain⟨_,_,_,A⟩:=c8 p.ls;obtain⟨_,_,_,_,_,C,_⟩:=q.1.sl;obtain⟨_,_,_,_,_,E,_⟩:=s.sl;refine⟨szv,gz,a,f,aT,e,gr,L,?_,p,q,x,s,y,z⟩;rw[A,C,E]at j ⊢;exact j
def z12:List x3:=[Δ 0,.slice ν 0 0,Δ 0,.slice ν 0 0,.slice ν 0 0,.slice ν 0 0,.slice ν 0 0,.slice ν 0 0]
def Oo(u:Λ):aw (newVar u)=(W5 u.length).map λv:Nat=>(v:Int):=by
 unfold aw newVar dropped;rw[List.filter_eq_self.2];intro a _;simp
section
variable{P:V1}{w:x4}{t:r9}{cx cy:Bool}{a b:Nat}{K:x3->Prop}
def Oq(f:a<2 ^ 62)(h:b<2 ^ 62):V P (aJ .or t cx cy (Δ a) (Δ b)) w K=K (Δ ((a ||| b:Nat):Int)):=V.of λw' _=>by
 have e:(T4 64 (a:Int) ||| T4 64 (b:Int)).toNat=a ||| b:=by
  rw[mL,mL,BitVec.toNat_or,BitVec.toNat_ofNat,BitVec.toNat_ofNat,Nat.mod_eq_of_lt Ω,Nat.mod_eq_of_lt Ω]
 have p:a ||| b<2 ^ 62:=Nat.or_lt_two_pow f h;have hw:X9.wrap ((a ||| b:Nat):Int)=((a ||| b:Nat):Int):=wrap_i64 Ω Ω;have j:(T4 X9.bits (a:Int) ||| T4 X9.bits (b:Int)).toNat=a ||| b:=e;simp only[aJ,eqGuard,binOp,Op.intBits,j,hw];rfl
def Dx(j:a<2 ^ 62)(f:b<2 ^ 62):V P (aJ .and t cx cy (Δ a) (Δ b)) w K=K (Δ ((a &&& b:Nat):Int)):=V.of λw' _=>by
 have e:(T4 64 (a:Int) &&& T4 64 (b:Int)).toNat=a &&& b:=by
  rw[mL,mL,BitVec.toNat_and,BitVec.toNat_ofNat,BitVec.toNat_ofNat,Nat.mod_eq_of_lt Ω,Nat.mod_eq_of_lt Ω]
 have p:a &&& b<2 ^ 62:=Nat.and_lt_two_pow _ f;have hw:X9.wrap ((a &&& b:Nat):Int)=((a &&& b:Nat):Int):=wrap_i64 Ω Ω;have h:(T4 X9.bits (a:Int) &&& T4 X9.bits (b:Int)).toNat=a &&& b:=e;simp only[aJ,eqGuard,binOp,Op.intBits,h,hw];rfl
def Ot{k:n9}{n:Nat}(a:n<62):V P (aJ .shl t cx cy (Δ 1) (.int k (n:Int))) w K=K (Δ ((2 ^ n:Nat):Int)):=by
 rw[zx Ω];have e:min ((n:Int).toNat) X9.bits=n:=Nat.min_eq_left (by show n<=64;omega);have f:2 ^ n<2 ^ 62:=Nat.pow_lt_pow_right Ω a;rw[e,Int.one_mul,show((2:Int) ^ n)=((2 ^ n:Nat):Int) by simp];generalize 2 ^ n=q at f ⊢;rw[wrap_i64 Ω Ω]
end
def Dy(a n:Nat):(a / 2 ^ n &&& 1=1)↔a.testBit n=true:=by
 rw[Nat.and_one_is_mod,Nat.testBit_eq_decide_div_mod_eq,decide_eq_true_eq]
def Dz{b n:Nat}{v:Int}(q:k9 b n):ai x8 GV [iR b n,Δ v] w λr w'=>r= .bool (decide (0<=v/\v<n)&&b.testBit v.toNat)/\Ext w w':=by
 refine az func97 ?_;refine bk λg J A e f=>?_;refine aW (λr U=>r= .bool (decide (0<=v/\v<n)&&b.testBit v.toNat)/\Ext w U) (λ_ _ h=>h) λax j=>?_;rw[bE b5.p b5.i rfl f.range];refine AG.mono ?_;rintro _ B _ ⟨rfl,a⟩;rw[aj];refine⟨λh=>?_,λh=>j _ _ ⟨by rw[decide_eq_false h];rfl,e.trans a⟩⟩;obtain⟨x,C⟩:=q;obtain⟨s,rfl⟩:∃s:Nat,v=s:=⟨v.toNat,Ω⟩;have y:=f.ext a;have E:(2:Nat) ^ n<=2 ^ 32:=T9 Ω x;have z:b / 2 ^ s<2 ^ 64:=Nat.lt_of_le_of_lt (Nat.div_le_self _ _) Ω;rw[aH b5.p 0 y rfl,k8 Ω,show(1:Int)=((1:Nat):Int)from rfl,u64_and z Ω,bf];refine j _ _ ⟨?_,e.trans a⟩;congr 1;rw[decide_eq_true h,T6,V7,decide_eq_true_eq,r8,<-Dy];omega
def Ou(m v:Nat):dropped (m:Int) (v:Int)=m.testBit v:=by unfold dropped;rw[r8,r8]
def bF(w:x4)(ab ad:Nat)(A R:af)(n:aK)(s:ao)(t:ay):Prop:=StateM w ab ad A R n s t/\t.bV=s.cells/\mT t/\bi n.k n.sizes s/\jV n
def bF.ext{A R:af}{n:aK}{s:ao}{t:ay}(h:bF w ab ad A R n s t)(a:Ext w w'):bF w' ab ad A R n s t:=⟨h.1.ext a,h.2⟩
def StateM.parts{A R:af}{n:aK}{s:ao}{t:ay}(h:StateM w ab ad A R n s t):∃a e f j a1 p L q,ac w ab cu [Γ a,Γ ad,e,f,j]/\gd w a n/\dw w ad q t/\au .i64 ah w a1 e (iC s)/\bg mh 3 dS w p f L/\lp R w L s:=by
 obtain⟨a,e,f,j,_,a1,p,ge,L,E,q,w0,r,⟨x,y,G⟩,⟨z,H,I,J⟩,B,⟨C,F⟩,K,M⟩:=h;exact⟨a,e,f,j,a1,p,L,q,r,x.ext y,z,B,C,F⟩
def qY{s:ao}{i:Nat}(h:i<s.vars.length):(iC s)[i]?=σ (fe s i:Int):=by
 unfold iC;rw[v8,List.getElem?_range h];rfl
def tu{s:ao}{t:ay}(a:t.bV=s.cells)(I:mT t):s.cells.length<=100000000:=by
 rw[<-a];unfold ay.bV;rw[u7];exact I.1
def tv{s:ao}{i:Nat}{x:be}(h:s.vars[i]?=σ x):fe s i+x.un.length+2<=s.cells.length:=by
 have h1:=pv h (j:=x.un.length+1) Ω;have a:(hL x)[x.un.length+1]? ≠ν:=by
  rw[Ne,List.getElem?_eq_none_iff];show¬(x.un.length+1+1<=x.un.length+1);omega
 rw[<-h1]at a;have:=(x5.1 (Option.ne_none_iff_exists'.1 a).choose_spec).1;omega
def DA{s:ao}{f:cK}(h:s.funs[j]?=σ f):ff s j+f.cs.length+1<=s.cells.length:=by
 have h1:=wz h (j:=f.cs.length) Ω;have a:(h8 f)[f.cs.length]? ≠ν:=by
  rw[Ne,List.getElem?_eq_none_iff];show¬(f.cs.length+1<=f.cs.length);omega
 rw[<-h1]at a;have:=(x5.1 (Option.ne_none_iff_exists'.1 a).choose_spec).1;omega
section
variable{w:x4}{ab ad:Nat}{A R:af}{n:aK}{s:ao}{t:ay}
def DB(h:bF w ab ad A R n s t):ai x8 GQ [Γ ab] w λv w'=>(∃a,v=Γ a/\gd w' a n)/\Ext w w':=by
 obtain⟨a,j,q,r,a1,x,L,y,e,f,z,B,C,E⟩:=h.1.parts;refine az func92 ?_;rw[dc ds.u];simp only[Z6,aY];rw[aP cu.p 0 e rfl];exact⟨⟨a,rfl,f⟩,Ext.refl _⟩
def wX(h:bF w ab ad A R n s t):ai x8 Gh [Γ ab] w λv w'=>v=Δ (n.sizes.length:Int)/\Ext w w':=by
 refine az func47 ?_;refine(DB h).mono ?_;rintro _ J _ ⟨⟨j,rfl,a⟩,e⟩;refine(wB a).mono ?_;rintro _ U _ ⟨rfl,f⟩;exact⟨rfl,e.trans f⟩
def mZ(h:bF w ab ad A R n s t):ai x8 Hp [Γ ab] w λv w'=>v=Δ n.k/\Ext w w':=by
 refine az func149 ?_;refine(DB h).mono ?_;rintro _ J _ ⟨⟨j,rfl,a⟩,e⟩;refine(NA a).mono ?_;rintro _ U _ ⟨rfl,f⟩;exact⟨rfl,e.trans f⟩
def wY{i:Int}(h:bF w ab ad A R n s t):ai x8 Gw [Γ ab,Δ i] w λv w'=>v= .bool (decide (0<=i/\i<n.sizes.length))/\Ext w w':=by
 refine az func65 ?_;refine aW (λv J=>v= .bool (decide (0<=i/\i<n.sizes.length))/\Ext w J) (λ_ _ h=>h) λax a=>?_;rw[cS,aj];refine⟨λe=>?_,λe=>a _ _ ⟨by rw[decide_eq_false Ω],Ext.refl _⟩⟩;refine(wX h).mono ?_;rintro _ J _ ⟨rfl,f⟩;rw[aR];refine a _ _ ⟨?_,f⟩;congr 1;exact decide_eq_decide.2 ⟨λh=>⟨e,h⟩,λh=>h.2⟩
def pA(h:bF w ab ad A R n s t):ai x8 F3 [Γ ab] w λv w'=>v=Δ s.zero/\Ext w w':=by
 obtain⟨j,q,r,x,a1,y,L,z,a,B,e,C,E,G⟩:=h.1.parts;refine az func14 ?_;rw[dc ds.u];simp only[Z6,aY];rw[aP cu.p 1 a rfl];refine(mS (i:=0) e rfl (show t.bV[0]?=σ s.zero by rw[h.2.1];exact Nv s)).mono ?_;rintro _ J _ ⟨rfl,f⟩;exact⟨rfl,f⟩
def wZ(h:bF w ab ad A R n s t):ai x8 F5 [Γ ab] w λv w'=>v=Δ (s.funs.length:Int)/\Ext w w':=by
 obtain⟨j,q,r,x,a1,y,L,z,a,B,C,E,e,f⟩:=h.1.parts;refine az func16 ?_;rw[dc ds.u];simp only[Z6,aY];rw[aP cu.p 3 a rfl,e4 fm.u e];exact⟨by rw[f.1],Ext.refl _⟩
def er(s:ao)(i:Nat):Bool:=match s.vars[i]? with
 |some x=>decide (x.gone≠0)
 |none=>false
def qZ{i:Int}(h:bF w ab ad A R n s t):ai x8 Gj [Γ ab,Δ i] w λv w'=>v= .bool (decide (0<=i)&&er s i.toNat)/\Ext w w':=by
 refine az func49 ?_;refine aW (λv J=>v= .bool (decide (0<=i)&&er s i.toNat)/\Ext w J) (λ_ _ h=>h) λax e=>?_;intro U f _ _;refine(wY (h.ext f)).mono ?_;rintro _ I _ ⟨rfl,r⟩;have a:=f.trans r;have K:=h.2.2.2.1.vars;rw[aj];refine⟨λz=>?_,λM=>e _ _ ⟨?_,a⟩⟩
 .obtain⟨N,O,P,Q,a1,S,L,V,j,W,B,C,X,Y⟩:=(h.ext a).1.parts;obtain⟨x,q⟩:=aF (l:=s.vars) (i:=i.toNat) Ω;rw[aP cu.p 1 j rfl,aP cu.p 2 j rfl,fq (y:=i) (i:=i.toNat) Ω an.u ah.i Ψ C.ls (qY Ω)];have E:t.bV[fe s i.toNat+0]?=σ x.gone:=by rw[h.2.1,pv q Ω];rfl
  refine(mS (i:=fe s i.toNat) B rfl E).mono ?_;rintro _ Z _ ⟨rfl,G⟩;rw[bN];refine e _ _ ⟨?_,a.trans G⟩;rw[decide_eq_true z.1,T6];unfold er;rw[q]
 .by_cases H:0<=i
  .unfold er;rw[Y2 Ω,Bool.and_false]
  .rw[decide_eq_false H];rfl
def eR(n:aK)(i v:Int):Prop:=0<=i/\i<n.sizes.length/\0<=v/\v<n.sizes.getD i.toNat 0
instance (n:aK) (i v:Int):Decidable (eR n i v):=inferInstanceAs (Decidable (_/\_))
def eR.var{i v:Int}(h:eR n i v)(a:bi n.k n.sizes s):∃x,s.vars[i.toNat]?=σ x/\v.toNat<x.un.length/\x.un.length<=32/\n.sizes.getD i.toNat 0=x.un.length:=by
 obtain⟨h1,p,q,j⟩:=h;have r:=a.vars;obtain⟨x,f⟩:=aF (l:=s.vars) (i:=i.toNat) Ω;obtain⟨z,e⟩:=aF (l:=n.sizes) (i:=i.toNat) Ω;have w:=a.dQ.2.2 z (x6 e);have y:=(a.var i.toNat x z f e).1;rw[u4,e,V5]at j ⊢;exact⟨x,f,Ω,Ω,Ω⟩
def w1{i v:Int}(h:bF w ab ad A R n s t):ai x8 GN [Γ ab,Δ i,Δ v] w λr w'=>r=Δ (if eR n i v then((fe s i.toNat+2+v.toNat:Nat):Int)else-1)/\Ext w w':=by
 have aa:=h.2.2.2.1.vars;refine az func84 ?_;refine aW (λr J=>r= .bool (decide (¬eR n i v))/\Ext w J) ?_ ?_
 .rintro _ J ⟨rfl,q⟩;rw[aj];refine⟨λG=>⟨by rw[if_neg G],q⟩,λf=>?_⟩;have f:=X4.1 f;obtain⟨x,H,ac,ae,_⟩:=f.var h.2.2.2.1;obtain⟨I,K,M,N,a1,O,L,P,a,B,Q,C,S,V⟩:=(h.ext q).1.parts;have E:=tv H;have af:=tu h.2.1 h.2.2.1;obtain⟨h1,ag,ak,al⟩:=id f;rw[aP cu.p 2 a rfl,fq (y:=i) (i:=i.toNat) Ω an.u ah.i Ψ C.ls (qY Ω),aL,wrap_i64 Ω Ω,aL,wrap_i64 Ω Ω,if_pos f];refine⟨?_,q⟩;congr 1;omega
 .intro ax z;refine(wY h).mono ?_;rintro _ U _ ⟨rfl,j⟩;rw[bJ,cg];refine⟨λa=>?_,λa=>?_⟩
  .have a:¬(0<=i/\i<n.sizes.length):=λW=>by rw[decide_eq_true W]at a;cases a
   exact z _ _ ⟨by rw[decide_eq_true];exact λe=>a ⟨e.1,e.2.1⟩,j⟩
  have a:0<=i/\i<n.sizes.length:=by simpa using a
  rw[aR,aj];refine⟨λX=>z _ _ ⟨by rw[decide_eq_true];exact λe=>by have:=e.2.2.1;omega,j⟩,λX=>?_⟩;obtain⟨I,K,M,N,a1,O,L,P,Y,B,Q,C,S,V⟩:=(h.ext j).1.parts;rw[aP cu.p 0 Y rfl];refine(CV B h.2.2.2.2).mono ?_;rintro _ am _ ⟨Z,rfl⟩;rw[if_pos a.1,cS];refine z _ _ ⟨?_,j.trans Z⟩;congr 1;refine decide_eq_decide.2 ⟨λh e=>?_,λh=>?_⟩
  .have:=e.2.2.2;omega
  .refine Int.not_lt.1 λE=>h ⟨a.1,a.2,Ω,E⟩
def fP(s:ao)(i v:Nat):Int:=match s.vars[i]? with
 |some x=>x.un.getD v 0
 |none=>0
def m3{i v:Int}(h:bF w ab ad A R n s t):ai x8 uT [Γ ab,Δ i,Δ v] w λr w'=>r=(if eR n i v then .tuple #[Δ (fP s i.toNat v.toNat),Δ 0]else .tuple #[Δ 0,Δ 1])/\Ext w w':=by
 refine az func37 ?_;rw[dc ds.u];simp only[Z6,aY];refine(w1 h).mono ?_;rintro _ J _ ⟨rfl,e⟩;by_cases a:eR n i v
 .rw[if_pos a,if_pos a];refine b2 Ω ?_;obtain⟨x,f,j,C,_⟩:=a.var h.2.2.2.1;obtain⟨E,G,H,I,a1,K,L,M,q,N,y,O,P,Q⟩:=(h.ext e).1.parts;rw[aP cu.p 1 q rfl];have z:t.bV[fe s i.toNat+2+v.toNat]?=σ (x.un.getD v.toNat 0):=by
   rw[h.2.1,R7,pv f Ω,show 2+v.toNat=v.toNat+1+1 by omega];show x.un[v.toNat]?=_;rw[u4,x7 j];rfl
  refine(mS (i:=fe s i.toNat+2+v.toNat) y rfl z).mono ?_;rintro _ U _ ⟨rfl,B⟩;refine⟨?_,e.trans B⟩;unfold fP;rw[f]
 .rw[if_neg a,if_neg a,aR,aj];exact⟨λ_=>⟨rfl,e⟩,λh=>Ω⟩
def gD(s:ao)(j:Nat):Bool:=match s.funs[j]? with
 |some f=>decide (f.live≠0)
 |none=>false
def w2{j:Int}(h:bF w ab ad A R n s t):ai x8 Gk [Γ ab,Δ j] w λv w'=>v= .bool (decide (0<=j)&&gD s j.toNat)/\Ext w w':=by
 refine az func50 ?_;refine aW (λv J=>v= .bool (decide (0<=j)&&gD s j.toNat)/\Ext w J) (λ_ _ h=>h) λax a=>?_;intro U e _ _;rw[cS,aj];refine⟨λq=>?_,λq=>a _ _ ⟨by rw[decide_eq_false q];rfl,e⟩⟩;refine(wZ (h.ext e)).mono ?_;rintro _ N _ ⟨rfl,G⟩;have r:=e.trans G;rw[aR,aj];refine⟨λO=>?_,λP=>a _ _ ⟨?_,r⟩⟩
 .obtain⟨Q,S,V,W,a1,X,L,Y,B,Z,H,aa,C,x⟩:=(h.ext r).1.parts;obtain⟨f,z⟩:=aF (l:=s.funs) (i:=j.toNat) Ω;obtain⟨y,E⟩:∃y,L[j.toNat]?=σ y:=⟨_,x7 (by rw[x.1];omega)⟩;obtain⟨_,_,I⟩:=x.2 j.toNat y f E z;rw[aP cu.p 1 B rfl,aP cu.p 3 B rfl,du (i:=j.toNat) Ω fm.u dS.i C (by rw[x.1];omega),aS dS.p rfl,aD (v:=Δ (y.at_:Int)) Ψ (C.range E 2 _ rfl)];have K:t.bV[ff s j.toNat+0]?=σ f.live:=by rw[h.2.1,wz z Ω];rfl
  refine(mS (i:=ff s j.toNat) H (by rw[I]) K).mono ?_;rintro _ ac _ ⟨rfl,M⟩;rw[bN];refine a _ _ ⟨?_,r.trans M⟩;rw[decide_eq_true q,T6];unfold gD;rw[z]
 .unfold gD;rw[Y2 Ω,Bool.and_false]
end
def tw(s:ao)(n:aK)(i:Int)(b m:Nat):Prop:=k9 b m/\(¬(0<=i/\i<n.sizes.length)->b=0/\m=0)/\∀x,0<=i->s.vars[i.toNat]?=σ x->m=x.un.length/\∀j:Nat,b.testBit j=(decide (j<x.un.length)&& !dropped x.mask (j:Int))
section
variable{w:x4}{ab ad:Nat}{A R:af}{n:aK}{s:ao}{t:ay}
def iE{i:Int}(h:bF w ab ad A R n s t):ai x8 yW [Γ ab,Δ i] w λv w'=>(∃b m,v=iR b m/\tw s n i b m)/\Ext w w':=by
 have bn:=h.2.2.2.1.vars;refine az func26 ?_;refine bw b5.i λf J bo am P=>?_;have P:ac J f b5 [.int .u64 0,Δ 0]:=P;refine(wY (h.ext am)).mono ?_;rintro _ U _ ⟨rfl,ao⟩;have Q:=P.ext ao;have S:=am.trans ao;rw[bJ,cg];refine⟨λa=>?_,λa=>?_⟩
 .have a:¬(0<=i/\i<n.sizes.length):=λaN=>by rw[decide_eq_true aN]at a;cases a
  rw[dq (cs:=#[.int .u64 0,Δ 0]) Ψ];refine b1 (vs:=[.int .u64 0,Δ 0]) b5.i rfl rfl (by intro u hu;simp at hu;rcases hu with rfl|rfl<;>rfl) Q λbp aO bq aQ=>?_;rw[fb b5.p b5.i rfl aQ.range];refine⟨⟨0,0,rfl,⟨Ω,Ξ⟩,λ_=>⟨rfl,rfl⟩,λx ap aR=>?_⟩,S.put aO Ω⟩;have:=(x5.1 aR).1;exact absurd ⟨ap,Ω⟩ a
 have a:0<=i/\i<n.sizes.length:=by simpa using a
 obtain⟨x,E⟩:=aF (l:=s.vars) (i:=i.toNat) Ω;obtain⟨z,V⟩:=aF (l:=n.sizes) (i:=i.toNat) Ω;have aS:=h.2.2.2.1.dQ.2.2 z (x6 V);obtain⟨br,_,bt,bu⟩:=h.2.2.2.1.var i.toNat x z E V;obtain⟨aT,aU,aV,aW,a1,aX,L,aY,G,aq,_⟩:=(h.ext S).1.parts;rw[aP cu.p 0 G rfl];refine(CV aq h.2.2.2.2).mono ?_;rintro _ bB _ ⟨W,rfl⟩;rw[if_pos a.1,u4,V,V5];refine J1.mono ?_;rintro _ bC _ ⟨X,rfl⟩;rw[if_pos aS];obtain⟨m,rfl⟩:∃m:Nat,z=m:=⟨z.toNat,Ω⟩;rw[bx,bz,r8];have au:=(S.trans W).trans X;refine bw b5.i λe bD bG av aZ=>?_;refine b1 (vs:=[.int .u64 ((2 ^ m-1:Nat):Int),Δ (m:Int)]) b5.i rfl rfl (by intro u hu;simp at hu;rcases hu with rfl|rfl<;>rfl) aZ λaw ay bH a2=>?_;have z5:=au.size;have aA:Ext w aw:=(au.trans av).put ay Ω;have bI:=(((Q.ext W).ext X)).lt;have a6:ac aw f b5 [.int .u64 0,Δ 0]:=(((Q.ext W).ext X).ext av).aa ay λhe=>by have he:f=e:=he;omega
 intro bK Y _ _;have aB:=aA.trans Y;obtain⟨aT,aU,aV,aW,a1,aX,L,aY,G,aq,a7,a8,_⟩:=(h.ext aB).1.parts;have bL:=tv E;have bM:=tu h.2.1 h.2.2.1;rw[aP cu.p 1 G rfl,aP cu.p 2 G rfl,fq (y:=i) (i:=i.toNat) Ω an.u ah.i Ψ a8.ls (qY Ω),aL,wrap_i64 Ω Ω];have ba:t.bV[fe s i.toNat+1]?=σ x.mask:=by rw[h.2.1,pv E Ω];rfl
 refine(mS (i:=fe s i.toNat+1) a7 Ω ba).mono ?_;rintro _ bb _ ⟨rfl,Z⟩;have aC:=(a2.ext Y).ext Z;have bc:=(a6.ext Y).ext Z;obtain⟨mk,aD⟩:∃mk:Nat,x.mask=mk:=⟨x.mask.toNat,Ω⟩;rw[bE b5.p b5.i rfl (show bb.rangeAt e 0 [.int .u64 ((2 ^ m-1:Nat):Int),Δ (m:Int)]from aC.range)];refine(vB (b:=2 ^ m-1) (n:=m)).mono ?_;rintro _ bN _ ⟨rfl,ae⟩;have bd:=aB.trans Z;have be:f≠e:=Ω
 have bO:=aA.size;have bP:w.heap.size<=e:=Ω
 have bQ:w.heap.size<=f:=Ω
 refine bU.range m (λq B=>Ext w B/\ac B f b5 [.int .u64 0,Δ 0]/\∃b:Nat,ac B e b5 [.int .u64 (b:Int),Δ (m:Int)]/\k9 b m/\∀j:Nat,b.testBit j=(decide (j<m)&& !(decide (j<q)&&mk.testBit j))) Ω
  ⟨bd.trans ae,bc.ext ae,_,aC.ext ae,⟨Ω,by have:=Nat.two_pow_pos m;omega⟩,λj=>by rw[AF];simp⟩ ?_ ?_
 .rintro q B bg bR ⟨H,I,b,C,K,M⟩ bh;refine bA Ω ?_;refine dh (λN=>Ext w N/\ac N f b5 [.int .u64 0,Δ 0]/\∃b:Nat,ac N e b5 [.int .u64 (b:Int),Δ (m:Int)]/\k9 b m/\∀j:Nat,b.testBit j=(decide (j<m)&& !(decide (j<q+1)&&mk.testBit j))) ?_ ?_
  .rintro N bi;rw[aL];exact bh _ bi
  intro ax aE;have bj:mk / 2 ^ q<2 ^ 62:=Nat.lt_of_le_of_lt (Nat.div_le_self _ _) Ω;rw[aD,BH Ω,show(1:Int)=((1:Nat):Int)from rfl,Dx bj Ω,bf,aj];have aG:(((mk / 2 ^ q &&& 1:Nat):Int)=((1:Nat):Int))↔mk.testBit q=true:=by rw[<-Dy];omega
  refine⟨λaf=>?_,λag=>?_⟩
  .have af:=aG.1 af;rw[bE b5.p b5.i rfl (show B.rangeAt e 0 [.int .u64 (b:Int),Δ (m:Int)]from C.range)];refine(J3 (v:=(q:Int)) K).mono ?_;rintro _ bS _ ⟨rfl,ak⟩;rw[if_pos ⟨Ω,Ω⟩,r8];refine b1 (vs:=[.int .u64 ((jO b (2 ^ q):Nat):Int),Δ (m:Int)]) b5.i rfl rfl (by intro u hu;simp at hu;rcases hu with rfl|rfl<;>rfl) (C.ext ak) λbT aH bW bk=>?_;have aI:∀j:Nat,(jO b (2 ^ q)).testBit j=(decide (j<m)&& !(decide (j<q+1)&&mk.testBit j)):=λj=>by
    rw[Ax,M,Nat.testBit_two_pow];by_cases aJ:j<m
    .by_cases O:j=q
     .subst O;simp[af]
     .have al:decide (j<q+1)=decide (j<q):=decide_eq_decide.2 ⟨λh=>Ω,λh=>Ω⟩;rw[al,decide_eq_true aJ,decide_eq_true (show j<64 by omega),decide_eq_false (show¬q=j from λh=>O h.symm)];simp
    .simp[aJ]
   refine aE _ ⟨(H.trans ak).then aH λr bX he=>by have he:r=e:=he;omega,(I.ext ak).aa aH λhe=>be he,_,bk,⟨Ω,JU λj aK=>by rw[aI,decide_eq_false Ω];rfl⟩,aI⟩
  .have ag:mk.testBit q=false:=by simpa using λh=>ag (aG.2 h)
   refine aE _ ⟨H,I,b,C,K,λj=>?_⟩;rw[M];by_cases O:j=q
   .subst O;simp[ag]
   .have al:decide (j<q+1)=decide (j<q):=decide_eq_decide.2 ⟨λh=>Ω,λh=>Ω⟩;rw[al]
 .rintro B bg ⟨H,I,b,C,K,M⟩;refine b2 Ω ?_;rw[bE b5.p b5.i rfl (show B.rangeAt e 0 [.int .u64 (b:Int),Δ (m:Int)]from C.range)];refine b1 (vs:=[.int .u64 (b:Int),Δ (m:Int)]) b5.i rfl rfl (by intro u hu;simp at hu;rcases hu with rfl|rfl<;>rfl) I λbY bl bZ bm=>?_;rw[fb b5.p b5.i rfl bm.range];refine⟨⟨b,m,rfl,K,λh=>absurd a h,λy ap aM=>?_⟩,H.put bl Ω⟩;rw[E]at aM;cases aM;refine⟨Ω,λj=>?_⟩;rw[M,aD,Ou,show x.un.length=m by omega];by_cases aK:j<m<;>simp[aK]
def tx{f:cK}(e:bi k sizes s)(j:f∈s.funs):ca f.ag/\f.cs.length=(aN f.ag).toNat/\aN f.ag<=4096:=by
 obtain⟨a,I,_⟩:=e.funs f j;rw[I];refine⟨⟨?_,me e.dQ.2.2 λv h=>⟨(a.scope.1 v h).1,a.vars v h⟩⟩,a.len,a.small⟩;have:=a.scope.2;simp[bI];exact this
def ia(s:ao)(j:Nat)(tl:Λ):Option Nat:=match s.funs[j]? with
 |some f=>if f.live≠0 then(cj f.ag tl 0).map λm=>ff s j+1+m.toNat else ν
 |none=>ν
def m4(s:ao)(j:Nat)(tl:Λ):Int:=match s.funs[j]? with
 |some f=>bh f.ag f.cs tl
 |none=>0
def DC(h:bF w ab ad A R n s t)(N:aG .i64 w aO tl):ai x8 GO [Γ ab,Δ (j:Int),aO] w λv w'=>v=Δ (match ia s j tl with|some p=>(p:Int)|none=>-1)/\Ext w w':=by
 refine az func85 ?_;refine(w2 h).mono ?_;rintro _ J _ ⟨rfl,B⟩;rw[decide_eq_true Ω,T6,r8,bJ,cg];refine⟨λa=>⟨?_,B⟩,λa=>?_⟩
 .have a:gD s j=false:=by simpa using a
  have:ia s j tl=ν:=by
   unfold ia;unfold gD at a;cases e:s.funs[j]? with
   |none=>rfl
   |some f=>
    rw[e]at a;have a:f.live=0:=by simpa using a
    simp[a]
  rw[this]
 have a:gD s j=true:=by simpa using a
 obtain⟨f,e,O⟩:∃f,s.funs[j]?=σ f/\f.live≠0:=by
  unfold gD at a;cases e:s.funs[j]? with
  |none=>rw[e]at a;cases a
  |some f=>rw[e]at a;exact⟨f,rfl,by simpa using a⟩
 obtain⟨I,af,ah⟩:=tx h.2.2.2.1 (x6 e);obtain⟨P,Q,S,V,a1,K,L,W,C,X,Y,Z,x,z⟩:=(h.ext B).1.parts;obtain⟨y,r⟩:∃y,L[j]?=σ y:=⟨_,x7 (by rw[z.1];exact(x5.1 e).1)⟩;have E:=(x5.1 r).1;obtain⟨_,aa,M⟩:=z.2 j y f r e;have ac:J.rangeAt K (j*3+1) [y.szv]:=λq v G=>by
  match q,G with
  |0,G=>cases G;exact x.range r 1 _ rfl
 rw[aP cu.p 3 C rfl,du rfl fm.u dS.i x E,aS dS.p rfl,bE (cs:=[y.szv]) bC.p bC.i rfl ac];refine(zT aa.ls (N.ext B) I).mono ?_;rintro _ U _ ⟨rfl,ae⟩;have H:=B.trans ae;unfold k5 ia;rw[e];simp only[if_pos O];cases hi:cj f.ag tl 0 with
 |none=>
  simp only[Option.map_none];rw[bx,bz,bN,aj];exact⟨λ_=>⟨trivial,H⟩,λh=>absurd (show(3:Int)≠0 by decide) h⟩
 |some m=>
  simp only[Z7];rw[bx,bz,bN,aj];refine⟨λh=>absurd rfl h,λ_=>?_⟩;have ak:=k4 I.2 hi;have al:=DA e;have am:=tu h.2.1 h.2.2.1;obtain⟨P,Q,S,V,a1,K,L,W,C,X,Y,Z,x,z⟩:=(h.ext H).1.parts;obtain⟨y,r⟩:∃y,L[j]?=σ y:=⟨_,x7 (by rw[z.1];exact(x5.1 e).1)⟩;have E:=(x5.1 r).1;obtain⟨_,_,M⟩:=z.2 j y f r e;rw[aP cu.p 3 C rfl,du rfl fm.u dS.i x E,aS dS.p rfl,aD (v:=Δ (y.at_:Int)) Ψ (x.range r 2 _ rfl),M,aL,wrap_i64 Ω Ω,aL,wrap_i64 Ω Ω];refine⟨?_,H⟩;congr 1;omega
def DD{p:Nat}(e:bi k sizes s)(h:ia s j tl=σ p):s.cells[p]?=σ (m4 s j tl)/\∃f,s.funs[j]?=σ f/\f.live≠0/\∃m:Nat,cj f.ag tl 0=σ (m:Int)/\m<f.cs.length/\p=ff s j+(m+1):=by
 unfold ia at h;cases a:s.funs[j]? with
 |none=>rw[a]at h;cases h
 |some f=>
  rw[a]at h;simp only at h;split at h
  .rename_i r;obtain⟨m,hm,rfl⟩:=X2.1 h;obtain⟨w,x,y⟩:=tx e (x6 a);have z:=k4 w.2 hm;obtain⟨q,rfl⟩:∃q:Nat,m=q:=⟨m.toNat,Ω⟩;refine⟨?_,f,rfl,r,q,hm,Ω,Ω⟩;rw[show ff s j+1+(q:Int).toNat=ff s j+(q+1) by omega,wz a Ω];unfold m4 bh;rw[a];simp only[hm];show f.cs[q]?=_;rw[r8,u4,x7 Ω];rfl
  .cases h
def tz(h:bF w ab ad A R n s t)(e:aG .i64 w aO tl):ai x8 y0 [Γ ab,Δ (j:Int),aO] w λv w'=>v=(if(ia s j tl).isSome then .tuple #[Δ (m4 s j tl),Δ 0]else .tuple #[Δ 0,Δ 1])/\Ext w w':=by
 refine az func38 ?_;rw[dc ds.u];simp only[Z6,aY];refine(DC h e).mono ?_;rintro _ J _ ⟨rfl,a⟩;cases f:ia s j tl with
 |none=>
  simp only;rw[aR,aj];exact⟨λ_=>⟨rfl,a⟩,λh=>Ω⟩
 |some p=>
  simp only;refine b2 Ω ?_;obtain⟨y,z,B,C,a1,E,L,G,q,H,r,I,K,M⟩:=(h.ext a).1.parts;rw[aP cu.p 1 q rfl];refine(mS (i:=p) r rfl (by rw[h.2.1];exact(DD h.2.2.2.1 f).1)).mono ?_;rintro _ U _ ⟨rfl,x⟩;exact⟨rfl,a.trans x⟩
end
def eQ.parts{a:Nat}{e f q:x3}{A R:af}{n:aK}{s:ao}{t:ay}(h:eQ w ab ad a e f q A R n s t):∃a1 j L p,ac w ab cu [Γ a,Γ ad,e,f,q]/\gd w a n/\dw w ad p t/\au .i64 ah w a1 e (iC s)/\bg mh 3 dS w j f L/\lp R w L s:=by
 obtain⟨_,a1,j,ge,L,E,p,w0,r,⟨x,y,G⟩,⟨z,H,I,J⟩,B,⟨C,F⟩,K,M⟩:=h;exact⟨a1,j,L,p,r,x.ext y,z,B,C,F⟩
def Ov{a b:Int}(e:0<=a/\a<=k)(f:0<=b/\b<=k)(hk:1<=k/\k<=2147483648):ai x8 zf [Δ a,Δ b,Δ k] w λv w'=>v= .tuple #[Δ (min (a+b) k),Δ 0]/\Ext w w':=by
 refine Bc.mono ?_;rintro _ J _ ⟨rfl,h⟩;refine⟨?_,h⟩;unfold qp;rw[if_pos ⟨⟨hk,e.1,e.2⟩,hk,f.1,f.2⟩]
def Room(t:ay):Prop:=t.marks=[]\/t.olds.length<100000000
def dM(s:ao)(i v:Nat):ao:=match s.vars[i]? with
 |some x=>{s with vars:=s.vars.set i {x with mask:=((x.mask.toNat ||| 2 ^ v:Nat):Int)}}
 |none=>s
def bi.tA{s:ao}{i:Nat}{x y:be}(h:bi k sizes s)(e:s.vars[i]?=σ x)(r:y.un.length=x.un.length)(w:∀c∈y.un,0<=c/\c<=k)(hm:0<=y.mask/\y.mask<4294967296):bi k sizes {s with vars:=s.vars.set i y}:=
 ⟨h.fx,h.dQ,h.zero,by show(s.vars.set i y).length=_;rw[Z9];exact h.vars,λp z q a f=>by
  have a:(s.vars.set i y)[p]?=σ z:=a;rw[X1]at a;by_cases j:i=p
  .subst j;rw[if_pos rfl,if_pos (x5.1 e).1]at a;cases a;exact⟨r.trans (h.var i x q e f).1,w,hm⟩
  .rw[if_neg j]at a;exact h.var p z q a f,h.funs⟩
def bi.DE{s:ao}{f g:cK}(h:bi k sizes s)(e:s.funs[j]?=σ f)(h1:g.sc=f.sc)(p:g.ag=f.ag)(q:g.cs.length=f.cs.length)(r:∀c∈g.cs,0<=c/\c<=k):bi k sizes {s with funs:=s.funs.set j g}:=
 ⟨h.fx,h.dQ,h.zero,h.vars,h.var,λx a=>by
  rcases W7 a with a|rfl
  .exact h.funs x a
  .obtain⟨⟨w,y,z,A,B,F⟩,C,E⟩:=h.funs f (x6 e);refine⟨⟨?_,?_,?_,?_,?_,r⟩,?_,?_⟩
   .show jt x.sc;rw[h1];exact w
   .show x.sc.Pairwise _;rw[h1];exact y
   .show ∀v∈x.sc,_;rw[h1];exact z
   .show x.cs.length=(aN (bI sizes x.sc)).toNat;rw[h1,q];exact A
   .show aN (bI sizes x.sc)<=_;rw[h1];exact B
   .rw[h1,p];exact C
   .rw[h1];exact E⟩
def Ow{r:Nat}{c:List x3}(a:ac w r e c)(he:¬(e=fD\/e=eJ\/e=kX\/e=gl\/e=cu\/e=dS\/e=gk)):¬eA w r:=by
 rintro (⟨p,q,f,h⟩|j)
 .rw[ez a f]at he;exact he h
 .exact j _ a rfl
section
variable{w:x4}{ab ad:Nat}{A R:af}{n:aK}{s:ao}{t:ay}
def mT.set(h:mT t)(a:Room t)(p:Nat)(x:Int):mT (t.set p x):=by
 refine⟨by rw[ay.C0];exact h.1,?_,by rw[ay.wD];exact h.2.2⟩;rcases a with a|a
 .rw[ay.wE a];exact h.2.1
 .have:=ay.C1 t p x;omega
def DF{s':ao}{p:Nat}{x:Int}(h:bF w ab ad A R n s t)(z:y=(p:Int))(a:p<s.cells.length)(B:s.cells.set p x=s'.cells)(I:n8 s s')(C:bi n.k n.sizes s')(E:Room t):
  ai x8 zb [Γ ad,Δ y,Δ x] w λr w'=>r=Δ 0/\ae (eA w) w w'/\∃aI,Grow A w aI w'/\bF w' ab ad aI R n s' (t.set p x):=by
 obtain⟨G,j,q,_,H⟩:=id h;obtain⟨K,L,M⟩:=G.qT;have N:p<t.cells.length:=by rw[<-j]at a;unfold ay.bV at a;rw[u7]at a;exact a
 refine(tk L.min z N q).mono ?_;rintro _ J _ ⟨rfl,O,e,P⟩;obtain⟨aI,Q,S⟩:=M (λr=>K r\/O r) J _ ⟨e.1.mono λr _ h=>h.1,λr f=>f.elim .inl λh=>(e.2.1 r h).imp (λh=>h.1) id,λr f=>.inl f⟩ (P.mono λr h=>.inr h);exact⟨rfl,e.1.mono λr _ h=>.inl h.2,aI,Q,S.same I,by rw[ay.qe,j,B],q.set E p x,C,H⟩
def w3{i v:Int}(h:bF w ab ad A R n s t)(K:Room t):ai x8 GC [Γ ab,Δ i,Δ v] w λr w'=>(¬eR n i v->r=Δ 1/\Ext w w')/\
  (eR n i v->r=Δ 0/\ae (eA w) w w'/\∃aI x,Grow A w aI w'/\bF w' ab ad aI R n (dM s i.toNat v.toNat) (t.set (fe s i.toNat+1) x)):=by
 refine az func71 ?_;rw[dc ds.u];simp only[Z6,aY];refine(w1 h).mono ?_;rintro _ J _ ⟨rfl,f⟩;by_cases e:eR n i v
 rotate_left
 .rw[if_neg e,aR,aj];exact⟨λ_=>⟨λ_=>⟨by trivial,f⟩,λh=>absurd h e⟩,λh=>Ω⟩
 rw[if_pos e];refine b2 Ω ?_;obtain⟨x,a,M,ac,af⟩:=e.var h.2.2.2.1;obtain⟨h1,ag,ak,al⟩:=id e;have am:=h.2.2.2.1.vars;obtain⟨z,N⟩:=aF (l:=n.sizes) (i:=i.toNat) Ω;obtain⟨_,O,ao,ap⟩:=h.2.2.2.1.var i.toNat x z a N;have aq:=tv a;have au:=tu h.2.1 h.2.2.1;obtain⟨av,aw,ax,ay,P⟩:=(h.ext f).1;obtain⟨a1,aA,L,aB,E,aC,Q,S,aD,aE⟩:=P.parts;rw[aP cu.p 2 E rfl,fq (y:=i) (i:=i.toNat) Ω an.u ah.i Ψ S.ls (qY Ω),aL,wrap_i64 Ω Ω];intro U j _ _;have V:=f.trans j;have G:=E.ext j;have W:=Q.ext j;obtain⟨q,rfl⟩:∃q:Nat,v=q:=⟨v.toNat,Ω⟩;obtain⟨mk,H⟩:∃mk:Nat,x.mask=mk:=⟨x.mask.toNat,Ω⟩;rw[r8]at M;rw[aP cu.p 1 G rfl,aP cu.p 1 G rfl,Ot Ω];have X:t.bV[fe s i.toNat+1]?=σ x.mask:=by rw[h.2.1,pv a Ω];rfl
 refine(mS (i:=fe s i.toNat+1) W Ω X).mono ?_;rintro _ aG _ ⟨rfl,I⟩;refine⟨.inl I,?_⟩;have aH:(2:Nat) ^ q<=2 ^ 31:=T9 Ω Ω;rw[H,Oq Ω Ω];have B:=V.trans I;have aJ:mk ||| 2 ^ q<2 ^ 32:=Nat.or_lt_two_pow Ω Ω;have C:dM s i.toNat (q:Int).toNat={s with vars:=s.vars.set i.toNat {x with mask:=((mk ||| 2 ^ q:Nat):Int)}}:=by
  unfold dM;rw[a];simp only[H,r8]
 refine(DF (p:=fe s i.toNat+1) (s':=dM s i.toNat (q:Int).toNat) (h.ext B) Ω Ω ?_ ?_ ?_ K).mono ?_
 .rw[C,CS a Ω];rfl
 .rw[C];exact CY a rfl
 .rw[C];exact h.2.2.2.1.tA a rfl O ⟨by simp only;omega,by simp only;omega⟩
 rintro _ aK _ ⟨rfl,Y,aI,Z,aa⟩;exact⟨λh=>absurd e h,λ_=>⟨rfl,iD B Y,aI,_,(Grow.ext B).trans Z,aa⟩⟩
end
def tB{cw:x3}{v:Int}(h:aG .i64 w cw l):ai x8 Gb [cw,Δ v] w λr w'=>r= .bool (decide (v∈l))/\Ext w w':=by
 refine az func31 ?_;rw[aU an.u h];refine b4.range l.length (λi _ J=>Ext w J/\v∉l.take i) h.le ⟨Ext.refl _,Ξ⟩ ?_ ?_
 .rintro i _ J k hi ⟨a,e⟩ hk;obtain⟨x,f⟩:=aF (l:=l) hi;refine bA Ω ?_;rw[bb an.u ah.i Ψ (h.ext a) f,bf,aj];refine⟨λhe=>⟨by rw[decide_eq_true];rw[<-he];exact x6 f,a⟩,λj=>?_⟩;rw[aL];refine hk _ _ ⟨a,λhm=>?_⟩;rw[u9,f,l7,j0,j6]at hm;rcases hm with hm|hm
  .exact e hm
  .exact j hm.symm
 .rintro _ J k ⟨a,e⟩;rw[o8]at e;rw[aR,aj];exact⟨λh=>Ω,λ_=>⟨by rw[decide_eq_false e],a⟩⟩
theorem DG:∀{s t:Λ}{m k v:Int},s.length=t.length->cj (s++[k]) (t++[v]) m=(cj s t m).bind λr=>if 0<=v/\v<k then σ (r*k+v)else ν
 |[],[],m,k,v,_=>by simp[cj]
 |x::s,y::t,m,k,v,h=>by
  have h:s.length=t.length:=by simpa using h
  rw[List.cons_append,List.cons_append];simp only[cj];split
  .exact DG h
  .rfl
def w4{x:be}{v:Int}(h:0<=v/\v<x.un.length):v∈aw x↔dropped x.mask v=false:=by
 unfold aw;rw[S7,l9];constructor
 .rintro⟨_,a⟩;simpa using a
 .intro a;exact⟨⟨v.toNat,List.mem_range.2 Ω,Ω⟩,by simp[a]⟩
def cz(s:ao):Prop:=∀f∈s.funs,f.live≠0->∀v∈f.sc,∀x,s.vars[v.toNat]?=σ x->x.gone=0
def gd.put{g x:Nat}{c:List x3}{n:aK}(h:gd w x n)(a:ac w g aC c)(f:ae (λr=>r=g) w w'):gd w' x n:=by
 have p:=Dw a;have y:∀r,r=g->∃e c,ac w r e c/\e≠hz/\e≠cZ/\e≠ah/\e≠am/\e≠aq:=λr j=>by
  subst j;exact⟨_,c,a,Φ,Φ,Φ,Φ,Φ⟩
 obtain⟨z,A,B,C,gr,aT,L,nm,szv,gz,fv2,h1,E,F,G,H,I,J⟩:=h;refine⟨z,A,B,C,gr,aT,L,nm,szv,gz,fv2,wV h1 f p Φ,wV E f p Φ,wU F f p Φ,G.aa f λr j=>?_,H,I.aa f λr j=>?_,J⟩
 .obtain⟨e,c,a,_,_,_,q,s⟩:=y r j;exact⟨e,c,a,q,s⟩
 .obtain⟨e,c,a,q,s,K,M,_⟩:=y r j;exact⟨e,c,a,q,s,K,M⟩
def StateM.put{g:Nat}{A R:af}{n:aK}{s:ao}{t:ay}{c:List x3}(h:StateM w ab ad A R n s t)(y:ac w g aC c)(p:ae (λr=>r=g) w w')(S:¬A g):∃R',(∀r,R' r->R r/\r≠g)/\StateM w' ab ad A R' n s t:=by
 obtain⟨U,V,W,X,⟨h1,Y,Z,ag⟩,a1,ah,ge,L,E,ai,w0,aj,⟨K,C,ak⟩,⟨al,M,am,an⟩,ap,⟨aq,N⟩,au,O⟩:=h;obtain⟨cr,P⟩:=CL;have z:=p.size;have q:=Dw y;have B:∀r,(w0.heap.setIfInBounds g cr)[r]?=if g=r then(if g<w0.heap.size then σ cr else ν)else w0.heap[r]?:=λr=>Array.getElem?_setIfInBounds;have av:∀r,A r->r≠g:=λr a he=>S (he▸a);have int:∀{v:x3}{l:Λ},ja R w v l->ja (λr=>R r/\r≠g) w' v l:=λ⟨⟨aw,hm⟩,ax⟩=>⟨⟨aw,wU hm p q Φ⟩,λr a=>⟨ax r a,ch hm y Φ a⟩⟩;refine⟨λr=>R r/\r≠g,λr h=>h,U,V,W,X,⟨h1,λr a az=>Y r a az.1,λr a=>by have:=Z r a.1;omega,λr a=>by have:=ag r a;omega⟩,a1,ah,ge,L,E,ai,{w0 with heap:=w0.heap.setIfInBounds g cr},wV aj p q Φ,⟨?_,?_,?_⟩,
  ⟨al.aa p λr a=>av r (M r a),M,am,an⟩,wU ap p q Φ,⟨Dv aq p q Φ,N.1,λj x f F aA=>?_⟩,Dv au p q Φ,O.1,λj x e F he=>?_⟩
 .by_cases I:∃o,w0.heap[g]?=σ o/\fz o=true
  .obtain⟨o,Q,aB⟩:=I;have aD:ac w0 g aC c:=by
    unfold ac at y ⊢;have:=C.aV g o Q aB;rw[y]at this;rw[Q,this]
   refine K.put aD ⟨Ξ,λr o a I aE=>?_⟩;show(w0.heap.setIfInBounds g cr)[r]?=σ o;rw[B,if_neg λhe=>aE he.symm];exact a
  .refine K.ext ⟨Ξ,λr o a aF=>?_⟩;show(w0.heap.setIfInBounds g cr)[r]?=σ o;rw[B,if_neg λhe=>I ⟨o,by rw[he];exact a,aF⟩];exact a
 .refine⟨by show(w0.heap.setIfInBounds g cr).size<=_;rw[Array.size_setIfInBounds];exact Y7 C.size z,λr o a I=>?_⟩;have a:(w0.heap.setIfInBounds g cr)[r]?=σ o:=a;rw[B]at a;by_cases he:g=r
  .rw[if_pos he]at a;split at a
   .cases a;rw[P]at I;cases I
   .cases a
  .rw[if_neg he]at a;exact p.aV r o (C.aV r o a I) I λh=>he h.symm
 .intro r o a I;have a:(w0.heap.setIfInBounds g cr)[r]?=σ o:=a;rw[B]at a;by_cases he:g=r
  .rw[if_pos he]at a;split at a
   .cases a;rw[P]at I;cases I
   .cases a
  .rw[if_neg he]at a;exact⟨ak r o a I,λh=>he h.symm⟩
 .obtain⟨G,H,J⟩:=N.2 j x f F aA;exact⟨int G,int H,J⟩
 .obtain⟨G,H,J⟩:=O.2 j x e F he;exact⟨G,int H,int J⟩
def Ox{f:cb}(j:pl.length<=60000)(h:gw pl=σ f):∃N,N<=60000/\fd N f/\f.name≠[]/\∀b∈f.name,bO b=true:=by
 unfold gw at h;rw[if_neg Ω]at h;cases a:hZ ⟨(lex pl).1,0,false,[]⟩with
 |none=>rw[a]at h;cases h
 |some q=>
  obtain⟨p,s⟩:=q;rw[a]at h;simp only at h;split at h
  .rename_i ap;cases h;obtain⟨h1,e⟩:=A5 rfl a ap.2.2;have r:=qc pl.length pl (o6 _);obtain⟨J,U,_⟩:=sg pl.length pl (o6 _) f.name e;exact⟨_,by show(lex pl).1.length<=60000;omega,h1,J,U⟩
  .cases h
def Oy:ai x8 y4 [.pointer ν] w λv w'=>v= .pointer ν/\Ext w w':=by
 refine az func62 ?_;rw[dc mC.u];simp only[Option.isNone_none,bQ];exact⟨by trivial,Ext.refl _⟩
def Oz(h:aG .u8 w v l)(B:l.length<=100000):ai x8 Gq [v] w λf w'=>Ext w w'/\∃g,au .u8 cI w' g f l:=by
 have e:=h;obtain⟨C,b,o,base,cap,rfl,E,hm,q,s⟩:=h;refine az func58 ?_;rw[r6 cM.u,cg];refine⟨λx=>⟨Ext.refl _,0,?_⟩,λ_=>?_⟩
 .have:l=[]:=by
   cases base with
   |none=>
        by_cases e:0<l.length
        .have:=q e;cases this
        .exact c9 Ω
   |some a=>cases x
  subst this;exact au.nil _ _ _ _
 .refine wW (k:=.u8) cM.u cI.i λG g1 J H j p=>?_;refine gP cM.u cI.i rfl p (e.ext j) Θ Θ λf y U z I A=>?_;exact⟨j.then A (λr s he=>by have:=(bR p he).1;omega),y,by simpa using z⟩
def OA(sv:x3):Prop:=∃cs:List x3,sv= .agg cs.toArray/\cs.length=8/\∀u∈cs,u.oneCell'=true
def DH:OA (.agg z12.toArray):=⟨z12,rfl,rfl,by intro u hu;simp[z12]at hu;rcases hu with rfl|rfl|rfl|rfl<;>rfl⟩
def w5{f:cb}(a:fd N f):(cH f).funs.length<=256:=by
 have h1:=(qG a).2.length_eq;have h:=(lj a).2.2;have j:=Q0 fH (ft f);have p:=a.la;have e:=(pu f (fI f).length).2.2.2;rw[ti]at e;omega
def OB{n:aK}{t:ay}(e:jV n)(f:n.funs.length<=256)(h:t.bV=(dr n).cells)(a:Plain t):mT t:=by
 have h1:=ts e f n.unary.length n.funs.length;rw[wI,<-h]at h1;unfold ay.bV at h1;rw[u7]at h1;refine⟨Ω,?_,?_⟩
 .rw[a.2.1];exact X8 _
 .rw[a.1];exact X8 _
section
variable{w:x4}{ab ad:Nat}{A R:af}{n:aK}{s:ao}{t:ay}
def OC{j:Int}(h:bF w ab ad A R n s t)(p:¬(0<=j/\j<s.funs.length)):ai x8 rX [Γ ab,Δ j] w λr w'=>r= .slice ν 0 0/\Ext w w':=by
 refine az func205 ?_;refine aW (λv J=>v= .bool true/\Ext w J) ?_ ?_
 .rintro _ J ⟨rfl,e⟩;rw[bQ];exact⟨rfl,e⟩
 intro ax a;rw[aR,aj];refine⟨λ_=>a _ _ ⟨rfl,Ext.refl _⟩,λq=>?_⟩;refine(wZ h).mono ?_;rintro _ x _ ⟨rfl,f⟩;rw[cS];exact a _ _ ⟨by rw[decide_eq_true Ω],f⟩
end
section
variable{w:x4}{B:Nat}{sv:x3}{k:Int}{sizes:Λ}{s:ao}
end
def iF:List (Λ)->List (Λ)
 |[]=>[[]]
 |d::a=>d.flatMap λv=>(iF a).map (v:: ·)
theorem q0:∀{e:List (Λ)}{t:Λ},t∈iF e↔t.length=e.length/\∀(p:Nat)d v,e[p]?=σ d->t[p]?=σ v->v∈d
 |[],t=>by
  simp only[iF,j6];exact⟨λh=>by subst h;exact⟨rfl,λp d v h=>by simp at h⟩,λh=>c9 h.1⟩
 |d::e,t=>by
  simp only[iF,List.mem_flatMap,l9];constructor
  .rintro⟨v,q,bn,r,rfl⟩;obtain⟨h1,f⟩:=q0.1 r;refine⟨by simp[h1],λp j u a hu=>?_⟩;cases p with
   |zero=>simp at a hu;subst a hu;exact q
   |succ p=>exact f p j u (by simpa using a) (by simpa using hu)
  .rintro⟨h1,f⟩;cases t with
   |nil=>simp at h1
   |cons v bn=>exact⟨v,f 0 d v rfl rfl,bn,q0.2 ⟨by simpa using h1,λp j u a hu=>f (p+1) j u (by simpa using a) (by simpa using hu)⟩,rfl⟩
def m8:List (Int->Bool)->Λ->Bool
 |q::a,v::t=>q v&&m8 a t
 |_,_=>true
theorem DI:∀(j:List (Λ))(a:List (Int->Bool)),a.length=j.length->iF ((j.zip a).map λp=>p.1.filter p.2)=(iF j).filter (m8 a)
 |[],[],_=>rfl
 |d::j,q::a,h=>by
  have r:=DI j a (by simpa using h);simp only[List.zip_cons_cons,T0,iF];rw[r];clear r h;induction d with
  |nil=>rfl
  |cons v d s=>
   rw[W6,List.filter_append,<-s];have e:((iF j).map (v:: ·)).filter (m8 (q::a))=if q v then((iF j).filter (m8 a)).map (v:: ·)else[]:=by
    rw[List.filter_map];by_cases f:q v=true
    .rw[if_pos f];congr 1;apply List.filter_congr;intro t _;show(q v&&m8 a t)=_;rw[f,T6]
    .rw[if_neg f];rw[List.filter_eq_nil_iff.2 λt _=>by show¬(q v&&m8 a t)=true;simp[f]];rfl
   rw[e];by_cases f:q v=true
   .rw[if_pos f,List.filter_cons_of_pos f,W6]
   .rw[if_neg f,List.filter_cons_of_neg f];rfl
def hp(k:Int):Λ:=(W5 k.toNat).map λv:Nat=>(v:Int)
theorem tC:∀(s:Λ),bc s=iF (s.map hp)
 |[]=>rfl
 |k::s=>by
  simp only[bc,T0,iF,hp,List.flatMap_map,<-tC s]
def q1{v:Int}:v∈hp k↔0<=v/\v<k:=by
 unfold hp;rw[l9];constructor
 .rintro⟨n,a,rfl⟩;have:=List.mem_range.1 a;omega
 .intro h;exact⟨v.toNat,List.mem_range.2 Ω,Ω⟩
def dF(f:Int->Int)(L:List (Λ))(ag cs:Λ):Λ:=((bc ag).zip cs).map λp=>if p.1∈L then f p.2 else p.2
def oe(f:Int->Int)(L:List (Λ))(ag cs:Λ)(h:cs.length<=(bc ag).length):(dF f L ag cs).length=cs.length:=by
 unfold dF;rw[u7,List.length_zip];omega
def pB{f:Int->Int}{L:List (Λ)}{ag:Λ}{i:Nat}(a:(bc ag)[i]?=σ t)(e:cs[i]?=σ c):(dF f L ag cs)[i]?=σ (if t∈L then f c else c):=by
 unfold dF;have h:((bc ag).zip cs)[i]?=σ (t,c):=S6.2 ⟨a,e⟩;rw[v8,h];rfl
def OD{f:Int->Int}{L:List (Λ)}{ag:Λ}{i:Nat}(I:dE ag)(q:cs.length<=(bc ag).length)(p:(bc ag)[i]?=σ t)(r:cs[i]?=σ c)(x:t∉L):(dF f L ag cs)[i]?=σ c/\(dF f L ag cs).set i (f c)=dF f (L++[t]) ag cs:=by
 have h1:=pB (f:=f) (L:=L) p r;rw[if_neg x]at h1;refine⟨h1,?_⟩;apply Y9;intro j;rw[X1];by_cases s:i=j
 .subst s;rw[if_pos rfl,if_pos (x5.1 h1).1,pB p r,if_pos Ξ]
 .rw[if_neg s];cases a:cs[j]? with
  |none=>
   have:=List.getElem?_eq_none_iff.1 a;rw[Y2 (by rw[oe _ _ _ _ q];exact this),Y2 (by rw[oe _ _ _ _ q];exact this)]
  |some A=>
   obtain⟨u,hu⟩:∃u,(bc ag)[j]?=σ u:=⟨_,x7 (by have:=(x5.1 a).1;omega)⟩;rw[pB hu a,pB hu a];have y:u≠t:=λhe=>by
    subst he;have z:=iS I p;have w:=iS I hu;rw[z]at w;have:=Z0 w;omega
   have:u∈L++[t]↔u∈L:=by simp[y]
   by_cases e:u∈L
   .rw[if_pos e,if_pos (this.2 e)]
   .rw[if_neg e,if_neg λh=>e (this.1 h)]
def j1(s:ao)(i v:Nat)(c:Int):ao:=match s.vars[i]? with
 |some x=>{s with vars:=s.vars.set i {x with un:=x.un.set v c}}
 |none=>s
def j2(s:ao)(j m:Nat)(c:Int):ao:=match s.funs[j]? with
 |some f=>{s with funs:=s.funs.set j {f with cs:=f.cs.set m c}}
 |none=>s
def q2{i:Nat}(h:∀x∈l,0<=x/\x<=k)(e:0<=c/\c<=k):∀x∈l.set i c,0<=x/\x<=k:=λx a=>by
 rcases W7 a with a|rfl
 .exact h x a
 .exact e
def m9(w:x4)(ab ad:Nat)(A R:af)(n:aK)(s':ao)(t:ay)(v:x3)(w':x4):Prop:=v=Δ 0/\ae (eA w) w w'/\∃aI p x,Grow A w aI w'/\bF w' ab ad aI R n s' (t.set p x)
def m9.ext{J:x4}{A R:af}{n:aK}{s':ao}{t:ay}(a:Ext w J)(h:m9 J ab ad A R n s' t v w'):m9 w ab ad A R n s' t v w':=by
 obtain⟨h1,e,aI,p,x,f,j⟩:=h;exact⟨h1,iD a e,aI,p,x,(Grow.ext a).trans f,j⟩
section
variable{w:x4}{ab ad:Nat}{A R:af}{n:aK}{s:ao}{t:ay}
def q3(h:bF w ab ad A R n s t)(f:y<0\/¬(0<=c/\c<=n.k)):ai x8 zo [Γ ab,Δ y,Δ c] w λv w'=>v=Δ (if y<0 then 1 else 3)/\Ext w w':=by
 refine az func210 ?_;rw[dc ds.u];simp only[Z6,aY];rw[aR,aj];refine⟨λe=>⟨by rw[if_pos e],Ext.refl _⟩,λe=>?_⟩;refine(mZ h).mono ?_;rintro _ J _ ⟨rfl,j⟩;refine(jN (a:=c) (k:=n.k)).mono ?_;rintro _ U _ ⟨rfl,p⟩;have q:=f.resolve_left e;rw[decide_eq_false (λh=>q h.2),bJ,W3,bQ,if_neg e];exact⟨rfl,j.trans p⟩
def w6{s':ao}{p:Nat}(h:bF w ab ad A R n s t)(f:Room t)(j:y=(p:Int))(q:p<s.cells.length)(r:s.cells.set p c=s'.cells)(I:n8 s s')(x:bi n.k n.sizes s')(z:0<=c/\c<=n.k):
  ai x8 zo [Γ ab,Δ y,Δ c] w (m9 w ab ad A R n s' t):=by
 refine az func210 ?_;rw[dc ds.u];simp only[Z6,aY];refine b2 Ω ?_;refine(mZ h).mono ?_;rintro _ J _ ⟨rfl,B⟩;refine(jN (a:=c) (k:=n.k)).mono ?_;rintro _ U _ ⟨rfl,C⟩;have e:=B.trans C;rw[decide_eq_true (show cA c n.k from⟨h.2.2.2.1.fx,z⟩),bJ,X3,aY];obtain⟨M,N,O,P,a1,Q,L,S,E,V,W,X,Y,Z⟩:=(h.ext e).1.parts;rw[aP cu.p 1 E rfl];refine(DF (h.ext e) j q r I x f).mono ?_;rintro _ aa _ ⟨rfl,G,aI,H,K⟩;exact m9.ext e ⟨rfl,G,aI,_,_,H,K⟩
def OE(h:bF w ab ad A R n s t)(e:Room t):ai x8 Hw [Γ ab,Δ c] w λv w'=>(¬(0<=c/\c<=n.k)->v=Δ 3/\Ext w w')/\((0<=c/\c<=n.k)->m9 w ab ad A R n {s with zero:=c} t v w'):=by
 refine az func158 ?_;by_cases a:0<=c/\c<=n.k
 .refine (w6 (p:=0) h e rfl (by unfold ao.cells i7;simp) (Nw s c) (CX s c) ⟨h.2.2.2.1.fx,h.2.2.2.1.dQ,a,h.2.2.2.1.vars,h.2.2.2.1.var,h.2.2.2.1.funs⟩ a).mono ?_;rintro v J _ f;exact⟨λh=>absurd a h,λ_=>f⟩
 .refine (q3 h (.inr a)).mono ?_;rintro v J _ ⟨rfl,j⟩;exact⟨λ_=>⟨rfl,j⟩,λh=>absurd h a⟩
def DJ{i v:Int}(h:bF w ab ad A R n s t)(B:Room t):ai x8 Hv [Γ ab,Δ i,Δ v,Δ c] w λr w'=>
  (¬eR n i v->r=Δ 1/\Ext w w')/\(eR n i v->¬(0<=c/\c<=n.k)->r=Δ 3/\Ext w w')/\(eR n i v->(0<=c/\c<=n.k)->m9 w ab ad A R n (j1 s i.toNat v.toNat c) t r w'):=by
 refine az func157 ?_;refine(w1 h).mono ?_;rintro _ J _ ⟨rfl,e⟩;by_cases a:eR n i v
 .rw[if_pos a];by_cases j:0<=c/\c<=n.k
  .obtain⟨x,f,H,I,_⟩:=a.var h.2.2.2.1;have K:=h.2.2.2.1.vars;obtain⟨z,C⟩:∃z,n.sizes[i.toNat]?=σ z:=⟨_,x7 (by have:=a.1;have:=a.2.1;omega)⟩;obtain⟨_,E,hm⟩:=h.2.2.2.1.var i.toNat x z f C;have L:=tv f;have q:j1 s i.toNat v.toNat c={s with vars:=s.vars.set i.toNat {x with un:=x.un.set v.toNat c}}:=by unfold j1;rw[f]
   refine(w6 (p:=fe s i.toNat+(2+v.toNat)) (s':=j1 s i.toNat v.toNat c) (h.ext e) B Ω Ω ?_ ?_ ?_ j).mono ?_
   .rw[q];refine CS f Ω ?_;rw[show 2+v.toNat=v.toNat+1+1 by omega];rfl
   .rw[q];exact CY f Ξ
   .rw[q];exact h.2.2.2.1.tA f Ξ (q2 E j) hm
   .rintro r U _ G;exact⟨λh=>absurd a h,λ_ h=>absurd j h,λ_ _=>G.ext e⟩
  .refine (q3 (h.ext e) (.inr j)).mono ?_;rintro r U _ ⟨rfl,y⟩;rw[if_neg Ω];exact⟨λh=>absurd a h,λ_ _=>⟨rfl,e.trans y⟩,λ_ h=>absurd h j⟩
 .rw[if_neg a];refine(q3 (h.ext e) (.inl Ω)).mono ?_;rintro r U _ ⟨rfl,y⟩;rw[if_pos Ω];exact⟨λ_=>⟨rfl,e.trans y⟩,λh=>absurd h a,λh=>absurd h a⟩
def OF(h:bF w ab ad A R n s t)(C:Room t)(E:aG .i64 w aO tl):ai x8 H3 [Γ ab,Δ (j:Int),aO,Δ c] w λr w'=>
  (ia s j tl=ν->r=Δ 1/\Ext w w')/\((ia s j tl).isSome=true->¬(0<=c/\c<=n.k)->r=Δ 3/\Ext w w')/\
  ((ia s j tl).isSome=true->(0<=c/\c<=n.k)->∀f (m:Nat),s.funs[j]?=σ f->cj f.ag tl 0=σ (m:Int)->m9 w ab ad A R n (j2 s j m c) t r w'):=by
 refine az func207 ?_;refine(DC h E).mono ?_;rintro _ J _ ⟨rfl,e⟩;cases G:ia s j tl with
 |none=>
  simp only;refine(q3 (h.ext e) (.inl Ω)).mono ?_;rintro r U _ ⟨rfl,x⟩;rw[if_pos Ω];exact⟨λ_=>⟨rfl,e.trans x⟩,λh=>by simp at h,λh=>by simp at h⟩
 |some p=>
  simp only;by_cases q:0<=c/\c<=n.k
  .obtain⟨K,f,a,L,m,hm,M,rfl⟩:=DD h.2.2.2.1 G;have N:=DA a;have y:j2 s j m c={s with funs:=s.funs.set j {f with cs:=f.cs.set m c}}:=by unfold j2;rw[a]
   obtain⟨H,_⟩:=h.2.2.2.1.funs f (x6 a);refine(w6 (p:=ff s j+(m+1)) (s':=j2 s j m c) (h.ext e) C rfl Ω ?_ ?_ ?_ q).mono ?_
   .rw[y];exact Nx a Ω rfl
   .rw[y];exact NF a Ξ rfl rfl
   .rw[y];exact h.2.2.2.1.DE a rfl rfl Ξ (q2 H.h7 q)
   .rintro r U _ I;refine⟨(λh=>by cases h),λ_ h=>absurd q h,λ_ _ O bW z B=>?_⟩;rw[a]at z;cases z;rw[hm]at B;have:bW=m:=by have:=Z0 B;omega
    subst this;exact I.ext e
  .refine (q3 (h.ext e) (.inr q)).mono ?_;rintro r U _ ⟨rfl,x⟩;rw[if_neg Ω];exact⟨(λh=>by cases h),λ_ _=>⟨rfl,e.trans x⟩,λ_ h=>absurd h q⟩
end
def eS(of:Int->Int)(p:Int×Int)(v:Int):Int×Int:=if p.2= -1\/of v<p.1 then(of v,v)else p
def dn(k:Int)(l:Λ)(of:Int->Int):Int×Int:=l.foldl (eS of) (k,-1)
def j3{s:ao}{n:aK}{i:Int}{b m:Nat}{x:be}(h:tw s n i b m)(e:0<=i)(f:s.vars[i.toNat]?=σ x):(fW b m).map (λv:Nat=>(v:Int))=aw x:=by
 obtain⟨_,_,j⟩:=h;obtain⟨rfl,p⟩:=j x e f;unfold fW aw;rw[List.filter_map];congr 1;refine List.filter_congr λq a=>?_;have a:=List.mem_range.1 a;rw[p,decide_eq_true a,T6];rfl
section
variable{w:x4}{ab ad:Nat}{A R:af}{n:aK}{s:ao}{t:ay}
def j7(n:aK)(s:ao)(i:Int):Bool:=decide (0<=i/\i<n.sizes.length)&& !er s i.toNat
def OG{i:Int}(h:bF w ab ad A R n s t):ai x8 GW [Γ ab,Δ i] w λv w'=>v=Δ (if j7 n s i=true then 0 else 1)/\Ext w w':=by
 refine az func98 ?_;rw[dc ds.u];simp only[Z6,aY];refine aW (λv J=>v= .bool (!j7 n s i)/\Ext w J) ?_ ?_
 .rintro _ J ⟨rfl,a⟩;rw[cg];refine⟨λj=>⟨by rw[if_neg (by simpa using j)],a⟩,λj=>⟨by rw[if_pos (by simpa using j)],a⟩⟩
 intro ax p;refine(qZ h).mono ?_;rintro _ J _ ⟨rfl,a⟩;rw[cg];refine⟨λe=>p _ _ ⟨?_,a⟩,λe=>?_⟩
 .rw[U3]at e;unfold j7;rw[e.2,X3,Bool.and_false];rfl
 refine(iE (i:=i) (h.ext a)).mono ?_;rintro _ U _ ⟨⟨b,m,rfl,G,y,B⟩,C⟩;refine(vB (b:=b) (n:=m)).mono ?_;rintro _ H _ ⟨rfl,E⟩;rw[bf];refine p _ _ ⟨?_,(a.trans C).trans E⟩;congr 1;have I:=h.2.2.2.1.vars;unfold j7;by_cases f:0<=i/\i<n.sizes.length
 .obtain⟨x,q⟩:=aF (l:=s.vars) (i:=i.toNat) Ω;obtain⟨z,r⟩:=aF (l:=n.sizes) (i:=i.toNat) Ω;have h1:=(h.2.2.2.1.var i.toNat x z q r).1;have K:=h.2.2.2.1.dQ.2.2 z (x6 r);have hm:=(B x f.1 q).1;rw[decide_eq_true f.1,T6]at e;rw[decide_eq_true f,e,decide_eq_false Ω];rfl
 .rw[decide_eq_false f,(y f).2];rfl
def DK(w:x4)(a:Nat)(cap:Array x3)(l:Λ)(of:Int->Int):Prop:=∀(w':x4)(v:Int),Ext w w'->v∈l->ai x8 a (Δ v::cap.toList) w' λr e=>r=Δ (of v)/\Ext w' e
def OH{i:Int}{x:be}{of:Int->Int}{E:Nat}{cap:Array x3}(h:bF w ab ad A R n s t)(N:Laid w)(aM:0<=i)(f:s.vars[i.toNat]?=σ x)(aN:DK w E cap (aw x) of):
  ai x8 GX [Γ ab,Δ i,.func (.func E) #[] cap] w λr w'=>Ext w w'/\r= .tuple #[Δ (dn n.k (aw x) of).1,Δ (dn n.k (aw x) of).2]:=by
 refine ik func99 ?_;refine bk λap J bg O G=>?_;have G:ac J ap IS [.func (.func E) #[] cap]:=G;refine(mZ (h.ext O)).mono ?_;rintro _ U _ ⟨rfl,H⟩;refine bw am.i λP bh bi aq au=>?_;refine bw ah.i λga bj bl Q av=>?_;have bm:=(O.trans H).size;have z3:=aq.size;have z4:=Q.size;refine bp (v:=Δ n.k) am.i rfl rfl (au.ext Q) Φ λbn ay bo aO=>?_;have bq:=au.lt;have br:=av.lt;refine bp (v:=Δ (-1)) ah.i rfl rfl (av.aa ay Ω) Φ λaP az bt aQ=>?_;have aS:=aO.aa az Ω;have aA:Ext U aP:=((aq.trans Q).then ay λr a he=>by have he:r=P:=he;omega).put az Ω;have aB:=(O.trans H).trans aA;refine(iE (i:=i) (h.ext aB)).mono ?_;rintro _ bu _ ⟨⟨b,m,rfl,V⟩,aC⟩;refine(l6 (b:=b) (n:=m)).mono ?_;rintro _ W _ ⟨aT,a1,rfl,bx,X⟩;have bz:=V.1;have aE:=j3 V aM f;have B:=aC.trans aT;have y:=aB.trans B;have bA:=y.size;have bB:=B.size;have bC:=G.lt;have bD:=aC.size;have z12:=H.size;obtain⟨S,I⟩:∃S:af,S=λr=>r=P\/r=ga:=⟨_,rfl⟩;have K:∀r,S r->w.heap.size<=r:=λr a=>by rw[I]at a;rcases a with rfl|rfl<;>omega
 have Y:∀r,S r->r≠ap/\r≠a1:=λr a=>by rw[I]at a;rcases a with rfl|rfl<;>omega
 let st:Nat->Int×Int:=λj=>((aw x).take j).foldl (eS of) (n.k,-1);have aU:=G.ext (H.trans (aA.trans B));refine kj.old ⟨_,false,jk,#[Γ a1],_,_,_,_,λj w'=>ae S W w'/\ac w' P am [Δ (st j).1]/\ac w' ga ah [Δ (st j).2],λ_ _ _=>False,rfl,(l5 (g:=a1) V.1).s,?_,
  λ_ _ f h=>⟨h.1.ext f,h.2.ext f⟩,λ_ _ _ f h=>⟨h.1.trans (f.aa S),h.2.1.ext f,h.2.2.ext f⟩,λ_ _ _ _ _ h=>h,⟨X,N.ext y⟩,⟨ae.refl _ _,aS.ext B,aQ.ext B⟩,?_,?_,λ_ _ h=>h.elim,λ_ _ _ h=>h.elim⟩
 .rintro _ _ _ _ ⟨_,_,_,_,rfl⟩;rfl
 .rintro _ j _ aV ⟨_,_⟩ ⟨bE,rfl,v,aX,aY⟩ ⟨z,L,M⟩;cases aY;intro Z p _ _;have aF:(aw x)[j]?=σ (v:Int):=by rw[<-aE,v8,aX];rfl
  have aG:st (j+1)=eS of (st j) v:=by
   show((aw x).take (j+1)).foldl _ _=_;rw[u9,aF,List.foldl_append];rfl
  have aZ:Ext w Z:=((y.then z λr a h=>by have:=K r h;omega)).trans p;have a2:=(aU.aa z λh=>(Y _ h).1 rfl).ext p;rw[aD (v:=.func (.func E) #[] cap) Ψ (a2.Qz rfl)];refine ai.mono (aN Z v aZ (x6 aF)) ?_;rintro _ aH _ ⟨rfl,ag⟩;have ak:=p.trans ag;have al:=L.ext ak;have an:=M.ext ak;refine aW (λr ao=>r= .bool (decide ((st j).2= -1\/of v<(st j).1))/\Ext aH ao) ?_ ?_
  .rintro _ ao ⟨rfl,C⟩;have aI:=ak.trans C;rw[aj];refine⟨λa6=>?_,λa7=>?_⟩
   .refine bp (v:=Δ (of v)) am.i rfl rfl (al.ext C) Ξ λbG aJ bH a8=>?_;refine bp (v:=Δ (v:Int)) ah.i rfl rfl ((an.ext C).aa aJ Ω) Ξ λba aK bI bb=>?_;have bc:=a8.aa aK Ω;have q:ae S W ba:=((z.trans (aI.aa S)).trans (aJ.mono λr _ h=>by rw[I];exact .inl h)).trans (aK.mono λr _ h=>by rw[I];exact .inr h);have e:st (j+1)=(of v,(v:Int)):=by rw[aG];unfold eS;rw[if_pos a6]
    refine⟨⟨X.aa q λh=>(Y _ h).2 rfl,(N.ext (y.then q λr a h=>by have:=K r h;omega))⟩,⟨q,?_,?_⟩,λh=>by cases h⟩
    .rw[e];exact bc
    .rw[e];exact bb
   .have e:st (j+1)=st j:=by rw[aG];unfold eS;rw[if_neg a7]
    have q:ae S W ao:=z.trans (aI.aa S);refine⟨⟨X.aa q λh=>(Y _ h).2 rfl,(N.ext (y.then q λr a h=>by have:=K r h;omega))⟩,⟨q,?_,?_⟩,λh=>by cases h⟩
    .rw[e];exact al.ext C
    .rw[e];exact an.ext C
  .intro ax aL;rw[aD (v:=Δ (st j).2) Ψ (an.Qz rfl),bf,aj];refine⟨λh1=>aL _ _ ⟨by rw[decide_eq_true (.inl h1)],Ext.refl _⟩,λh1=>?_⟩;rw[aD (v:=Δ (st j).1) Ψ (al.Qz rfl),aR];refine aL _ _ ⟨?_,Ext.refl _⟩;congr 1;exact decide_eq_decide.2 ⟨.inr,λh=>h.resolve_left h1⟩
 .rintro k aV rfl ⟨z,L,M⟩;intro Z p _ _;have bd:st (fW b m).length=dn n.k (aw x) of:=by
   show((aw x).take _).foldl _ _=_;rw[j4 (by rw[<-aE,u7];exact o6 _)];rfl
  rw[bd]at L M;rw[aD (v:=Δ (dn n.k (aw x) of).1) Ψ ((L.ext p).Qz rfl),aD (v:=Δ (dn n.k (aw x) of).2) Ψ ((M.ext p).Qz rfl)];intro aH ag _;exact⟨((y.then z λr a h=>by have:=K r h;omega).trans p).trans ag,rfl⟩
end
def DL{x:be}{v:Int}(h:v∈aw x):0<=v/\v<x.un.length:=by
 unfold aw at h;obtain⟨h,_⟩:=S7.1 h;obtain⟨q,a,rfl⟩:=l9.1 h;have:=List.mem_range.1 a;omega
def OI{s:ao}{n:aK}{i v:Int}{b m:Nat}{x:be}(h:tw s n i b m)(f:0<=i)(j:s.vars[i.toNat]?=σ x):(decide (0<=v/\v<m)&&b.testBit v.toNat)=decide (v∈aw x):=by
 obtain⟨_,_,p⟩:=h;obtain⟨rfl,q⟩:=p x f j;by_cases a:0<=v/\v<x.un.length
 .rw[decide_eq_true a,T6,q,decide_eq_true (show v.toNat<x.un.length by omega),T6,show((v.toNat:Nat):Int)=v by omega];have:=w4 a;cases e:dropped x.mask v with
  |false=>rw[decide_eq_true (this.2 e)];rfl
  |true=>rw[decide_eq_false λh=>by rw[this.1 h]at e;cases e];rfl
 .rw[decide_eq_false a,decide_eq_false λh=>a (DL h)];rfl
def eZ(n:aK)(s:ao)(i v:Int):Int:=if eR n i v then fP s i.toNat v.toNat else 0
def w7{n:aK}{s:ao}{i v:Int}(a:bi n.k n.sizes s):0<=eZ n s i v/\eZ n s i v<=n.k:=by
 have hk:=a.fx;have p:=a.vars;unfold eZ;split
 .rename_i h;obtain⟨x,e,f,_⟩:=h.var a;obtain⟨z,j⟩:∃z,n.sizes[i.toNat]?=σ z:=⟨_,x7 (by have:=(x5.1 e).1;omega)⟩;have:=(a.var i.toNat x z e j).2.1;unfold fP;rw[e];simp only;rw[u4,x7 f];exact this _ (S4 f)
 .omega
section
variable{w:x4}{ab ad:Nat}{A R:af}{n:aK}{s:ao}{t:ay}
def OJ{K:x3->x4->Prop}{i v:Int}(h:bF w ab ad A R n s t)(f:∀e w',Ext w w'->K (.tuple #[Δ (eZ n s i v),Δ e]) w'):ai x8 uT [Γ ab,Δ i,Δ v] w K:=by
 refine(m3 h).mono ?_;rintro _ J _ ⟨rfl,a⟩;have:=f;unfold eZ at this;split
 .rename_i I;rw[if_pos I]at this;exact this 0 J a
 .rename_i I;rw[if_neg I]at this;exact this 1 J a
def OK{i:Int}(h:bF w ab ad A R n s t):ai x8 GY [Γ ab,Δ i] w λr w'=>Ext w w'/\∃cap,r= .func (.func ze) #[] cap/\∀l,DK w' ze cap l (eZ n s i):=by
 refine az func100 ?_;refine bk λg1 J B x a=>?_;refine bk λy U C p f=>?_;rw[k0];have q:=x.trans p;refine⟨q,_,rfl,λl w' v j _=>?_⟩;refine az func155 ?_;have a:ac J g1 ds [Γ ab]:=a;have f:ac U y ah [Δ i]:=f;rw[aD (v:=Γ ab) Ψ (((a.ext p).ext j).Qz rfl),aD (v:=Δ i) Ψ ((f.ext j).Qz rfl)];refine OJ (h.ext (q.trans j)) λe E z=>?_;rw[bx,bz];exact⟨rfl,z⟩
def DM{i:Int}(f:bi n.k n.sizes s)(h:j7 n s i=true):0<=i/\∃x,s.vars[i.toNat]?=σ x/\x.gone=0:=by
 unfold j7 at h;rw[U3]at h;have h1:=of_decide_eq_true h.1;have j:=f.vars;obtain⟨x,e⟩:=aF (l:=s.vars) (i:=i.toNat) Ω;have a:=h.2;unfold er at a;rw[e]at a;exact⟨h1.1,x,e,by simpa using a⟩
def OL{i:Int}(h:bF w ab ad A R n s t)(p:Laid w):ai x8 y3 [Γ ab,Δ i] w λr w'=>Ext w w'/\(j7 n s i=false->r= .tuple #[Δ 0,Δ (-1),Δ 1])/\
  ∀x,j7 n s i=true->s.vars[i.toNat]?=σ x->r= .tuple #[Δ (dn n.k (aw x) (eZ n s i)).1,Δ (dn n.k (aw x) (eZ n s i)).2,Δ 0]:=by
 refine az func54 ?_;refine(OG h).mono ?_;rintro _ J _ ⟨rfl,a⟩;cases q:j7 n s i with
 |false=>
  rw[if_neg Φ,bN,aj];exact⟨λ_=>⟨a,λ_=>rfl,λ_ h=>by cases h⟩,λh=>absurd Φ h⟩
 |true=>
  obtain⟨y,x,f,_⟩:=DM h.2.2.2.1 q;rw[if_pos rfl,bN,aj];refine⟨λh=>absurd rfl h,λ_=>?_⟩;refine(OK (i:=i) (h.ext a)).mono ?_;rintro _ U _ ⟨z,cap,rfl,B⟩;have e:=a.trans z;refine(OH (h.ext e) (p.ext e) y f (B _)).mono ?_;rintro _ E _ ⟨C,rfl⟩;rw[bx,bz];exact⟨e.trans C,(λh=>by cases h),λG _ j=>by rw[f]at j;cases j;rfl⟩
def w8{f:cK}(h:bF w ab ad A R n s t)(a:s.funs[j]?=σ f):ai x8 rX [Γ ab,Δ (j:Int)] w λr w'=>Ext w w'/\∃g,w.heap.size<=g/\au .i64 ah w' g r f.sc:=by
 have I:=(x5.1 a).1;refine az func205 ?_;refine aW (λv J=>v= .bool false/\Ext w J) ?_ ?_
 .rintro _ J ⟨rfl,e⟩;rw[aY];obtain⟨K,M,N,O,a1,P,L,Q,B,S,V,W,x,q⟩:=(h.ext e).1.parts;obtain⟨y,z⟩:∃y,L[j]?=σ y:=⟨_,x7 (by rw[q.1];omega)⟩;obtain⟨C,_,_⟩:=q.2 j y f z a;rw[aP cu.p 3 B rfl,du rfl fm.u dS.i x (by rw[q.1];omega),aS dS.p rfl,aD (v:=y.aM) Ψ (x.range z 0 _ rfl)];have X:f.sc.length<=6:=(h.2.2.2.1.funs f (x6 a)).1.scope.2;refine(k6 C.ls Ω).mono ?_;rintro v U _ ⟨E,g,Y,hm⟩;have:=e.size;exact⟨e.trans E,g,Ω,hm⟩
 intro ax G;rw[aR,aj];refine⟨λZ=>Ω,λ_=>?_⟩;refine(wZ h).mono ?_;rintro _ aa _ ⟨rfl,H⟩;rw[cS];exact G _ _ ⟨by rw[decide_eq_false Ω],H⟩
end
def bH(s:ao)(i:Int):Λ:=match s.vars[i.toNat]? with
 |some x=>aw x
 |none=>[]
section
variable{ab ad:Nat}{A R:af}{n:aK}{s:ao}{t:ay}
end
def jv(s:ao)(pos:Nat)(v:Int):Λ->Nat->List (Λ)
 |[],_=>[]
 |u::sc,p=>(if p=pos then[v]else bH s u)::jv s pos v sc (p+1)
def ck(s:ao)(sc:Λ)(pos:Nat)(v:Int):List (Λ):=iF (jv s pos v sc 0)
def og(s:ao)(pos:Nat)(v:Int):Λ->Nat->List (Int->Bool)
 |[],_=>[]
 |u::sc,p=>(λx=>(decide (p=pos->x=v))&&decide (x∈bH s u))::og s pos v sc (p+1)
def OM{v:Int}(h:0<=v/\v<k):(hp k).filter (λx=>decide (x=v))=[v]:=by
 have f:(hp k).Nodup:=by
  unfold hp;exact List.Pairwise.map _ (λa b s=>Ω) List.nodup_range
 have hm:v∈hp k:=q1.2 h;generalize hp k=l at f hm;induction l with
 |nil=>cases hm
 |cons a l p=>
  have j:=List.nodup_cons.1 f;by_cases e:a=v
  .subst e;rw[List.filter_cons_of_pos Ξ,List.filter_eq_nil_iff.2 λx q=>by simp;intro r;exact j.1 (r▸q)]
  .rw[List.filter_cons_of_neg (by simpa using e)];exact p j.2 ((V4.1 hm).resolve_left (R2 e))
section
variable{k:Int}{sizes:Λ}{s:ao}{v:Int}{pos:Nat}
def ON{u:Int}(a:bi k sizes s)(h:0<=u/\u<sizes.length):(hp (sizes.getD u.toNat 0)).filter (λx=>decide (x∈bH s u))=bH s u:=by
 have w:=a.vars;obtain⟨x,j⟩:=aF (l:=s.vars) (i:=u.toNat) Ω;obtain⟨z,f⟩:=aF (l:=sizes) (i:=u.toNat) Ω;have h1:=(a.var _ x z j f).1;have e:bH s u=aw x:=by unfold bH;rw[j]
 have p:sizes.getD u.toNat 0=z:=by rw[u4,f];rfl
 have A:=a.dQ.2.2 z (x6 f);have q:aw x=(hp z).filter λv=>!dropped x.mask v:=by unfold aw hp;rw[h1]
 rw[e,p,q];refine List.filter_congr λy r=>?_;simp[S7,r]
theorem DN(r:bi k sizes s):∀(sc:Λ)(p:Nat),(∀u∈sc,0<=u/\u<sizes.length)->(∀u,p<=pos->sc[pos-p]?=σ u->v∈bH s u)->
  jv s pos v sc p=(((bI sizes sc).map hp).zip (og s pos v sc p)).map λq=>q.1.filter q.2
 |[],p,_,_=>rfl
 |u::sc,p,hu,w=>by
  have y:=DN r sc (p+1) (λu h=>hu u (.tail _ h)) λu' a h=>w u' Ω (by rw[show pos-p=(pos-(p+1))+1 by omega];exact h);have z:=hu u (.head _);have f:=ON (s:=s) r z;show(if p=pos then[v]else bH s u)::jv s pos v sc (p+1)=(hp (sizes.getD u.toNat 0)).filter (λx=>decide (p=pos->x=v)&&decide (x∈bH s u))::((((bI sizes sc).map hp).zip (og s pos v sc (p+1))).map λq=>q.1.filter q.2);rw[<-y];congr 1;by_cases a:p=pos
  .rw[if_pos a];have j:v∈bH s u:=w u Ω (by rw[a,T2];rfl);have A:v∈hp (sizes.getD u.toNat 0):=by rw[<-f]at j;exact(S7.1 j).1
   rw[<-OM (q1.1 A)];refine List.filter_congr λx _=>?_;by_cases e:x=v
   .subst e;simp[j]
   .simp[e,a]
  .rw[if_neg a,<-f];refine(List.filter_congr λx B=>?_).symm;rw[f];simp[a]
theorem DO:∀(sc:Λ)(p:Nat),(og s pos v sc p).length=sc.length
 |[],_=>rfl
 |u::sc,p=>by unfold og;rw[Z2,DO sc (p+1),Z2]
def w9{sc:Λ}(a:bi k sizes s)(e:∀u∈sc,0<=u/\u<sizes.length)(f:∀u,sc[pos]?=σ u->v∈bH s u):
  ck s sc pos v=(bc (bI sizes sc)).filter (m8 (og s pos v sc 0)):=by
 unfold ck;rw[DN a sc 0 e λu _ h=>f u h,DI _ _ (by rw[DO,u7];unfold bI;rw[u7]),tC]
end
theorem xa{k:Int}:∀(l:Λ)(z:Int),z<=k->(∀c∈l,0<=c)->l.foldl (λa c=>min (a+c) k) z=min (z+l.sum) k
 |[],z,h,_=>Θ
 |c::l,z,h,e=>by
  have I:∀(l:Λ),(∀c∈l,0<=c)->0<=l.sum:=λl=>by
   induction l with
   |nil=>intro _;simp
   |cons a l f=>intro h;have:=f λc e=>h c (.tail _ e);have:=h a (.head _);rw[List.sum_cons];omega
  have h1:=e c (.head _);have j:=I l λc h=>e c (.tail _ h);rw[S0,xa l _ Ω λc h=>e c (.tail _ h),List.sum_cons];omega
def dy(p:be×Int):Int:=if p.1.gone≠0 then 0 else p.1.un.getD p.2.toNat 0
def fg(a:Λ)(f:cK):Int:=if f.live≠0 then bh f.ag f.cs (i9 a f.sc)else 0
theorem foldl_map'{α β e:Type}(g:α->β)(h:e->β->e)(h':e->α->e)(P:e->Prop)(ap:∀c a,P c->h' c a=h c (g a))(f:∀c a,P c->P (h' c a)):∀(l:List α)(c:e),P c->l.foldl h' c=(l.map g).foldl h c
 |[],_,_=>rfl
 |a::l,c,j=>by
  rw[S0,T0,S0,<-ap c a j];exact foldl_map' g h h' P ap f l _ (f c a j)
def xb{i:Nat}{x:Int}(h:l[i]?=σ x):(l.set i y).sum=l.sum-x+y:=by
 induction l generalizing i with
 |nil=>simp at h
 |cons a l e=>
  cases i with
  |zero=>simp at h;subst h;rw[List.set_cons_zero,List.sum_cons,List.sum_cons];omega
  |succ i=>
   rw[List.set_cons_succ,List.sum_cons,List.sum_cons,e (by simpa using h)];omega
def df(k a c:Int):Int:=if a=k then k else a-c
def cT(k a c:Int):Int:=min (a+c) k
def tD{r g u:Int}(a:0<=r)(e:c<=g/\g<=k)(hu:0<=u/\u<=k)(f:0<=c):min (r+df k g c+cT k u c) k=min (r+g+u) k:=by
 unfold df cT;split<;>omega
theorem q4:∀(l:Λ),(∀c∈l,0<=c)->0<=l.sum
 |[],_=>Ξ
 |a::l,h=>by have:=q4 l λc e=>h c (.tail _ e);have:=h a (.head _);rw[List.sum_cons];omega
theorem q5:∀{l:Λ}{i:Nat}{x:Int},(∀c∈l,0<=c)->l[i]?=σ x->x<=l.sum
 |[],_,_,_,h=>by simp at h
 |a::l,0,x,e,h=>by
  simp at h;subst h;have:=q4 l λc h=>e c (.tail _ h);rw[List.sum_cons];omega
 |a::l,i+1,x,e,h=>by
  have:=q5 (λc h=>e c (.tail _ h)) (show l[i]?=σ x by simpa using h);have:=e a (.head _);rw[List.sum_cons];omega
def DP{i:Nat}(hk:0<=k)(h:∀c∈l,0<=c/\c<=k):0<=l.getD i 0/\l.getD i 0<=k:=by
 rw[u4];cases a:l[i]? with
 |none=>exact⟨Int.le_refl _,hk⟩
 |some c=>exact h c (x6 a)
def DQ{f:Int->Int}{L:List (Λ)}{ag:Λ}{m:Int}(I:dE ag)(h:cs.length=(bc ag).length)(hi:cj ag t 0=σ m):bh ag (dF f L ag cs) t=if t∈L then f (bh ag cs t)else bh ag cs t:=by
 have a:=mM I hi;have j:=(x5.1 a).1;obtain⟨c,e⟩:=aF (l:=cs) (i:=m.toNat) Ω;have h1:=pB (f:=f) (L:=L) a e;unfold bh;rw[hi];simp only;rw[u4,h1,u4,e,V5,V5]
section
variable{k:Int}{sizes a:Λ}{s:ao}
def OO{i:Nat}{p:be×Int}(e:bi k sizes s)(h:(s.vars.zip a)[i]?=σ p):0<=dy p/\dy p<=k:=by
 have hk:=e.fx;obtain⟨h1,_⟩:=S6.1 h;have f:=(x5.1 h1).1;have j:=e.vars;have:=e.var i p.1 _ h1 (x7 Ω);unfold dy;split
 .omega
 .exact DP Ω this.2.1
def OP{f:cK}(e:bi k sizes s)(h:f∈s.funs):0<=fg a f/\fg a f<=k:=by
 have hk:=e.fx;have:=(e.funs f h).1.h7;unfold fg;split
 .exact (te e.fx λc j=>⟨e.fx,this c j⟩).2
 .omega
def tE(e:bi k sizes s):∀c∈(s.vars.zip a).map dy,0<=c:=λc f=>by
 obtain⟨p,h,rfl⟩:=l9.1 f;obtain⟨i,hi⟩:=X5.1 h;exact(OO e hi).1
def q6(e:bi k sizes s):∀c∈s.funs.map (fg a),0<=c:=λc f=>by
 obtain⟨p,h,rfl⟩:=l9.1 f;exact(OP e h).1
def oh(e:bi k sizes s):eW k s a=if(s.vars.zip a).all fL then min (s.zero+((s.vars.zip a).map dy).sum+(s.funs.map (fg a)).sum) k else k:=by
 have h1:(s.vars.zip a).foldl (kA k) s.zero=((s.vars.zip a).map dy).foldl (λx c=>min (x+c) k) s.zero:=by
  refine foldl_map' dy (λx c=>min (x+c) k) (kA k) (λc=>c<=k) (λc p f=>?_) (λc p f=>?_) _ _ e.zero.2
  .unfold kA dy;split
   .omega
   .rfl
  .unfold kA;split
   .exact f
   .omega
 have h:∀z,z<=k->s.funs.foldl (jX k a) z=(s.funs.map (fg a)).foldl (λx c=>min (x+c) k) z:=λz j=>by
  refine foldl_map' (fg a) (λx c=>min (x+c) k) (jX k a) (λc=>c<=k) (λc p f=>?_) (λc p f=>?_) _ _ j
  .unfold jX fg;split
   .rfl
   .omega
  .unfold jX;split
   .omega
   .exact f
 unfold eW;split
 .rw[h1,xa _ _ e.zero.2 (tE e),h _ Ω,xa _ _ Ω (q6 e)];have:=q4 _ (q6 (a:=a) e);omega
 .rfl
theorem tF{α β:Type}:∀{l:List α}{m:List β}{i:Nat}{x:α}{y:β},m[i]?=σ y->(l.set i x).zip m=(l.zip m).set i (x,y)
 |[],_,_,_,_,_=>Ξ
 |_::_,[],_,_,_,h=>by simp at h
 |a::l,b::m,0,x,y,h=>by simp at h;subst h;rfl
 |a::l,b::m,i+1,x,y,h=>by
  rw[List.set_cons_succ,List.zip_cons_cons,List.zip_cons_cons,List.set_cons_succ,tF (by simpa using h)]
theorem tG{α:Type}{q:α->Bool}:∀{l:List α}{i:Nat}{x y:α},l[i]?=σ x->q y=q x->(l.set i y).all q=l.all q
 |[],_,_,_,h,_=>by simp at h
 |a::l,0,x,y,h,e=>by simp at h;subst h;rw[List.set_cons_zero,List.all_cons,List.all_cons,e]
 |a::l,i+1,x,y,h,e=>by rw[List.set_cons_succ,List.all_cons,List.all_cons,tG (by simpa using h) e]
def ev(s:ao)(u:Nat)(x:be)(un:Λ):ao:={s with vars:=s.vars.set u {x with un:=un}}
def dG(s:ao)(j:Nat)(f:cK)(cs:Λ):ao:={s with funs:=s.funs.set j {f with cs:=cs}}
def xc{u:Nat}{x:be}{un:Λ}(a:bi k sizes s)(e:s.vars[u]?=σ x)(f:un.length=x.un.length)(h:∀c∈un,0<=c/\c<=k):bi k sizes (ev s u x un):=by
 have j:=(x5.1 e).1;have p:=a.vars;have h1:=a.var u x _ e (x7 Ω);exact a.tA e f h h1.2.2
def DR{f:cK}(a:bi k sizes s)(e:s.funs[j]?=σ f)(h:cs.length=f.cs.length)(p:∀c∈cs,0<=c/\c<=k):bi k sizes (dG s j f cs):=a.DE e rfl rfl h p
def OQ{u:Nat}{x:be}{f:cK}{un:Λ}{ba:Int}(e:bi k sizes s)(w:s.vars[u]?=σ x)(p:s.funs[j]?=σ f)(z:un.length=x.un.length)(A:∀c∈un,0<=c/\c<=k)(B:cs.length=f.cs.length)(C:∀c∈cs,0<=c/\c<=k)(y:a[u]?=σ ba)(h:(s.vars.zip a).all fL=true->∀r,0<=r->min (r+fg a {f with cs:=cs}+dy ({x with un:=un},ba)) k=min (r+fg a f+dy (x,ba)) k):eW k (ev (dG s j f cs) u x un) a=eW k s a:=by
 have E:=DR e p B C;have F:bi k sizes (ev (dG s j f cs) u x un):=xc E w z A;rw[oh F,oh e];have q:(s.vars.zip a)[u]?=σ (x,ba):=S6.2 ⟨w,y⟩;have G:((ev (dG s j f cs) u x un).vars.zip a)=(s.vars.zip a).set u ({x with un:=un},ba):=tF y;have H:((s.vars.zip a).set u ({x with un:=un},ba)).all fL=(s.vars.zip a).all fL:=tG q rfl;rw[G,H];split
 .rename_i I;have J:(((s.vars.zip a).set u ({x with un:=un},ba)).map dy).sum=((s.vars.zip a).map dy).sum-dy (x,ba)+dy ({x with un:=un},ba):=by
   rw[U8];exact xb (by rw[v8,q];rfl)
  have K:((ev (dG s j f cs) u x un).funs.map (fg a)).sum=(s.funs.map (fg a)).sum-fg a f+fg a {f with cs:=cs}:=by
   show((s.funs.set j {f with cs:=cs}).map (fg a)).sum=_;rw[U8];exact xb (by rw[v8,p];rfl)
  have h1:=q5 (tE (a:=a) e) (i:=u) (x:=dy (x,ba)) (by rw[v8,q];rfl);have L:=q5 (q6 (a:=a) e) (i:=j) (x:=fg a f) (by rw[v8,p];rfl);have M:=e.zero.1;have N:=h I (s.zero+(((s.vars.zip a).map dy).sum-dy (x,ba))+((s.funs.map (fg a)).sum-fg a f)) Ω;rw[J,K];show min (s.zero+_+_) k=_;omega
 .rfl
end
end Go.Proofs.YtikkpokkcdocoaaGreatDoor
