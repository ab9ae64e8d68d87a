/- own texts, made small by a tool (wip/ holds them as they were written): no statement of the seat. -/
import Derived.Test.YtikkpokkcdocoabGreatDoorXd
set_option linter.unusedVariables false
set_option linter.unusedSimpArgs false
set_option linter.unnecessarySimpa false
open Array renaming getElem?_eq_some_iff→j4
open Bool renaming not_true→Y7,not_false→V0,eq_iff_iff→V9,and_eq_true→U1,true_and→U6
open Decidable renaming not_not→Y0
open Go renaming Value→x1,World→x3,TypeId→p8,IntKind→o6,Program→W8,FuncId→R7
open Go.Addr renaming add_mid→T3
open Go.Builtin renaming append_→Z2
open Go.Instr renaming loadAt→u5,fieldAt→u6,storeAt→o9,indexAt→c9,buildSlice→Y3
open Go.Proofs.Tryz renaming prog→x7
open Int renaming toNat_natCast→r9,eq_ofNat_of_zero_le→U2
open List renaming getElem?_eq_some_iff→x4,mem_of_getElem?→x5,getElem?_eq_getElem→x6,getElem?_map→x8,getD_eq_getElem?_getD→u4,take_add_one→u7,length_map→u9,length_append→r8,replicate→p9,mem_append→o5,take_length→o7,length_take→n9,mem_singleton→l9,mem_map→j5,take_of_length_le→j6,length_cons→j9,eq_nil_of_length_eq_zero→c8,length_set→b8,getElem?_set_self→b9,map_append→Z3,getElem?_eq_none→Z4,getElem?_take_of_lt→Z9,getElem?_set_ne→Y4,ext_getElem?→Y5,append_assoc→Y6,getElem?_append_left→Y9,getElem?_append_right→X0,getElem?_set→X2,range→X3,append_nil→X5,mem_iff_getElem?→X7,flatMap_cons→W0,drop_eq_getElem_cons→W3,mem_or_eq_of_mem_set→W5,length_eq_one_iff→W9,mem_cons→V4,length_singleton→V6,pairwise_iff_getElem→V8,mem_filter→U5,map_set→U9,map_cons→T1,getElem_mem→T2,mem_range→T6,length_filter_le→T9,mem_of_mem_take→S0,flatMap_append→S8,mem_flatMap→R2,map_map→R4
open Nat renaming le_refl→o4,le_trans→Y8,mul_le_mul_right→X1,zero_le→X6,zero_add→X8,add_mul→U4,mul_one→U7,sub_self→U8,pow_le_pow_right→S2,add_assoc→R5,add_sub_cancel_left→R6,lt_of_lt_of_le→Q1
open Option renaming toList_some→o8,some→c7,isNone_some→Z5,map_some→Z7,map_eq_some_iff→X4,getD_some→V1,map→V7,isSome_some→S3,isSome_none→R3
open Option.some renaming inj→Z0
set_option maxHeartbeats 16000000
open Option renaming some→σ,none→ν
variable{a c k pos v y:Int}{aj cs l sc sizes t tl:Λ}{B ae eu gT ga gt gtb gy j:Nat}{aK aL sv:x1}{w w':x3}{e:p8}{L:List (Λ)}{K:x1->x3->Prop}{D:Nat->Prop}
namespace Go.Proofs.YtikkpokkcdocoabGreatDoor
open Go Go.Vc Go.RowKit Go.Proofs Go.Proofs.Tryz
set_option maxRecDepth 100000
def ul(s:au)(n:aJ)(i:Int)(b m:Nat):Prop:=mf b m/\(¬(0<=i/\i<n.sizes.length)->b=0/\m=0)/\∀x,0<=i->s.vars[i.toNat]?=σ x->m=x.un.length/\∀j:Nat,b.testBit j=(decide (j<x.un.length)&& !dropped x.mask (j:Int))
section
variable{w:x3}{ae gT:Nat}{A R:ak}{n:aJ}{s:au}{t:aC}
theorem h3{i:Int}(h:bu w ae gT A R n s t):am x7 GR [Γ ae,Δ i] w λv w'=>(∃b m,v=jt b m/\ul s n i b m)/\Ext w w':=by
 have bm:=h.2.2.2.1.vars;refine az func45 ?_;refine bo b1.i λf V bn ak P=>?_;have P:af V f b1 [.int .u64 0,Δ 0]:=P;refine(xD (h.ext ak)).mono ?_;rintro _ aa _ ⟨rfl,ao⟩;have Q:=P.ext ao;have S:=ak.trans ao;rw[bE,bZ];refine⟨λa=>?_,λa=>?_⟩
 .have a:¬(0<=i/\i<n.sizes.length):=λaM=>by rw[decide_eq_true aM]at a;cases a
  rw[cZ (cs:=#[.int .u64 0,Δ 0]) Ψ];refine cb (vs:=[.int .u64 0,Δ 0]) b1.i rfl rfl (by intro u hu;simp at hu;rcases hu with rfl|rfl<;>rfl) Q λbp aN bt aP=>?_;rw[fO b1.p b1.i rfl aP.range];refine⟨⟨0,0,rfl,⟨Ω,Ξ⟩,λ_=>⟨rfl,rfl⟩,λx ap J=>?_⟩,S.put aN Ω⟩;have:=(x4.1 J).1;exact absurd ⟨ap,Ω⟩ a
 have a:0<=i/\i<n.sizes.length:=by simpa using a
 obtain⟨x,E⟩:=aI (l:=s.vars) (i:=i.toNat) Ω;obtain⟨z,U⟩:=aI (l:=n.sizes) (i:=i.toNat) Ω;have aR:=h.2.2.2.1.eW.2.2 z (x5 U);obtain⟨bw,_,bx,bz⟩:=h.2.2.2.1.var i.toNat x z E U;obtain⟨aS,aT,aU,aV,aY,aW,L,aX,G,aq,_⟩:=(h.ext S).1.parts;rw[aQ cq.p 0 G rfl];refine(Dt aq h.2.2.2.2).mono ?_;rintro _ bA _ ⟨W,rfl⟩;rw[if_pos a.1,u4,U,V1];refine KJ.mono ?_;rintro _ bB _ ⟨X,rfl⟩;rw[if_pos aR];obtain⟨m,rfl⟩:∃m:Nat,z=m:=⟨z.toNat,Ω⟩;rw[bq,br,r9];have au:=(S.trans W).trans X;refine bo b1.i λe bC bD av aZ=>?_;refine cb (vs:=[.int .u64 ((2 ^ m-1:Nat):Int),Δ (m:Int)]) b1.i rfl rfl (by intro u hu;simp at hu;rcases hu with rfl|rfl<;>rfl) aZ λaw ax bF a1=>?_;have z5:=au.size;have ay:Ext w aw:=(au.trans av).put ax Ω;have bG:=(((Q.ext W).ext X)).lt;have a2:af aw f b1 [.int .u64 0,Δ 0]:=(((Q.ext W).ext X).ext av).ab ax λhe=>by have he:f=e:=he;omega
 intro bI Y _ _;have aA:=ay.trans Y;obtain⟨aS,aT,aU,aV,aY,aW,L,aX,G,aq,a6,a7,_⟩:=(h.ext aA).1.parts;have bJ:=uj E;have bL:=pV h.2.1 h.2.2.1;rw[aQ cq.p 1 G rfl,aQ cq.p 2 G rfl,fN (y:=i) (i:=i.toNat) Ω an.u ah.i Ψ a7.ls (rz Ω),aO,wrap_i64 Ω Ω];have a8:t.bR[fg s i.toNat+1]?=σ x.mask:=by rw[h.2.1,pQ E Ω];rfl
 refine(na (i:=fg s i.toNat+1) a6 Ω a8).mono ?_;rintro _ ba _ ⟨rfl,Z⟩;have aC:=(a1.ext Y).ext Z;have bb:=(a2.ext Y).ext Z;obtain⟨mk,aD⟩:∃mk:Nat,x.mask=mk:=⟨x.mask.toNat,Ω⟩;rw[bK b1.p b1.i rfl (show ba.rangeAt e 0 [.int .u64 ((2 ^ m-1:Nat):Int),Δ (m:Int)]from aC.range)];refine(wk (b:=2 ^ m-1) (n:=m)).mono ?_;rintro _ bM _ ⟨rfl,ac⟩;have bc:=aA.trans Z;have bd:f≠e:=Ω
 have bN:=ay.size;have bO:w.heap.size<=e:=Ω
 have bP:w.heap.size<=f:=Ω
 refine ce.range m (λq B=>Ext w B/\af B f b1 [.int .u64 0,Δ 0]/\∃b:Nat,af B e b1 [.int .u64 (b:Int),Δ (m:Int)]/\mf b m/\∀j:Nat,b.testBit j=(decide (j<m)&& !(decide (j<q)&&mk.testBit j))) Ω
  ⟨bc.trans ac,bb.ext ac,_,aC.ext ac,⟨Ω,by have:=Nat.two_pow_pos m;omega⟩,λj=>by rw[Bh];simp⟩ ?_ ?_
 .rintro q B bf bQ ⟨H,I,b,C,K,M⟩ bg;refine bH Ω ?_;refine c5 (λN=>Ext w N/\af N f b1 [.int .u64 0,Δ 0]/\∃b:Nat,af N e b1 [.int .u64 (b:Int),Δ (m:Int)]/\mf b m/\∀j:Nat,b.testBit j=(decide (j<m)&& !(decide (j<q+1)&&mk.testBit j))) ?_ ?_
  .rintro N bh;rw[aO];exact bg _ bh
  intro aB aE;have bi:mk / 2 ^ q<2 ^ 62:=Nat.lt_of_le_of_lt (Nat.div_le_self _ _) Ω;rw[aD,Ci Ω,show(1:Int)=((1:Nat):Int)from rfl,Eb bi Ω,be,al];have aF:(((mk / 2 ^ q &&& 1:Nat):Int)=((1:Nat):Int))↔mk.testBit q=true:=by rw[<-Ec];omega
  refine⟨λad=>?_,λag=>?_⟩
  .have ad:=aF.1 ad;rw[bK b1.p b1.i rfl (show B.rangeAt e 0 [.int .u64 (b:Int),Δ (m:Int)]from C.range)];refine(KL (v:=(q:Int)) K).mono ?_;rintro _ bS _ ⟨rfl,ai⟩;rw[if_pos ⟨Ω,Ω⟩,r9];refine cb (vs:=[.int .u64 ((jV b (2 ^ q):Nat):Int),Δ (m:Int)]) b1.i rfl rfl (by intro u hu;simp at hu;rcases hu with rfl|rfl<;>rfl) (C.ext ai) λbT aG bU bj=>?_;have aH:∀j:Nat,(jV b (2 ^ q)).testBit j=(decide (j<m)&& !(decide (j<q+1)&&mk.testBit j)):=λj=>by
    rw[A8,M,Nat.testBit_two_pow];by_cases aJ:j<m
    .by_cases O:j=q
     .subst O;simp[ad]
     .have aj:decide (j<q+1)=decide (j<q):=decide_eq_decide.2 ⟨λh=>Ω,λh=>Ω⟩;rw[aj,decide_eq_true aJ,decide_eq_true (show j<64 by omega),decide_eq_false (show¬q=j from λh=>O h.symm)];simp
    .simp[aJ]
   refine aE _ ⟨(H.trans ai).then aG λr bV he=>by have he:r=e:=he;omega,(I.ext ai).ab aG λhe=>bd he,_,bj,⟨Ω,KC λj aK=>by rw[aH,decide_eq_false Ω];rfl⟩,aH⟩
  .have ag:mk.testBit q=false:=by simpa using λh=>ag (aF.2 h)
   refine aE _ ⟨H,I,b,C,K,λj=>?_⟩;rw[M];by_cases O:j=q
   .subst O;simp[ag]
   .have aj:decide (j<q+1)=decide (j<q):=decide_eq_decide.2 ⟨λh=>Ω,λh=>Ω⟩;rw[aj]
 .rintro B bf ⟨H,I,b,C,K,M⟩;refine ct Ω ?_;rw[bK b1.p b1.i rfl (show B.rangeAt e 0 [.int .u64 (b:Int),Δ (m:Int)]from C.range)];refine cb (vs:=[.int .u64 (b:Int),Δ (m:Int)]) b1.i rfl rfl (by intro u hu;simp at hu;rcases hu with rfl|rfl<;>rfl) I λbW bk bX bl=>?_;rw[fO b1.p b1.i rfl bl.range];refine⟨⟨b,m,rfl,K,λh=>absurd a h,λy ap aL=>?_⟩,H.put bk Ω⟩;rw[E]at aL;cases aL;refine⟨Ω,λj=>?_⟩;rw[M,aD,Po,show x.un.length=m by omega];by_cases aK:j<m<;>simp[aK]
theorem Ee{f:b7}(e:bx k sizes s)(ag:f∈s.funs):b3 f.aj/\f.cs.length=(aP f.aj).toNat/\aP f.aj<=4096:=by
 obtain⟨a,U,_⟩:=e.funs f ag;rw[U];refine⟨⟨?_,m8 e.eW.2.2 λv ad=>⟨(a.scope.1 v ad).1,a.vars v ad⟩⟩,a.len,a.small⟩;have:=a.scope.2;simp[bW];exact this
def hh(s:au)(j:Nat)(tl:Λ):Option Nat:=match s.funs[j]? with
 |some f=>if f.live≠0 then(cJ f.aj tl 0).map λm=>eU s j+1+m.toNat else ν
 |none=>ν
def lG(s:au)(j:Nat)(tl:Λ):Int:=match s.funs[j]? with
 |some f=>bm f.aj f.cs tl
 |none=>0
theorem Ef(h:bu w ae gT A R n s t)(J:aH .i64 w aL tl):am x7 Hz [Γ ae,Δ (j:Int),aL] w λv w'=>v=Δ (match hh s j tl with|some p=>(p:Int)|none=>-1)/\Ext w w':=by
 refine az func102 ?_;refine(pW h).mono ?_;rintro _ V _ ⟨rfl,z⟩;rw[decide_eq_true Ω,U6,r9,bE,bZ];refine⟨λa=>⟨?_,z⟩,λa=>?_⟩
 .have a:eM s j=false:=by simpa using a
  have:hh s j tl=ν:=by
   unfold hh;unfold eM at a;cases ag:s.funs[j]? with
   |none=>rfl
   |some f=>
    rw[ag]at a;have a:f.live=0:=by simpa using a
    simp[a]
  rw[this]
 have a:eM s j=true:=by simpa using a
 obtain⟨f,ag,K⟩:∃f,s.funs[j]?=σ f/\f.live≠0:=by
  unfold eM at a;cases ag:s.funs[j]? with
  |none=>rw[ag]at a;cases a
  |some f=>rw[ag]at a;exact⟨f,rfl,by simpa using a⟩
 obtain⟨G,ab,ac⟩:=Ee h.2.2.2.1 (x5 ag);obtain⟨M,N,O,P,aY,H,L,Q,B,S,U,W,r,x⟩:=(h.ext z).1.parts;obtain⟨y,e⟩:∃y,L[j]?=σ y:=⟨_,x6 (by rw[x.1];exact(x4.1 ag).1)⟩;have C:=(x4.1 e).1;obtain⟨_,X,I⟩:=x.2 j y f e ag;have Y:V.rangeAt H (j*3+1) [y.szv]:=λq v ad=>by
  match q,ad with
  |0,ad=>cases ad;exact r.range e 1 _ rfl
 rw[aQ cq.p 3 B rfl,dj rfl fa.u dC.i r C,aU dC.p rfl,bK (cs:=[y.szv]) bz.p bz.i rfl Y];refine(AA X.ls (J.ext z) G).mono ?_;rintro _ aa _ ⟨rfl,Z⟩;have E:=z.trans Z;unfold lg hh;rw[ag];simp only[if_pos K];cases hi:cJ f.aj tl 0 with
 |none=>
  simp only[Option.map_none];rw[bq,br,bD,al];exact⟨λ_=>⟨trivial,E⟩,λh=>absurd (show(3:Int)≠0 by decide) h⟩
 |some m=>
  simp only[Z7];rw[bq,br,bD,al];refine⟨λh=>absurd rfl h,λ_=>?_⟩;have af:=n2 G.2 hi;have ah:=xB ag;have ai:=pV h.2.1 h.2.2.1;obtain⟨M,N,O,P,aY,H,L,Q,B,S,U,W,r,x⟩:=(h.ext E).1.parts;obtain⟨y,e⟩:∃y,L[j]?=σ y:=⟨_,x6 (by rw[x.1];exact(x4.1 ag).1)⟩;have C:=(x4.1 e).1;obtain⟨_,_,I⟩:=x.2 j y f e ag;rw[aQ cq.p 3 B rfl,dj rfl fa.u dC.i r C,aU dC.p rfl,aw (v:=Δ (y.at_:Int)) Ψ (r.range e 2 _ rfl),I,aO,wrap_i64 Ω Ω,aO,wrap_i64 Ω Ω];refine⟨?_,E⟩;congr 1;omega
theorem xF{p:Nat}(a:bx k sizes s)(h:hh s j tl=σ p):s.cells[p]?=σ (lG s j tl)/\∃f,s.funs[j]?=σ f/\f.live≠0/\∃m:Nat,cJ f.aj tl 0=σ (m:Int)/\m<f.cs.length/\p=eU s j+(m+1):=by
 unfold hh at h;cases ag:s.funs[j]? with
 |none=>rw[ag]at h;cases h
 |some f=>
  rw[ag]at h;simp only at h;split at h
  .rename_i e;obtain⟨m,hm,rfl⟩:=X4.1 h;obtain⟨r,w,x⟩:=Ee a (x5 ag);have y:=n2 r.2 hm;obtain⟨q,rfl⟩:∃q:Nat,m=q:=⟨m.toNat,Ω⟩;refine⟨?_,f,rfl,e,q,hm,Ω,Ω⟩;rw[show eU s j+1+(q:Int).toNat=eU s j+(q+1) by omega,xb ag Ω];unfold lG bm;rw[ag];simp only[hm];show f.cs[q]?=_;rw[r9,u4,x6 Ω];rfl
  .cases h
theorem um(h:bu w ae gT A R n s t)(e:aH .i64 w aL tl):am x7 zD [Γ ae,Δ (j:Int),aL] w λv w'=>v=(if(hh s j tl).isSome then .tuple #[Δ (lG s j tl),Δ 0]else .tuple #[Δ 0,Δ 1])/\Ext w w':=by
 refine az func51 ?_;rw[dc cI.u];simp only[Z5,a1];refine(Ef h e).mono ?_;rintro _ V _ ⟨rfl,a⟩;cases f:hh s j tl with
 |none=>
  simp only;rw[aS,al];exact⟨λ_=>⟨rfl,a⟩,λh=>Ω⟩
 |some p=>
  simp only;refine ct Ω ?_;obtain⟨y,z,B,C,aY,E,L,G,q,H,r,I,J,K⟩:=(h.ext a).1.parts;rw[aQ cq.p 1 q rfl];refine(na (i:=p) r rfl (by rw[h.2.1];exact(xF h.2.2.2.1 f).1)).mono ?_;rintro _ aa _ ⟨rfl,x⟩;exact⟨rfl,a.trans x⟩
end
theorem eL.parts{a:Nat}{e f r:x1}{A R:ak}{n:aJ}{s:au}{t:aC}(h:eL w ae gT a e f r A R n s t):∃aY p L q,af w ae cq [Γ a,Γ gT,e,f,r]/\gh w a n/\dt w gT q t/\av .i64 ah w aY e (iw s)/\bi mm 3 dC w p f L/\lB R w L s:=by
 obtain⟨_,aY,p,ge,L,E,q,w0,x,⟨y,z,H⟩,⟨B,I,J,K⟩,C,⟨F,G⟩,M,N⟩:=h;exact⟨aY,p,L,q,x,y.ext z,B,C,F,G⟩
theorem Eg{b:Int}(e:0<=a/\a<=k)(f:0<=b/\b<=k)(hk:1<=k/\k<=2147483648):am x7 zF [Δ a,Δ b,Δ k] w λv w'=>v= .tuple #[Δ (min (a+b) k),Δ 0]/\Ext w w':=by
 refine wy.mono ?_;rintro _ V _ ⟨rfl,J⟩;refine⟨?_,J⟩;unfold oe;rw[if_pos ⟨⟨hk,e.1,e.2⟩,hk,f.1,f.2⟩]
def Room(t:aC):Prop:=t.marks=[]\/t.olds.length<100000000
def ej(s:au)(i v:Nat):au:=match s.vars[i]? with
 |some x=>{s with vars:=s.vars.set i {x with mask:=((x.mask.toNat ||| 2 ^ v:Nat):Int)}}
 |none=>s
theorem bx.uo{s:au}{i:Nat}{x y:bJ}(h:bx k sizes s)(J:s.vars[i]?=σ x)(r:y.un.length=x.un.length)(w:∀c∈y.un,0<=c/\c<=k)(hm:0<=y.mask/\y.mask<4294967296):bx k sizes {s with vars:=s.vars.set i y}:=
 ⟨h.eV,h.eW,h.zero,by show(s.vars.set i y).length=_;rw[b8];exact h.vars,λp z q a e=>by
  have a:(s.vars.set i y)[p]?=σ z:=a;rw[X2]at a;by_cases f:i=p
  .subst f;rw[if_pos rfl,if_pos (x4.1 J).1]at a;cases a;exact⟨r.trans (h.var i x q J e).1,w,hm⟩
  .rw[if_neg f]at a;exact h.var p z q a e,h.funs⟩
theorem bx.Eh{s:au}{f g:b7}(h:bx k sizes s)(ag:s.funs[j]?=σ f)(h1:g.sc=f.sc)(a:g.aj=f.aj)(e:g.cs.length=f.cs.length)(p:∀c∈g.cs,0<=c/\c<=k):bx k sizes {s with funs:=s.funs.set j g}:=
 ⟨h.eV,h.eW,h.zero,h.vars,h.var,λx J=>by
  rcases W5 J with J|rfl
  .exact h.funs x J
  .obtain⟨⟨q,r,w,y,z,C⟩,A,B⟩:=h.funs f (x5 ag);refine⟨⟨?_,?_,?_,?_,?_,p⟩,?_,?_⟩
   .show jx x.sc;rw[h1];exact q
   .show x.sc.Pairwise _;rw[h1];exact r
   .show ∀v∈x.sc,_;rw[h1];exact w
   .show x.cs.length=(aP (bW sizes x.sc)).toNat;rw[h1,e];exact y
   .show aP (bW sizes x.sc)<=_;rw[h1];exact z
   .rw[h1,a];exact A
   .rw[h1];exact B⟩
theorem Pp{r:Nat}{c:List x1}(a:af w r e c)(he:¬(e=fK\/e=eF\/e=la\/e=gv\/e=cq\/e=dC\/e=gp)):¬et w r:=by
 rintro (⟨q,s,f,h⟩|p)
 .rw[eb a f]at he;exact he h
 .exact p _ a rfl
section
variable{w:x3}{ae gT:Nat}{A R:ak}{n:aJ}{s:au}{t:aC}
theorem nb.set(h:nb t)(a:Room t)(p:Nat)(x:Int):nb (t.set p x):=by
 refine⟨by rw[aC.Dy];exact h.1,?_,by rw[aC.xe];exact h.2.2⟩;rcases a with a|a
 .rw[aC.xf a];exact h.2.1
 .have:=aC.Dz t p x;omega
theorem Ei{s':au}{p:Nat}{x:Int}(h:bu w ae gT A R n s t)(z:y=(p:Int))(a:p<s.cells.length)(B:s.cells.set p x=s'.cells)(U:ox s s')(C:bx n.k n.sizes s')(E:Room t):
  am x7 zM [Γ gT,Δ y,Δ x] w λr w'=>r=Δ 0/\ai (et w) w w'/\∃aT,Grow A w aT w'/\bu w' ae gT aT R n s' (t.set p x):=by
 obtain⟨G,ad,q,_,H⟩:=id h;obtain⟨I,J,K⟩:=G.rt;have L:p<t.cells.length:=by rw[<-ad]at a;unfold aC.bR at a;rw[u9]at a;exact a
 refine(tY J.min z L q).mono ?_;rintro _ V _ ⟨rfl,M,e,N⟩;obtain⟨aT,O,P⟩:=K (λr=>I r\/M r) V _ ⟨e.1.mono λr _ h=>h.1,λr f=>f.elim .inl λh=>(e.2.1 r h).imp (λh=>h.1) id,λr f=>.inl f⟩ (N.mono λr h=>.inr h);exact⟨rfl,e.1.mono λr _ h=>.inl h.2,aT,O,P.same U,by rw[aC.qF,ad,B],q.set E p x,C,H⟩
theorem xG{i:Int}(h:bu w ae gT A R n s t)(K:Room t):am x7 G4 [Γ ae,Δ i,Δ v] w λr w'=>(¬fh n i v->r=Δ 1/\Ext w w')/\
  (fh n i v->r=Δ 0/\ai (et w) w w'/\∃aT x,Grow A w aT w'/\bu w' ae gT aT R n (ej s i.toNat v.toNat) (t.set (fg s i.toNat+1) x)):=by
 refine az func61 ?_;rw[dc cI.u];simp only[Z5,a1];refine(xE h).mono ?_;rintro _ V _ ⟨rfl,f⟩;by_cases e:fh n i v
 rotate_left
 .rw[if_neg e,aS,al];exact⟨λ_=>⟨λ_=>⟨by trivial,f⟩,λh=>absurd h e⟩,λh=>Ω⟩
 rw[if_pos e];refine ct Ω ?_;obtain⟨x,a,M,ac,ad⟩:=e.var h.2.2.2.1;obtain⟨h1,af,ag,aj⟩:=id e;have ak:=h.2.2.2.1.vars;obtain⟨z,N⟩:=aI (l:=n.sizes) (i:=i.toNat) Ω;obtain⟨_,O,ao,ap⟩:=h.2.2.2.1.var i.toNat x z a N;have aq:=uj a;have au:=pV h.2.1 h.2.2.1;obtain⟨av,aw,ax,ay,P⟩:=(h.ext f).1;obtain⟨aY,aA,L,aB,G,aC,Q,S,aD,aE⟩:=P.parts;rw[aQ cq.p 2 G rfl,fN (y:=i) (i:=i.toNat) Ω an.u ah.i Ψ S.ls (rz Ω),aO,wrap_i64 Ω Ω];intro aa B _ _;have U:=f.trans B;have H:=G.ext B;have W:=Q.ext B;obtain⟨q,rfl⟩:∃q:Nat,v=q:=⟨v.toNat,Ω⟩;obtain⟨mk,I⟩:∃mk:Nat,x.mask=mk:=⟨x.mask.toNat,Ω⟩;rw[r9]at M;rw[aQ cq.p 1 H rfl,aQ cq.p 1 H rfl,Pn Ω];have X:t.bR[fg s i.toNat+1]?=σ x.mask:=by rw[h.2.1,pQ a Ω];rfl
 refine(na (i:=fg s i.toNat+1) W Ω X).mono ?_;rintro _ aF _ ⟨rfl,J⟩;refine⟨.inl J,?_⟩;have aG:(2:Nat) ^ q<=2 ^ 31:=S2 Ω Ω;rw[I,Pm Ω Ω];have C:=U.trans J;have aH:mk ||| 2 ^ q<2 ^ 32:=Nat.or_lt_two_pow Ω Ω;have E:ej s i.toNat (q:Int).toNat={s with vars:=s.vars.set i.toNat {x with mask:=((mk ||| 2 ^ q:Nat):Int)}}:=by
  unfold ej;rw[a];simp only[I,r9]
 refine(Ei (p:=fg s i.toNat+1) (s':=ej s i.toNat (q:Int).toNat) (h.ext C) Ω Ω ?_ ?_ ?_ K).mono ?_
 .rw[E,Dq a Ω];rfl
 .rw[E];exact Dw a rfl
 .rw[E];exact h.2.2.2.1.uo a rfl O ⟨by simp only;omega,by simp only;omega⟩
 rintro _ aJ _ ⟨rfl,Y,aT,Z,ab⟩;exact⟨λh=>absurd e h,λ_=>⟨rfl,j7 C Y,aT,_,(Grow.ext C).trans Z,ab⟩⟩
end
theorem xH{cO:x1}(h:aH .i64 w cO l):am x7 HQ [cO,Δ v] w λr w'=>r= .bool (decide (v∈l))/\Ext w w':=by
 refine az func137 ?_;rw[aW an.u h];refine b5.range l.length (λi _ V=>Ext w V/\v∉l.take i) h.le ⟨Ext.refl _,Ξ⟩ ?_ ?_
 .rintro i _ V k hi ⟨J,a⟩ hk;obtain⟨x,e⟩:=aI (l:=l) hi;refine bH Ω ?_;rw[bh an.u ah.i Ψ (h.ext J) e,be,al];refine⟨λhe=>⟨by rw[decide_eq_true];rw[<-he];exact x5 e,J⟩,λf=>?_⟩;rw[aO];refine hk _ _ ⟨J,λhm=>?_⟩;rw[u7,e,o8,o5,l9]at hm;rcases hm with hm|hm
  .exact a hm
  .exact f hm.symm
 .rintro _ V k ⟨J,a⟩;rw[o7]at a;rw[aS,al];exact⟨λh=>Ω,λ_=>⟨by rw[decide_eq_false a],J⟩⟩
theorem Ej{x:bJ}(h:0<=v/\v<x.un.length):v∈aF x↔dropped x.mask v=false:=by
 unfold aF;rw[U5,j5];constructor
 .rintro⟨_,a⟩;simpa using a
 .intro a;exact⟨⟨v.toNat,T6.2 Ω,Ω⟩,by simp[a]⟩
def dp(s:au):Prop:=∀f∈s.funs,f.live≠0->∀v∈f.sc,∀x,s.vars[v.toNat]?=σ x->x.gone=0
theorem gh.put{g y:Nat}{c:List x1}{n:aJ}(h:gh w y n)(a:af w g ba c)(f:ai (λr=>r=g) w w'):gh w' y n:=by
 have q:=D4 a;have z:∀r,r=g->∃e c,af w r e c/\e≠hq/\e≠cY/\e≠ah/\e≠ao/\e≠ay:=λr p=>by
  subst p;exact⟨_,c,a,Φ,Φ,Φ,Φ,Φ⟩
 obtain⟨A,B,C,E,gr,aX,L,nm,szv,gz,fv2,h1,F,G,H,I,J,K⟩:=h;refine⟨A,B,C,E,gr,aX,L,nm,szv,gz,fv2,xx h1 f q Φ,xx F f q Φ,xw G f q Φ,H.ab f λr p=>?_,I,J.ab f λr p=>?_,K⟩
 .obtain⟨e,c,a,_,_,_,s,x⟩:=z r p;exact⟨e,c,a,s,x⟩
 .obtain⟨e,c,a,s,x,M,N,_⟩:=z r p;exact⟨e,c,a,s,x,M,N⟩
theorem StateM.put{g:Nat}{A R:ak}{n:aJ}{s:au}{t:aC}{c:List x1}(h:StateM w ae gT A R n s t)(y:af w g ba c)(p:ai (λr=>r=g) w w')(Q:¬A g):∃R',(∀r,R' r->R r/\r≠g)/\StateM w' ae gT A R' n s t:=by
 obtain⟨S,V,W,X,⟨h1,Y,Z,aa⟩,aY,ac,ge,L,E,ad,w0,ah,⟨I,C,aj⟩,⟨al,K,am,an⟩,ao,⟨ap,M⟩,aq,N⟩:=h;obtain⟨cw,O⟩:=Dj;have z:=p.size;have q:=D4 y;have B:∀r,(w0.heap.setIfInBounds g cw)[r]?=if g=r then(if g<w0.heap.size then σ cw else ν)else w0.heap[r]?:=λr=>Array.getElem?_setIfInBounds;have av:∀r,A r->r≠g:=λr a he=>Q (he▸a);have int:∀{v:x1}{l:Λ},iW R w v l->iW (λr=>R r/\r≠g) w' v l:=λ⟨⟨aw,hm⟩,ax⟩=>⟨⟨aw,xw hm p q Φ⟩,λr a=>⟨ax r a,cc hm y Φ a⟩⟩;refine⟨λr=>R r/\r≠g,λr h=>h,S,V,W,X,⟨h1,λr a ay=>Y r a ay.1,λr a=>by have:=Z r a.1;omega,λr a=>by have:=aa r a;omega⟩,aY,ac,ge,L,E,ad,{w0 with heap:=w0.heap.setIfInBounds g cw},xx ah p q Φ,⟨?_,?_,?_⟩,
  ⟨al.ab p λr a=>av r (K r a),K,am,an⟩,xw ao p q Φ,⟨D3 ap p q Φ,M.1,λj x f J ag=>?_⟩,D3 aq p q Φ,N.1,λj x e J he=>?_⟩
 .by_cases U:∃o,w0.heap[g]?=σ o/\fF o=true
  .obtain⟨o,P,az⟩:=U;have aA:af w0 g ba c:=by
    unfold af at y ⊢;have:=C.aZ g o P az;rw[y]at this;rw[P,this]
   refine I.put aA ⟨Ξ,λr o a U aB=>?_⟩;show(w0.heap.setIfInBounds g cw)[r]?=σ o;rw[B,if_neg λhe=>aB he.symm];exact a
  .refine I.ext ⟨Ξ,λr o a aD=>?_⟩;show(w0.heap.setIfInBounds g cw)[r]?=σ o;rw[B,if_neg λhe=>U ⟨o,by rw[he];exact a,aD⟩];exact a
 .refine⟨by show(w0.heap.setIfInBounds g cw).size<=_;rw[Array.size_setIfInBounds];exact Y8 C.size z,λr o a U=>?_⟩;have a:(w0.heap.setIfInBounds g cw)[r]?=σ o:=a;rw[B]at a;by_cases he:g=r
  .rw[if_pos he]at a;split at a
   .cases a;rw[O]at U;cases U
   .cases a
  .rw[if_neg he]at a;exact p.aZ r o (C.aZ r o a U) U λh=>he h.symm
 .intro r o a U;have a:(w0.heap.setIfInBounds g cw)[r]?=σ o:=a;rw[B]at a;by_cases he:g=r
  .rw[if_pos he]at a;split at a
   .cases a;rw[O]at U;cases U
   .cases a
  .rw[if_neg he]at a;exact⟨aj r o a U,λh=>he h.symm⟩
 .obtain⟨F,G,H⟩:=M.2 j x f J ag;exact⟨int F,int G,H⟩
 .obtain⟨F,G,H⟩:=N.2 j x e J he;exact⟨F,int G,int H⟩
theorem Pq{pl:Λ}{f:bY}(p:pl.length<=60000)(h:fp pl=σ f):∃N,N<=60000/\e3 N f/\f.name≠[]/\∀b∈f.name,bO b=true:=by
 unfold fp at h;rw[if_neg Ω]at h;cases a:gY ⟨(lex pl).1,0,false,[]⟩with
 |none=>rw[a]at h;cases h
 |some q=>
  obtain⟨r,s⟩:=q;rw[a]at h;simp only at h;split at h
  .rename_i aA;cases h;obtain⟨h1,e⟩:=BH rfl a aA.2.2;have w:=pm pl.length pl (o4 _);obtain⟨V,aa,_⟩:=sW pl.length pl (o4 _) f.name e;exact⟨_,by show(lex pl).1.length<=60000;omega,h1,V,aa⟩
  .cases h
theorem Pr:am x7 zE [.pointer ν] w λv w'=>v= .pointer ν/\Ext w w':=by
 refine az func58 ?_;rw[dc mI.u];simp only[Option.isNone_none,bT];exact⟨by trivial,Ext.refl _⟩
theorem Ps{v:x1}(h:aH .u8 w v l)(C:l.length<=100000):am x7 GY [v] w λf w'=>Ext w w'/\∃g,av .u8 cK w' g f l:=by
 have e:=h;obtain⟨E,b,o,base,cap,rfl,G,hm,s,x⟩:=h;refine az func54 ?_;rw[pe cP.u,bZ];refine⟨λy=>⟨Ext.refl _,0,?_⟩,λ_=>?_⟩
 .have:l=[]:=by
   cases base with
   |none=>
        by_cases e:0<l.length
        .have:=s e;cases this
        .exact c8 Ω
   |some a=>cases y
  subst this;exact av.nil _ _ _ _
 .refine xy (k:=.u8) cP.u cK.i λH g1 V I p q=>?_;refine gD cP.u cK.i rfl q (e.ext p) Θ Θ λf z aa A J B=>?_;exact⟨p.then B (λr x he=>by have:=(bQ q he).1;omega),z,by simpa using A⟩
def Pt(sv:x1):Prop:=∃cs:List x1,sv= .agg cs.toArray/\cs.length=8/\∀u∈cs,u.oneCell'=true
theorem Ek:Pt (.agg z12.toArray):=⟨z12,rfl,rfl,by intro u hu;simp[z12]at hu;rcases hu with rfl|rfl|rfl|rfl<;>rfl⟩
theorem xI{N:Nat}{f:bY}(a:e3 N f):(cT f).funs.length<=256:=by
 have h1:=(pL a).2.length_eq;have h:=(kJ a).2.2;have p:=T9 ft (ff f);have q:=a.ln;have e:=(ou f (fu f).length).2.2.2;rw[rl]at e;omega
theorem Pu{n:aJ}{t:aC}(e:j2 n)(ag:n.funs.length<=256)(ad:t.bR=(de n).cells)(a:Plain t):nb t:=by
 have h1:=ud e ag n.unary.length n.funs.length;rw[xk,<-ad]at h1;unfold aC.bR at h1;rw[u9]at h1;refine⟨Ω,?_,?_⟩
 .rw[a.2.1];exact X6 _
 .rw[a.1];exact X6 _
def uq(B:Nat)(w:x3)(a:x1)(cs:List x1)(f:bY):Prop:=∃ae gT A R t N A9 aG,e3 N f/\a=Γ ae/\bu w ae gT A R (cT f) (de (cT f)) t/\Plain t/\(∀r,A r->B<=r)/\
 iy true A9 aG w cs (cT f).k (cT f).sizes (de (cT f))/\(∀q r,A9 q r->¬A r/\¬R r/\B<=r)/\(∀r,aG r->¬et w r/\r<w.heap.size/\B<=r)/\∀r,R r->B<=r
def Pv(w:x3)(q:Λ)(v:x1)(w':x3):Prop:=Ext w w'/\∃a cs ok,v= .tuple #[a,.agg cs.toArray,.bool ok]/\(cs.length=8/\∀u∈cs,u.oneCell'=true)/\((ok=false/\a= .pointer ν)\/(ok=true/\∃f,fp q=σ f/\uq w.heap.size w' a cs f))/\∀f,fp q=σ f->iS f.funs<=16384->ok=true
section
variable{w:x3}{ae gT:Nat}{A R:ak}{n:aJ}{s:au}{t:aC}
theorem El{j:Int}(h:bu w ae gT A R n s t)(p:¬(0<=j/\j<s.funs.length)):am x7 qu [Γ ae,Δ j] w λr w'=>r= .slice ν 0 0/\Ext w w':=by
 refine az func76 ?_;refine aV (λv V=>v= .bool true/\Ext w V) ?_ ?_
 .rintro _ V ⟨rfl,e⟩;rw[bT];exact⟨rfl,e⟩
 intro aB a;rw[aS,al];refine⟨λ_=>a _ _ ⟨rfl,Ext.refl _⟩,λq=>?_⟩;refine(rB h).mono ?_;rintro _ x _ ⟨rfl,f⟩;rw[cn];exact a _ _ ⟨by rw[decide_eq_true Ω],f⟩
end
section
variable{w:x3}{B:Nat}{sv:x1}{k:Int}{sizes:Λ}{s:au}
end
def iA:List (Λ)->List (Λ)
 |[]=>[[]]
 |d::a=>d.flatMap λv=>(iA a).map (v:: ·)
theorem ur:∀{e:List (Λ)}{t:Λ},t∈iA e↔t.length=e.length/\∀(p:Nat)d v,e[p]?=σ d->t[p]?=σ v->v∈d
 |[],t=>by
  simp only[iA,l9];exact⟨λh=>by subst h;exact⟨rfl,λp d v h=>by simp at h⟩,λh=>c8 h.1⟩
 |d::e,t=>by
  simp only[iA,R2,j5];constructor
  .rintro⟨v,ad,bp,r,rfl⟩;obtain⟨h1,f⟩:=ur.1 r;refine⟨by simp[h1],λp q u a hu=>?_⟩;cases p with
   |zero=>simp at a hu;subst a hu;exact ad
   |succ p=>exact f p q u (by simpa using a) (by simpa using hu)
  .rintro⟨h1,f⟩;cases t with
   |nil=>simp at h1
   |cons v bp=>exact⟨v,f 0 d v rfl rfl,bp,ur.2 ⟨by simpa using h1,λp q u a hu=>f (p+1) q u (by simpa using a) (by simpa using hu)⟩,rfl⟩
def nj:List (Int->Bool)->Λ->Bool
 |q::a,v::t=>q v&&nj a t
 |_,_=>true
theorem Em:∀(r:List (Λ))(a:List (Int->Bool)),a.length=r.length->iA ((r.zip a).map λp=>p.1.filter p.2)=(iA r).filter (nj a)
 |[],[],_=>rfl
 |d::r,q::a,h=>by
  have s:=Em r a (by simpa using h);simp only[List.zip_cons_cons,T1,iA];rw[s];clear s h;induction d with
  |nil=>rfl
  |cons v d w=>
   rw[W0,List.filter_append,<-w];have e:((iA r).map (v:: ·)).filter (nj (q::a))=if q v then((iA r).filter (nj a)).map (v:: ·)else[]:=by
    rw[List.filter_map];by_cases f:q v=true
    .rw[if_pos f];congr 1;apply List.filter_congr;intro t _;show(q v&&nj a t)=_;rw[f,U6]
    .rw[if_neg f];rw[List.filter_eq_nil_iff.2 λt _=>by show¬(q v&&nj a t)=true;simp[f]];rfl
   rw[e];by_cases f:q v=true
   .rw[if_pos f,List.filter_cons_of_pos f,W0]
   .rw[if_neg f,List.filter_cons_of_neg f];rfl
def hI(k:Int):Λ:=(X3 k.toNat).map λv:Nat=>(v:Int)
theorem xJ:∀(s:Λ),bj s=iA (s.map hI)
 |[]=>rfl
 |k::s=>by
  simp only[bj,T1,iA,hI,List.flatMap_map,<-xJ s]
theorem ut:v∈hI k↔0<=v/\v<k:=by
 unfold hI;rw[j5];constructor
 .rintro⟨n,a,rfl⟩;have:=T6.1 a;omega
 .intro h;exact⟨v.toNat,T6.2 Ω,Ω⟩
def dB(f:Int->Int)(L:List (Λ))(aj cs:Λ):Λ:=((bj aj).zip cs).map λp=>if p.1∈L then f p.2 else p.2
theorem oF(f:Int->Int)(L:List (Λ))(aj cs:Λ)(h:cs.length<=(bj aj).length):(dB f L aj cs).length=cs.length:=by
 unfold dB;rw[u9,List.length_zip];omega
theorem pX{f:Int->Int}{i:Nat}(a:(bj aj)[i]?=σ t)(e:cs[i]?=σ c):(dB f L aj cs)[i]?=σ (if t∈L then f c else c):=by
 unfold dB;have h:((bj aj).zip cs)[i]?=σ (t,c):=List.getElem?_zip_eq_some.2 ⟨a,e⟩;rw[x8,h];rfl
theorem Pw{f:Int->Int}{i:Nat}(U:dF aj)(q:cs.length<=(bj aj).length)(p:(bj aj)[i]?=σ t)(r:cs[i]?=σ c)(x:t∉L):(dB f L aj cs)[i]?=σ c/\(dB f L aj cs).set i (f c)=dB f (L++[t]) aj cs:=by
 have h1:=pX (f:=f) (L:=L) p r;rw[if_neg x]at h1;refine⟨h1,?_⟩;apply Y5;intro j;rw[X2];by_cases s:i=j
 .subst s;rw[if_pos rfl,if_pos (x4.1 h1).1,pX p r,if_pos Ξ]
 .rw[if_neg s];cases a:cs[j]? with
  |none=>
   have:=List.getElem?_eq_none_iff.1 a;rw[Z4 (by rw[oF _ _ _ _ q];exact this),Z4 (by rw[oF _ _ _ _ q];exact this)]
  |some A=>
   obtain⟨u,hu⟩:∃u,(bj aj)[j]?=σ u:=⟨_,x6 (by have:=(x4.1 a).1;omega)⟩;rw[pX hu a,pX hu a];have y:u≠t:=λhe=>by
    subst he;have z:=ju U p;have w:=ju U hu;rw[z]at w;have:=Z0 w;omega
   have:u∈L++[t]↔u∈L:=by simp[y]
   by_cases e:u∈L
   .rw[if_pos e,if_pos (this.2 e)]
   .rw[if_neg e,if_neg λh=>e (this.1 h)]
def kQ(s:au)(i v:Nat)(c:Int):au:=match s.vars[i]? with
 |some x=>{s with vars:=s.vars.set i {x with un:=x.un.set v c}}
 |none=>s
def kR(s:au)(j m:Nat)(c:Int):au:=match s.funs[j]? with
 |some f=>{s with funs:=s.funs.set j {f with cs:=f.cs.set m c}}
 |none=>s
theorem rC{i:Nat}(h:∀x∈l,0<=x/\x<=k)(a:0<=c/\c<=k):∀x∈l.set i c,0<=x/\x<=k:=λx J=>by
 rcases W5 J with J|rfl
 .exact h x J
 .exact a
def nk(w:x3)(ae gT:Nat)(A R:ak)(n:aJ)(s':au)(t:aC)(v:x1)(w':x3):Prop:=v=Δ 0/\ai (et w) w w'/\∃aT p x,Grow A w aT w'/\bu w' ae gT aT R n s' (t.set p x)
theorem nk.ext{V:x3}{A R:ak}{n:aJ}{s':au}{t:aC}{v:x1}(J:Ext w V)(h:nk V ae gT A R n s' t v w'):nk w ae gT A R n s' t v w':=by
 obtain⟨h1,a,aT,p,x,e,f⟩:=h;exact⟨h1,j7 J a,aT,p,x,(Grow.ext J).trans e,f⟩
section
variable{w:x3}{ae gT:Nat}{A R:ak}{n:aJ}{s:au}{t:aC}
theorem rD(h:bu w ae gT A R n s t)(f:y<0\/¬(0<=c/\c<=n.k)):am x7 z7 [Γ ae,Δ y,Δ c] w λv w'=>v=Δ (if y<0 then 1 else 3)/\Ext w w':=by
 refine az func269 ?_;rw[dc cI.u];simp only[Z5,a1];rw[aS,al];refine⟨λe=>⟨by rw[if_pos e],Ext.refl _⟩,λe=>?_⟩;refine(kb h).mono ?_;rintro _ V _ ⟨rfl,p⟩;refine(jU (a:=c) (k:=n.k)).mono ?_;rintro _ aa _ ⟨rfl,q⟩;have r:=f.resolve_left e;rw[decide_eq_false (λh=>r h.2),bE,V0,bT,if_neg e];exact⟨rfl,p.trans q⟩
theorem xK{s':au}{p:Nat}(h:bu w ae gT A R n s t)(f:Room t)(q:y=(p:Int))(r:p<s.cells.length)(x:s.cells.set p c=s'.cells)(U:ox s s')(z:bx n.k n.sizes s')(B:0<=c/\c<=n.k):
  am x7 z7 [Γ ae,Δ y,Δ c] w (nk w ae gT A R n s' t):=by
 refine az func269 ?_;rw[dc cI.u];simp only[Z5,a1];refine ct Ω ?_;refine(kb h).mono ?_;rintro _ V _ ⟨rfl,C⟩;refine(jU (a:=c) (k:=n.k)).mono ?_;rintro _ aa _ ⟨rfl,E⟩;have e:=C.trans E;rw[decide_eq_true (show cu c n.k from⟨h.2.2.2.1.eV,B⟩),bE,Y7,a1];obtain⟨K,M,N,O,aY,P,L,Q,G,S,W,X,Y,Z⟩:=(h.ext e).1.parts;rw[aQ cq.p 1 G rfl];refine(Ei (h.ext e) q r x U z f).mono ?_;rintro _ ab _ ⟨rfl,H,aT,I,J⟩;exact nk.ext e ⟨rfl,H,aT,_,_,I,J⟩
theorem Px(h:bu w ae gT A R n s t)(e:Room t):am x7 IP [Γ ae,Δ c] w λv w'=>(¬(0<=c/\c<=n.k)->v=Δ 3/\Ext w w')/\((0<=c/\c<=n.k)->nk w ae gT A R n {s with zero:=c} t v w'):=by
 refine az func222 ?_;by_cases a:0<=c/\c<=n.k
 .refine (xK (p:=0) h e rfl (by unfold au.cells iV;simp) (Og s c) (Dv s c) ⟨h.2.2.2.1.eV,h.2.2.2.1.eW,a,h.2.2.2.1.vars,h.2.2.2.1.var,h.2.2.2.1.funs⟩ a).mono ?_;rintro v V _ f;exact⟨λh=>absurd a h,λ_=>f⟩
 .refine (rD h (.inr a)).mono ?_;rintro v V _ ⟨rfl,q⟩;exact⟨λ_=>⟨rfl,q⟩,λh=>absurd h a⟩
theorem En{i:Int}(h:bu w ae gT A R n s t)(C:Room t):am x7 IN [Γ ae,Δ i,Δ v,Δ c] w λr w'=>
  (¬fh n i v->r=Δ 1/\Ext w w')/\(fh n i v->¬(0<=c/\c<=n.k)->r=Δ 3/\Ext w w')/\(fh n i v->(0<=c/\c<=n.k)->nk w ae gT A R n (kQ s i.toNat v.toNat c) t r w'):=by
 refine az func221 ?_;refine(xE h).mono ?_;rintro _ V _ ⟨rfl,e⟩;by_cases a:fh n i v
 .rw[if_pos a];by_cases q:0<=c/\c<=n.k
  .obtain⟨x,f,I,J,_⟩:=a.var h.2.2.2.1;have K:=h.2.2.2.1.vars;obtain⟨z,E⟩:∃z,n.sizes[i.toNat]?=σ z:=⟨_,x6 (by have:=a.1;have:=a.2.1;omega)⟩;obtain⟨_,G,hm⟩:=h.2.2.2.1.var i.toNat x z f E;have L:=uj f;have y:kQ s i.toNat v.toNat c={s with vars:=s.vars.set i.toNat {x with un:=x.un.set v.toNat c}}:=by unfold kQ;rw[f]
   refine(xK (p:=fg s i.toNat+(2+v.toNat)) (s':=kQ s i.toNat v.toNat c) (h.ext e) C Ω Ω ?_ ?_ ?_ q).mono ?_
   .rw[y];refine Dq f Ω ?_;rw[show 2+v.toNat=v.toNat+1+1 by omega];rfl
   .rw[y];exact Dw f Ξ
   .rw[y];exact h.2.2.2.1.uo f Ξ (rC G q) hm
   .rintro r aa _ H;exact⟨λh=>absurd a h,λ_ h=>absurd q h,λ_ _=>H.ext e⟩
  .refine (rD (h.ext e) (.inr q)).mono ?_;rintro r aa _ ⟨rfl,B⟩;rw[if_neg Ω];exact⟨λh=>absurd a h,λ_ _=>⟨rfl,e.trans B⟩,λ_ h=>absurd h q⟩
 .rw[if_neg a];refine(rD (h.ext e) (.inl Ω)).mono ?_;rintro r aa _ ⟨rfl,B⟩;rw[if_pos Ω];exact⟨λ_=>⟨rfl,e.trans B⟩,λh=>absurd h a,λh=>absurd h a⟩
theorem Py(h:bu w ae gT A R n s t)(B:Room t)(C:aH .i64 w aL tl):am x7 IM [Γ ae,Δ (j:Int),aL,Δ c] w λr w'=>
  (hh s j tl=ν->r=Δ 1/\Ext w w')/\((hh s j tl).isSome=true->¬(0<=c/\c<=n.k)->r=Δ 3/\Ext w w')/\
  ((hh s j tl).isSome=true->(0<=c/\c<=n.k)->∀f (m:Nat),s.funs[j]?=σ f->cJ f.aj tl 0=σ (m:Int)->nk w ae gT A R n (kR s j m c) t r w'):=by
 refine az func220 ?_;refine(Ef h C).mono ?_;rintro _ V _ ⟨rfl,a⟩;cases E:hh s j tl with
 |none=>
  simp only;refine(rD (h.ext a) (.inl Ω)).mono ?_;rintro r aa _ ⟨rfl,q⟩;rw[if_pos Ω];exact⟨λ_=>⟨rfl,a.trans q⟩,λh=>by simp at h,λh=>by simp at h⟩
 |some p=>
  simp only;by_cases e:0<=c/\c<=n.k
  .obtain⟨I,f,ag,J,m,hm,K,rfl⟩:=xF h.2.2.2.1 E;have L:=xB ag;have x:kR s j m c={s with funs:=s.funs.set j {f with cs:=f.cs.set m c}}:=by unfold kR;rw[ag]
   obtain⟨G,_⟩:=h.2.2.2.1.funs f (x5 ag);refine(xK (p:=eU s j+(m+1)) (s':=kR s j m c) (h.ext a) B rfl Ω ?_ ?_ ?_ e).mono ?_
   .rw[x];exact Oh ag Ω rfl
   .rw[x];exact Ot ag Ξ rfl rfl
   .rw[x];exact h.2.2.2.1.Eh ag rfl rfl Ξ (rC G.hY e)
   .rintro r aa _ H;refine⟨(λh=>by cases h),λ_ h=>absurd e h,λ_ _ M cg y z=>?_⟩;rw[ag]at y;cases y;rw[hm]at z;have:cg=m:=by have:=Z0 z;omega
    subst this;exact H.ext a
  .refine (rD (h.ext a) (.inr e)).mono ?_;rintro r aa _ ⟨rfl,q⟩;rw[if_neg Ω];exact⟨(λh=>by cases h),λ_ _=>⟨rfl,a.trans q⟩,λ_ h=>absurd h e⟩
end
def nl(of:Int->Int)(p:Int×Int)(v:Int):Int×Int:=if p.2= -1\/of v<p.1 then(of v,v)else p
def gi(k:Int)(l:Λ)(of:Int->Int):Int×Int:=l.foldl (nl of) (k,-1)
theorem kd{s:au}{n:aJ}{i:Int}{b m:Nat}{x:bJ}(h:ul s n i b m)(e:0<=i)(J:s.vars[i.toNat]?=σ x):(fs b m).map (λv:Nat=>(v:Int))=aF x:=by
 obtain⟨_,_,f⟩:=h;obtain⟨rfl,p⟩:=f x e J;unfold fs aF;rw[List.filter_map];congr 1;refine List.filter_congr λq a=>?_;have a:=T6.1 a;rw[p,decide_eq_true a,U6];rfl
section
variable{w:x3}{ae gT:Nat}{A R:ak}{n:aJ}{s:au}{t:aC}
theorem Eo{b:Int}(h:bu w ae gT A R n s t)(f:0<=a/\a<=n.k)(p:0<=b/\b<=n.k):am x7 H8 [Γ ae,Δ a,Δ b] w λv w'=>v=Δ (min (a+b) n.k)/\Ext w w':=by
 refine az func158 ?_;refine(kb h).mono ?_;rintro _ V _ ⟨rfl,q⟩;refine(wy (a:=a) (b:=b) (k:=n.k)).mono ?_;rintro _ aa _ ⟨rfl,r⟩;have hk:=h.2.2.2.1.eV;have e:oe a b n.k= .tuple #[Δ (min (a+b) n.k),Δ 0]:=by
  unfold oe;rw[if_pos (show cu a n.k/\cu b n.k from⟨⟨hk,f⟩,⟨hk,p⟩⟩)]
 rw[e,bq,br];exact⟨rfl,q.trans r⟩
def h4(n:aJ)(s:au)(i:Int):Bool:=decide (0<=i/\i<n.sizes.length)&& !kc s i.toNat
theorem Ep{i:Int}(h:bu w ae gT A R n s t):am x7 H0 [Γ ae,Δ i] w λv w'=>v=Δ (if h4 n s i=true then 0 else 1)/\Ext w w':=by
 refine az func149 ?_;rw[dc cI.u];simp only[Z5,a1];refine aV (λv V=>v= .bool (!h4 n s i)/\Ext w V) ?_ ?_
 .rintro _ V ⟨rfl,a⟩;rw[bZ];refine⟨λp=>⟨by rw[if_neg (by simpa using p)],a⟩,λp=>⟨by rw[if_pos (by simpa using p)],a⟩⟩
 intro aB q;refine(uk h).mono ?_;rintro _ V _ ⟨rfl,a⟩;rw[bZ];refine⟨λe=>q _ _ ⟨?_,a⟩,λe=>?_⟩
 .rw[U1]at e;unfold h4;rw[e.2,Y7,Bool.and_false];rfl
 refine(h3 (i:=i) (h.ext a)).mono ?_;rintro _ aa _ ⟨⟨b,m,rfl,H,B,C⟩,E⟩;refine(wk (b:=b) (n:=m)).mono ?_;rintro _ I _ ⟨rfl,G⟩;rw[be];refine q _ _ ⟨?_,(a.trans E).trans G⟩;congr 1;have J:=h.2.2.2.1.vars;unfold h4;by_cases f:0<=i/\i<n.sizes.length
 .obtain⟨x,r⟩:=aI (l:=s.vars) (i:=i.toNat) Ω;obtain⟨z,y⟩:=aI (l:=n.sizes) (i:=i.toNat) Ω;have h1:=(h.2.2.2.1.var i.toNat x z r y).1;have K:=h.2.2.2.1.eW.2.2 z (x5 y);have hm:=(C x f.1 r).1;rw[decide_eq_true f.1,U6]at e;rw[decide_eq_true f,e,decide_eq_false Ω];rfl
 .rw[decide_eq_false f,(B f).2];rfl
def pY(w:x3)(eu:Nat)(cap:Array x1)(l:Λ)(of:Int->Int):Prop:=∀(w':x3)(v:Int),Ext w w'->v∈l->am x7 eu (Δ v::cap.toList) w' λr a=>r=Δ (of v)/\Ext w' a
theorem xL{i:Int}{x:bJ}{of:Int->Int}{cap:Array x1}(h:bu w ae gT A R n s t)(L:Laid w)(aL:0<=i)(J:s.vars[i.toNat]?=σ x)(aM:pY w eu cap (aF x) of):
  am x7 H1 [Γ ae,Δ i,.func (.func eu) #[] cap] w λr w'=>Ext w w'/\r= .tuple #[Δ (gi n.k (aF x) of).1,Δ (gi n.k (aF x) of).2]:=by
 refine gV func150 ?_;refine bf λan V bc M C=>?_;have C:af V an o3 [.func (.func eu) #[] cap]:=C;refine(kb (h.ext M)).mono ?_;rintro _ aa _ ⟨rfl,E⟩;refine bo ao.i λN bd bg ap aq=>?_;refine bo ah.i λga bh bi O au=>?_;have bj:=(M.trans E).size;have z3:=ap.size;have z4:=O.size;refine bl (v:=Δ n.k) ao.i rfl rfl (aq.ext O) Φ λbk av bm aN=>?_;have bn:=aq.lt;have bp:=au.lt;refine bl (v:=Δ (-1)) ah.i rfl rfl (au.ab av Ω) Φ λaO ax bq aP=>?_;have aQ:=aN.ab ax Ω;have ay:Ext aa aO:=((ap.trans O).then av λr a he=>by have he:r=N:=he;omega).put ax Ω;have az:=(M.trans E).trans ay;refine(h3 (i:=i) (h.ext az)).mono ?_;rintro _ br _ ⟨⟨b,m,rfl,P⟩,aA⟩;refine(ll (b:=b) (n:=m)).mono ?_;rintro _ Q _ ⟨aR,aY,rfl,bt,U⟩;have bw:=P.1;have aC:=kd P aL J;have z:=aA.trans aR;have q:=az.trans z;have bx:=q.size;have bz:=z.size;have bA:=C.lt;have bB:=aA.size;have z12:=E.size;obtain⟨S,G⟩:∃S:ak,S=λr=>r=N\/r=ga:=⟨_,rfl⟩;have H:∀r,S r->w.heap.size<=r:=λr a=>by rw[G]at a;rcases a with rfl|rfl<;>omega
 have W:∀r,S r->r≠an/\r≠aY:=λr a=>by rw[G]at a;rcases a with rfl|rfl<;>omega
 let st:Nat->Int×Int:=λj=>((aF x).take j).foldl (nl of) (n.k,-1);have aT:=C.ext (E.trans (ay.trans z));refine jf.old ⟨_,false,ic,#[Γ aY],_,_,_,_,λj w'=>ai S Q w'/\af w' N ao [Δ (st j).1]/\af w' ga ah [Δ (st j).2],λ_ _ _=>False,rfl,(lk (g:=aY) P.1).s,?_,
  λ_ _ J h=>⟨h.1.ext J,h.2.ext J⟩,λ_ _ _ J h=>⟨h.1.trans (J.ab S),h.2.1.ext J,h.2.2.ext J⟩,λ_ _ _ _ _ h=>h,⟨U,L.ext q⟩,⟨ai.refl _ _,aQ.ext z,aP.ext z⟩,?_,?_,λ_ _ h=>h.elim,λ_ _ _ h=>h.elim⟩
 .rintro _ _ _ _ ⟨_,_,_,_,rfl⟩;rfl
 .rintro _ j _ aU ⟨_,_⟩ ⟨bC,rfl,v,ad,aW⟩ ⟨y,I,K⟩;cases aW;intro X f _ _;have aD:(aF x)[j]?=σ (v:Int):=by rw[<-aC,x8,ad];rfl
  have aE:st (j+1)=nl of (st j) v:=by
   show((aF x).take (j+1)).foldl _ _=_;rw[u7,aD,List.foldl_append];rfl
  have aX:Ext w X:=((q.then y λr a h=>by have:=H r h;omega)).trans f;have aZ:=(aT.ab y λh=>(W _ h).1 rfl).ext f;rw[aw (v:=.func (.func eu) #[] cap) Ψ (aZ.Qz rfl)];refine am.mono (aM X v aX (x5 aD)) ?_;rintro _ aG _ ⟨rfl,Y⟩;have Z:=f.trans Y;have ac:=I.ext Z;have ag:=K.ext Z;refine aV (λr aj=>r= .bool (decide ((st j).2= -1\/of v<(st j).1))/\Ext aG aj) ?_ ?_
  .rintro _ aj ⟨rfl,B⟩;have aH:=Z.trans B;rw[al];refine⟨λa1=>?_,λa2=>?_⟩
   .refine bl (v:=Δ (of v)) ao.i rfl rfl (ac.ext B) Ξ λbD aI bE a6=>?_;refine bl (v:=Δ (v:Int)) ah.i rfl rfl ((ag.ext B).ab aI Ω) Ξ λa7 aJ bF a8=>?_;have ba:=a6.ab aJ Ω;have p:ai S Q a7:=((y.trans (aH.ab S)).trans (aI.mono λr _ h=>by rw[G];exact .inl h)).trans (aJ.mono λr _ h=>by rw[G];exact .inr h);have e:st (j+1)=(of v,(v:Int)):=by rw[aE];unfold nl;rw[if_pos a1]
    refine⟨⟨U.ab p λh=>(W _ h).2 rfl,(L.ext (q.then p λr a h=>by have:=H r h;omega))⟩,⟨p,?_,?_⟩,λh=>by cases h⟩
    .rw[e];exact ba
    .rw[e];exact a8
   .have e:st (j+1)=st j:=by rw[aE];unfold nl;rw[if_neg a2]
    have p:ai S Q aj:=y.trans (aH.ab S);refine⟨⟨U.ab p λh=>(W _ h).2 rfl,(L.ext (q.then p λr a h=>by have:=H r h;omega))⟩,⟨p,?_,?_⟩,λh=>by cases h⟩
    .rw[e];exact ac.ext B
    .rw[e];exact ag.ext B
  .intro aB aK;rw[aw (v:=Δ (st j).2) Ψ (ag.Qz rfl),be,al];refine⟨λh1=>aK _ _ ⟨by rw[decide_eq_true (.inl h1)],Ext.refl _⟩,λh1=>?_⟩;rw[aw (v:=Δ (st j).1) Ψ (ac.Qz rfl),aS];refine aK _ _ ⟨?_,Ext.refl _⟩;congr 1;exact decide_eq_decide.2 ⟨.inr,λh=>h.resolve_left h1⟩
 .rintro k aU rfl ⟨y,I,K⟩;intro X f _ _;have bb:st (fs b m).length=gi n.k (aF x) of:=by
   show((aF x).take _).foldl _ _=_;rw[j6 (by rw[<-aC,u9];exact o4 _)];rfl
  rw[bb]at I K;rw[aw (v:=Δ (gi n.k (aF x) of).1) Ψ ((I.ext f).Qz rfl),aw (v:=Δ (gi n.k (aF x) of).2) Ψ ((K.ext f).Qz rfl)];intro aG Y _;exact⟨((q.then y λr a h=>by have:=H r h;omega).trans f).trans Y,rfl⟩
end
theorem Er{x:bJ}(h:v∈aF x):0<=v/\v<x.un.length:=by
 unfold aF at h;obtain⟨h,_⟩:=U5.1 h;obtain⟨q,a,rfl⟩:=j5.1 h;have:=T6.1 a;omega
theorem Es{s:au}{n:aJ}{i:Int}{b m:Nat}{x:bJ}(h:ul s n i b m)(e:0<=i)(J:s.vars[i.toNat]?=σ x):(decide (0<=v/\v<m)&&b.testBit v.toNat)=decide (v∈aF x):=by
 obtain⟨_,_,f⟩:=h;obtain⟨rfl,p⟩:=f x e J;by_cases ad:0<=v/\v<x.un.length
 .rw[decide_eq_true ad,U6,p,decide_eq_true (show v.toNat<x.un.length by omega),U6,show((v.toNat:Nat):Int)=v by omega];have:=Ej ad;cases a:dropped x.mask v with
  |false=>rw[decide_eq_true (this.2 a)];rfl
  |true=>rw[decide_eq_false λh=>by rw[this.1 h]at a;cases a];rfl
 .rw[decide_eq_false ad,decide_eq_false λh=>ad (Er h)];rfl
def eN(s:au)(j:Nat)(tl:Λ):Int:=if(hh s j tl).isSome then lG s j tl else 0
def hJ(n:aJ)(s:au)(i v:Int):Int:=if fh n i v then h2 s i.toNat v.toNat else 0
theorem Et{s:au}(a:bx k sizes s):0<=eN s j tl/\eN s j tl<=k:=by
 have hk:=a.eV;unfold eN;cases q:hh s j tl with
 |none=>simp;omega
 |some p=>
  obtain⟨r,f,ag,w,m,hm,h,rfl⟩:=xF a q;rw[S3,if_pos rfl];have e:lG s j tl=f.cs.getD m 0:=by
   unfold lG bm;rw[ag];simp only;rw[hm];rfl
  rw[e,u4,x6 h];exact(a.funs f (x5 ag)).1.hY _ (T2 h)
theorem uu{n:aJ}{s:au}{i:Int}(a:bx n.k n.sizes s):0<=hJ n s i v/\hJ n s i v<=n.k:=by
 have hk:=a.eV;have q:=a.vars;unfold hJ;split
 .rename_i h;obtain⟨x,e,f,_⟩:=h.var a;obtain⟨z,p⟩:∃z,n.sizes[i.toNat]?=σ z:=⟨_,x6 (by have:=(x4.1 e).1;omega)⟩;have:=(a.var i.toNat x z e p).2.1;unfold h2;rw[e];simp only;rw[u4,x6 f];exact this _ (T2 f)
 .omega
section
variable{w:x3}{ae gT:Nat}{A R:ak}{n:aJ}{s:au}{t:aC}
theorem Eu(h:bu w ae gT A R n s t)(f:aH .i64 w aL tl)(p:∀e w',Ext w w'->K (.tuple #[Δ (eN s j tl),Δ e]) w'):am x7 zD [Γ ae,Δ (j:Int),aL] w K:=by
 refine(um h f).mono ?_;rintro _ V _ ⟨rfl,a⟩;have:=p;unfold eN at this;split
 .rename_i U;rw[if_pos U]at this;exact this 0 V a
 .rename_i U;rw[if_neg U]at this;exact this 1 V a
theorem xM{i:Int}(h:bu w ae gT A R n s t)(f:∀e w',Ext w w'->K (.tuple #[Δ (hJ n s i v),Δ e]) w'):am x7 zC [Γ ae,Δ i,Δ v] w K:=by
 refine(oE h).mono ?_;rintro _ V _ ⟨rfl,a⟩;have:=f;unfold hJ at this;split
 .rename_i U;rw[if_pos U]at this;exact this 0 V a
 .rename_i U;rw[if_neg U]at this;exact this 1 V a
theorem Ev{i:Int}(h:bu w ae gT A R n s t):am x7 H2 [Γ ae,Δ i] w λr w'=>Ext w w'/\∃cap,r= .func (.func sC) #[] cap/\∀l,pY w' sC cap l (hJ n s i):=by
 refine az func151 ?_;refine bf λg1 V C y a=>?_;refine bf λz aa E q f=>?_;rw[ig];have x:=y.trans q;refine⟨x,_,rfl,λl w' v p _=>?_⟩;refine az func224 ?_;have a:af V g1 cI [Γ ae]:=a;have f:af aa z ah [Δ i]:=f;rw[aw (v:=Γ ae) Ψ (((a.ext q).ext p).Qz rfl),aw (v:=Δ i) Ψ ((f.ext p).Qz rfl)];refine xM (h.ext (x.trans p)) λe G B=>?_;rw[bq,br];exact⟨rfl,B⟩
theorem xN{i:Int}(f:bx n.k n.sizes s)(h:h4 n s i=true):0<=i/\∃x,s.vars[i.toNat]?=σ x/\x.gone=0:=by
 unfold h4 at h;rw[U1]at h;have h1:=of_decide_eq_true h.1;have p:=f.vars;obtain⟨x,e⟩:=aI (l:=s.vars) (i:=i.toNat) Ω;have a:=h.2;unfold kc at a;rw[e]at a;exact⟨h1.1,x,e,by simpa using a⟩
theorem Pz{i:Int}(h:bu w ae gT A R n s t)(q:Laid w):am x7 Hc [Γ ae,Δ i] w λr w'=>Ext w w'/\(h4 n s i=false->r= .tuple #[Δ 0,Δ (-1),Δ 1])/\
  ∀x,h4 n s i=true->s.vars[i.toNat]?=σ x->r= .tuple #[Δ (gi n.k (aF x) (hJ n s i)).1,Δ (gi n.k (aF x) (hJ n s i)).2,Δ 0]:=by
 refine az func71 ?_;refine(Ep h).mono ?_;rintro _ V _ ⟨rfl,a⟩;cases ad:h4 n s i with
 |false=>
  rw[if_neg Φ,bD,al];exact⟨λ_=>⟨a,λ_=>rfl,λ_ h=>by cases h⟩,λh=>absurd Φ h⟩
 |true=>
  obtain⟨y,x,f,_⟩:=xN h.2.2.2.1 ad;rw[if_pos rfl,bD,al];refine⟨λh=>absurd rfl h,λ_=>?_⟩;refine(Ev (i:=i) (h.ext a)).mono ?_;rintro _ aa _ ⟨z,cap,rfl,B⟩;have e:=a.trans z;refine(xL (h.ext e) (q.ext e) y f (B _)).mono ?_;rintro _ E _ ⟨C,rfl⟩;rw[bq,br];exact⟨e.trans C,(λh=>by cases h),λG _ p=>by rw[f]at p;cases p;rfl⟩
theorem kS{f:b7}(h:bu w ae gT A R n s t)(ag:s.funs[j]?=σ f):am x7 qu [Γ ae,Δ (j:Int)] w λr w'=>Ext w w'/\∃g,w.heap.size<=g/\av .i64 ah w' g r f.sc:=by
 have H:=(x4.1 ag).1;refine az func76 ?_;refine aV (λv V=>v= .bool false/\Ext w V) ?_ ?_
 .rintro _ V ⟨rfl,a⟩;rw[a1];obtain⟨I,J,K,M,aY,N,L,O,z,P,Q,S,q,e⟩:=(h.ext a).1.parts;obtain⟨y,x⟩:∃y,L[j]?=σ y:=⟨_,x6 (by rw[e.1];omega)⟩;obtain⟨B,_,_⟩:=e.2 j y f x ag;rw[aQ cq.p 3 z rfl,dj rfl fa.u dC.i q (by rw[e.1];omega),aU dC.p rfl,aw (v:=y.aK) Ψ (q.range x 0 _ rfl)];have U:f.sc.length<=6:=(h.2.2.2.1.funs f (x5 ag)).1.scope.2;refine(kB B.ls Ω).mono ?_;rintro v aa _ ⟨C,g,W,hm⟩;have:=a.size;exact⟨a.trans C,g,Ω,hm⟩
 intro aB E;rw[aS,al];refine⟨λX=>Ω,λ_=>?_⟩;refine(rB h).mono ?_;rintro _ Y _ ⟨rfl,G⟩;rw[cn];exact E _ _ ⟨by rw[decide_eq_false Ω],G⟩
structure jB(s:au)(j pos v:Int)(f:b7)(u:Int)(x:bJ):Prop where
 xO:0<=j
 ag:s.funs[j.toNat]?=σ f
 live:f.live≠0
 ec:0<=pos
 hu:f.sc[pos.toNat]?=σ u
 oD:0<=u
 J:s.vars[u.toNat]?=σ x
 ad:v∈aF x
theorem Ew{j:Int}(h:bu w ae gT A R n s t):am x7 H9 [Γ ae,Δ j,Δ pos,Δ v] w λr w'=>Ext w w'/\∃e:Int,r=Δ e/\(e=0\/e=1)/\(e=0↔ ∃f u x,jB s j pos v f u x):=by
 have ap:=h.2.2.2.1.vars;refine az func160 ?_;rw[dc cI.u];simp only[Z5,a1];have key:∀(K:x1->x3->Prop),(∀r w',Ext w w'->(∀f,0<=j->s.funs[j.toNat]?=σ f->aH .i64 w' r f.sc)->K r w')->am x7 qu [Γ ae,Δ j] w K:=λK M=>by
  by_cases N:0<=j/\j<s.funs.length
  .obtain⟨f,ag⟩:=aI (l:=s.funs) (i:=j.toNat) Ω;have:=kS h ag;rw[show((j.toNat:Nat):Int)=j by omega]at this;refine this.mono ?_;rintro r V _ ⟨p,g,_,hm⟩;exact M r V p λq _ O=>by rw[ag]at O;cases O;exact hm.ls
  .refine (El h N).mono ?_;rintro r V _ ⟨rfl,p⟩;exact M _ V p λf C ag=>absurd ⟨C,by have:=(x4.1 ag).1;omega⟩ N
 refine key _ λr V p af=>?_;refine aV (λai aa=>∃b,ai= .bool b/\(b=false↔ ∃f u x,jB s j pos v f u x)/\Ext w aa) ?_ ?_
 .rintro _ aa ⟨b,rfl,E,P⟩;rw[bZ];refine⟨λQ=>⟨P,1,rfl,.inr rfl,⟨(λh=>by cases h),λh=>by rw[E.2 h]at Q;cases Q⟩⟩,λag=>⟨P,0,rfl,.inl rfl,⟨λ_=>E.1 ag,λ_=>rfl⟩⟩⟩
 intro aB G;refine(pW (j:=j) (h.ext p)).mono ?_;rintro _ aq _ ⟨rfl,S⟩;have z:=p.trans S;rw[bE,bZ];refine⟨λH=>G _ _ ⟨true,rfl,⟨(λh=>by cases h),λ⟨f,u,x,a⟩=>?_⟩,z⟩,λI=>?_⟩
 .rw[decide_eq_true a.xO,U6]at H;unfold eM at H;rw[a.ag]at H;simp[a.live]at H
 have I:0<=j/\eM s j.toNat=true:=by simpa using I
 obtain⟨C,B⟩:=I;obtain⟨f,ag,aj⟩:∃f,s.funs[j.toNat]?=σ f/\f.live≠0:=by
  unfold eM at B;cases ag:s.funs[j.toNat]? with
  |none=>rw[ag]at B;cases B
  |some f=>rw[ag]at B;exact⟨f,rfl,by simpa using B⟩
 have U:=(af f C ag).ext S;have W:=(h.2.2.2.1.funs f (x5 ag)).1;have same:∀{q u x},jB s j pos v q u x->q=f:=λa=>by have:=a.ag;rw[ag]at this;cases this;rfl
 rw[aS,al];refine⟨λau=>G _ _ ⟨true,rfl,⟨(λh=>by cases h),λ⟨f,u,x,a⟩=>by have:=a.ec;omega⟩,z⟩,λav=>?_⟩;rw[aW an.u U,cn,al];refine⟨λaw=>G _ _ ⟨true,rfl,⟨(λh=>by cases h),λ⟨q,u,x,a⟩=>?_⟩,z⟩,λax=>?_⟩
 .obtain rfl:=same a;have:=(x4.1 a.hu).1;omega
 obtain⟨u,hu⟩:=aI (l:=f.sc) (i:=pos.toNat) Ω;have X:=x5 hu;have Y:=(W.scope.1 u X).1;have ay:=W.vars u X;obtain⟨x,L⟩:=aI (l:=s.vars) (i:=u.toNat) Ω;rw[fN (y:=pos) (i:=pos.toNat) Ω an.u ah.i Ψ U hu];refine(h3 (i:=u) (h.ext z)).mono ?_;rintro _ aA _ ⟨⟨b,m,rfl,Z⟩,ak⟩;refine(xA (v:=v) Z.1).mono ?_;rintro _ aC _ ⟨rfl,ao⟩;rw[Es Z Y L,bE];refine G _ _ ⟨_,rfl,⟨λE=>⟨f,u,x,C,ag,aj,Ω,hu,Y,L,by simpa using E⟩,λ⟨q,u',aD,a⟩=>?_⟩,(z.trans ak).trans ao⟩;obtain rfl:=same a;have ab:=a.hu;rw[hu]at ab;cases ab;have ac:=a.J;rw[L]at ac;cases ac;rw[decide_eq_true a.ad];rfl
end
def bw(s:au)(i:Int):Λ:=match s.vars[i.toNat]? with
 |some x=>aF x
 |none=>[]
def fy(s:au)(sc:Λ)(pos:Int):Nat->Nat->Λ->List (Λ)
 |0,_,tl=>[tl]
 |m+1,p,tl=>if(p:Int)=pos then fy s sc pos m (p+1) tl else(bw s (sc.getD p 0)).flatMap λv=>fy s sc pos m (p+1) (tl.set p v)
def pZ(p:Nat)(pos:Int)(a b:Λ):Prop:=a.length=b.length/\∀q:Nat,q<p\/(q:Int)=pos->a[q]?=b[q]?
theorem pZ.set{p:Nat}{a b:Λ}(h:pZ p pos a b)(f:(p:Int)≠pos)(v:Int):pZ (p+1) pos (a.set p v) (b.set p v):=by
 refine⟨by rw[b8,b8,h.1],λq r=>?_⟩;rw[X2,X2,h.1];by_cases e:p=q
 .rw[if_pos e,if_pos e]
 .rw[if_neg e,if_neg e];exact h.2 q Ω
theorem xP{s:au}{sc:Λ}{pos:Int}:∀(m p:Nat)(a b:Λ),a.length=p+m->pZ p pos a b->fy s sc pos m p a=fy s sc pos m p b
 |0,p,a,b,r,h=>by
  unfold fy;congr 1;refine Y5 λq=>?_;by_cases e:q<p
  .exact h.2 q (.inl e)
  .rw[Z4 Ω,Z4 (by have:=h.1;omega)]
 |m+1,p,a,b,r,h=>by
  unfold fy;split
  .rename_i f;refine xP m (p+1) a b Ω ⟨h.1,λq e=>h.2 q ?_⟩;omega
  .rename_i f;congr 1;funext v;exact xP m (p+1) _ _ (by rw[b8];omega) (h.set f v)
section
variable{ae gT:Nat}{A R:ak}{n:aJ}{s:au}{t:aC}
theorem PA{cap:Array x1}{M:ak}{I:List (Λ)->x3->Prop}(bA:bx n.k n.sizes s)(bB:∀u∈sc,0<=u/\u<n.sizes.length)(b4:sc.length<=6)(a1:∃c,aL= .slice (σ ⟨gt,0,ν⟩) sc.length c)(bC:M gt)(aG:∀d w,I d w->bu w ae gT A R n s t/\Laid w/\aH .i64 w aK sc/\∀r,M r->r<w.heap.size)(J:∀d w w',Ext w w'->I d w->I d w')(bD:∀d w w',ai (λr=>r=gt) w w'->I d w->I d w')(bE:∀d tl w,I d w->av .i64 ah w gt aL tl->tl.length=sc.length->am x7 eu cap.toList w λ_ w'=>I (d++[tl]) w'/\av .i64 ah w' gt aL tl/\ai M w w'):
  ∀(m p:Nat)(tl:Λ)(d:List (Λ))(w:x3),sc.length=p+m->tl.length=sc.length->I d w->av .i64 ah w gt aL tl->
   am x7 Ia [Γ ae,aK,aL,Δ (p:Int),Δ pos,.func (.func eu) #[] cap] w λ_ w'=>∃Y,pZ p pos Y tl/\I (d++fy s sc pos m p tl) w'/\av .i64 ah w' gt aL Y/\ai M w w':=by
 intro m;induction m with
 |zero=>
  intro p tl d w bF aJ Z hm;obtain⟨a2,a6,U,a7⟩:=aG d w Z;obtain⟨_,_,_,aM⟩:=cU U;obtain⟨c,a8⟩:=id a1;refine gV func161 ?_;refine bf λg1 V bG aA ag=>?_;refine bf λap aa bH aq f=>?_;refine bf λaB bI bJ P Q=>?_;refine bf λaN bK bL L y=>?_;refine bf λba bM bN E aj=>?_;refine bf λaP a bO z N=>?_;have B:=((((aA.trans aq).trans P).trans L).trans E).trans z;have f:af a ap an [aK]:=by rw[aM]at f ⊢;exact(((f.ext P).ext L).ext E).ext z
  have y:af a aN ah [Δ (p:Int)]:=(y.ext E).ext z;have N:af a aP z8 [.func (.func eu) #[] cap]:=N;rw[aw (v:=Δ (p:Int)) Ψ (y.Qz rfl),aw (v:=aK) Ψ (f.Qz rfl),aW an.u (U.ext B),be,al];refine⟨λ_=>?_,λh=>absurd Ω h⟩;rw[aw (v:=.func (.func eu) #[] cap) Ψ (N.Qz rfl)];refine am.mono (bE d tl a (J d w a B Z) (hm.ext B) aJ) ?_;rintro _ bb _ ⟨h1,C,S⟩;intro bc G _;exact⟨tl,⟨rfl,λ_ _=>rfl⟩,J _ _ _ G h1,C.ext G,((B.ab M).trans S).trans (G.ab M)⟩
 |succ m bd=>
  intro p tl d w bF aJ Z hm;obtain⟨a2,a6,U,a7⟩:=aG d w Z;obtain⟨_,_,_,aM⟩:=cU U;obtain⟨c,a8⟩:=id a1;refine gV func161 ?_;refine bf λg1 V bG aA ag=>?_;refine bf λap aa bH aq f=>?_;refine bf λaB bI bJ P Q=>?_;refine bf λaN bK bL L y=>?_;refine bf λba bM bN E aj=>?_;refine bf λaP a bO z N=>?_;have B:=((((aA.trans aq).trans P).trans L).trans E).trans z;have ag:af a g1 cI [Γ ae]:=((((ag.ext aq).ext P).ext L).ext E).ext z;have f:af a ap an [aK]:=by rw[aM]at f ⊢;exact(((f.ext P).ext L).ext E).ext z
  have Q:af a aB an [aL]:=by rw[a8]at Q ⊢;exact((Q.ext L).ext E).ext z
  have y:af a aN ah [Δ (p:Int)]:=(y.ext E).ext z;have aj:af a ba ah [Δ pos]:=aj.ext z;have N:af a aP z8 [.func (.func eu) #[] cap]:=N;have aC:∀{O:x3}{K:x1->Prop},af O ap an [aK]->K aK->ac x7 (u5 an (Γ ap)) O K:=λau aQ=>by rw[aw (v:=aK) Ψ (au.Qz rfl)];exact aQ
  have aR:∀{O:x3}{K:x1->Prop},af O aB an [aL]->K aL->ac x7 (u5 an (Γ aB)) O K:=λau aQ=>by rw[aw (v:=aL) Ψ (au.Qz rfl)];exact aQ
  rw[aw (v:=Δ (p:Int)) Ψ (y.Qz rfl)];refine aC f ?_;rw[aW an.u (U.ext B),be,al];refine⟨λh=>Ω,λ_=>?_⟩;rw[aw (v:=Δ (p:Int)) Ψ (y.Qz rfl),aw (v:=Δ pos) Ψ (aj.Qz rfl),be,al];refine⟨λhe=>?_,λbg=>?_⟩
  .rw[aw (v:=Γ ae) Ψ (ag.Qz rfl)];refine aC f (aR Q ?_);rw[aw (v:=Δ (p:Int)) Ψ (y.Qz rfl),aO,wrap_i64 Ω Ω,aw (v:=Δ pos) Ψ (aj.Qz rfl),aw (v:=.func (.func eu) #[] cap) Ψ (N.Qz rfl)];refine(bd (p+1) tl d a Ω aJ (J d w a B Z) (hm.ext B)).mono ?_;rintro _ bb _ ⟨Y,h1,C,S,ax⟩;intro bc G _;refine⟨Y,⟨h1.1,λq bi=>h1.2 q Ω⟩,?_,S.ext G,((B.ab M).trans ax).trans (G.ab M)⟩;have:fy s sc pos (m+1) p tl=fy s sc pos m (p+1) tl:=by rw[fy,if_pos he]
   rw[this];exact J _ _ _ G C
  intro bb ao _ _;have bj:=B.trans ao;obtain⟨u,hu⟩:=aI (l:=sc) (i:=p) Ω;obtain⟨bP,b5⟩:=bB u (x5 hu);have b6:=bA.vars;obtain⟨x,bk⟩:=aI (l:=s.vars) (i:=u.toNat) Ω;have bQ:bw s (sc.getD p 0)=aF x:=by unfold bw;rw[u4,hu,V1,bk]
  rw[aw (v:=Γ ae) Ψ ((ag.ext ao).Qz rfl)];refine aC (f.ext ao) ?_;rw[aw (v:=Δ (p:Int)) Ψ ((y.ext ao).Qz rfl),bh an.u ah.i Ψ (U.ext bj) hu];refine(h3 (i:=u) (a2.ext bj)).mono ?_;rintro _ bc _ ⟨⟨b,bR,rfl,bl⟩,G⟩;refine(ll (b:=b) (n:=bR)).mono ?_;rintro _ ay _ ⟨bS,aY,rfl,b7,bm⟩;have bn:=kd bl bP bk;have aS:=(ao.trans G).trans bS;have aD:=B.trans aS;have b9:=aA.size;have ca:=aq.size;have z3:=P.size;have z4:=L.size;have z5:=E.size;have cb:=z.size;have cc:=aS.size;have cd:=(ao.trans G).size;have out:∀{r:Nat},w.heap.size<=r->¬M r:=λh1 C=>by have:=a7 _ C;omega
  have bT:∀j v,(aF x)[j]?=σ v->((aF x).take (j+1)).flatMap (λv=>fy s sc pos m (p+1) (tl.set p v))=((aF x).take j).flatMap (λv=>fy s sc pos m (p+1) (tl.set p v))++fy s sc pos m (p+1) (tl.set p v):=λj v bo=>by
   rw[u7,bo,o8,S8,List.flatMap_singleton]
  have bU:fy s sc pos (m+1) p tl=(aF x).flatMap λv=>fy s sc pos m (p+1) (tl.set p v):=by rw[fy,if_neg bg,bQ]
  refine jf.old ⟨_,false,ic,#[Γ aY],_,_,_,_,λj w'=>∃H,pZ p pos H tl/\I (d++((aF x).take j).flatMap λv=>fy s sc pos m (p+1) (tl.set p v)) w'/\av .i64 ah w' gt aL H/\ai M ay w',λ_ _ _=>False,rfl,(lk (g:=aY) bl.1).s,?_,
   λ_ _ J h=>⟨h.1.ext J,h.2.ext J⟩,λ_ _ _ aT ⟨H,h1,C,S,ax⟩=>⟨H,h1,J _ _ _ aT C,S.ext aT,ax.trans (aT.ab M)⟩,λ_ _ _ _ _ h=>h,⟨bm,a6.ext aD⟩,⟨tl,⟨rfl,λ_ _=>rfl⟩,by simpa using J d w ay aD Z,hm.ext aD,ai.refl _ _⟩,?_,?_,λ_ _ h=>h.elim,λ_ _ _ h=>h.elim⟩
  .rintro _ _ _ _ ⟨_,_,_,_,rfl⟩;rfl
  .rintro _ j _ bV ⟨_,_⟩ ⟨bo,rfl,v,ad,bW⟩ ⟨H,az,aE,aU,aV⟩;cases bW;intro bp W _ _;have bX:(aF x)[j]?=σ (v:Int):=by rw[<-bn,x8,ad];rfl
   have aX:ai M ay bp:=aV.trans (W.ab M);have aZ:∀{O:x3}{g:Nat}{e:p8}{cs:List x1},ai M ay O->w.heap.size<=g->af a g e cs->af O g e cs:=λbY bZ au=>(au.ext aS).ab bY (out bZ);have bq:=aU.ext W;have b0:=az.1;refine aR (aZ aX Ω Q) ?_;rw[aw (v:=Δ (p:Int)) Ψ ((aZ aX Ω y).Qz rfl),hx rfl an.u ah.i bq Ω];refine hy ah.i bq Ω λbr bt ce b1=>?_;have X:ai M ay br:=aX.trans (bt.mono λr _ h=>by have h:r=gt:=h;rw[h];exact bC);have b2:=bD _ _ _ bt (J _ _ _ W aE);rw[aw (v:=Γ ae) Ψ ((aZ X Ω ag).Qz rfl)];refine aC (aZ X Ω f) (aR (aZ X Ω Q) ?_);rw[aw (v:=Δ (p:Int)) Ψ ((aZ X Ω y).Qz rfl),aO,wrap_i64 Ω Ω,aw (v:=Δ pos) Ψ ((aZ X Ω aj).Qz rfl),aw (v:=.func (.func eu) #[] cap) Ψ ((aZ X Ω N).Qz rfl)];refine(bd (p+1) (H.set p v) _ br Ω (by rw[b8];omega) b2 b1).mono ?_;rintro _ cg _ ⟨Y,h1,C,S,ax⟩;have bz:=X.trans ax;have hw:=xP (s:=s) (sc:=sc) m (p+1) (H.set p (v:Int)) (tl.set p (v:Int)) (by rw[b8];omega) (az.set bg v);rw[hw,Y6,<-bT j v bX]at C;refine⟨⟨bm.ab bz (out Ω),(aG _ _ C).2.1⟩,⟨Y,⟨by rw[h1.1,b8];exact b0,λq bi=>?_⟩,C,S,bz⟩,λh=>by cases h⟩;have b3:p≠q:=Ω
   rw[h1.2 q Ω,X2,if_neg b3];exact az.2 q bi
  .rintro k bV rfl ⟨H,az,aE,aU,aV⟩;intro bp W _;rw[j6 (by rw[<-bn,u9];exact o4 _),<-bU]at aE;exact⟨H,az,J _ _ _ W aE,aU.ext W,((aD.ab M).trans aV).trans (W.ab M)⟩
end
def jC(s:au)(pos:Nat)(v:Int):Λ->Nat->List (Λ)
 |[],_=>[]
 |u::sc,p=>(if p=pos then[v]else bw s u)::jC s pos v sc (p+1)
def cm(s:au)(sc:Λ)(pos:Nat)(v:Int):List (Λ):=iA (jC s pos v sc 0)
def oG(s:au)(pos:Nat)(v:Int):Λ->Nat->List (Int->Bool)
 |[],_=>[]
 |u::sc,p=>(λx=>(decide (p=pos->x=v))&&decide (x∈bw s u))::oG s pos v sc (p+1)
theorem PB(h:0<=v/\v<k):(hI k).filter (λx=>decide (x=v))=[v]:=by
 have f:(hI k).Nodup:=by
  unfold hI;exact List.Pairwise.map _ (λa b s=>Ω) List.nodup_range
 have hm:v∈hI k:=ut.2 h;generalize hI k=l at f hm;induction l with
 |nil=>cases hm
 |cons a l q=>
  have p:=List.nodup_cons.1 f;by_cases e:a=v
  .subst e;rw[List.filter_cons_of_pos Ξ,List.filter_eq_nil_iff.2 λx J=>by simp;intro r;exact p.1 (r▸J)]
  .rw[List.filter_cons_of_neg (by simpa using e)];exact q p.2 ((V4.1 hm).resolve_left (Ne.symm e))
section
variable{k:Int}{sizes:Λ}{s:au}{v:Int}{pos:Nat}
theorem PC{u:Int}(a:bx k sizes s)(h:0<=u/\u<sizes.length):(hI (sizes.getD u.toNat 0)).filter (λx=>decide (x∈bw s u))=bw s u:=by
 have w:=a.vars;obtain⟨x,J⟩:=aI (l:=s.vars) (i:=u.toNat) Ω;obtain⟨z,f⟩:=aI (l:=sizes) (i:=u.toNat) Ω;have h1:=(a.var _ x z J f).1;have e:bw s u=aF x:=by unfold bw;rw[J]
 have p:sizes.getD u.toNat 0=z:=by rw[u4,f];rfl
 have A:=a.eW.2.2 z (x5 f);have q:aF x=(hI z).filter λv=>!dropped x.mask v:=by unfold aF hI;rw[h1]
 rw[e,p,q];refine List.filter_congr λy r=>?_;simp[U5,r]
theorem Ex(w:bx k sizes s):∀(sc:Λ)(p:Nat),(∀u∈sc,0<=u/\u<sizes.length)->(∀u,p<=pos->sc[pos-p]?=σ u->v∈bw s u)->
  jC s pos v sc p=(((bW sizes sc).map hI).zip (oG s pos v sc p)).map λq=>q.1.filter q.2
 |[],p,_,_=>rfl
 |u::sc,p,hu,ad=>by
  have y:=Ex w sc (p+1) (λu h=>hu u (.tail _ h)) λu' a h=>ad u' Ω (by rw[show pos-p=(pos-(p+1))+1 by omega];exact h);have z:=hu u (.head _);have f:=PC (s:=s) w z;show(if p=pos then[v]else bw s u)::jC s pos v sc (p+1)=(hI (sizes.getD u.toNat 0)).filter (λx=>decide (p=pos->x=v)&&decide (x∈bw s u))::((((bW sizes sc).map hI).zip (oG s pos v sc (p+1))).map λq=>q.1.filter q.2);rw[<-y];congr 1;by_cases a:p=pos
  .rw[if_pos a];have r:v∈bw s u:=ad u Ω (by rw[a,U8];rfl);have A:v∈hI (sizes.getD u.toNat 0):=by rw[<-f]at r;exact(U5.1 r).1
   rw[<-PB (ut.1 A)];refine List.filter_congr λx _=>?_;by_cases e:x=v
   .subst e;simp[r]
   .simp[e,a]
  .rw[if_neg a,<-f];refine(List.filter_congr λx J=>?_).symm;rw[f];simp[a]
theorem Ey:∀(sc:Λ)(p:Nat),(oG s pos v sc p).length=sc.length
 |[],_=>rfl
 |u::sc,p=>by unfold oG;rw[j9,Ey sc (p+1),j9]
theorem xQ(a:bx k sizes s)(e:∀u∈sc,0<=u/\u<sizes.length)(ad:∀u,sc[pos]?=σ u->v∈bw s u):
  cm s sc pos v=(bj (bW sizes sc)).filter (nj (oG s pos v sc 0)):=by
 unfold cm;rw[Ex a sc 0 e λu _ h=>ad u h,Em _ _ (by rw[Ey,u9];unfold bW;rw[u9]),xJ]
end
theorem xR{k:Int}:∀(l:Λ)(z:Int),z<=k->(∀c∈l,0<=c)->l.foldl (λa c=>min (a+c) k) z=min (z+l.sum) k
 |[],z,h,_=>Θ
 |c::l,z,h,e=>by
  have U:∀(l:Λ),(∀c∈l,0<=c)->0<=l.sum:=λl=>by
   induction l with
   |nil=>intro _;simp
   |cons a l f=>intro h;have:=f λc e=>h c (.tail _ e);have:=h a (.head _);rw[List.sum_cons];omega
  have h1:=e c (.head _);have p:=U l λc h=>e c (.tail _ h);rw[List.foldl_cons,xR l _ Ω λc h=>e c (.tail _ h),List.sum_cons];omega
def dv(p:bJ×Int):Int:=if p.1.gone≠0 then 0 else p.1.un.getD p.2.toNat 0
def fi(a:Λ)(f:b7):Int:=if f.live≠0 then bm f.aj f.cs (rn a f.sc)else 0
theorem foldl_map'{α β e:Type}(g:α->β)(h:e->β->e)(h':e->α->e)(P:e->Prop)(aA:∀c a,P c->h' c a=h c (g a))(f:∀c a,P c->P (h' c a)):∀(l:List α)(c:e),P c->l.foldl h' c=(l.map g).foldl h c
 |[],_,_=>rfl
 |a::l,c,p=>by
  rw[List.foldl_cons,T1,List.foldl_cons,<-aA c a p];exact foldl_map' g h h' P aA f l _ (f c a p)
theorem xS{i:Nat}{x:Int}(h:l[i]?=σ x):(l.set i y).sum=l.sum-x+y:=by
 induction l generalizing i with
 |nil=>simp at h
 |cons a l e=>
  cases i with
  |zero=>simp at h;subst h;rw[List.set_cons_zero,List.sum_cons,List.sum_cons];omega
  |succ i=>
   rw[List.set_cons_succ,List.sum_cons,List.sum_cons,e (by simpa using h)];omega
def dL(k a c:Int):Int:=if a=k then k else a-c
def dM(k a c:Int):Int:=min (a+c) k
theorem uv{r g u:Int}(a:0<=r)(e:c<=g/\g<=k)(hu:0<=u/\u<=k)(f:0<=c):min (r+dL k g c+dM k u c) k=min (r+g+u) k:=by
 unfold dL dM;split<;>omega
theorem rE:∀(l:Λ),(∀c∈l,0<=c)->0<=l.sum
 |[],_=>Ξ
 |a::l,h=>by have:=rE l λc e=>h c (.tail _ e);have:=h a (.head _);rw[List.sum_cons];omega
theorem rF:∀{l:Λ}{i:Nat}{x:Int},(∀c∈l,0<=c)->l[i]?=σ x->x<=l.sum
 |[],_,_,_,h=>by simp at h
 |a::l,0,x,e,h=>by
  simp at h;subst h;have:=rE l λc h=>e c (.tail _ h);rw[List.sum_cons];omega
 |a::l,i+1,x,e,h=>by
  have:=rF (λc h=>e c (.tail _ h)) (show l[i]?=σ x by simpa using h);have:=e a (.head _);rw[List.sum_cons];omega
theorem Ez{i:Nat}(hk:0<=k)(h:∀c∈l,0<=c/\c<=k):0<=l.getD i 0/\l.getD i 0<=k:=by
 rw[u4];cases a:l[i]? with
 |none=>exact⟨Int.le_refl _,hk⟩
 |some c=>exact h c (x5 a)
theorem EA{f:Int->Int}{m:Int}(U:dF aj)(h:cs.length=(bj aj).length)(hi:cJ aj t 0=σ m):bm aj (dB f L aj cs) t=if t∈L then f (bm aj cs t)else bm aj cs t:=by
 have a:=mW U hi;have p:=(x4.1 a).1;obtain⟨c,e⟩:=aI (l:=cs) (i:=m.toNat) Ω;have h1:=pX (f:=f) (L:=L) a e;unfold bm;rw[hi];simp only;rw[u4,h1,u4,e,V1,V1]
section
variable{k:Int}{sizes a:Λ}{s:au}
theorem PD{i:Nat}{p:bJ×Int}(e:bx k sizes s)(h:(s.vars.zip a)[i]?=σ p):0<=dv p/\dv p<=k:=by
 have hk:=e.eV;obtain⟨h1,_⟩:=List.getElem?_zip_eq_some.1 h;have f:=(x4.1 h1).1;have q:=e.vars;have:=e.var i p.1 _ h1 (x6 Ω);unfold dv;split
 .omega
 .exact Ez Ω this.2.1
theorem PE{f:b7}(e:bx k sizes s)(h:f∈s.funs):0<=fi a f/\fi a f<=k:=by
 have hk:=e.eV;have:=(e.funs f h).1.hY;unfold fi;split
 .exact (tT e.eV λc p=>⟨e.eV,this c p⟩).2
 .omega
theorem uw(e:bx k sizes s):∀c∈(s.vars.zip a).map dv,0<=c:=λc f=>by
 obtain⟨p,h,rfl⟩:=j5.1 f;obtain⟨i,hi⟩:=X7.1 h;exact(PD e hi).1
theorem rG(e:bx k sizes s):∀c∈s.funs.map (fi a),0<=c:=λc f=>by
 obtain⟨p,h,rfl⟩:=j5.1 f;exact(PE e h).1
theorem oH(e:bx k sizes s):hc k s a=if(s.vars.zip a).all iv then min (s.zero+((s.vars.zip a).map dv).sum+(s.funs.map (fi a)).sum) k else k:=by
 have h1:(s.vars.zip a).foldl (rp k) s.zero=((s.vars.zip a).map dv).foldl (λx c=>min (x+c) k) s.zero:=by
  refine foldl_map' dv (λx c=>min (x+c) k) (rp k) (λc=>c<=k) (λc p f=>?_) (λc p f=>?_) _ _ e.zero.2
  .unfold rp dv;split
   .omega
   .rfl
  .unfold rp;split
   .exact f
   .omega
 have h:∀z,z<=k->s.funs.foldl (rq k a) z=(s.funs.map (fi a)).foldl (λx c=>min (x+c) k) z:=λz q=>by
  refine foldl_map' (fi a) (λx c=>min (x+c) k) (rq k a) (λc=>c<=k) (λc p f=>?_) (λc p f=>?_) _ _ q
  .unfold rq fi;split
   .rfl
   .omega
  .unfold rq;split
   .omega
   .exact f
 unfold hc;split
 .rw[h1,xR _ _ e.zero.2 (uw e),h _ Ω,xR _ _ Ω (rG e)];have:=rE _ (rG (a:=a) e);omega
 .rfl
theorem ux{α β:Type}:∀{l:List α}{m:List β}{i:Nat}{x:α}{y:β},m[i]?=σ y->(l.set i x).zip m=(l.zip m).set i (x,y)
 |[],_,_,_,_,_=>Ξ
 |_::_,[],_,_,_,h=>by simp at h
 |a::l,b::m,0,x,y,h=>by simp at h;subst h;rfl
 |a::l,b::m,i+1,x,y,h=>by
  rw[List.set_cons_succ,List.zip_cons_cons,List.zip_cons_cons,List.set_cons_succ,ux (by simpa using h)]
theorem uy{α:Type}{q:α->Bool}:∀{l:List α}{i:Nat}{x y:α},l[i]?=σ x->q y=q x->(l.set i y).all q=l.all q
 |[],_,_,_,h,_=>by simp at h
 |a::l,0,x,y,h,e=>by simp at h;subst h;rw[List.set_cons_zero,List.all_cons,List.all_cons,e]
 |a::l,i+1,x,y,h,e=>by rw[List.set_cons_succ,List.all_cons,List.all_cons,uy (by simpa using h) e]
def eB(s:au)(u:Nat)(x:bJ)(un:Λ):au:={s with vars:=s.vars.set u {x with un:=un}}
def dN(s:au)(j:Nat)(f:b7)(cs:Λ):au:={s with funs:=s.funs.set j {f with cs:=cs}}
theorem xT{u:Nat}{x:bJ}{un:Λ}(a:bx k sizes s)(J:s.vars[u]?=σ x)(e:un.length=x.un.length)(f:∀c∈un,0<=c/\c<=k):bx k sizes (eB s u x un):=by
 have h:=(x4.1 J).1;have p:=a.vars;have h1:=a.var u x _ J (x6 Ω);exact a.uo J e f h1.2.2
theorem EB{f:b7}(a:bx k sizes s)(ag:s.funs[j]?=σ f)(e:cs.length=f.cs.length)(h:∀c∈cs,0<=c/\c<=k):bx k sizes (dN s j f cs):=a.Eh ag rfl rfl e h
theorem PF{u:Nat}{x:bJ}{f:b7}{un:Λ}{bg:Int}(e:bx k sizes s)(J:s.vars[u]?=σ x)(ag:s.funs[j]?=σ f)(w:un.length=x.un.length)(y:∀c∈un,0<=c/\c<=k)(z:cs.length=f.cs.length)(A:∀c∈cs,0<=c/\c<=k)(q:a[u]?=σ bg)(h:(s.vars.zip a).all iv=true->∀r,0<=r->min (r+fi a {f with cs:=cs}+dv ({x with un:=un},bg)) k=min (r+fi a f+dv (x,bg)) k):hc k (eB (dN s j f cs) u x un) a=hc k s a:=by
 have B:=EB e ag z A;have C:bx k sizes (eB (dN s j f cs) u x un):=xT B J w y;rw[oH C,oH e];have p:(s.vars.zip a)[u]?=σ (x,bg):=List.getElem?_zip_eq_some.2 ⟨J,q⟩;have E:((eB (dN s j f cs) u x un).vars.zip a)=(s.vars.zip a).set u ({x with un:=un},bg):=ux q;have F:((s.vars.zip a).set u ({x with un:=un},bg)).all iv=(s.vars.zip a).all iv:=uy p rfl;rw[E,F];split
 .rename_i G;have H:(((s.vars.zip a).set u ({x with un:=un},bg)).map dv).sum=((s.vars.zip a).map dv).sum-dv (x,bg)+dv ({x with un:=un},bg):=by
   rw[U9];exact xS (by rw[x8,p];rfl)
  have I:((eB (dN s j f cs) u x un).funs.map (fi a)).sum=(s.funs.map (fi a)).sum-fi a f+fi a {f with cs:=cs}:=by
   show((s.funs.set j {f with cs:=cs}).map (fi a)).sum=_;rw[U9];exact xS (by rw[x8,ag];rfl)
  have h1:=rF (uw (a:=a) e) (i:=u) (x:=dv (x,bg)) (by rw[x8,p];rfl);have K:=rF (rG (a:=a) e) (i:=j) (x:=fi a f) (by rw[x8,ag];rfl);have L:=e.zero.1;have M:=h G (s.zero+(((s.vars.zip a).map dv).sum-dv (x,bg))+((s.funs.map (fi a)).sum-fi a f)) Ω;rw[H,I];show min (s.zero+_+_) k=_;omega
 .rfl
end
theorem xU{s:au}{pos:Nat}{v:Int}:∀(sc:Λ)(p q:Nat),(jC s pos v sc p)[q]?=(sc[q]?).map λu=>if p+q=pos then[v]else bw s u
 |[],_,q=>by simp[jC]
 |u::sc,p,0=>by simp[jC]
 |u::sc,p,q+1=>by
  unfold jC;rw[List.getElem?_cons_succ,List.getElem?_cons_succ,xU sc (p+1) q,show p+1+q=p+(q+1) by omega]
theorem EC{s:au}{pos:Nat}{v:Int}:∀(sc:Λ)(p:Nat),(jC s pos v sc p).length=sc.length
 |[],_=>rfl
 |u::sc,p=>by unfold jC;rw[j9,EC sc (p+1),j9]
theorem xV{s:au}{pos:Nat}:t∈cm s sc pos v↔t.length=sc.length/\∀(p:Nat)u w,sc[p]?=σ u->t[p]?=σ w->if p=pos then w=v else w∈bw s u:=by
 unfold cm;rw[ur,EC];refine and_congr_right λ_=>⟨λh p u w hu hw=>?_,λh p d w a hw=>?_⟩
 .have:w∈if 0+p=pos then[v]else bw s u:=h p _ w (by rw[xU,hu];rfl) hw;rw[X8]at this;split
  .rename_i e;rw[if_pos e]at this;exact l9.1 this
  .rename_i e;rw[if_neg e]at this;exact this
 .rw[xU]at a;cases hu:sc[p]? with
  |none=>rw[hu]at a;cases a
  |some u=>
   rw[hu]at a;have a:(if 0+p=pos then[v]else bw s u)=d:=Z0 a;subst a;have:=h p u w hu hw;rw[X8];split
   .rename_i e;rw[if_pos e]at this;exact l9.2 this
   .rename_i e;rw[if_neg e]at this;exact this
theorem i7{x:bJ}:v∈aF x↔(0<=v/\v<x.un.length)/\dropped x.mask v=false:=by
 unfold aF;rw[U5];refine and_congr ?_ Ξ;have:=ut (k:=(x.un.length:Int)) (v:=v);unfold hI at this;rw[r9]at this;exact this
theorem ED{f:Int->Int}(U:dF aj)(r:∀c∈cs,0<=c/\c<=k)(ag:∀t∈L,0<=f (bm aj cs t)/\f (bm aj cs t)<=k):∀c∈dB f L aj cs,0<=c/\c<=k:=λc a=>by
 unfold dB at a;obtain⟨p,s,rfl⟩:=j5.1 a;obtain⟨i,hi⟩:=X7.1 s;obtain⟨h1,h⟩:=List.getElem?_zip_eq_some.1 hi;split
 .rename_i w;have q:=ag p.1 w;have e:bm aj cs p.1=p.2:=by
   unfold bm;rw[ju U h1];simp only;rw[r9,u4,h];rfl
  rw[e]at q;exact q
 .exact r _ (x5 h)
section
variable{k:Int}{sizes a:Λ}{s:au}
def i9(s:au)(j:Nat)(f:b7)(pos u:Nat)(x:bJ)(v:Int)(tup un:Int->Int):au:=
 eB (dN s j f (dB tup (cm s f.sc pos v) f.aj f.cs)) u x (x.un.set v.toNat (un (x.un.getD v.toNat 0)))
theorem lH{f:b7}(e:bx k sizes s)(ag:f∈s.funs):dF f.aj/\f.cs.length=(bj f.aj).length:=by
 obtain⟨a,h,_⟩:=e.funs f ag;have p:dF f.aj:=by rw[h];exact m8 e.eW.2.2 λv ad=>⟨(a.scope.1 v ad).1,a.vars v ad⟩
 refine⟨p,?_⟩;have h1:=a.len;rw[iK p,h];exact h1
theorem EE{pos u:Nat}{f:b7}{x:bJ}{tup un:Int->Int}(a:bx k sizes s)(ag:s.funs[j]?=σ f)(J:s.vars[u]?=σ x)(e:∀t∈cm s f.sc pos v,0<=tup (bm f.aj f.cs t)/\tup (bm f.aj f.cs t)<=k)(h:0<=un (x.un.getD v.toNat 0)/\un (x.un.getD v.toNat 0)<=k):bx k sizes (i9 s j f pos u x v tup un):=by
 obtain⟨p,r⟩:=lH a (x5 ag);have q:=(a.funs f (x5 ag)).1;have w:=(x4.1 J).1;have y:=a.vars;have h1:=a.var u x _ J (x6 Ω);exact xT (EB a ag (oF _ _ _ _ Ω) (ED p q.hY e)) J (by rw[b8]) (rC h1.2.1 h)
theorem EF{pos u:Nat}{f:b7}{x:bJ}{tup un:Int->Int}(p:bx k sizes s)(P:lA s a)(ag:s.funs[j]?=σ f)(Q:f.live≠0)(hu:f.sc[pos]?=σ (u:Int))(J:s.vars[u]?=σ x)(ad:v∈aF x)(R:∀w∈f.sc,∀y,s.vars[w.toNat]?=σ y->y.gone=0)(X:∀t∈cm s f.sc pos v,0<=tup (bm f.aj f.cs t)/\tup (bm f.aj f.cs t)<=k)(Y:0<=un (x.un.getD v.toNat 0)/\un (x.un.getD v.toNat 0)<=k)(Z:∀t∈cm s f.sc pos v,∀r,0<=r->min (r+tup (bm f.aj f.cs t)+un (x.un.getD v.toNat 0)) k=min (r+bm f.aj f.cs t+x.un.getD v.toNat 0) k):
  hc k (i9 s j f pos u x v tup un) a=hc k s a:=by
 obtain⟨F,aa⟩:=lH p (x5 ag);obtain⟨G,S,_⟩:=p.funs f (x5 ag);have au:=(x4.1 J).1;have av:=p.vars;have h1:=p.var u x _ J (x6 Ω);have aw:=P.1;obtain⟨bg,T⟩:=aI (l:=a) (i:=u) Ω;refine PF p J ag (by rw[b8]) (rC h1.2.1 Y) (oF _ _ _ _ Ω) (ED F G.hY X) T λab r ac=>?_;have U:x.gone=0:=R u (x5 hu) x (by rw[r9];exact J);obtain⟨tl,B⟩:∃tl,tl=rn a f.sc:=⟨_,rfl⟩;have H:∀(q:Nat)w,f.sc[q]?=σ w->∃y,s.vars[w.toNat]?=σ y/\tl[q]?=σ (a.getD w.toNat 0)/\a.getD w.toNat 0∈aF y/\f.aj[q]?=σ (y.un.length:Int):=λq w hw=>by
  have hm:=x5 hw;have ax:=(G.scope.1 w hm).1;have ay:=G.vars w hm;obtain⟨y,h⟩:=aI (l:=s.vars) (i:=w.toNat) Ω;obtain⟨z,I⟩:=aI (l:=sizes) (i:=w.toNat) Ω;obtain⟨K,L⟩:=aI (l:=a) (i:=w.toNat) Ω;have ae:=R w hm y h;have az:=(p.var _ y z h I).1;have aA:=p.eW.2.2 z (x5 I);have e:a.getD w.toNat 0=K:=by rw[u4,L];rfl
  have V:=List.all_eq_true.1 ab (y,K) (x5 (List.getElem?_zip_eq_some.2 ⟨h,L⟩));have af:=(P.2 _ y K h L).resolve_left Ω;refine⟨y,h,by rw[B];unfold rn;rw[x8,hw];rfl,?_,?_⟩
  .rw[e,i7];refine⟨af,?_⟩;unfold iv at V;simpa[ae]using V
  .rw[S];unfold bW;rw[x8,hw,Z7,u4,I,V1];congr 1;omega
 have ah:tl.length=f.sc.length:=by rw[B];unfold rn;rw[u9]
 have aB:f.aj.length=f.sc.length:=by rw[S];unfold bW;rw[u9]
 obtain⟨m,hm⟩:∃m,cJ f.aj tl 0=σ m:=by
  have:tl∈bj f.aj:=by
   rw[xJ,ur];refine⟨by rw[u9];omega,λq d w W hw=>?_⟩;obtain⟨b,A⟩:=aI (l:=f.sc) (i:=q) (by have:=(x4.1 hw).1;omega);obtain⟨y,_,M,N,ai⟩:=H q b A;rw[x8,ai]at W;cases W;rw[M]at hw;cases hw;exact ut.2 (i7.1 N).1
  obtain⟨i,hi⟩:=X7.1 this;exact⟨_,ju F hi⟩
 have ak:fi a f=bm f.aj f.cs tl:=by unfold fi;rw[if_pos Q,B]
 have al:fi a {f with cs:=dB tup (cm s f.sc pos v) f.aj f.cs}=if tl∈cm s f.sc pos v then tup (bm f.aj f.cs tl)else bm f.aj f.cs tl:=by
  rw[<-EA F aa hm,B];unfold fi;rw[if_pos Q]
 have am:dv (x,bg)=x.un.getD bg.toNat 0:=by unfold dv;rw[if_neg (by simp[U])]
 have an:dv ({x with un:=x.un.set v.toNat (un (x.un.getD v.toNat 0))},bg)=(x.un.set v.toNat (un (x.un.getD v.toNat 0))).getD bg.toNat 0:=by unfold dv;rw[if_neg (by simp[U])]
 obtain⟨y,h,C,O,_⟩:=H pos _ hu;rw[r9]at h C O;rw[J]at h;cases h;have ao:a.getD u 0=bg:=by rw[u4,T];rfl
 rw[ao]at C O;have aC:=(i7.1 ad).1;have aD:=(i7.1 O).1;rw[ak,al,am,an];by_cases he:bg=v
 .subst he;have E:tl∈cm s f.sc pos bg:=xV.2 ⟨ah,λq w b hw A=>by
   obtain⟨aE,ap,M,N,_⟩:=H q w hw;split
   .rename_i aq;subst aq;rw[C]at A;exact(Z0 A).symm
   .rw[M]at A;cases A;unfold bw;rw[ap];exact N⟩
  rw[if_pos E,u4 (l:=x.un.set _ _),b9 Ω,V1];exact Z tl E r ac
 .have E:tl∉cm s f.sc pos v:=λhm=>by
   have:=(xV.1 hm).2 pos _ bg hu C;rw[if_pos rfl]at this;exact he this
  rw[if_neg E,u4 (l:=x.un.set _ _),Y4 Ω,<-u4]
end
def ed(g:Int->Int)(un L:Λ):Λ:=L.foldl (λun v=>un.set v.toNat (g (un.getD v.toNat 0))) un
theorem uz{g:Int->Int}:∀(L un:Λ),(ed g un L).length=un.length
 |[],_=>rfl
 |v::L,un=>by
  unfold ed;rw[List.foldl_cons];have:=uz (g:=g) L (un.set v.toNat (g (un.getD v.toNat 0)));unfold ed at this;rw[this,b8]
theorem uA{g:Int->Int}:∀(L un:Λ)(w:Int),L.Nodup->(∀v∈L,0<=v/\v<un.length)->0<=w->(ed g un L).getD w.toNat 0=if w∈L then g (un.getD w.toNat 0)else un.getD w.toNat 0
 |[],un,w,_,_,_=>by simp[ed]
 |v::L,un,w,p,a,hw=>by
  obtain⟨h1,q⟩:=List.nodup_cons.1 p;have ad:=a v (.head _);have r:=uA (g:=g) L (un.set v.toNat (g (un.getD v.toNat 0))) w q (λu hu=>by rw[b8];exact a u (.tail _ hu)) hw;have e:ed g un (v::L)=ed g (un.set v.toNat (g (un.getD v.toNat 0))) L:=rfl;rw[e,r];by_cases f:w=v
  .subst f;have U:(un.set w.toNat (g (un.getD w.toNat 0))).getD w.toNat 0=g (un.getD w.toNat 0):=by
    rw[u4 (l:=un.set _ _),b9 Ω];rfl
   rw[if_neg h1,if_pos (.head _),U]
  .have U:(un.set v.toNat (g (un.getD v.toNat 0))).getD w.toNat 0=un.getD w.toNat 0:=by
    rw[u4 (l:=un.set _ _),Y4 Ω,<-u4]
   rw[U];by_cases hm:w∈L
   .rw[if_pos hm,if_pos (.tail _ hm)]
   .rw[if_neg hm,if_neg λh=>(V4.1 h).elim f hm]
theorem rH(x:bJ):(aF x).Nodup:=by
 unfold aF;refine List.Nodup.sublist List.filter_sublist ?_;exact List.Pairwise.map _ (λa b e=>Ω) List.nodup_range
theorem EG{k:Int}{g:Int->Int}:∀(L un:Λ),(∀c∈un,0<=c/\c<=k)->L.Nodup->(∀v∈L,0<=v/\v<un.length)->(∀v∈L,0<=g (un.getD v.toNat 0)/\g (un.getD v.toNat 0)<=k)->∀c∈ed g un L,0<=c/\c<=k
 |[],un,h,_,_,_,c,a=>h c a
 |v::L,un,h,q,f,p,c,a=>by
  obtain⟨h1,r⟩:=List.nodup_cons.1 q;have ad:=f v (.head _);refine EG (g:=g) L (un.set v.toNat (g (un.getD v.toNat 0))) (rC h (p v (.head _))) r (λu hu=>by rw[b8];exact f u (.tail _ hu)) (λu hu=>?_) c a;have s:u≠v:=λe=>h1 (e▸hu);have w:=f u (.tail _ hu);rw[u4 (l:=un.set _ _),Y4 Ω,<-u4];exact p u (.tail _ hu)
section
variable{k:Int}{sizes a:Λ}{s:au}
def kT(s:au)(u:Nat)(x:bJ)(g z:Int->Int):au:={eB s u x (ed g x.un (aF x))with zero:=z s.zero}
theorem bx.PG(a:bx k sizes s)(h:0<=c/\c<=k):bx k sizes {s with zero:=c}:=⟨a.eV,a.eW,h,a.vars,a.var,a.funs⟩
theorem xW{u:Nat}{x:bJ}{g z:Int->Int}(a:bx k sizes s)(J:s.vars[u]?=σ x)(e:∀v∈aF x,0<=g (x.un.getD v.toNat 0)/\g (x.un.getD v.toNat 0)<=k)(f:0<=z s.zero/\z s.zero<=k):bx k sizes (kT s u x g z):=by
 have h:=(x4.1 J).1;have p:=a.vars;have h1:=a.var u x _ J (x6 Ω);exact(xT a J (uz _ _) (EG _ _ h1.2.1 (rH x) (λv ad=>(i7.1 ad).1) e)).PG f
theorem EH{u:Nat}{x:bJ}{g z:Int->Int}(e:bx k sizes s)(q:lA s a)(J:s.vars[u]?=σ x)(h:x.gone=0)(C:∀v∈aF x,0<=g (x.un.getD v.toNat 0)/\g (x.un.getD v.toNat 0)<=k)(E:0<=z s.zero/\z s.zero<=k)(F:∀v∈aF x,∀r,0<=r->min (r+g (x.un.getD v.toNat 0)+z s.zero) k=min (r+x.un.getD v.toNat 0+s.zero) k):hc k (kT s u x g z) a=hc k s a:=by
 have G:=xW e J C E;have O:=(x4.1 J).1;have P:=e.vars;have Q:=q.1;obtain⟨bg,p⟩:=aI (l:=a) (i:=u) Ω;rw[oH G,oH e];have f:(s.vars.zip a)[u]?=σ (x,bg):=List.getElem?_zip_eq_some.2 ⟨J,p⟩;obtain⟨un,w⟩:∃un,un=ed g x.un (aF x):=⟨_,rfl⟩;have H:((kT s u x g z).vars.zip a)=(s.vars.zip a).set u ({x with un:=un},bg):=by rw[w];exact ux p
 have I:((s.vars.zip a).set u ({x with un:=un},bg)).all iv=(s.vars.zip a).all iv:=uy f rfl;rw[H,I];split
 .rename_i K;have L:(((s.vars.zip a).set u ({x with un:=un},bg)).map dv).sum=((s.vars.zip a).map dv).sum-dv (x,bg)+dv ({x with un:=un},bg):=by
   rw[U9];exact xS (by rw[x8,f];rfl)
  have h1:=rF (uw (a:=a) e) (i:=u) (x:=dv (x,bg)) (by rw[x8,f];rfl);have R:=rE _ (rG (a:=a) e);have y:=List.all_eq_true.1 K (x,bg) (x5 f);have A:=(q.2 _ x bg J p).resolve_left Ω;have B:bg∈aF x:=by
   rw[i7];refine⟨A,?_⟩;unfold iv at y;simpa[h]using y
  have M:dv (x,bg)=x.un.getD bg.toNat 0:=by unfold dv;rw[if_neg (by simp[h])]
  have N:dv ({x with un:=un},bg)=g (x.un.getD bg.toNat 0):=by
   unfold dv;rw[if_neg (by simp[h])];show un.getD bg.toNat 0=_;rw[w,uA _ _ _ (rH x) (λv ad=>(i7.1 ad).1) A.1,if_pos B]
  rw[L,N];rw[M]at h1 ⊢;have S:=F bg B (((s.vars.zip a).map dv).sum-x.un.getD bg.toNat 0+(s.funs.map (fi a)).sum) Ω;show min (z s.zero+_+(s.funs.map (fi a)).sum) k=_;omega
 .rfl
theorem PH{m:Nat}{w:Int}(ad:0<=v)(hw:0<=w):dropped ((m ||| 2 ^ v.toNat:Nat):Int) w=(dropped (m:Int) w||decide (w=v)):=by
 unfold dropped;rw[r9,r9,Nat.testBit_or,Nat.testBit_two_pow];congr 1;exact decide_eq_decide.2 ⟨λh=>Ω,λh=>Ω⟩
theorem mp{i:Nat}{x:bJ}(J:s.vars[i]?=σ x):ej s i v.toNat={s with vars:=s.vars.set i {x with mask:=((x.mask.toNat ||| 2 ^ v.toNat:Nat):Int)}}:=by
 unfold ej;rw[J]
theorem xX{i:Nat}{x:bJ}(a:bx k sizes s)(J:s.vars[i]?=σ x)(ad:0<=v/\v<x.un.length):bx k sizes (ej s i v.toNat):=by
 rw[mp J];have h:=(x4.1 J).1;have p:=a.vars;have h1:=a.var i x _ J (x6 Ω);have q:=a.eW.2.2 _ (T2 (l:=sizes) (n:=i) Ω);refine a.uo J rfl h1.2.1 ⟨by simp only;omega,?_⟩;have e:x.mask.toNat<2 ^ 32:=by have:=h1.2.2;omega
 have f:2 ^ v.toNat<2 ^ 32:=Nat.pow_lt_pow_right Ω Ω;have:=Nat.or_lt_two_pow e f;simp only;omega
theorem EI{i:Nat}{bg:Int}{x:bJ}(f:bx k sizes s)(B:lA s a)(J:s.vars[i]?=σ x)(C:x.gone=0)(ad:0<=v/\v<x.un.length)(p:a[i]?=σ bg):hc k (ej s i v.toNat) a=if bg=v then k else hc k s a:=by
 have E:=xX f J ad;rw[oH E,oH f];have r:(s.vars.zip a)[i]?=σ (x,bg):=List.getElem?_zip_eq_some.2 ⟨J,p⟩;have F:=(B.2 _ x bg J p).resolve_left Ω;obtain⟨y,w⟩:∃y:bJ,y={x with mask:=((x.mask.toNat ||| 2 ^ v.toNat:Nat):Int)}:=⟨_,rfl⟩;have G:((ej s i v.toNat).vars.zip a)=(s.vars.zip a).set i (y,bg):=by rw[mp J,w];exact ux p
 have z:(ej s i v.toNat).zero=s.zero/\(ej s i v.toNat).funs=s.funs:=by rw[mp J];exact⟨rfl,rfl⟩
 have A:iv (y,bg)=(iv (x,bg)&&decide (bg≠v)):=by
  unfold iv;rw[w];simp only[C];rw[PH ad.1 F.1];have hm:((x.mask.toNat:Nat):Int)=x.mask:=by
   have N:=(x4.1 J).1;have O:=f.vars;have h1:=f.var i x _ J (x6 Ω);omega
  rw[hm];by_cases e:bg=v
  .simp[e]
  .simp[e]
 rw[G,z.1,z.2];by_cases e:bg=v
 .rw[if_pos e,if_neg];intro H;have:=List.all_eq_true.1 H (y,bg) (x5 (b9 (x4.1 r).1));rw[A]at this;simp[e]at this
 .have I:((s.vars.zip a).set i (y,bg)).all iv=(s.vars.zip a).all iv:=uy r (by rw[A];simp[e]);have K:((s.vars.zip a).set i (y,bg)).map dv=(s.vars.zip a).map dv:=by
   rw[U9];have L:dv (y,bg)=dv (x,bg):=by rw[w];rfl
   rw[L];refine Y5 λq=>?_;rw[X2];split
   .rename_i M;subst M;split
    .rw[x8,r];rfl
    .rename_i h;rw[Z4 Ω]
   .rfl
  rw[if_neg e,I,K]
theorem PI{i:Nat}{bg:Int}{x:bJ}(f:lA s a)(J:s.vars[i]?=σ x)(h:x.gone=0)(e:a[i]?=σ bg)(p:bg∉aF x):hc k s a=k:=by
 have q:=(f.2 _ x bg J e).resolve_left Ω;unfold hc;rw[if_neg];intro r;have:=List.all_eq_true.1 r (x,bg) (x5 (List.getElem?_zip_eq_some.2 ⟨J,e⟩));unfold iv at this;have w:dropped x.mask bg=false:=by simpa[h]using this
 exact p (i7.2 ⟨q,w⟩)
end
def nn(w:x3)(g:Nat)(k:Int)(sizes:Λ)(s:au):Prop:=∃szv a e f h p,af w g ba [Δ k,szv,Δ s.zero,a,e,f,h,p]/\aH .i64 w szv sizes/\Seen fo w [szv] sizes/\
 Seen fo w [a] (s.vars.map aF)/\Seen fo w [e] (s.vars.map λx=>decide (x.gone≠0))/\Seen fo w [f] (s.vars.map (·.un))/\Seen fo w [h] (s.funs.map ix)/\Seen fo w [p] (s.eg.map D7)
section
variable{w w':x3}{g:Nat}{v:x1}{k:Int}{sizes:Λ}{s:au}
theorem nn.ext(h:nn w g k sizes s)(J:Ext w w'):nn w' g k sizes s:=by
 obtain⟨szv,a,e,f,p,q,r,h1,x,y,z,A,B,C⟩:=h;exact⟨szv,a,e,f,p,q,r.ext J,h1.ext J,b0 x J,b0 y J,b0 z J,b0 A J,b0 B J,b0 C J⟩
theorem jA.box(h:jA w v k sizes s)(J:Ext w w')(f:af w' g ba v.cells.toList):nn w' g k sizes s:=by
 obtain⟨cs,rfl,szv,z,B,C,E,F,rfl,h1,p,q,r,x,y,_⟩:=h;obtain⟨_,_,_,G⟩:=cU (eG h1);have c:∀{α:Type}[aq α]{v:x1}{l:List α}{A:ak},aq.rep false A fo w [v] l->∃a n c,v= .slice a n c:=λh=>by
  obtain⟨_,_,_,_,_,⟨_,b,o,base,cap,e,_⟩,_⟩:=jo h;exact⟨_,_,_,e⟩
 obtain⟨_,_,_,H⟩:=c p;obtain⟨_,_,_,I⟩:=c q;obtain⟨_,_,_,K⟩:=c r;obtain⟨_,_,_,L⟩:=c x;obtain⟨_,_,_,M⟩:=c y;refine⟨szv,z,B,C,E,F,?_,(eG h1).ext J,b0 h1 J,b0 p J,b0 q J,b0 r J,b0 x J,b0 y J⟩;rw[G,H,I,K,L,M]at f ⊢;exact f
theorem nn.load{K:x1->Prop}(h:nn w g k sizes s)(a:∀u,jA w u k sizes s->K u):ac x7 (u5 ba (Γ g)) w K:=by
 obtain⟨szv,e,f,q,r,x,y,h1,z,A,B,C,E,F⟩:=h;rw[bK ba.p ba.i rfl y.range];exact a _ ⟨_,rfl,szv,e,f,q,r,x,rfl,z,A,B,C,E,F,λh=>by cases h⟩
theorem PJ{i:Int}(h:jA w v k sizes s):am x7 zx [v,Δ i] w λr w'=>r= .bool (decide (0<=i/\i<sizes.length))/\Ext w w':=by
 refine az func15 ?_;refine bf λg1 V y a e=>?_;obtain⟨szv,z,A,B,C,E,e,x,_⟩:=h.box a e;refine aV (λv aa=>v= .bool (decide (0<=i/\i<sizes.length))/\Ext w aa) (λ_ _ h=>h) λaB f=>?_;rw[cn,al];refine⟨λq=>?_,λq=>f _ _ ⟨by rw[decide_eq_false];omega,a⟩⟩;rw[aM ba.p 1 e rfl,aW an.u x,aS];refine f _ _ ⟨?_,a⟩;congr 1;exact decide_eq_decide.2 ⟨λh=>⟨q,h⟩,λh=>h.2⟩
theorem np{m:Bool}{S R:ak}{cs:List x1}{f:b7}(h:aq.rep (α:=jz) m S R w cs (ix f)):∃aK szv a6,cs=[aK,szv,a6,.bool (decide (f.live≠0))]/\Seen fo w [aK] f.sc/\Seen fo w [szv] f.aj/\Seen fo w [a6] f.cs:=by
 obtain⟨E,q,A,B,rfl,_,_,_,⟨r,F,aT,G,rfl,_,_,_,h1,s,x,H,y,rfl,_,_,_,a,e⟩,p⟩:=h;have one:∀{α:Type}[aq α]{m:Bool}{S R:ak}{c:List x1}{l:List α},aq.rep m S R w c l->∃v,c=[v]:=λh=>by obtain⟨v,ad,_⟩:=h;exact⟨v,ad⟩
 have h1:Seen _ w r f.sc:=h1;have a:Seen _ w s f.aj:=a;have p:q=[.bool (decide (f.live≠0))]:=p;have e:aq.rep m y R w x f.cs:=e;obtain⟨z,rfl⟩:=one h1;obtain⟨C,rfl⟩:=one a;obtain⟨v3,rfl⟩:=one e;subst p;exact⟨z,C,v3,rfl,jT h1,jT a,jT e⟩
theorem PK{j:Int}(h:jA w v k sizes s):am x7 Je [v,Δ j] w λr w'=>r= .bool (decide (0<=j)&&eM s j.toNat)/\Ext w w':=by
 refine az func266 ?_;refine bf λg1 V B a e=>?_;obtain⟨szv,C,E,G,H,I,e,J,_,_,_,_,y,_⟩:=h.box a e;refine aV (λv aa=>v= .bool (decide (0<=j)&&eM s j.toNat)/\Ext w aa) (λ_ _ h=>h) λaB q=>?_;rw[cn,al];refine⟨λx=>?_,λx=>q _ _ ⟨by rw[decide_eq_false x];rfl,a⟩⟩;rw[aM ba.p 6 e rfl,jq fI.u y,aS,al,u9];refine⟨λK=>?_,λL=>q _ _ ⟨by unfold eM;rw[Z4 Ω,Bool.and_false],a⟩⟩;obtain⟨f,ag⟩:=aI (l:=s.funs) (i:=j.toNat) Ω;rw[aM ba.p 6 e rfl];refine kz (i:=j.toNat) Ω fI.u eO.i y (by rw[x8,ag];rfl) λb o cs z A=>?_;obtain⟨M,N,v3,rfl,_⟩:=np A;rw[aU eO.p rfl,aw (v:=.bool (decide (f.live≠0))) Ψ (z 3 _ rfl)];exact q _ _ ⟨by unfold eM;rw[ag,decide_eq_true x,U6],a⟩
end
theorem xY{S T:Nat->Prop}(h:ai S w w')(k:ai T w w'):ai (λr=>S r/\T r) w w':=
 ⟨h.size,λr o a U f=>by
  by_cases e:S r
  .exact k.aZ r o a U λp=>f ⟨e,p⟩
  .exact h.aZ r o a U e⟩
theorem xZ{A R:ak}{n:aJ}{s:au}{t:aC}(h:bu w ae gT A R n s t):∀r,A r\/R r->r<w.heap.size:=λr a=>by
 obtain⟨p,q,x,y,⟨_,_,e,f⟩,_⟩:=h.1;exact a.elim (f r) (e r)
structure cj(w:x3)(ae gT ap:Nat)(A R:ak)(A9:Nat->ak)(aG:ak)(n:aJ)(s u:au)(t:aC)(h:List aC)(cs:List x1):Prop where
 e9:bu w ae gT A R n s t
 h0:hv t h
 box:af w ap ba cs
 doc:iy true A9 aG w cs n.k n.sizes u
 apart:∀q r,A9 q r->¬A r/\¬R r/\r≠ap
 read:∀r,aG r->¬et w r/\r<w.heap.size/\r≠ap
 out:¬A ap/\¬R ap
section
variable{w w':x3}{ae gT ap:Nat}{A R:ak}{A9:Nat->ak}{aG:ak}{n:aJ}{s u:au}{t:aC}{h:List aC}{cs:List x1}
theorem cj.ext(p:cj w ae gT ap A R A9 aG n s u t h cs)(J:Ext w w'):cj w' ae gT ap A R A9 aG n s u t h cs:=
 ⟨p.e9.ext J,p.h0,p.box.ext J,p.doc.ext J,p.apart,λr a=>⟨λh=>(p.read r a).1 (ne (λo e U _=>J.aZ r o e U) h),by have:=(p.read r a).2.1;have:=J.size;omega,(p.read r a).2.2⟩,p.out⟩
theorem cj.prog{aT R':ak}{s':au}{bp:aC}{h':List aC}(p:cj w ae gT ap A R A9 aG n s u t h cs)(y:ai (et w) w w')(f:Grow A w aT w')(E:bu w' ae gT aT R' n s' bp)(x:hv bp h')(C:∀r,R' r->R r\/B<=r)(F:∀q r,A9 q r->r<w.heap.size->r<B)(J:ap<B):
  cj w' ae gT ap aT R' (λq r=>A9 q r/\r<w.heap.size) aG n s' u bp h' cs:=by
 have K:=p.box.lt;have z:=y.size;refine⟨E,x,p.box.ab f.1 p.out.1,cd.ab p.doc.old (xY y f.1) λr e h x=>?_,λq r h=>⟨λa=>?_,λe=>(C r e).elim (p.apart q r h.1).2.1 λG=>by have:=F q r h.1 h.2;omega,(p.apart q r h.1).2.2⟩,λr e=>⟨λh=>?_,by have:=(p.read r e).2.1;omega,(p.read r e).2.2⟩,λa=>?_,λe=>(C ap e).elim p.out.2 λG=>Ω⟩
 .rcases h with⟨q,h⟩|h
  .exact (p.apart q r h.1).1 x.2
  .exact (p.read r h).1 x.1
 .rcases f.2.1 r a with a|a
  .exact (p.apart q r h.1).1 a
  .have:=h.2;omega
 .exact (p.read r e).1 (ne (λo H U I=>y.aZ r o H U I) h)
 .rcases f.2.1 ap a with a|a
  .exact p.out.1 a
  .omega
theorem cj.PL{S:ak}{cp:Nat->ak}{u':au}{b6:List x1}(p:cj w ae gT ap A R A9 aG n s u t h cs)(f:ai S w w')(B:∀r,r<w.heap.size->S r->(∃q,A9 q r)\/r=ap)(C:af w' ap ba b6)(E:iy true cp aG w' b6 n.k n.sizes u')(F:∀q r,cp q r->(∃x,A9 x r)\/(¬A r/\¬R r/\r≠ap)):
  cj w' ae gT ap A R cp aG n s u' t h b6:=by
 have J:=p.box.lt;have z:=f.size;have G:∀q r,A9 q r->¬aG r:=by obtain⟨_,_,_,_,_,_,_,_,_,_,_,_,_,H⟩:=p.doc;exact(H rfl).2
 refine⟨⟨p.e9.1.ab f λr e h U=>?_,p.e9.2⟩,p.h0,C,E,λq r h=>?_,λr e=>⟨λh=>(p.read r e).1 (ne (λo I U _=>f.aZ r o I U λa=>?_) h),by have:=(p.read r e).2.1;omega,(p.read r e).2.2⟩,p.out⟩
 .rcases B r e U with⟨q,a⟩|a
  .exact h.elim (p.apart q r a).1 (p.apart q r a).2.1
  .subst a;exact h.elim p.out.1 p.out.2
 .rcases F q r h with⟨x,a⟩|a
  .exact p.apart x r a
  .exact a
 .rcases B r (p.read r e).2.1 a with⟨q,y⟩|y
  .exact G q r y e
  .exact (p.read r e).2.2 y
theorem cj.PM{S:ak}{cp:Nat->ak}{u':au}{b6:List x1}(p:cj w ae gT ap A R A9 aG n s u t h cs)(e:∀r,A r\/R r->r<B)(F:ap<B)(f:ai S w w')(x:∀r,r<w.heap.size->S r->(∃q,A9 q r)\/r=ap)(y:af w' ap ba b6)(z:iy true cp aG w' b6 n.k n.sizes u')(C:∀q r,cp q r->(∃E,A9 E r)\/B<=r):
  cj w' ae gT ap A R cp aG n s u' t h b6:=
 p.PL f x y z λq r h=>(C q r h).imp id λG=>⟨λa=>by have:=e r (.inl a);omega,λa=>by have:=e r (.inr a);omega,Ω⟩
theorem cj.EJ{S:ak}{cp:Nat->ak}{u':au}{b6:List x1}(p:cj w ae gT ap A R A9 aG n s u t h cs)(a:ai S w w')(e:∀r,r<w.heap.size->S r->(∃q,A9 q r)\/r=ap)(f:af w' ap ba b6)(x:iy true cp aG w' b6 n.k n.sizes u')(y:∀q r,cp q r->(∃z,A9 z r)\/w.heap.size<=r):
  cj w' ae gT ap A R cp aG n s u' t h b6:=p.PM (xZ p.e9) p.box.lt a e f x y
theorem cj.look(p:cj w ae gT ap A R A9 aG n s u t h cs):nn w ap n.k n.sizes u:=by
 refine jA.box p.doc.D8 (Ext.refl _) ?_;have:=p.box;exact this
theorem cj.oI(p:cj w ae gT ap A R A9 aG n s u t h cs):∃szv a e f q r,cs=[Δ n.k,szv,Δ u.zero,a,e,f,q,r]/\aH .i64 w szv n.sizes:=by
 obtain⟨szv,a,e,f,q,r,h1,x,_⟩:=p.doc;exact⟨szv,a,e,f,q,r,h1,eG x⟩
end
end Go.Proofs.YtikkpokkcdocoabGreatDoor
namespace Go.Vc
open Go Go.RowKit
section
variable{P:W8}{w:x3}{α:Type}[aq α]{S R:ak}
theorem uB{v:x1}{l:List α}{i:Nat}{a:α}(h:bG S R w [v] l)(H:l[i]?=σ a)(Z:∀r,r<w.heap.size->S r->¬R r):∃g cap c F,v= .slice (σ ⟨g,0,ν⟩) l.length cap/\w.rangeAt g (i*aq.n α) c/\bG F R w c a/\(∀r,F r->S r)/\
  ∀{w':x3}{a':α}{T z:ak},ai T w w'->(∀r,r<w.heap.size->T r->F r)->bG z R w' c a'->(∀r,z r->F r\/w.heap.size<=r)->bG (λr=>S r\/w.heap.size<=r) R w' [v] (l.set i a'):=by
 have ao:=(x4.1 H).1;obtain⟨vs,g,F,s,he,U,hm⟩:=jo h;obtain⟨aa,I,K⟩:=hm rfl;obtain⟨ap,⟨rfl,au⟩|⟨cap,full,rfl,L,av,aw,ag,ax⟩⟩:=id K
 .omega
 have ac:vs.length=l.length:=he.1;have M:S g:=aa.resolve_left Ξ;obtain⟨c,B⟩:∃c,vs[i]?=σ c:=⟨_,x6 Ω⟩;have ad:=he.2 i c a B H;refine⟨g,cap,c,F i,rfl,?_,ad,λr p=>s.sub i r p,λ{w' a' T z}N O P C=>?_⟩
 .obtain⟨_,ay,o',az,aA,ae,_,_,af,_,ah⟩:=U;cases ae;cases af Ω;intro j u aj;have Q:=ah (i*aq.n α+j) u (by rw[<-List.flatMap_id];exact pE (f:=id) (k:=aq.n α) (λx J=>he.len x J) B aj);rw[X8]at Q;exact Q
 have al:¬T g:=λh=>s.top rfl i (O g L.lt h);have aB:=aq.len P;have aC:vs.set i c=vs:=by
  refine Y5 λq=>?_;rw[X2];by_cases V:i=q
  .subst V;rw[if_pos rfl,if_pos Ω,B]
  .rw[if_neg V]
 have W:bX w' g I (aq.n α) (.slice (σ ⟨g,0,ν⟩) l.length cap) (l.set i a').length vs.flatten:=by
  rw[b8];exact K.ab N λ_=>al
 refine⟨_,rfl,vs,g,λj r=>if j=i then z r else F j r/\r<w.heap.size,⟨λj r p=>?_,λ_ j p=>?_,λ_ j q r am h1 y=>?_⟩,⟨by simp[ac],λj X Y G E=>?_⟩,?_,λ_=>⟨.inr (.inl M),I,W⟩⟩
 .split at p
  .exact (C r p).imp (s.sub i r) id
  .exact .inl (s.sub j r p.1)
 .split at p
  .rcases C g p with h|h
   .exact s.top rfl i h
   .have:=L.lt;omega
  .exact s.top rfl j p.1
 .split at h1<;>split at y
  .omega
  .rcases C r h1 with h|h
   .rename_i e _;exact s.gI rfl i q r Ω h y.1
   .have:=y.2;omega
  .rcases C r y with h|h
   .exact s.gI rfl j i r Ω h1.1 h
   .have:=h1.2;omega
  .exact s.gI rfl j q r am h1.1 y.1
 .by_cases A:j=i
  .subst A;rw[B]at G;rw[b9 Ω]at E;cases G;cases E;exact aq.mono P (λr _ h=>by simpa using h) λ_ _ h=>h
  .rw[Y4 (Ne.symm A)]at E;have an:bG (λr=>if j=i then z r else F j r/\r<w.heap.size) R w X Y:=aq.mono (he.2 j X Y G E) (λr p h=>by rw[if_neg A];exact⟨h,p⟩) λ_ _ h=>h;refine aq.ab an N λr p h1 y=>?_;have y:=O r p y;rcases h1 with h1|h1
   .simp only[if_neg A]at h1;exact s.gI rfl j i r A h1.1 y
   .exact Z r p (s.sub i r y) h1
 .have:=ph (S:=λr=>(S r\/w.heap.size<=r)\/R r) W (.inr (.inl (.inl M)));exact this
theorem EK{v:x1}{l:List α}{i:Nat}{a:α}(h:bG S R w [v] l)(N:l[i]?=σ a)(O:∀r,r<w.heap.size->S r->¬R r):∃g cap full z c F,v= .slice (σ ⟨g,0,ν⟩) l.length cap/\af w g z full/\S g/\i*aq.n α+aq.n α<=full.length/\(∀(q:Nat)x,c[q]?=σ x->full[i*aq.n α+q]?=σ x)/\bG F R w c a/\(∀r,F r->S r)/\¬F g/\
  ∀{w':x3}{a':α}{A:List x1}{T C:ak},ai T w w'->(∀r,r<w.heap.size->T r->F r\/r=g)->af w' g z (over full (i*aq.n α) A)->bG C R w' A a'->(∀r,C r->F r\/w.heap.size<=r)->bG (λr=>S r\/w.heap.size<=r) R w' [v] (l.set i a'):=by
 have ad:=(x4.1 N).1;obtain⟨vs,g,F,y,he,U,hm⟩:=jo h;obtain⟨ae,z,ah⟩:=hm rfl;obtain⟨ay,⟨rfl,az⟩|⟨cap,full,rfl,P,Q,aj,ag,V⟩⟩:=id ah
 .omega
 have W:vs.length=l.length:=he.1;have G:S g:=ae.resolve_left Ξ;obtain⟨c,K⟩:∃c,vs[i]?=σ c:=⟨_,x6 Ω⟩;have al:=he.2 i c a K N;have am:(i+1)*aq.n α<=l.length*aq.n α:=X1 _ ad;have an:l.length*aq.n α<=full.length:=by rw[ag];exact X1 _ Q
 rw[U4,Nat.one_mul]at am;refine⟨g,cap,full,z,c,F i,rfl,P,G,Ω,λq x X=>?_,al,λr s=>y.sub i r s,y.top rfl i,λ{w' a' A T C}ao ap au Y H=>?_⟩
 .have L:=pE (f:=id) (k:=aq.n α) (λx J=>he.len x J) K X;rw[List.flatMap_id,<-V]at L;have aA:=(x4.1 X).1;have M:=he.len c (x5 K);rw[Z9 Ω]at L;exact L
 have M:=aq.len Y;have av:∀c∈vs.set i A,c.length=aq.n α:=λc B=>by
  rcases W5 B with p|rfl
  .exact he.len c p
  .exact M
 have Z:bX w' g z (aq.n α) (.slice (σ ⟨g,0,ν⟩) l.length cap) (l.set i a').length (vs.set i A).flatten:=by
  refine⟨by rw[ky av,b8,b8,W],.inr ⟨cap,_,by rw[b8],au,by rw[b8];exact Q,aj,by rw[ld,ag],?_⟩⟩;rw[b8,tt Ω an,V,D5 he.len M Ω]
 refine⟨_,rfl,vs.set i A,g,λj r=>if j=i then C r else F j r/\r<w.heap.size,⟨λj r s=>?_,λ_ j s=>?_,λ_ j q r aw h1 p=>?_⟩,⟨by simp[W],λj aa ac B I=>?_⟩,?_,λ_=>⟨.inr (.inl G),z,Z⟩⟩
 .split at s
  .exact (H r s).imp (y.sub i r) id
  .exact .inl (y.sub j r s.1)
 .split at s
  .rcases H g s with h|h
   .exact y.top rfl i h
   .have:=P.lt;omega
  .exact y.top rfl j s.1
 .split at h1<;>split at p
  .omega
  .rcases H r h1 with h|h
   .rename_i e _;exact y.gI rfl i q r Ω h p.1
   .have:=p.2;omega
  .rcases H r p with h|h
   .exact y.gI rfl j i r Ω h1.1 h
   .have:=h1.2;omega
  .exact y.gI rfl j q r aw h1.1 p.1
 .by_cases E:j=i
  .subst E;rw[b9 Ω]at B;rw[b9 Ω]at I;cases B;cases I;exact aq.mono Y (λr _ h=>by simpa using h) λ_ _ h=>h
  .rw[Y4 (Ne.symm E)]at B I;have ax:bG (λr=>if j=i then C r else F j r/\r<w.heap.size) R w aa ac:=aq.mono (he.2 j aa ac B I) (λr s h=>by rw[if_neg E];exact⟨h,s⟩) λ_ _ h=>h;refine aq.ab ax ao λr s h1 p=>?_;have p:=ap r s p;rcases h1 with h1|h1
   .simp only[if_neg E]at h1;rcases p with p|rfl
    .exact y.gI rfl j i r E h1.1 p
    .exact y.top rfl j h1.1
   .rcases p with p|rfl
    .exact O r s (y.sub i r p) h1
    .exact O r s G h1
 .have:=ph (S:=λr=>(S r\/w.heap.size<=r)\/R r) Z (.inr (.inl (.inl G)));exact this
end
end Go.Vc
namespace Go.Proofs.YtikkpokkcdocoabGreatDoor
open Go Go.Vc Go.RowKit Go.Proofs Go.Proofs.Tryz
set_option maxRecDepth 100000
section
variable{w0 w:x3}{ae gT ap ga:Nat}{A R:ak}{A9 cp:Nat->ak}{aG:ak}{n:aJ}{s u:au}{t:aC}{h:List aC}{cs b6:List x1}{aL aK lI:x1}{Q:x1->x3->Prop}
theorem cj.olds(p:cj w0 ae gT ap A R A9 aG n s u t h cs):cj w0 ae gT ap A R (λq r=>A9 q r/\r<w0.heap.size) aG n s u t h cs:=
 ⟨p.e9,p.h0,p.box,p.doc.old,λq r a=>p.apart q r a.1,p.read,p.out⟩
end
theorem p0{α β:Type}{l:List α}{i:Nat}{a b:α}{f:α->β}(h:l[i]?=σ a)(ag:f b=f a):(l.set i b).map f=l.map f:=by
 rw[U9,ag];refine Y5 λq=>?_;rw[X2];by_cases e:i=q
 .subst e;rw[if_pos rfl,x8,h,if_pos (by rw[u9];exact(x4.1 h).1)];rfl
 .rw[if_neg e]
theorem x0{T:Nat->Prop}(h:ai T w w'):ai (λr=>T r/\r<w.heap.size) w w':=⟨h.size,λr o a U e=>h.aZ r o a U λf=>e ⟨f,(j4.1 a).1⟩⟩
section
variable{w0 w w':x3}{ae gT ap ga:Nat}{A R:ak}{A9:Nat->ak}{aG:ak}{n:aJ}{s u u':au}{t:aC}{h:List aC}{cs:List x1}{aL aK lI v:x1}{Q:x1->x3->Prop}
theorem cd.qO{m:Bool}{zero:Int}{D:List (Λ)}{G:List Bool}{aX:List (Λ)}{H:List jz}{E:List oC}{i:Nat}(ad:cs[i]?=σ v)(h:cd m A9 aG w (cs.set i v) k sizes zero D G aX H E):cd m A9 aG w cs k sizes zero D G aX H E:=by
 have:cs.set i v=cs:=by
  refine Y5 λq=>?_;rw[X2];by_cases a:i=q
  .subst a;have:=(x4.1 ad).1;rw[if_pos rfl,if_pos this,ad]
  .rw[if_neg a]
 rw[this]at h;exact h
theorem cj.row{T:ak}{cp:Nat->ak}{q:Nat}(p:cj w ae gT ap A R A9 aG n s u t h cs)(a:ai T w w')(e:∀r,r<w.heap.size->T r->A9 q r)(f:iy true cp aG w' cs n.k n.sizes u')(x:∀q r,cp q r->(∃y,A9 y r)\/w.heap.size<=r):
  cj w' ae gT ap A R cp aG n s u' t h cs:=
 p.EJ a (λr z h=>.inl ⟨q,e r z h⟩) (p.box.ab a λh=>(p.apart q ap (e ap p.box.lt h)).2.2 rfl) f x
theorem x2{q:Nat}{B:ak}(a:∀r,B r->A9 q r\/w.heap.size<=r):∀j r,iz A9 q B j r->(∃e,A9 e r)\/w.heap.size<=r:=λj r h=>by
 unfold iz at h;split at h
 .exact (a r h).imp (λh=>⟨q,h⟩) id
 .exact .inl ⟨j,h⟩
end
def kU(n:aJ)(s:au)(j:Nat)(pos v o u:Int):Int:=min (eN s j (if pos=1 then[u,v]else[v,u])+hJ n s o u) n.k
section
variable{w:x3}{ae gT:Nat}{A R:ak}{n:aJ}{s:au}{t:aC}
theorem PN{o:Int}{g1 E G H I:Nat}(h:bu w ae gT A R n s t)(h1:af w g1 ah [Δ v])(L:af w E ah [Δ pos])(q:af w G cI [Γ ae])(M:af w H ah [Δ (j:Int)])(N:af w I ah [Δ o])(l:Λ):
  pY w IS #[Γ g1,Γ E,Γ G,Γ H,Γ I] l (kU n s j pos v o):=λw' u f _=>by
 have h:=h.ext f;refine az func226 ?_;rw[aw (v:=Δ v) Ψ ((h1.ext f).Qz rfl)];refine pn (l:=[v,u]) an.u ah.i Ξ rfl Ψ λW ga V X x O=>?_;have J:=f.trans x;refine aV (λr aa=>Ext w' aa/\aH .i64 aa r (if pos=1 then[u,v]else[v,u])) ?_ ?_
 .rintro aL aa ⟨a,P⟩;have y:=f.trans a;rw[aw (v:=Γ ae) Ψ ((q.ext y).Qz rfl),aw (v:=Δ (j:Int)) Ψ ((M.ext y).Qz rfl)];refine Eu (h.ext a) P λe Y p=>?_;have z:=y.trans p;rw[bq,br,aw (v:=Γ ae) Ψ ((q.ext z).Qz rfl),aw (v:=Δ o) Ψ ((N.ext z).Qz rfl)];refine xM (h.ext (a.trans p)) λZ ab B=>?_;have Q:=z.trans B;rw[bq,br,aw (v:=Γ ae) Ψ ((q.ext Q).Qz rfl)];refine(Eo (h.ext ((a.trans p).trans B)) (Et h.2.2.2.1) (uu h.2.2.2.1)).mono ?_;rintro _ ac _ ⟨rfl,S⟩;exact⟨rfl,((a.trans p).trans B).trans S⟩
 intro aB K;rw[aw (v:=Δ pos) Ψ ((L.ext J).Qz rfl),be,al];refine⟨λC=>?_,λC=>K _ _ ⟨x,by rw[if_neg C];exact O.ls⟩⟩;rw[aw (v:=Δ v) Ψ ((h1.ext J).Qz rfl)];refine pn (l:=[u,v]) an.u ah.i Ξ rfl Ψ λad ag aa ai a U=>?_;exact K _ _ ⟨x.trans a,by rw[if_pos C];exact U.ls⟩
theorem EL{o:Int}{f:b7}{x:bJ}(h:bu w ae gT A R n s t)(ac:Laid w)(ag:s.funs[j]?=σ f)(aH:0<=pos/\pos<=1)(aI:f.sc.length=2)(N:f.sc[(1-pos).toNat]?=σ o)(J:s.vars[o.toNat]?=σ x):
  am x7 H7 [Γ ae,Δ (j:Int),Δ pos,Δ v] w λr w'=>Ext w w'/\r= .tuple #[Δ (gi n.k (aF x) (kU n s j pos v o)).1,Δ (gi n.k (aF x) (kU n s j pos v o)).2]:=by
 have ad:=((h.2.2.2.1.funs f (x5 ag)).1.scope.1 o (x5 N)).1;have aJ:j<4611686018427387904:=by
  have h1:=pV h.2.1 h.2.2.1;have aK:=xB ag;have aL:=(x4.1 ag).1;have aM:j<=eU s j:=by
   unfold eU;have:j<=((s.funs.take j).flatMap fw).length:=by
    have ai:∀(L:List b7),L.length<=(L.flatMap fw).length:=λL=>by
     induction L with
     |nil=>exact o4 _
     |cons a L aN=>rw[W0,r8,j9];have:(fw a).length=a.cs.length+1:=rfl;omega
    have aj:=ai (s.funs.take j);rw[n9]at aj;omega
   omega
  omega
 refine az func157 ?_;refine bf λak V aO al E=>?_;refine bf λao aa aP X H=>?_;refine bf λap aQ aR O I=>?_;refine bf λg1 G aS K P=>?_;have Y:=((al.trans X).trans O).trans K;have E:af G ak cI [Γ ae]:=((E.ext X).ext O).ext K;have H:af G ao ah [Δ (j:Int)]:=(H.ext O).ext K;have I:af G ap ah [Δ pos]:=I.ext K;have P:af G g1 ah [Δ v]:=P;refine aV (λr Q=>Ext G Q/\∃e,r=Γ e/\af Q e ah [Δ o]) ?_ ?_
 .rintro _ Q ⟨B,e,rfl,C⟩;have M:=Y.trans B;rw[aw (v:=Γ ae) Ψ ((E.ext B).Qz rfl),aw (v:=Δ o) Ψ (C.Qz rfl),ig];refine(xL (h.ext M) (ac.ext M) ad J (PN (h.ext M) (P.ext B) (I.ext B) (E.ext B) (H.ext B) C _)).mono ?_;rintro _ aT _ ⟨aq,rfl⟩;rw[bq,br];exact⟨M.trans aq,rfl⟩
 intro aB Z aU p _ _;have ab:=Y.trans p;rw[aw (v:=Γ ae) Ψ ((E.ext p).Qz rfl),aw (v:=Δ (j:Int)) Ψ ((H.ext p).Qz rfl),aw (v:=Δ pos) Ψ ((I.ext p).Qz rfl),dO,wrap_i64 Ω Ω];refine⟨?_,?_⟩
 .refine (kS (h.ext ab) ag).mono ?_;rintro r au _ ⟨q,av,ax,S⟩;refine⟨.inl q,?_⟩;refine po (y:=1-pos) (i:=(1-pos).toNat) Ω an.u ah.i S.ls N λaW co ay=>?_;rw[aw (v:=Δ o) Ψ ay];refine bo ah.i λe aA aC z C=>?_;refine⟨.inl z,.inl (q.trans z),?_⟩;have z9:=((p.trans q).trans z).size;refine bl (v:=Δ o) ah.i rfl rfl C Φ λaD U aE W=>?_;have aX:=(p.trans q).size;exact Z _ _ ⟨((p.trans q).trans z).then U λr aG he=>by have he:r=e:=he;omega,e,rfl,W⟩
 .refine bo ah.i λe aA aC z C=>?_;refine⟨.inl z,?_⟩;refine(kS (h.ext (ab.trans z)) ag).mono ?_;rintro r au _ ⟨q,av,ax,S⟩;refine⟨.inl (z.trans q),?_⟩;rw[fN (y:=1-pos) (i:=(1-pos).toNat) Ω an.u ah.i Ψ S.ls N];have aY:=p.size;refine bl (v:=Δ o) ah.i rfl rfl (C.ext q) Φ λaD U aE W=>?_;exact Z _ _ ⟨((p.trans z).trans q).then U λr aG he=>by have he:r=e:=he;omega,e,rfl,W⟩
def EM(n:aJ)(s:au)(j pos v:Int)(r:x1):Prop:=((¬∃f u x,jB s j pos v f u x)->r= .tuple #[Δ 0,Δ (-1),Δ 1])/\∀f u x,jB s j pos v f u x->(f.sc.length≠2->r= .tuple #[Δ 0,Δ (-1),Δ 1])/\
 (f.sc.length=2->∀o y,f.sc[(1-pos).toNat]?=σ o->s.vars[o.toNat]?=σ y->r= .tuple #[Δ (gi n.k (aF y) (kU n s j.toNat pos v o)).1,Δ (gi n.k (aF y) (kU n s j.toNat pos v o)).2,Δ 0])
theorem jB.same{j:Int}{f a:b7}{u u':Int}{x e:bJ}(h:jB s j pos v f u x)(k:jB s j pos v a u' e):a=f/\u'=u/\e=x:=by
 have p:=h.ag;rw[k.ag]at p;cases p;have q:=h.hu;rw[k.hu]at q;cases q;have r:=h.J;rw[k.J]at r;cases r;exact⟨rfl,rfl,rfl⟩
theorem PO{j:Int}(h:bu w ae gT A R n s t)(N:Laid w):am x7 Hh [Γ ae,Δ j,Δ pos,Δ v] w λr w'=>Ext w w'/\EM n s j pos v r:=by
 refine az func78 ?_;refine(Ew h).mono ?_;rintro _ V _ ⟨C,e,rfl,he,G⟩;rw[bD,al];refine⟨λp=>⟨C,λ_=>by rw[he.resolve_left p],λf u x a=>absurd (G.2 ⟨f,u,x,a⟩) p⟩,λO=>?_⟩;obtain⟨f,u,x,a⟩:=G.1 (Y0.1 O);have H:=kS (h.ext C) a.ag;have Y:=a.xO;rw[show((j.toNat:Nat):Int)=j by omega]at H;refine H.mono ?_;rintro r aa _ ⟨P,Z,_,Q⟩;have q:=C.trans P;rw[aW an.u Q.ls,bD,al];refine⟨λp=>⟨q,λ_=>rfl,λS u' U E=>⟨λ_=>rfl,λz=>?_⟩⟩,λz=>?_⟩
 .obtain⟨rfl,_⟩:=a.same E;omega
 have z:f.sc.length=2:=Ω
 have ab:=(x4.1 a.hu).1;have ac:=a.ec;obtain⟨o,B⟩:=aI (l:=f.sc) (i:=(1-pos).toNat) Ω;have I:=(h.2.2.2.1.funs f (x5 a.ag)).1;have ad:=h.2.2.2.1.vars;have af:=I.vars o (x5 B);have ah:=(I.scope.1 o (x5 B)).1;obtain⟨y,J⟩:=aI (l:=s.vars) (i:=o.toNat) Ω;have K:=EL (v:=v) (h.ext q) (N.ext q) a.ag ⟨a.ec,Ω⟩ z B J;rw[show((j.toNat:Nat):Int)=j by omega]at K;refine K.mono ?_;rintro _ ai _ ⟨W,rfl⟩;rw[bq,br];refine⟨q.trans W,λX=>absurd ⟨f,u,x,a⟩ X,λS u' U E=>?_⟩;obtain⟨rfl,_⟩:=a.same E;refine⟨λp=>absurd z p,λ_ o' aj L M=>?_⟩;rw[B]at L;cases L;rw[J]at M;cases M;rfl
end
theorem PP{x:Int}(h:aH .i64 w sv l):am x7 vC [sv,Δ x] w λv w'=>Ext w w'/\∃r:Int,v=Δ r/\(x∉l->r= -1)/\(x∈l->0<=r/\l[r.toNat]?=σ x):=by
 refine az func53 ?_;rw[aW an.u h];refine b5.range l.length (λi _ V=>Ext w V/\x∉l.take i) h.le ⟨Ext.refl _,Ξ⟩ ?_ ?_
 .rintro i _ V k hi ⟨a,e⟩ hk;refine bH Ω ?_;obtain⟨y,f⟩:=aI (l:=l) hi;rw[bh an.u ah.i Ψ (h.ext a) f,be,al];refine⟨λhe=>⟨a,i,rfl,λhm=>absurd (he▸x5 f) hm,λ_=>⟨Ω,by rw[he,r9];exact f⟩⟩,λhe=>?_⟩;rw[aO];refine hk _ _ ⟨a,λhm=>?_⟩;rw[u7,f]at hm;rcases o5.1 hm with hm|hm
  .exact e hm
  .simp at hm;exact he hm
 .rintro _ V k ⟨a,e⟩;rw[o7]at e;rw[aS,al];exact⟨λh=>Ω,λ_=>⟨a,-1,rfl,λ_=>rfl,λh=>absurd h e⟩⟩
theorem uC{x:Int}(h:aH .i64 w sv l):am x7 GB [sv,Δ x] w λv w'=>v= .bool (decide (x∈l))/\Ext w w':=by
 refine az func16 ?_;refine(PP h).mono ?_;rintro _ V _ ⟨J,r,rfl,a,e⟩;rw[cn];refine⟨?_,J⟩;congr 1;refine decide_eq_decide.2 ⟨λp=>?_,λhm=>(e hm).1⟩;exact Y0.1 λf=>by have:=a f;omega
theorem PQ{cap:Array x1}{p:Int->Bool}(h:aH .i64 w sv l)(s:∀w' x,Ext w w'->x∈l->am x7 eu (Δ x::cap.toList) w' λr z=>r= .bool (p x)/\Ext w' z):
  am x7 vG [sv,.func (.func eu) #[] cap] w λv w'=>Ext w w'/\((v=Δ (-1)/\∀x∈l,p x=false)\/∃i:Nat,v=Δ (i:Int)/\i<l.length/\(∀x∈l.take i,p x=false)/\∀x,l[i]?=σ x->p x=true):=by
 refine az func133 ?_;rw[aW an.u h];refine b5.range l.length (λi _ V=>Ext w V/\∀x∈l.take i,p x=false) h.le ⟨Ext.refl _,Ξ⟩ ?_ ?_
 .rintro i _ V k hi ⟨a,e⟩ hk;refine bH Ω ?_;obtain⟨y,f⟩:=aI (l:=l) hi;rw[bh an.u ah.i Ψ (h.ext a) f];refine am.mono (s V y a (x5 f)) ?_;rintro _ aa _ ⟨rfl,q⟩;rw[bZ];refine⟨λA=>⟨a.trans q,.inr ⟨i,rfl,hi,e,λx J=>by rw[f]at J;cases J;exact A⟩⟩,λag=>?_⟩;rw[aO];refine hk _ _ ⟨a.trans q,λx J=>?_⟩;rw[u7,f]at J;rcases o5.1 J with J|J
  .exact e x J
  .simp at J;subst J;exact ag
 .rintro _ V k ⟨a,e⟩;rw[o7]at e;rw[aS,al];exact⟨λh=>Ω,λ_=>⟨a,.inl ⟨rfl,e⟩⟩⟩
theorem EN{g:Nat}{cap:Array x1}{p:Int->Bool}(h:av .i64 e w g sv l)(aH:l.length<=100000000)(Q:∀w' x,ai (λr=>leads sv r) w w'->x∈l->am x7 eu (Δ x::cap.toList) w' λr Y=>r= .bool (p x)/\Ext w' Y):
  am x7 G5 [sv,.func (.func eu) #[] cap] w λv w'=>ai (λr=>leads sv r) w w'/\av .i64 e w' g v (l.filter λx=>!p x)/\∀r,leads v r->leads sv r:=by
 refine az func62 ?_;refine(PQ h.ls λw' x J=>Q w' x (J.ab _)).mono ?_;rintro _ V _ ⟨B,⟨rfl,K⟩|⟨i,rfl,hi,K,Z⟩⟩
 .rw[be,al];refine⟨λ_=>⟨B.ab _,?_⟩,λh=>absurd rfl h⟩;rw[List.filter_eq_self.2 λx J=>by rw[K x J];rfl];exact⟨h.ext B,λ_ h=>h⟩
 rw[be,al];refine⟨λh=>Ω,λ_=>?_⟩;rw[aO,wrap_i64 Ω Ω];obtain⟨n,L⟩:∃n,l.length=n:=⟨_,rfl⟩;obtain⟨s,rfl⟩:∃s,sv= .slice (σ ⟨g,0,ν⟩) n s:=by
  obtain⟨_,⟨_,h1⟩|⟨s,cs,h1,_⟩⟩:=id h
  .omega
  .exact⟨s,by rw[h1,L]⟩
 obtain⟨_,_,_,_,aJ,aa,_⟩:=re h Ω;have R:∀r,r=g->leads (.slice (σ ⟨g,0,ν⟩) n s) r:=λr M=>⟨_,_,_,rfl,M.symm⟩;have ac:(l.take (i+1)).filter (λx=>!p x)=l.take i:=by
  obtain⟨y,z⟩:=aI (l:=l) hi;rw[u7,z,List.filter_append,List.filter_eq_self.2 λx J=>by rw[K x J];rfl];simp[Z y z]
 refine⟨λN O C=>∃(q j:Nat)(f:Λ),N=Δ (q:Int)/\O=Δ (j:Int)/\q<j/\j<=n/\ai (λr=>r=g) w C/\av .i64 e C g (.slice (σ ⟨g,0,ν⟩) n s) f/\f.length=n/\f.take q=(l.take j).filter (λx=>!p x)/\∀k,j<=k->f[k]?=l[k]?,
  λ_ O _=>n-(bU O).toNat,⟨i,i+1,l,rfl,rfl,Ω,Ω,B.ab _,h.ext B,L,ac.symm,λ_ _=>rfl⟩,?_⟩
 rintro _ _ C ⟨q,j,f,rfl,rfl,aK,aL,E,G,S,A,P⟩;have aM:q=((l.take j).filter λx=>!p x).length:=by rw[<-A,n9];omega
 rw[hr an.u,aS,al];refine⟨λad=>?_,λaN=>?_⟩
 .have ad:j<n:=Ω
  obtain⟨y,z⟩:=aI (l:=l) (i:=j) Ω;have ae:f[j]?=σ y:=by rw[P j (o4 _),z]
  refine aV (λN H=>∃(q:Nat)(f:Λ),N=Δ (q:Int)/\q<j+1/\ai (λr=>r=g) w H/\av .i64 e H g (.slice (σ ⟨g,0,ν⟩) n s) f/\f.length=n/\f.take q=(l.take (j+1)).filter (λx=>!p x)/\∀k,j+1<=k->f[k]?=l[k]?) ?_ ?_
  .rintro _ H ⟨q,f,rfl,h1,af,aj,ak,ao,ap⟩;rw[aO,wrap_i64 Ω Ω];exact⟨⟨q,j+1,f,rfl,rfl,h1,Ω,af,aj,ak,ao,ap⟩,by simp only[bU];omega⟩
  intro aB U;rw[bh an.u ah.i Ψ G.ls ae];refine am.mono (Q C y (E.mono λr _=>R r) (x5 z)) ?_;rintro _ H _ ⟨rfl,I⟩;have W:(l.take (j+1)).filter (λx=>!p x)=(l.take j).filter (λx=>!p x)++[y].filter (λx=>!p x):=by rw[u7,z,List.filter_append];rfl
  rw[bE,bZ];refine⟨λaq=>?_,λag=>?_⟩
  .have X:=G.ext I;rw[hx rfl an.u ah.i X Ω];refine hy ah.i X Ω λaP au aQ aw=>?_;rw[aO,wrap_i64 Ω Ω];refine U _ _ ⟨q+1,_,rfl,Ω,(E.trans (I.ab _)).trans au,aw,by simpa using S,?_,λk hk=>?_⟩
   .rw[W,u7,b9 Ω,List.take_set_of_le (o4 _),A];simp only[o8];rw[show[y].filter (λx=>!p x)=[y] by simpa using aq]
   .rw[Y4 Ω];exact P k Ω
  .refine U _ _ ⟨q,f,rfl,Ω,E.trans (I.ab _),G.ext I,S,?_,λk hk=>P k Ω⟩;rw[W,show[y].filter (λx=>!p x)=[] by simpa using ag,X5];exact A
 .have ax:j=n:=Ω
  subst ax;rw[<-L,o7]at A;obtain⟨_,_,cs,ay,_,_,aR,aA⟩:=re G Ω;simp only[maxLen]at aa;rw[gW an.u ah.i (l:=q) (h:=j) (m:=s) pf jl fc Ω Ω Ω,if_neg Ω];have aC:V7 (λx:Addr=>x.add (q*1)) (σ ⟨g,0,ν⟩)=σ ⟨g,q,ν⟩:=by simp[T3]
  rw[aC];refine AM an.u ah.i rfl rfl ay Ω Ω λaT aD aU aE=>?_;rw[gW an.u ah.i (l:=0) (h:=q) (m:=s) jk pg fc Ω Ω Ω,if_neg Ω];have aF:V7 (λx:Addr=>x.add (0*1)) (σ ⟨g,0,ν⟩)=σ ⟨g,0,ν⟩:=by simp[T3]
  rw[aF];refine⟨(E.trans aD).mono λr _=>R r,?_⟩;have aW:(l.filter λx=>!p x).length=q:=by rw[<-A,n9];omega
  rw[<-A,Nat.sub_zero];refine⟨?_,λr M=>by obtain⟨a,_,_,e,aG⟩:=M;cases e;exact⟨_,_,_,rfl,aG⟩⟩;refine av.of (n:=q) ⟨Θ,.inr ⟨s,_,Ξ,aE,Ω,by simp only[maxLen];omega,by rw[ld];omega,?_⟩⟩;rw[U7];apply Y5;intro k;by_cases hk:k<q
  .rw[Z9 hk,mM _ _ _ Θ,if_neg Ω,ints,x8,Z9 hk];have:(cs.take j)[k]?=(ints .i64 f)[k]?:=by rw[aA]
   rw[Z9 Ω,ints,x8]at this;exact this
  .rw[Z4 Θ,Z4 Θ]
def mq(s:au)(i:Int)(j:Nat):Bool:=match s.funs[j]? with
 |some f=>decide (f.live≠0)&&decide (i∈f.sc)
 |none=>false
def iB(s:au)(i:Int)(m:Nat):Λ:=((X3 m).filter (mq s i)).map λj:Nat=>(j:Int)
theorem PR{A R:ak}{n:aJ}{s:au}{t:aC}{i:Int}(h:bu w ae gT A R n s t):am x7 H5 [Γ ae,Δ i] w λv w'=>Ext w w'/\∃g,av .i64 ah w' g v (iB s i s.funs.length)/\∀r,leads v r->w.heap.size<=r:=by
 have aA:=pV h.2.1 h.2.2.1;have aD:s.funs.length<=100000000:=by
  have h1:=rm s;have O:∀(L:List b7),L.length<=(L.flatMap fw).length:=λL=>by
   induction L with
   |nil=>exact o4 _
   |cons a L aE=>rw[W0,r8,j9];have:(fw a).length=a.cs.length+1:=rfl;omega
  have aF:=O s.funs;omega
 refine az func154 ?_;refine(rB h).mono ?_;rintro _ V _ ⟨rfl,P⟩;refine b5.range s.funs.length (λj out aa=>Ext w aa/\∃g,av .i64 ah aa g out (iB s i j)/\∀r,leads out r->w.heap.size<=r) Ω ⟨P,0,av.nil _ _ _ _,λr E=>by obtain⟨a,n,c,Q,aG⟩:=E;cases Q⟩ ?_ ?_
 .rintro j out aa S U ⟨q,g,hm,B⟩ W;obtain⟨f,ag⟩:=aI (l:=s.funs) U;have I:iB s i (j+1)=if mq s i j=true then iB s i j++[(j:Int)]else iB s i j:=by
   unfold iB;rw[List.range_succ,List.filter_append];cases X:mq s i j<;>simp[X]
  refine bH Ω ?_;refine aV (λout z=>Ext w z/\∃g,av .i64 ah z g out (iB s i (j+1))/\∀r,leads out r->w.heap.size<=r) ?_ ?_
  .rintro out z Y;rw[aO];exact W _ _ Y
  intro aB J;refine aV (λr z=>r= .bool (mq s i j)/\Ext aa z) ?_ ?_
  .rintro _ z ⟨rfl,e⟩;rw[bZ];refine⟨λZ=>?_,λag=>J _ _ ⟨q.trans e,g,by rw[I,if_neg (by rw[ag];decide)];exact hm.ext e,B⟩⟩;refine ee (k:=.i64) an.u ah.i rfl λv4 aH ab aL C ac=>?_;have aM:(iB s i j).length<=j:=by unfold iB;rw[u9];have:=T9 (mq s i) (X3 j);rw[List.length_range]at this;exact this
   refine gD an.u ah.i rfl ((hm.ext e).ext C) ac.ls Θ Θ λv5 ad af ai aj ao=>?_;have z3:=q.size;have ap:Ext w af:=((q.trans e).trans C).then ao λr E he=>by have:=B r he;omega
   have z4:=((q.trans e).trans C).size;exact J _ _ ⟨ap,ad,by rw[I,if_pos Z];exact ai,λr E=>(aj r E).elim (B r) λh=>Ω⟩
  intro aN K;refine(pW (j:=(j:Int)) (h.ext q)).mono ?_;rintro _ z _ ⟨rfl,e⟩;rw[decide_eq_true Ω,U6,r9];have aq:eM s j=decide (f.live≠0):=by unfold eM;rw[ag]
  rw[aq,al];refine⟨λG=>?_,λG=>K _ _ ⟨by unfold mq;rw[ag];simp only;rw[decide_eq_false G];rfl,e⟩⟩;obtain⟨aP,aR,aT,aW,aY,aX,L,aZ,ax,a1,a2,a6,M,H⟩:=(h.ext (q.trans e)).1.parts;obtain⟨y,N⟩:∃y,L[j]?=σ y:=⟨_,x6 (by rw[H.1];omega)⟩;obtain⟨ay,_,_⟩:=H.2 j y f N ag;rw[aQ cq.p 3 ax rfl,dj rfl fa.u dC.i M (by rw[H.1];omega),aU dC.p rfl,aw (v:=y.aK) Ψ (M.range N 0 _ rfl)];refine(uC (x:=i) ay.ls).mono ?_;rintro _ ab _ ⟨rfl,C⟩;exact K _ _ ⟨by unfold mq;rw[ag];simp only;rw[decide_eq_true G,U6],e.trans C⟩
 .rintro out aa S ⟨q,g,hm,B⟩;rw[aS,al];exact⟨λh=>Ω,λ_=>⟨q,g,hm,B⟩⟩
theorem EO{full c:List x1}{o q:Nat}{x:x1}(f:∀(k:Nat)y,c[k]?=σ y->full[o+k]?=σ y)(h:o+c.length<=full.length)(p:q<c.length):full.set (o+q) x=over full o (c.set q x):=by
 refine Y5 λk=>?_;rw[mM _ _ _ (by rw[b8];exact h),X2,b8];by_cases h1:o<=k/\k<o+c.length
 .rw[if_pos h1,X2];by_cases a:o+q=k
  .rw[if_pos a,if_pos Ω,if_pos Ω,if_pos Ω]
  .rw[if_neg a,if_neg Ω];have e:k-o<c.length:=Ω
   have:=f (k-o) c[k-o] (x6 e);rw[x6 e,<-this];congr 1;omega
 .rw[if_neg h1,if_neg Ω]
section
variable{w0 w w':x3}{ae gT ap ga:Nat}{A R:ak}{A9:Nat->ak}{aG:ak}{n:aJ}{s u u':au}{t:aC}{h:List aC}{cs:List x1}{aL aK lI v:x1}{Q:x1->x3->Prop}
theorem cj.gI(p:cj w ae gT ap A R A9 aG n s u t h cs):(∀i j r,i≠j->A9 i r->¬A9 j r)/\∀i r,A9 i r->¬aG r:=by
 obtain⟨_,_,_,_,_,_,_,_,_,_,_,_,_,a⟩:=p.doc;exact a rfl
theorem cj.PS{T:ak}(p:cj w ae gT ap A R A9 aG n s u t h cs)(y:∀q r,A9 q r->r<w.heap.size)(ad:cs[6]?=σ v)(e:ai T w w')(f:∀r,r<w.heap.size->T r->A9 3 r)(z:bG (λr=>A9 3 r\/w.heap.size<=r) aG w' [v] (u'.funs.map ix))(C:u'.zero=u.zero)(E:u'.vars=u.vars)(F:u'.eg=u.eg):∃cp,cj w' ae gT ap A R cp aG n s u' t h cs/\∀q r,cp q r->(∃G,A9 G r)\/w.heap.size<=r:=by
 have H:=cd.kR p.doc (x0 e) (λr a=>.inl (f r a.2 a.1)) z (λj r I a=>?_) (λr a=>?_)
 .have x:=x2 (w:=w) (A9:=A9) (q:=3) (B:=λr=>A9 3 r\/w.heap.size<=r) λr h=>h;refine⟨_,p.row e f ?_ x,x⟩;have:=cd.qO ad H;unfold iy;rw[C,E,F];exact this
 .rcases a with a|a
  .exact p.gI.1 3 j r (Ne.symm I) a
  .exact λh=>by have:=y j r h;omega
 .rcases a with a|a
  .exact p.gI.2 3 r a
  .exact λh=>by have:=(p.read r h).2.1;omega
end
theorem PT{m:Int}{w:Int}(ad:0<=v)(hw:0<=w):dropped (((m.toNat ||| 2 ^ v.toNat:Nat):Int)) w=(dropped m w||decide (w=v)):=by
 unfold dropped;rw[r9,Nat.testBit_or,Nat.testBit_two_pow];congr 1;exact decide_eq_decide.2 ⟨λh=>Ω,λh=>Ω⟩
theorem x9{x:bJ}(ad:0<=v):aF {x with mask:=((x.mask.toNat ||| 2 ^ v.toNat:Nat):Int)}=(aF x).filter λy=>!decide (y=v):=by
 unfold aF;rw[List.filter_filter];refine List.filter_congr λy a=>?_;obtain⟨q,_,rfl⟩:=j5.1 a;rw[PT ad Ω];cases dropped x.mask (q:Int)<;>simp
section
variable{w0 w w':x3}{ae gT ap ga:Nat}{A R:ak}{A9:Nat->ak}{aG:ak}{n:aJ}{s u u':au}{t:aC}{h:List aC}{cs:List x1}{aL aK lI v:x1}{Q:x1->x3->Prop}
theorem cj.oJ{T:ak}(p:cj w ae gT ap A R A9 aG n s u t h cs)(z:∀q r,A9 q r->r<w.heap.size)(ad:cs[3]?=σ v)(e:ai T w w')(f:∀r,r<w.heap.size->T r->A9 0 r)(C:bG (λr=>A9 0 r\/w.heap.size<=r) aG w' [v] (u'.vars.map aF))(E:u'.zero=u.zero)(F:u'.vars.map (·.un)=u.vars.map (·.un))(G:(u'.vars.map λx=>decide (x.gone≠0))=u.vars.map λx=>decide (x.gone≠0))(H:u'.funs=u.funs)(I:u'.eg=u.eg):
  ∃cp,cj w' ae gT ap A R cp aG n s u' t h cs/\∀q r,cp q r->(∃J,A9 J r)\/w.heap.size<=r:=by
 have K:=cd.D9 p.doc (x0 e) (λr a=>.inl (f r a.2 a.1)) C (λj r L a=>?_) (λr a=>?_)
 .have y:=x2 (w:=w) (A9:=A9) (q:=0) (B:=λr=>A9 0 r\/w.heap.size<=r) λr h=>h;refine⟨_,p.row e f ?_ y,y⟩;have:=cd.qO ad K;unfold iy;rw[E,F,G,H,I];exact this
 .rcases a with a|a
  .exact p.gI.1 0 j r (Ne.symm L) a
  .exact λh=>by have:=z j r h;omega
 .rcases a with a|a
  .exact p.gI.2 0 r a
  .exact λh=>by have:=(p.read r h).2.1;omega
end
section
variable{w0 w w':x3}{ae gT ap ga:Nat}{A R:ak}{A9:Nat->ak}{aG:ak}{n:aJ}{s u u':au}{t:aC}{h:List aC}{cs:List x1}{aL aK lI v:x1}{Q:x1->x3->Prop}
theorem PU{F:ak}{c:List x1}{f:b7}(h:bG (α:=jz) F R w c (ix f))(C:∀r,F r->¬R r):∃aK szv a6 e,c=[aK,szv,a6,.bool (decide (f.live≠0))]/\bG e R w [a6] f.cs/\(∀r,e r->F r)/\
  ∀{w':x3}{b6:Λ},ai e w w'->bG e R w' [a6] b6->bG (α:=jz) F R w' c (ix {f with cs:=b6}):=by
 obtain⟨ac,N,A,B,rfl,E,O,P,h1,q⟩:=h;obtain⟨Q,ad,aT,S,rfl,T,G,H,I,U⟩:=h1;obtain⟨V,W,X,s,rfl,Y,x,J,K,L⟩:=U;have q:N=[.bool (decide (f.live≠0))]:=q;subst q;obtain⟨y,rfl⟩:=W9.1 (show Q.length=1 from aq.len I);obtain⟨p,rfl⟩:=W9.1 (show V.length=1 from aq.len K);obtain⟨v3,rfl⟩:=W9.1 (show W.length=1 from aq.len L);have z:∀r,s r->F r:=λr h=>E r (G r (x r h));refine⟨y,p,v3,s,rfl,L,z,λ{w' b6}M Z=>?_⟩;refine⟨[y,p,v3],[.bool (decide (f.live≠0))],A,B,rfl,E,O,P,⟨[y],[p,v3],aT,S,rfl,T,G,H,aq.ab I M λr aa a he=>?_,[p],[v3],X,s,rfl,Y,x,J,aq.ab K M λr aa a he=>?_,Z⟩,rfl⟩
 .exact a.elim (λa=>H rfl r a (x r he)) (C r (z r he))
 .exact a.elim (λa=>J rfl r a he) (C r (z r he))
end
theorem dp.vars{s:au}{i:Nat}{x y:bJ}(h:dp s)(J:s.vars[i]?=σ x)(q:y.gone=x.gone):dp {s with vars:=s.vars.set i y}:=λf ag p v ad z a=>by
 have a:(s.vars.set i y)[v.toNat]?=σ z:=a;rw[X2]at a;split at a
 .rename_i e;split at a
  .cases a;subst e;rw[q];exact h f ag p v ad x J
  .cases a
 .exact h f ag p v ad z a
theorem dp.funs{s:au}{f g:b7}(h:dp s)(ag:s.funs[j]?=σ f)(U:g.sc=f.sc)(p:g.live≠0->f.live≠0):dp {s with funs:=s.funs.set j g}:=λx J a v ad z e=>by
 rcases W5 J with J|rfl
 .exact h x J a v ad z e
 .exact h f (x5 ag) (p a) v (by rw[<-U];exact ad) z e
structure hK where
 kind:Nat
 i:Int
 pos:Int
 v:Int
 c:Int
def ek(s:au)(i v:Int):Option bJ:=if 0<=i then match s.vars[i.toNat]? with
 |some x=>if x.gone=0/\v∈aF x then σ x else ν
 |none=>ν else ν
def en(s:au)(j pos v:Int):Option (b7×Int×bJ):=if 0<=j/\0<=pos then match s.funs[j.toNat]? with
 |some f=>if f.live≠0 then match f.sc[pos.toNat]? with
  |some u=>(ek s u v).map λx=>(f,u,x)
  |none=>ν
  else ν
 |none=>ν else ν
def mr(k:Int)(s:au)(f:b7)(pos:Nat)(v:Int):Int:=((cm s f.sc pos v).map (bm f.aj f.cs)).foldl min k
def dq(k c most:Int):Int:=if¬(0<=c/\c<=k)then 3 else if most<c then 7 else 0
def ja(x:bJ):Int:=match(aF x).map λv=>x.un.getD v.toNat 0 with
 |[]=>-1
 |c::l=>l.foldl min c
def gj(s:au)(i:Nat)(v:Int):Λ->au
 |[]=>s
 |w::L=>gj (if w≠v then ej s i w.toNat else s) i v L
def cB(k:Int)(s:au)(a:hK):au×Int:=
 if a.kind=0 then match en s a.i a.pos a.v with
  |none=>(s,1)
  |some (f,u,x)=>if dq k a.c (mr k s f a.pos.toNat a.v)≠0 then(s,dq k a.c (mr k s f a.pos.toNat a.v))else(i9 s a.i.toNat f a.pos.toNat u.toNat x a.v (λg=>dL k g a.c) λg=>dM k g a.c,0)
 else if a.kind=1 then match en s a.i a.pos a.v with
  |none=>(s,1)
  |some (f,u,x)=>if dq k a.c (x.un.getD a.v.toNat 0)≠0 then(s,dq k a.c (x.un.getD a.v.toNat 0))else(i9 s a.i.toNat f a.pos.toNat u.toNat x a.v (λg=>dM k g a.c) λg=>dL k g a.c,0)
 else if a.kind=2 then match(if 0<=a.i then s.vars[a.i.toNat]? else ν)with
  |none=>(s,1)
  |some x=>if x.gone≠0 then(s,1)else if dq k a.c (ja x)≠0 then(s,dq k a.c (ja x))else(kT s a.i.toNat x (λg=>dL k g a.c) λg=>dM k g a.c,0)
 else if a.kind=3 then match(if 0<=a.i then s.vars[a.i.toNat]? else ν)with
  |none=>(s,1)
  |some x=>if x.gone≠0 then(s,1)else if dq k a.c (if aF x=[]then-1 else s.zero)≠0 then(s,dq k a.c (if aF x=[]then-1 else s.zero))else(kT s a.i.toNat x (λg=>dM k g a.c) λg=>dL k g a.c,0)
 else if a.kind=4 then match ek s a.i a.v with
  |none=>(s,1)
  |some x=>if dM k s.zero (x.un.getD a.v.toNat 0)<k then(s,7)else(ej s a.i.toNat a.v.toNat,0)
 else match ek s a.i a.v with
  |none=>(s,1)
  |some x=>(gj s a.i.toNat a.v (aF x),0)
theorem p1:∀(l:Λ)(z c:Int),c<=l.foldl min z↔c<=z/\∀x∈l,c<=x
 |[],z,c=>Ξ
 |a::l,z,c=>by
  rw[List.foldl_cons,p1 l (min z a) c];rw[List.forall_mem_cons];exact⟨λ⟨h1,e⟩=>⟨Ω,Ω,e⟩,λ⟨h1,e,f⟩=>⟨Ω,f⟩⟩
theorem nq{most:Int}(h:¬dq k c most≠0):(0<=c/\c<=k)/\c<=most:=by
 unfold dq at h;split at h
 .exact absurd Φ h
 .rename_i h1;split at h
  .exact absurd Φ h
  .exact⟨Y0.1 h1,Ω⟩
theorem kV{s:au}{i:Int}{x:bJ}(h:ek s i v=σ x):0<=i/\s.vars[i.toNat]?=σ x/\x.gone=0/\v∈aF x:=by
 unfold ek at h;split at h
 .rename_i e;split at h
  .rename_i y f;split at h
   .rename_i a;cases h;exact⟨e,f,a.1,a.2⟩
   .cases h
  .cases h
 .cases h
theorem nr{s:au}{j u:Int}{f:b7}{x:bJ}(h:en s j pos v=σ (f,u,x)):0<=j/\0<=pos/\s.funs[j.toNat]?=σ f/\f.live≠0/\f.sc[pos.toNat]?=σ u/\ek s u v=σ x:=by
 unfold en at h;split at h
 .rename_i a;split at h
  .rename_i g e;split at h
   .rename_i p;split at h
    .rename_i w hw;cases ad:ek s w v with
     |none=>rw[ad]at h;cases h
     |some y=>
      rw[ad]at h;cases h;exact⟨a.1,a.2,e,p,hw,ad⟩
    .cases h
   .cases h
  .cases h
 .cases h
section
variable{k:Int}{sizes a:Λ}{s:au}
theorem ns{g:Int}(a:0<=g/\g<=k)(e:0<=c/\c<=g):0<=dL k g c/\dL k g c<=k:=by
 unfold dL;split<;>omega
theorem nt{g:Int}(a:0<=g/\g<=k)(e:0<=c):0<=dM k g c/\dM k g c<=k:=by
 unfold dM;omega
theorem h5{u:Nat}{v:Nat}{x:bJ}(a:bx k sizes s)(J:s.vars[u]?=σ x):0<=x.un.getD v 0/\x.un.getD v 0<=k:=by
 have hk:=a.eV;have e:=(x4.1 J).1;have f:=a.vars;exact Ez Ω (a.var u x _ J (x6 Ω)).2.1
theorem oK{f:b7}(a:bx k sizes s)(ag:f∈s.funs):0<=bm f.aj f.cs t/\bm f.aj f.cs t<=k:=(tT a.eV λc e=>⟨a.eV,(a.funs f ag).1.hY c e⟩).2
theorem ya{x:bJ}(h:v∈aF x)(a:c<=ja x):c<=x.un.getD v.toNat 0:=by
 unfold ja at a;have hm:x.un.getD v.toNat 0∈(aF x).map λv=>x.un.getD v.toNat 0:=j5.2 ⟨v,h,rfl⟩;generalize (aF x).map (λv=>x.un.getD v.toNat 0)=l at a hm;cases l with
 |nil=>cases hm
 |cons b l=>
  have h1:=(p1 l b c).1 a;rcases V4.1 hm with e|e
  .rw[e];exact h1.1
  .exact h1.2 _ e
theorem rI{i:Nat}{v:Int}{x:bJ}:∀(L:Λ)(s:au),bx k sizes s->s.vars[i]?=σ x->(∀w∈L,0<=w/\w<x.un.length)->bx k sizes (gj s i v L)/\(dp s->dp (gj s i v L))/\
  ∀bg,lA s a->x.gone=0->a[i]?=σ bg->hc k (gj s i v L) a=if bg∈L/\bg≠v then k else hc k s a
 |[],s,z,J,_=>⟨z,id,λbg _ _ _=>by rw[if_neg Ξ];rfl⟩
 |w::L,s,z,J,C=>by
  unfold gj;by_cases hw:w≠v
  .rw[if_pos hw];have G:=C w (.head _);have K:=xX z J G;have H:=(x4.1 J).1;have M:(ej s i w.toNat).vars[i]?=σ {x with mask:=((x.mask.toNat ||| 2 ^ w.toNat:Nat):Int)}:=by rw[mp J];exact b9 H
   obtain⟨h1,E,F⟩:=rI L (ej s i w.toNat) K M λu hu=>C u (.tail _ hu);refine⟨h1,λN=>E ?_,λbg p A B=>?_⟩
   .rw[mp J];exact dp.vars N J rfl
   .have O:lA (ej s i w.toNat) a:=by
     rw[mp J];refine⟨by show a.length=(s.vars.set _ _).length;rw[b8];exact p.1,λq y b r I=>?_⟩;have r:(s.vars.set i {x with mask:=((x.mask.toNat ||| 2 ^ w.toNat:Nat):Int)})[q]?=σ y:=r;by_cases e:i=q
     .subst e;rw[b9 H]at r;cases r;exact p.2 i x b J I
     .rw[Y4 e]at r;exact p.2 q y b r I
    rw[F bg O A B,EI z p J A G B];by_cases e:bg=w
    .subst e;rw[if_pos rfl,if_pos (show bg∈bg::L/\bg≠v from⟨.head _,hw⟩)];split<;>rfl
    .rw[if_neg e];by_cases f:bg∈L/\bg≠v
     .rw[if_pos f,if_pos ⟨.tail _ f.1,f.2⟩]
     .rw[if_neg f,if_neg λh=>f ⟨(V4.1 h.1).resolve_left e,h.2⟩]
  .rw[if_neg hw];obtain⟨h1,E,F⟩:=rI L s z J λu hu=>C u (.tail _ hu);refine⟨h1,E,λbg p A B=>?_⟩;rw[F bg p A B];have hw:=Y0.1 hw;by_cases f:bg∈L/\bg≠v
   .rw[if_pos f,if_pos ⟨.tail _ f.1,f.2⟩]
   .rw[if_neg f,if_neg λh=>f ⟨(V4.1 h.1).resolve_left λe=>h.2 (e.trans hw),h.2⟩]
theorem dp.zero(h:dp s):dp {s with zero:=c}:=h
theorem EQ{pos u:Nat}{f:b7}{x:bJ}{tup un:Int->Int}(h:dp s)(ag:s.funs[j]?=σ f)(J:s.vars[u]?=σ x):dp (i9 s j f pos u x v tup un):=
 dp.vars (s:=dN s j f (dB tup (cm s f.sc pos v) f.aj f.cs)) (dp.funs h ag rfl id) J rfl
theorem ER{u:Nat}{x:bJ}{g z:Int->Int}(h:dp s)(J:s.vars[u]?=σ x):dp (kT s u x g z):=dp.zero (dp.vars h J rfl)
def p2(k:Int)(s:au)(m:hK)(s':au)(e:Int)(a:Λ):Prop:=hc k s' a=if 5<=m.kind/\e=0/\a[m.i.toNat]? ≠σ m.v then k else hc k s a
theorem PV{m:hK}(p:bx k sizes s)(F:dp s):bx k sizes (cB k s m).1/\dp (cB k s m).1/\∀a,lA s a->p2 k s m (cB k s m).1 (cB k s m).2 a:=by
 have hk:=p.eV;have B:∀e:Int,e≠0->bx k sizes s/\dp s/\∀a,lA s a->p2 k s m s e a:=λe he=>⟨p,F,λa _=>by unfold p2;rw[if_neg λh=>he h.2.1]⟩;have low:∀{s':au}{e:Int},m.kind<5->bx k sizes s'->dp s'->(∀a,lA s a->hc k s' a=hc k s a)->bx k sizes s'/\dp s'/\∀a,lA s a->p2 k s m s' e a:=λhm h1 K T=>⟨h1,K,λa y=>by unfold p2;rw[if_neg λh=>Ω];exact T a y⟩;unfold cB;split
 .rename_i P;cases z:en s m.i m.pos m.v with
  |none=>exact B 1 Φ
  |some q=>
   obtain⟨f,u,x⟩:=q;simp only;split
   .rename_i he;exact B _ he
   .rename_i he;obtain⟨A,hm⟩:=nq he;simp only;obtain⟨_,_,ag,L,hu,ad⟩:=nr z;obtain⟨aa,J,E,Q⟩:=kV ad;have G:=x5 ag;have U:∀t∈cm s f.sc m.pos.toNat m.v,m.c<=bm f.aj f.cs t:=λt C=>((p1 _ _ _).1 hm).2 _ (j5.2 ⟨t,C,rfl⟩);have R:f.sc[m.pos.toNat]?=σ ((u.toNat:Nat):Int):=by rw[hu];congr 1;omega
    have C:∀t∈cm s f.sc m.pos.toNat m.v,0<=dL k (bm f.aj f.cs t) m.c/\dL k (bm f.aj f.cs t) m.c<=k:=λt C=>ns (oK p G) ⟨A.1,U t C⟩;have M:=nt (k:=k) (h5 (v:=m.v.toNat) p J) A.1;refine low Ω (EE p ag J C M) (EQ F ag J) λa y=>EF p y ag L R J Q (F f G L) C M λt C r H=>?_;have:=oK (t:=t) p G;exact uv H ⟨U t C,this.2⟩ (h5 p J) A.1
 split
 .rename_i _ P;cases z:en s m.i m.pos m.v with
  |none=>exact B 1 Φ
  |some q=>
   obtain⟨f,u,x⟩:=q;simp only;split
   .rename_i he;exact B _ he
   .rename_i he;obtain⟨A,hm⟩:=nq he;simp only;obtain⟨_,_,ag,L,hu,ad⟩:=nr z;obtain⟨aa,J,E,Q⟩:=kV ad;have G:=x5 ag;have R:f.sc[m.pos.toNat]?=σ ((u.toNat:Nat):Int):=by rw[hu];congr 1;omega
    have C:∀t∈cm s f.sc m.pos.toNat m.v,0<=dM k (bm f.aj f.cs t) m.c/\dM k (bm f.aj f.cs t) m.c<=k:=λt C=>nt (oK p G) A.1;have M:=ns (k:=k) (h5 (v:=m.v.toNat) p J) ⟨A.1,hm⟩;refine low Ω (EE p ag J C M) (EQ F ag J) λa y=>EF p y ag L R J Q (F f G L) C M λt C r H=>?_;have h1:=oK (t:=t) p G;have K:=h5 (v:=m.v.toNat) p J;have:=uv (k:=k) H ⟨hm,K.2⟩ h1 A.1;omega
 split
 .rename_i _ _ P;cases z:(if 0<=m.i then s.vars[m.i.toNat]? else ν)with
  |none=>exact B 1 Φ
  |some x=>
   have J:s.vars[m.i.toNat]?=σ x:=by split at z;exact z;cases z
   simp only;split
   .exact B 1 Φ
   split
   .rename_i he;exact B _ he
   .rename_i E he;obtain⟨A,hm⟩:=nq he;simp only;have V:∀v∈aF x,m.c<=x.un.getD v.toNat 0:=λv ad=>ya ad hm;have N:∀v∈aF x,0<=dL k (x.un.getD v.toNat 0) m.c/\dL k (x.un.getD v.toNat 0) m.c<=k:=λv ad=>ns (h5 p J) ⟨A.1,V v ad⟩;have O:=nt (k:=k) p.zero A.1;refine low Ω (xW p J N O) (ER F J) λa y=>EH p y J (Y0.1 E) N O λv ad r H=>?_;exact uv H ⟨V v ad,(h5 p J).2⟩ p.zero A.1
 split
 .rename_i _ _ _ P;cases z:(if 0<=m.i then s.vars[m.i.toNat]? else ν)with
  |none=>exact B 1 Φ
  |some x=>
   have J:s.vars[m.i.toNat]?=σ x:=by split at z;exact z;cases z
   simp only;obtain⟨W,X⟩:∃W,W=(if aF x=[]then-1 else s.zero):=⟨_,rfl⟩;rw[<-X];split
   .exact B 1 Φ
   split
   .rename_i he;exact B _ he
   .rename_i E he;obtain⟨A,hm⟩:=nq he;simp only;have Y:m.c<=s.zero:=by
     rw[X]at hm;split at hm
     .omega
     .exact hm
    have N:∀v∈aF x,0<=dM k (x.un.getD v.toNat 0) m.c/\dM k (x.un.getD v.toNat 0) m.c<=k:=λv ad=>nt (h5 p J) A.1;have O:=ns (k:=k) p.zero ⟨A.1,Y⟩;refine low Ω (xW p J N O) (ER F J) λa y=>EH p y J (Y0.1 E) N O λv ad r H=>?_;have:=uv (k:=k) H ⟨Y,p.zero.2⟩ (h5 (v:=v.toNat) p J) A.1;omega
 split
 .rename_i _ _ _ _ P;cases z:ek s m.i m.v with
  |none=>exact B 1 Φ
  |some x=>
   obtain⟨_,J,E,ad⟩:=kV z;simp only;split
   .exact B 7 Φ
   .rename_i he;have Z:=(i7.1 ad).1;simp only;refine low Ω (xX p J Z) (by rw[mp J];exact dp.vars F J rfl) λa y=>?_;have ab:=(x4.1 J).1;have ac:=y.1;obtain⟨bg,I⟩:=aI (l:=a) (i:=m.i.toNat) Ω;rw[EI p y J E Z I];split
    .rename_i e;subst e;rw[oH p];split
     .have ae:(s.vars.zip a)[m.i.toNat]?=σ (x,m.v):=List.getElem?_zip_eq_some.2 ⟨J,I⟩;have h1:=rF (uw (a:=a) p) (i:=m.i.toNat) (x:=dv (x,m.v)) (by rw[x8,ae];rfl);have K:=rE _ (rG (a:=a) p);have ah:dv (x,m.v)=x.un.getD m.v.toNat 0:=by unfold dv;rw[if_neg (by simp[E])]
      unfold dM at he;omega
     .rfl
    .rfl
 .rename_i h1 K T ai ak;cases z:ek s m.i m.v with
  |none=>exact B 1 Φ
  |some x=>
   obtain⟨_,J,E,ad⟩:=kV z;simp only;have S:∀w∈aF x,0<=w/\w<x.un.length:=λw hw=>(i7.1 hw).1;refine⟨(rI (a:=[]) (aF x) s p J S).1,(rI (a:=[]) (aF x) s p J S).2.1 F,λa y=>?_⟩;have ab:=(x4.1 J).1;have ac:=y.1;obtain⟨bg,I⟩:=aI (l:=a) (i:=m.i.toNat) Ω;unfold p2;rw[(rI (aF x) s p J S).2.2 bg y E I,I];by_cases e:bg=m.v
   .rw[if_neg λh=>h.2 e,if_neg λh=>h.2.2 (by rw[e])]
   .rw[if_pos (c:=5<=m.kind/\_) ⟨Ω,rfl,λh=>e (Z0 h)⟩];split
    .rfl
    .rename_i af;exact PI y J E I λh=>af ⟨h,e⟩
end
theorem PW{f:Int->Int}(U:dF aj)(r:cs.length<=(bj aj).length)(h:∀t∈L,f (bm aj cs t)=bm aj cs t):dB f L aj cs=cs:=by
 apply Y5;intro i;cases a:cs[i]? with
 |none=>
  have h1:=List.getElem?_eq_none_iff.1 a;rw[Z4 (by rw[oF]<;>omega)]
 |some c=>
  obtain⟨t,p⟩:=aI (l:=bj aj) (i:=i) (by have:=(x4.1 a).1;omega);rw[pX p a];split
  .rename_i q;have e:bm aj cs t=c:=by
    unfold bm;rw[ju U p];simp only;rw[r9,u4,a];rfl
   have:=h t q;rw[e]at this;rw[this]
  .rfl
section
variable{k:Int}{sizes:Λ}{s:au}
end
section
variable{k:Int}{sizes:Λ}{s:au}
theorem uD{f:b7}{pos:Nat}(a:bx k sizes s)(ag:f∈s.funs)(ad:∀u,f.sc[pos]?=σ u->v∈bw s u)(h:t∈cm s f.sc pos v):∃m:Nat,cJ f.aj t 0=σ (m:Int):=by
 obtain⟨e,p,_⟩:=a.funs f ag;obtain⟨q,_⟩:=lH a ag;rw[xQ a (λu hu=>⟨(e.scope.1 u hu).1,e.vars u hu⟩) ad,<-p]at h;obtain⟨i,hi⟩:=X7.1 (U5.1 h).1;exact⟨i,ju q hi⟩
end
section
variable{k:Int}{sizes:Λ}{s:au}
theorem PX{m:hK}(h:(cB k s m).2≠0):(cB k s m).1=s:=by
 generalize hm:cB k s m=r at h ⊢;unfold cB at hm
 repeat' split at hm
 all_goals (subst hm;first|rfl|exact absurd rfl h)
end
theorem PY(U:dF aj):(bj aj).Nodup:=by
 rw[List.nodup_iff_pairwise_ne,V8];intro i j hi a f he;have h1:=ju U (x6 hi);have e:=ju U (x6 a);rw[he,e]at h1;have:=Z0 h1;omega
section
variable{k:Int}{sizes:Λ}{s:au}
theorem ES{f:b7}{pos:Nat}(a:bx k sizes s)(ag:f∈s.funs)(ad:∀u,f.sc[pos]?=σ u->v∈bw s u):(cm s f.sc pos v).Nodup:=by
 obtain⟨e,h,_⟩:=a.funs f ag;obtain⟨p,_⟩:=lH a ag;rw[xQ a (λu hu=>⟨(e.scope.1 u hu).1,e.vars u hu⟩) ad,<-h];exact(PY p).sublist List.filter_sublist
theorem yb{α:Type}{l:List α}{q:Nat}{a:α}(e:l.Nodup)(h:l[q]?=σ a):a∉l.take q:=λhm=>by
 obtain⟨i,hi⟩:=X7.1 hm;have f:i<q:=by have:=(x4.1 hi).1;rw[n9]at this;omega
 rw[Z9 f]at hi;have h1:=(x4.1 hi).1;have p:=(x4.1 h).1;have:=(List.getElem_inj e (h₀:=h1) (h₁:=p)).1 (by rw[(x4.1 hi).2,(x4.1 h).2]);omega
theorem ET{m q:Nat}{f:b7}{g:Int->Int}(x:bx k sizes s)(ag:s.funs[j]?=σ f)(y:L.Nodup)(p:L[q]?=σ t)(hi:cJ f.aj t 0=σ (m:Int)):
  bm f.aj (dB g (L.take q) f.aj f.cs) t=bm f.aj f.cs t/\kR (dN s j f (dB g (L.take q) f.aj f.cs)) j m (g (bm f.aj f.cs t))=dN s j f (dB g (L.take (q+1)) f.aj f.cs):=by
 obtain⟨a,z⟩:=lH x (x5 ag);have r:=yb y p;refine⟨by rw[EA a z hi,if_neg r],?_⟩;have h:=mW a hi;rw[r9]at h;have C:=(x4.1 h).1;obtain⟨c,w⟩:=aI (l:=f.cs) (i:=m) Ω;have e:bm f.aj f.cs t=c:=by
  unfold bm;rw[hi];simp only;rw[r9,u4,w];rfl
 have A:=(Pw (f:=g) a Ω h w r).2;unfold kR;have B:(dN s j f (dB g (L.take q) f.aj f.cs)).funs[j]?=σ {f with cs:=dB g (L.take q) f.aj f.cs}:=b9 (x4.1 ag).1;rw[B,e];simp only;rw[A,u7,p];unfold dN;simp only[List.set_set];rfl
end
section
variable{w:x3}{ae gT:Nat}{A R:ak}{n:aJ}{s:au}{t:aC}
theorem yc{i:Int}(h:bu w ae gT A R n s t):am x7 HZ [Γ ae,Δ i,Δ v] w λr w'=>Ext w w'/\r=Δ (if(ek s i v).isSome=true then 0 else 1):=by
 have K:=h.2.2.2.1.vars;refine az func148 ?_;rw[dc cI.u];simp only[Z5,a1];refine aV (λr V=>r= .bool (!(ek s i v).isSome)/\Ext w V) ?_ ?_
 .rintro _ V ⟨rfl,B⟩;rw[bZ];exact⟨λf=>⟨B,by rw[if_neg (by simpa using f)]⟩,λf=>⟨B,by rw[if_pos (by simpa using f)]⟩⟩
 intro aB C;refine(uk (i:=i) h).mono ?_;rintro _ aa _ ⟨rfl,p⟩;rw[bZ];refine⟨λa=>C _ _ ⟨?_,p⟩,λa=>?_⟩
 .rw[U1,decide_eq_true_eq]at a;have q:ek s i v=ν:=by
   unfold ek;rw[if_pos a.1];have y:=a.2;unfold kc at y;cases J:s.vars[i.toNat]? with
   |none=>rfl
   |some x=>
    rw[J]at y;simp only;rw[if_neg λh=>by simp[h.1]at y]
  rw[q];rfl
 refine(h3 (i:=i) (h.ext p)).mono ?_;rintro _ L _ ⟨⟨b,m,rfl,z⟩,G⟩;refine(xA (v:=v) z.1).mono ?_;rintro _ M _ ⟨rfl,H⟩;rw[bE];refine C _ _ ⟨?_,(p.trans G).trans H⟩;congr 2;by_cases e:0<=i/\i<n.sizes.length
 .obtain⟨x,J⟩:=aI (l:=s.vars) (i:=i.toNat) Ω;rw[Es z e.1 J];unfold ek;rw[if_pos e.1,J];have I:x.gone=0:=by
   rw[decide_eq_true e.1,U6]at a;unfold kc at a;rw[J]at a;simpa using a
  simp only;by_cases ad:v∈aF x
  .rw[decide_eq_true ad,if_pos ⟨I,ad⟩];rfl
  .rw[decide_eq_false ad,if_neg λh=>ad h.2];rfl
 .obtain⟨rfl,rfl⟩:=z.2.1 e;have q:ek s i v=ν:=by
   unfold ek;by_cases E:0<=i
   .rw[if_pos E,Z4 Ω]
   .rw[if_neg E]
  rw[q,decide_eq_false Ω];rfl
def PZ(s:au)(j pos v:Int)(u e:Int):Prop:=(e=0/\∃f x,en s j pos v=σ (f,u,x))\/(e=1/\en s j pos v=ν)
theorem EU{j:Int}(h:bu w ae gT A R n s t):am x7 HS [Γ ae,Δ j,Δ pos,Δ v] w λr w'=>Ext w w'/\∃u e,r= .tuple #[Δ u,Δ e]/\PZ s j pos v u e:=by
 refine az func139 ?_;rw[dc cI.u];simp only[Z5,a1];have key:∀(K:x1->x3->Prop),(∀r w',Ext w w'->(∀f,0<=j->s.funs[j.toNat]?=σ f->aH .i64 w' r f.sc)->K r w')->am x7 qu [Γ ae,Δ j] w K:=λK S=>by
  by_cases U:0<=j/\j<s.funs.length
  .obtain⟨f,ag⟩:=aI (l:=s.funs) (i:=j.toNat) Ω;have:=kS h ag;rw[show((j.toNat:Nat):Int)=j by omega]at this;refine this.mono ?_;rintro r V _ ⟨B,g,_,hm⟩;exact S r V B λG _ W=>by rw[ag]at W;cases W;exact hm.ls
  .refine (El h U).mono ?_;rintro r V _ ⟨rfl,B⟩;exact S _ V B λf C ag=>absurd ⟨C,by have:=(x4.1 ag).1;omega⟩ U
 refine key _ λr V B X=>?_;have J:∀{P:Prop},(¬∃f u,0<=j/\0<=pos/\s.funs[j.toNat]?=σ f/\f.live≠0/\f.sc[pos.toNat]?=σ u)->(en s j pos v=ν->P)->P:=λp aj=>aj (by
  cases H:en s j pos v with
  |none=>rfl
  |some q=>
   obtain⟨f,u,x⟩:=q;obtain⟨L,M,a3,a4,a5,_⟩:=nr H;exact absurd ⟨f,u,L,M,a3,a4,a5⟩ p)
 refine aV (λY aa=>Ext V aa/\((Y= .bool true/\en s j pos v=ν)\/(Y= .bool false/\∃f u,0<=j/\0<=pos/\s.funs[j.toNat]?=σ f/\f.live≠0/\f.sc[pos.toNat]?=σ u))) ?_ ?_
 .rintro _ aa ⟨N,⟨rfl,p⟩|⟨rfl,f,u,C,Z,ag,ak,hu⟩⟩
  .rw[bT];exact⟨B.trans N,0,1,rfl,.inr ⟨rfl,p⟩⟩
  .rw[a1];intro ao z _ _;have ab:=(X f C ag).ext (N.trans z);refine po (y:=pos) (i:=pos.toNat) Ω an.u ah.i ab hu λb o ap=>?_;rw[aw (v:=Δ u) Ψ ap,fN (y:=pos) (i:=pos.toNat) Ω an.u ah.i Ψ ab hu];have ac:=(B.trans N).trans z;refine(yc (i:=u) (v:=v) (h.ext ac)).mono ?_;rintro _ au _ ⟨af,rfl⟩;refine⟨.inl af,ac.trans af,u,_,rfl,?_⟩;have H:en s j pos v=(ek s u v).map λx=>(f,u,x):=by
    unfold en;rw[if_pos ⟨C,Z⟩,ag];simp only;rw[if_pos ak,hu]
   cases ad:ek s u v with
   |none=>exact .inr ⟨rfl,by rw[H,ad];rfl⟩
   |some x=>exact .inl ⟨rfl,f,x,by rw[H,ad];rfl⟩
 intro aB I;refine(pW (j:=j) (h.ext B)).mono ?_;rintro _ ao _ ⟨rfl,z⟩;have same:∀{f G:b7},s.funs[j.toNat]?=σ f->s.funs[j.toNat]?=σ G->G=f:=λa b=>by rw[a]at b;exact(Z0 b).symm
 rw[bE,bZ];refine⟨λO=>J (λ⟨f,u,L,M,a3,a4,a5⟩=>?_) λp=>I _ _ ⟨z,.inl ⟨rfl,p⟩⟩,λQ=>?_⟩
 .unfold eM at O;rw[a3]at O;simp[L,a4]at O
 have Q:0<=j/\eM s j.toNat=true:=by simpa using Q
 obtain⟨C,E⟩:=Q;obtain⟨f,ag,aq⟩:∃f,s.funs[j.toNat]?=σ f/\f.live≠0:=by
  unfold eM at E;cases ag:s.funs[j.toNat]? with
  |none=>rw[ag]at E;cases E
  |some f=>rw[ag]at E;exact⟨f,rfl,by simpa using E⟩
 rw[aS,al];refine⟨λav=>J (λ⟨_,_,_,M,_⟩=>Ω) λp=>I _ _ ⟨z,.inl ⟨rfl,p⟩⟩,λZ=>?_⟩;rw[aW an.u ((X f C ag).ext z),cn];by_cases ai:(f.sc.length:Int)<=pos
 .refine J (λ⟨G,u,_,_,a3,_,a5⟩=>?_) λp=>I _ _ ⟨z,.inl ⟨by rw[decide_eq_true ai],p⟩⟩;obtain rfl:=same ag a3;have:=(x4.1 a5).1;omega
 .obtain⟨u,hu⟩:=aI (l:=f.sc) (i:=pos.toNat) Ω;exact I _ _ ⟨z,.inr ⟨by rw[decide_eq_false ai],f,u,C,Ω,ag,aq,hu⟩⟩
theorem uE{most:Int}(h:bu w ae gT A R n s t):am x7 HT [Γ ae,Δ c,Δ most] w λr w'=>Ext w w'/\r=Δ (dq n.k c most):=by
 refine az func140 ?_;refine(kb h).mono ?_;rintro _ V _ ⟨rfl,a⟩;refine jU.mono ?_;rintro _ aa _ ⟨rfl,e⟩;have hi:cu c n.k↔0<=c/\c<=n.k:=⟨λh=>h.2,λp=>⟨h.2.2.2.1.eV,p⟩⟩;unfold dq;rw[bE,bZ];refine⟨λf=>⟨a.trans e,?_⟩,λf=>?_⟩
 .have:¬cu c n.k:=by simpa using f
  rw[if_pos λh=>this (hi.2 h)]
 .have:cu c n.k:=by simpa using f
  rw[if_neg λh=>h (hi.1 this),bN,al];exact⟨λh=>⟨a.trans e,by rw[if_pos h]⟩,λh=>⟨a.trans e,by rw[if_neg h]⟩⟩
theorem P0{b:Int}(hk:right k)(f:0<=a/\a<=k)(p:0<=b/\b<=k)(x:a=k\/b<=a):am x7 IL [Δ a,Δ b,Δ k] w λv w'=>v= .tuple #[Δ (dL k a b),Δ 0]/\Ext w w':=by
 have y:1<=k/\k<=2147483648:=hk;refine az func219 ?_;refine aV (λr V=>r= .bool false/\Ext w V) ?_ ?_
 .rintro _ V ⟨rfl,e⟩;unfold dL;rw[a1,be,al];refine⟨λh=>⟨by rw[if_pos h],e⟩,λh=>?_⟩;rw[if_neg h,bN,al];refine⟨λz=>Ω,λ_=>?_⟩;rw[dO,wrap_i64 Ω Ω];exact⟨rfl,e⟩
 intro aB q;refine jU.mono ?_;rintro _ V _ ⟨rfl,e⟩;rw[decide_eq_true (show cu a k from⟨hk,f⟩),bE,Y7,a1];refine jU.mono ?_;rintro _ aa _ ⟨rfl,s⟩;rw[decide_eq_true (show cu b k from⟨hk,p⟩),bE,Y7];exact q _ _ ⟨rfl,e.trans s⟩
theorem uF(h:bu w ae gT A R n s t)(e:0<=a/\a<=n.k)(f:0<=c/\c<=n.k)(p:a=n.k\/c<=a):am x7 nO [Γ ae,Δ a,Δ c] w λr w'=>r=Δ (dL n.k a c)/\Ext w w':=by
 refine az func142 ?_;refine(kb h).mono ?_;rintro _ V _ ⟨rfl,q⟩;refine(P0 h.2.2.2.1.eV e f p).mono ?_;rintro _ aa _ ⟨rfl,x⟩;rw[bq,br];exact⟨rfl,q.trans x⟩
theorem rJ(h:bu w ae gT A R n s t)(e:0<=a/\a<=n.k)(f:0<=c/\c<=n.k):am x7 nP [Γ ae,Δ a,Δ c] w λr w'=>r=Δ (dM n.k a c)/\Ext w w':=by
 refine az func143 ?_;refine(kb h).mono ?_;rintro _ V _ ⟨rfl,p⟩;refine(Eg e f h.2.2.2.1.eV).mono ?_;rintro _ aa _ ⟨rfl,q⟩;rw[bq,br];exact⟨rfl,p.trans q⟩
end
theorem P1{g n c:Nat}{cs:List x1}(a:af w g cK cs)(h:∀w',ai (λr=>r=g) w w'->(∀o vs,w.rangeAt g o vs->w'.rangeAt g o vs)->K (.slice (σ ⟨g,0,ν⟩) n c) w'):
  aD x7 (convert cP cP (.slice (σ ⟨g,0,ν⟩) n c)) w K:=by
 have f:∀r,(w.freeze ⟨g,cs.length,ν⟩ 1).heap[r]?=if g=r then(w.heap[r]?).map (λ| .cells c p (lo,hi)=>.cells c p (if lo == hi then(cs.length,cs.length+1)else(min lo cs.length,max hi (cs.length+1)))|o=>o)else w.heap[r]?:=λr=>by
  unfold x3.freeze;rw[if_neg Φ];exact Array.getElem?_modify
 have z:(w.freeze ⟨g,cs.length,ν⟩ 1).heap.size=w.heap.size:=by
  unfold x3.freeze;rw[if_neg Φ];exact Array.size_modify
 have q:w.shape? g=σ (cK,cs.length):=by
  unfold x3.shape?;unfold af at a;rw[a];simp
 have s:(convert cP cP (.slice (σ ⟨g,0,ν⟩) n c)).run x7 w= .ok (.slice (σ ⟨g,0,ν⟩) n c) (w.freeze ⟨g,cs.length,ν⟩ 1):=by
  simp[convert,run_underlying cP.u,run_underlying cK.u,markStringish,q]
 unfold af at a;refine .of s ⟨by unfold x3.freeze;rw[if_neg Φ],.km (by unfold x3.freeze;rw[if_neg Φ]) (by unfold x3.freeze;rw[if_neg Φ]),by unfold x3.freeze;rw[if_neg Φ],Ω,λr o e U=>?_⟩ (h _ ⟨Ω,λr o e _ x=>?_⟩ λo vs ad j v y=>?_)
 .rw[f];by_cases he:g=r
  .subst he;rw[a]at e;cases e;cases U
  .rw[if_neg he];exact e
 .rw[f,if_neg λhe=>x he.symm];exact e
 .have h1:=ad j v y;unfold x3.cell? at h1 ⊢;rw[f,if_pos rfl];rw[a]at h1 ⊢;exact h1
def yd(s0 s:au):Prop:=s.zero=s0.zero/\s.funs=s0.funs/\s.vars.length=s0.vars.length/\∀(i:Nat)x,s.vars[i]?=σ x->∃a,s0.vars[i]?=σ a/\x.un=a.un/\x.gone=0/\a.gone=0/\a.mask=0
theorem yd.new(n:aJ):yd (de n) (de n):=⟨rfl,rfl,rfl,λi x J=>by
 refine⟨x,J,rfl,?_⟩;have J:(n.unary.map newVar)[i]?=σ x:=J;rw[x8]at J;obtain⟨u,_,rfl⟩:=X4.1 J;exact⟨rfl,rfl,rfl⟩⟩
theorem P2(n:aJ):dp (de n):=λf _ _ v _ x J=>by
 obtain⟨_,_,_,h,_⟩:=(yd.new n).2.2.2 _ x J;exact h
theorem P3{aa:x3}{ap:Nat}{E:x1}{cs:List x1}{f:bY}(G:uq B aa E cs f)(J:Ext aa w)(H:af w ap ba cs)(O:aa.heap.size<=ap):
  ∃ae gT A R A9 aG t,E=Γ ae/\cj w ae gT ap A R A9 aG (cT f) (de (cT f)) (de (cT f)) t [] cs/\t.marks=[]/\(∀r,A r->B<=r)/\(∀q r,A9 q r->B<=r)/\t.cells.length<=2000000/\t.olds.length=0/\(cT f).funs.length<=256/\t.ii=0/\(∀r,aG r->B<=r)/\∀r,R r->B<=r:=by
 obtain⟨ae,gT,A,R,t,N,A9,aG,x,rfl,y,e,I,K,C,p,L⟩:=G;have F:=xZ y;have z:=J.size;have s:=(ud (CI x).1 (xI x) (cT f).unary.length (cT f).funs.length);rw[xk,<-y.2.1]at s;unfold aC.bR at s;rw[u9]at s;refine⟨ae,gT,A,R,λq r=>A9 q r/\r<aa.heap.size,aG,t,rfl,⟨y.ext J,e.2.2.1,H,K.old.ext J,λq r h=>⟨(C q r h.1).1,(C q r h.1).2.1,by have:=h.2;omega⟩,λr a=>⟨λh=>(p r a).1 (ne (λo M U _=>J.aZ r o M U) h),by have:=(p r a).2;omega,by have:=(p r a).2;omega⟩,λh=>by have:=F ap (.inl h);omega,λh=>by have:=F ap (.inr h);omega⟩,e.1,I,λq r h=>(C q r h.1).2.2,s,by rw[e.2.1];rfl,xI x,e.2.2.2,λr a=>(p r a).2.2,L⟩
def EV(s:au):Prop:=∀e∈s.eg,e.sc.length<=1000/\e.pP.length<=1000
section
variable{w w':x3}{ae gT ap dh:Nat}{A R O M aG:ak}{A9:Nat->ak}{k:Int}{sizes:Λ}{U:List au}{n:aJ}{s u:au}{t:aC}{h:List aC}{cs:List x1}
structure SA(w:x3)(ap:Nat)(A R:ak)(A9:Nat->ak)(aG O M:ak):Prop where
 o:∀r,O r->r<w.heap.size/\¬A r/\¬R r/\(∀q,¬A9 q r)/\¬aG r/\r≠ap/\¬M r
 m:∀r,M r->r<w.heap.size/\¬A r/\(∀q,¬A9 q r)/\¬aG r/\r≠ap
theorem cj.side{S:ak}(p:cj w ae gT ap A R A9 aG n s u t h cs)(f:ai S w w')(e:∀r,r<w.heap.size->S r->¬A r/\¬R r/\(∀q,¬A9 q r)/\¬aG r/\r≠ap):cj w' ae gT ap A R A9 aG n s u t h cs:=by
 have z:=f.size;exact⟨⟨p.e9.1.ab f λr a h U=>h.elim (e r a U).1 (e r a U).2.1,p.e9.2⟩,p.h0,p.box.ab f λU=>(e ap p.box.lt U).2.2.2.2 rfl,p.doc.ab f λr a h U=>h.elim (λ⟨q,h⟩=>(e r a U).2.2.1 q h) (e r a U).2.2.2.1,p.apart,
  λr a=>⟨λh=>(p.read r a).1 (ne (λo x U _=>f.aZ r o x U λy=>(e r (p.read r a).2.1 y).2.2.2.1 a) h),by have:=(p.read r a).2.1;omega,(p.read r a).2.2⟩,p.out⟩
theorem cj.EW(p:cj w ae gT ap A R A9 aG n s u t h cs):∀q r,A9 q r->¬aG r:=by
 obtain⟨_,_,_,_,_,_,_,_,_,_,_,_,_,a⟩:=p.doc;exact(a rfl).2
end
theorem EX{w0:x3}{out:x1}{g:Nat}{x:Int}(e:Ext w0 w)(hm:av .i64 ah w g out l)(f:∀r,leads out r->w0.heap.size<=r)(G:l.length<=1000000000)(q:∀v w' s,Ext w0 w'->av .i64 ah w' s v (l++[x])->(∀r,leads v r->w0.heap.size<=r)->K v w'):
  aD x7 (Y3 an 1 #[(0,Δ x)]) w λy V=>aD x7 (Z2 #[an,an] an #[out,y]) V K:=by
 refine ee (k:=.i64) an.u ah.i rfl λv4 H I J a A=>?_;refine gD an.u ah.i rfl (hm.ext a) A.ls Θ Θ λv5 B L C E F=>?_;have z:=(e.trans a).size;exact q _ _ B ((e.trans a).then F λr p he=>by have:=f r he;omega) C λr p=>(E r p).elim (f r) λh=>Ω
theorem uG(x:bJ):(aF x).length<=x.un.length:=by
 unfold aF;have:=T9 (λv:Int=>!dropped x.mask v) ((X3 x.un.length).map λv:Nat=>(v:Int));rw[u9,List.length_range]at this;exact this
section
variable{w:x3}{ae gT:Nat}{A R:ak}{n:aJ}{s:au}{t:aC}
end
theorem uH{out:x1}{g:Nat}{x:Int}(hm:av .i64 ao w g out l)(E:l.length<=1000000000000)(e:∀v w' f,ai (λr=>leads out r) w w'->av .i64 ao w' f v (l++[x])->(∀r,leads v r->leads out r\/w.heap.size<=r)->K v w'):
  aD x7 (Y3 ay 1 #[(0,Δ x)]) w λy V=>aD x7 (Z2 #[ay,ay] ay #[out,y]) V K:=by
 refine ee (k:=.i64) ay.u ao.i rfl λv4 F G H a p=>?_;refine gD ay.u ao.i rfl (hm.ext a) p.ls Θ Θ λv5 q I s A B=>?_;have z:=a.size;exact e _ _ q ((a.ab _).trans B) s λr C=>(A r C).imp id λh=>Ω
def nu(l:Λ):Λ:=(l.length:Int)::l
def oL(w:x3)(out v:x1)(l:Λ)(w':x3):Prop:=ai (λr=>leads out r) w w'/\(∃g,av .i64 ao w' g v l)/\∀r,leads v r->leads out r\/w.heap.size<=r
theorem oL.trans{V aa:x3}{o v u:x1}{l':Λ}(h:oL w o v l V)(k:oL V v u l' aa):oL w o u l' aa:=by
 obtain⟨h1,_,e⟩:=h;obtain⟨f,q,s⟩:=k;have z:=h1.size;have y:=f.size;exact⟨⟨Ω,λr x a U p=>f.aZ r x (h1.aZ r x a U p) U λh=>(e r h).elim p λh=>by have:=(j4.1 a).1;omega⟩,q,λr a=>(s r a).elim (e r) λh=>.inr Ω⟩
theorem EY{k f:o6}{a:p8}{g p:Nat}{v u:x1}{l':Λ}(h:av k e w g v l)(h':av f a w p u l')(he:e≠a)(q:ai (λr=>leads u r) w w'):av k e w' g v l:=bt h q λr s hu=>by
 obtain⟨z,x⟩:=ry h r s;obtain⟨A,y⟩:=ry h' r hu;exact he (eb x y)
theorem P4{k:o6}{a:p8}{g b:Nat}{u:x1}{cs:List x1}(f:af w b a cs)(h:av k e w g u l)(he:e≠a)(p:ai (λr=>leads u r) w w'):af w' b a cs:=f.ab p λhu=>by
 obtain⟨s,q⟩:=ry h b hu;exact he (eb q f)
theorem uI{out cO:x1}{g f:Nat}{o:Λ}(hm:av .i64 ao w g out o)(h:av .i64 ah w f cO l)(L:o.length+l.length<=100000000000):am x7 GP [out,cO] w λv w'=>oL w out v (o++nu l) w':=by
 refine az func42 ?_;rw[aW an.u h.ls];refine uH hm Ω λz V g1 p A B=>?_;have q:=EY h hm Φ p;have C:oL w out z (o++[(l.length:Int)]) V:=⟨p,⟨g1,A⟩,B⟩;rw[aW an.u q.ls];refine b5.range l.length (λi a aa=>oL w out a (o++(l.length:Int)::l.take i) aa/\av .i64 ah aa f cO l) Ω ⟨by rw[List.take_zero];exact C,q⟩ ?_ ?_
 .rintro i a aa E hi ⟨e,r⟩ G;obtain⟨x,J⟩:=aI (l:=l) hi;obtain⟨_,⟨M,s⟩,_⟩:=id e;refine bH Ω ?_;rw[bh an.u ah.i Ψ r.ls J];refine uH s (by rw[r8,j9,n9];omega) λv3 N H y I K=>?_;rw[aO];refine G _ _ ⟨e.trans ⟨y,⟨H,?_⟩,K⟩,EY r s Φ y⟩;rw[u7,J];simpa using I
 .rintro a aa E ⟨e,_⟩;refine ct Ω ?_;rw[o7]at e;exact e
def fj(s:au)(sc t:Λ):Bool:=(sc.zip t).all λp=>match s.vars[p.1.toNat]? with
 |some x=>decide (p.2∈aF x)
 |none=>false
section
variable{w:x3}{ae gT:Nat}{A R:ak}{n:aJ}{s:au}{t:aC}
theorem P5{szv:x1}{at_:Int}(h:bu w ae gT A R n s t)(f:aH .i64 w aK sc)(N:aH .i64 w szv aj)(ad:∀v∈sc,0<=v/\v<n.sizes.length)(O:aH .i64 w aL tl)(ap:tl.length=sc.length):
  am x7 GX [Γ ae,.agg #[aK,szv,Δ at_],aL] w λr w'=>r= .bool (fj s sc tl)/\Ext w w':=by
 have aq:=h.2.2.2.1.vars;refine az func52 ?_;refine bf λg1 V au K z=>?_;have z:af V g1 dC [aK,szv,Δ at_]:=by
  obtain⟨_,_,_,P⟩:=cU f;obtain⟨_,_,_,Q⟩:=cU N;rw[P,Q]at z ⊢;exact z
 rw[aM dC.p 0 z rfl,aW an.u (f.ext K)];refine b5.range sc.length (λi _ aa=>Ext w aa/\fj s (sc.take i) (tl.take i)=true) f.le ⟨K,rfl⟩ ?_ ?_
 .rintro i S aa U hi ⟨B,a⟩ W;obtain⟨v,C⟩:=aI (l:=sc) hi;obtain⟨y,G⟩:=aI (l:=tl) (i:=i) Ω;have L:=ad v (x5 C);obtain⟨x,J⟩:=aI (l:=s.vars) (i:=v.toNat) Ω;refine bH Ω ?_;rw[bh an.u ah.i Ψ (f.ext B) C];intro av X _ _;have E:=B.trans X;refine po rfl an.u ah.i (O.ext E) G λb o Y=>?_;rw[aw (v:=Δ y) Ψ Y];refine(h3 (i:=v) (h.ext E)).mono ?_;rintro _ ax _ ⟨⟨b,m,rfl,H⟩,I⟩;refine⟨.inl I,?_⟩;refine(xA H.1).mono ?_;rintro _ ay _ ⟨rfl,M⟩;obtain⟨hm,Z⟩:=H.2.2 x L.1 J;have aA:=kd H L.1 J;have ab:(decide (0<=y/\y<(m:Int))&&b.testBit y.toNat)=decide (y∈aF x):=by
   rw[Z,hm];by_cases e:0<=y/\y<(x.un.length:Int)
   .rw[decide_eq_true e,U6,decide_eq_true Ω,U6,Int.toNat_of_nonneg e.1];have:=Ej (x:=x) e;rw[V9,decide_eq_true_eq];simpa using this.symm
   .rw[decide_eq_false e,Bool.false_and];symm;refine decide_eq_false λhm=>e ?_;unfold aF at hm;obtain⟨h1,_⟩:=U5.1 hm;obtain⟨q,ac,rfl⟩:=j5.1 h1;have:=T6.1 ac;omega
  have ai:(sc.take (i+1)).zip (tl.take (i+1))=(sc.take i).zip (tl.take i)++[(v,y)]:=by
   rw[u7,u7,C,G,o8,o8,List.zip_append Θ];rfl
  have ak:fj s (sc.take (i+1)) (tl.take (i+1))=decide (y∈aF x):=by
   unfold fj at a ⊢;rw[ai,List.all_append,a,U6];simp[J]
  rw[ab,bE,bZ];refine⟨λag=>?_,λag=>?_⟩
  .refine⟨?_,(E.trans I).trans M⟩;congr 1;symm;have ao:(v,y)∈sc.zip tl:=x5 (List.getElem?_zip_eq_some.2 ⟨C,G⟩);unfold fj;rw[List.all_eq_false];exact⟨_,ao,by simp only[J];simpa using ag⟩
  .rw[aO];exact W _ _ ⟨(E.trans I).trans M,by rw[ak];simpa using ag⟩
 .rintro S aa U ⟨B,a⟩;rw[aS,al];refine⟨λh=>Ω,λ_=>⟨?_,B⟩⟩;rw[o7,j6 Ω]at a;rw[a]
end
def jD(x:bJ):Λ:=if x.gone≠0 then[]else(aF x).map λv=>x.un.getD v.toNat 0
def jE(x:bJ):Λ:=[x.gone]++nu (aF x)++jD x
def iC(s:au)(f:b7):Λ:=if f.live≠0 then nu f.sc++((bj f.aj).filter (fj s f.sc)).map (bm f.aj f.cs)else[]
def mu(e:tZ):Λ:=[-1,e.v]++nu e.sc++nu e.pP
def EZ(s:au):Λ:=[s.zero]++s.vars.flatMap jE++s.funs.flatMap (iC s)++s.eg.flatMap mu
theorem p3(l:Λ):(nu l).length=l.length+1:=rfl
def hL(w w':x3)(ae g1 go:Nat)(l:Λ):Prop:=Ext w w'/\af w' g1 cI [Γ ae]/\∃v g,af w' go ay [v]/\av .i64 ao w' g v l/\∀r,leads v r->w.heap.size<=r
section
variable{w V aa:x3}{ae gT g1 go:Nat}{A R:ak}{n:aJ}{s:au}{t:aC}{l l':Λ}
theorem hL.ext(h:hL w V ae g1 go l)(J:Ext V aa):hL w aa ae g1 go l:=by
 obtain⟨h1,a,v,g,e,f,p⟩:=h;exact⟨h1.trans J,a.ext J,v,g,e.ext J,f.ext J,p⟩
theorem hL.put{v u:x1}{g:Nat}{K:Unit->x3->Prop}(J:Ext w V)(y:w.heap.size<=go)(f:af V g1 cI [Γ ae])(e:af V go ay [u])(hm:av .i64 ao V g v l)(q:∀r,leads v r->w.heap.size<=r)(s:∀aa,ai (λr=>r=go) V aa->hL w aa ae g1 go l->K () aa):aD x7 (o9 ay (Γ go) v) V K:=by
 have h:=hm.ls.cells;refine bl (g:=go) (o:=0) ay.i h.1 h.2 e Ξ λaa a z x=>s aa a ⟨J.then a λr p he=>by have he:r=go:=he;omega,f.ab a λhe=>?_,v,g,x,bt hm a λr p he=>?_,q⟩
 .have he:g1=go:=he;subst he;exact absurd (eb f e) Φ
 .have he:r=go:=he;subst he;obtain⟨c,b⟩:=ry hm r p;exact absurd (eb b e) Φ
theorem side{v:x1}{g b:Nat}{cs:List x1}(a:af V b e cs)(hm:av .i64 ao V g v l)(he:ao≠e)(f:ai (λr=>leads v r) V aa):af aa b e cs:=P4 a hm he f
theorem rK{u:x1}{b:Nat}{cs:List x1}(a:af V b e cs)(f:af V go ay [u])(he:ay≠e)(p:ai (λr=>r=go) V aa):af aa b e cs:=a.ab p λh=>by
 have h:b=go:=h;subst h;exact he (eb f a)
end
theorem ky{α β:Type}{f:α->List β}{L:List α}{b:Nat}(h:∀a∈L,(f a).length<=b):(L.flatMap f).length<=L.length*b:=by
 induction L with
 |nil=>simp
 |cons a L e=>
  rw[W0,r8,j9,U4,Nat.one_mul];have:=h a Ξ;have:=e λa p=>h a (by simp[p]);omega
section
variable{w:x3}{ae gT:Nat}{A R:ak}{n:aJ}{s:au}{t:aC}
theorem P6(a:bx k sizes s):∀x∈s.vars,(jE x).length<=66:=λx J=>by
 obtain⟨i,hi⟩:=X7.1 J;have e:=a.vars;have f:=(x4.1 hi).1;obtain⟨h,_⟩:=a.var i x _ hi (x6 Ω);have p:=a.eW.2.2 _ (T2 (l:=sizes) (n:=i) Ω);have:=uG x;have hu:(jD x).length<=(aF x).length:=by unfold jD;split<;>simp
 unfold jE;rw[r8,r8,p3];simp;omega
theorem P7(e:bx k sizes s):∀f∈s.funs,(iC s f).length<=4103:=λf ag=>by
 obtain⟨a,h,_⟩:=e.funs f ag;have q:dF f.aj:=by rw[h];exact m8 e.eW.2.2 λv ad=>⟨(a.scope.1 v ad).1,a.vars v ad⟩
 have h1:=iK q;have r:aP f.aj<=4096:=by rw[h];exact a.small
 have w:=T9 (fj s f.sc) (bj f.aj);have p:=a.scope.2;have p:f.sc.length<=6:=p;unfold iC;split
 .rw[r8,p3,u9];omega
 .simp
theorem E0(h:bu w ae gT A R n s t)(b8:Laid w)(B:EV s)(fO:s.funs.length<=100000)(fP:s.eg.length<=100000):am x7 GA [Γ ae] w λv w'=>Ext w w'/\∃g,av .i64 ao w' g v (EZ s)/\∀r,leads v r->w.heap.size<=r:=by
 have aa:=h.2.2.2.1;have fQ:=aa.vars;have fR:=aa.eW.2.1;have c3:=P6 aa;have c4:=P7 aa;obtain⟨⟨fS,fU,fV,fW,en⟩,_⟩:=id h;obtain⟨_,_,_,_,b9,ca,_,_,c6,_,_,_,⟨cc,c7⟩,cd,c8⟩:=id en;have fX:b9.length=s.funs.length:=c7.1;have fY:ca.length=s.eg.length:=c8.1;refine gV func14 ?_;refine bf λg1 V fZ cg a6=>?_;have a6:af V g1 cI [Γ ae]:=a6;rw[aw (v:=Γ ae) Ψ (a6.Qz rfl),dc cI.u];simp only[Z5,a1];rw[aw (v:=Γ ae) Ψ (a6.Qz rfl)];refine(rA (h.ext cg)).mono ?_;rintro _ gb _ ⟨rfl,c9⟩;refine ee (k:=.i64) ay.u ao.i rfl λv4 gc gd gf da db=>?_;refine bo ay.i λgo eo aJ dd M=>?_;have gg:=cg.size;have z3:=c9.size;have z4:=da.size;have bx:=(c9.trans da).trans dd;have M:af eo go ay [.slice ν 0 0]:=M;refine hL.put (w:=w) (g1:=g1) (cg.trans bx) Ω (a6.ext bx) M (db.ext dd) (λr z=>by obtain⟨e,_⟩:=bQ db z;omega) λgh gi ch=>?_;rw[aw (v:=Γ ae) Ψ (ch.2.1.Qz rfl)];refine(xC (h.ext ch.1)).mono ?_;rintro _ gj _ ⟨rfl,ep⟩;have aJ:w.heap.size<=go:=Ω
 refine ce.range n.sizes.length (λi bA=>hL w bA ae g1 go ([s.zero]++(s.vars.take i).flatMap jE)) Ω (by rw[List.take_zero,List.flatMap_nil,X5];exact ch.ext ep) ?_ ?_
 .rintro i bA er hi P es;obtain⟨x,aq⟩:=aI (l:=s.vars) (i:=i) Ω;have a7:([s.zero]++(s.vars.take i).flatMap jE).length<=100000:=by
   have:=ky (L:=s.vars.take i) (f:=jE) (b:=66) λa a8=>c3 a (S0 a8);rw[n9]at this;rw[r8];have N:min i s.vars.length*66<=64*66:=X1 _ Ω;simp only[V6];omega
  generalize ba:[s.zero]++(s.vars.take i).flatMap jE=ai at P a7;have bb:[s.zero]++(s.vars.take (i+1)).flatMap jE=ai++jE x:=by
   rw[<-ba,u7,aq,o8,S8,List.flatMap_singleton,Y6]
  refine bH Ω ?_;refine bo ah.i λaN et gk eu ci=>?_;have ci:af et aN ah [Δ 0]:=ci;refine bl (g:=aN) (o:=0) ah.i rfl rfl ci Ξ λde ev gl cj=>?_;have cj:af de aN ah [Δ (i:Int)]:=cj;have ew:Ext bA de:=eu.put ev Ω;intro gm df _ _;have ck:=cj.ext df;obtain⟨ak,bB,v,g,M,hm,au⟩:=P.ext (ew.trans df);obtain⟨gn,gq,gu,gv,aY,gw,L,gx,dg,gA,ey,ez,gB,gC⟩:=(h.ext ak).1.parts;have I:∀{O:x3}{K:x1->Prop},af O g1 cI [Γ ae]->K (Γ ae)->ac x7 (u5 cI (Γ g1)) O K:=λB ax=>by
   rw[aw (v:=Γ ae) Ψ (B.Qz rfl)];exact ax
  have bc:∀{O:x3}{K:x1->Prop},af O aN ah [Δ (i:Int)]->K (Δ (i:Int))->ac x7 (u5 ah (Γ aN)) O K:=λB ax=>by
   rw[aw (v:=Δ (i:Int)) Ψ (B.Qz rfl)];exact ax
  rw[aw (v:=v) Ψ (M.Qz rfl)];refine I bB ?_;rw[aQ cq.p 1 dg rfl];refine I bB ?_;rw[aQ cq.p 2 dg rfl];refine bc ck ?_;rw[fN (y:=(i:Int)) (i:=i) rfl an.u ah.i Ψ ez.ls (rz Ω)];refine I bB (bc ck ?_);have bD:t.bR[fg s i+0]?=σ x.gone:=by rw[h.2.1,pQ aq Ω];rfl
  refine(na (i:=fg s i) ey rfl bD).mono ?_;rintro _ gE _ ⟨rfl,cl⟩;refine⟨.inl cl,?_⟩;refine ee (k:=.i64) ay.u ao.i rfl λgF gH gI gJ dh eA=>?_;refine⟨.inl (cl.trans dh),?_⟩;have aR:=cl.trans dh;have Q:=hm.ext aR;refine gD ay.u ao.i rfl Q eA.ls Θ Θ λcm eB cn S cp W=>?_;have eC:=ak.size;have gK:=aR.size;have bd:∀r,leads cm r->w.heap.size<=r:=λr z=>(cp r z).elim (au r) λh=>Ω
  have al:Ext w cn:=(ak.trans aR).then W λr z he=>by have:=au r he;omega
  have di:=side (ck.ext aR) Q Φ W;have bF:=side (bB.ext aR) Q Φ W;have cr:=side (M.ext aR) Q Φ W;refine⟨.inr ⟨md Ψ (di.Qz rfl),md Ψ (bF.Qz rfl),trivial⟩,?_⟩;refine(h3 (i:=(i:Int)) (h.ext al)).mono ?_;rintro _ gL _ ⟨⟨gM,gN,rfl,dk⟩,bx⟩;refine ll.mono ?_;rintro _ dl _ ⟨eD,dm,rfl,gO,cu⟩;have dn:=kd dk Ω (by rw[r9];exact aq);have dp:=bx.trans eD;have gP:=uG x;have gQ:=(aa.var i x _ aq (x6 hi)).1;have gR:=aa.eW.2.2 _ (T2 hi);refine(CX (L:=aF x) (lk (g:=dm) dk.1) (λk vs w hk=>by
    obtain⟨v,ad,rfl⟩:=hk;exact⟨v,by rw[<-dn,x8,ad];rfl,rfl⟩) (λa b bD dq=>⟨dq.1.ab bD λh=>by have:=cu.lt;have h:dl.heap.size<=dm:=h;omega,iI bD (λh=>by have h:dl.heap.size<=0:=h;have:=cu.lt;omega) dq.2⟩) ⟨cu,b8.ext (al.trans dp)⟩ (by rw[<-dn,u9]) Ω).mono ?_
  rintro gS gU _ ⟨eE,gW,_,eF⟩;have X:=dp.trans eE;refine(uI (S.ext X) eF Θ).mono ?_;rintro bG be _ ⟨C,⟨dr,az⟩,bg⟩;have eH:=al.size;have gX:=X.size;have bI:∀r,leads bG r->w.heap.size<=r:=λr z=>(bg r z).elim (bd r) λh=>Ω
  have aC:Ext w be:=(al.trans X).then C λr z he=>by have:=bd r he;omega
  have eI:=side (di.ext X) (S.ext X) Φ C;have cw:=side (bF.ext X) (S.ext X) Φ C;have bJ:=side (cr.ext X) (S.ext X) Φ C;refine hL.put (w:=w) (g1:=g1) aC aJ cw bJ az bI λbL aD bh=>?_;have ds:=rK eI bJ Φ aD;refine I bh.2.1 (bc ds ?_);refine(h3 (i:=(i:Int)) (h.ext bh.1)).mono ?_;rintro _ eJ _ ⟨⟨eK,eL,rfl,dt⟩,eN⟩;refine ll.mono ?_;rintro _ gY _ ⟨eO,du,rfl,eP,eQ⟩;have dv:=eN.trans eO;have dw:=kd dt Ω (by rw[r9];exact aq);have dx:=bh.ext dv;let dy:=ai++[x.gone]++nu (aF x);refine jf.old ⟨Nat,false,ic,#[Γ du],_,_,_,_,λq w'=>hL w w' ae g1 go (dy++(jD x).take q)/\af w' aN ah [Δ (i:Int)],λ_ _ _=>False,rfl,(lk (g:=du) dt.1).s,?_,
   λ_ _ J h=>⟨h.1.ext J,h.2.ext J⟩,λ_ _ _ J h=>⟨h.1.ext J,h.2.ext J⟩,λ_ _ _ _ _ h=>h,⟨eQ,b8.ext dx.1⟩,⟨by rw[List.take_zero,X5];exact dx,ds.ext dv⟩,?_,?_,λ_ _ h=>h.elim,λ_ _ _ h=>h.elim⟩
  .rintro _ _ _ _ ⟨_,_,_,_,rfl⟩;rfl
  .rintro _ q _ dz ⟨dA,eR⟩ ⟨bM,rfl,y,bN,eS⟩ ⟨bO,cz⟩;cases eS;intro gZ cA _ _;have cB:=bO.ext cA;have cC:=cz.ext cA;have dD:(aF x)[q]?=σ (y:Int):=by rw[<-dw,x8,bN];rfl
   have dE:=x5 dD;have g0:0<=(y:Int)/\(y:Int)<x.un.length:=by
    unfold aF at dE;obtain⟨h1,_⟩:=U5.1 dE;obtain⟨j,aE,e⟩:=j5.1 h1;have:=T6.1 aE;omega
   refine I cB.2.1 (bc cC ?_);refine(oE (i:=(i:Int)) (v:=(y:Int)) (h.ext cB.1)).mono ?_;rintro _ g2 _ ⟨rfl,bP⟩;have eU:fh n i y:=⟨Ω,Ω,Ω,by rw[r9,u4,x6 hi,V1];omega⟩;have eV:h2 s (i:Int).toNat (y:Int).toNat=x.un.getD y 0:=by
    rw[r9,r9];unfold h2;rw[aq]
   have bi:=cB.ext bP;rw[if_pos eU,eV,bq,br];refine I bi.2.1 (bc (cC.ext bP) ?_);refine(uk (i:=(i:Int)) (h.ext bi.1)).mono ?_;rintro _ g3 _ ⟨rfl,bS⟩;have eX:(decide (0<=(i:Int))&&kc s (i:Int).toNat)=decide (x.gone≠0):=by
    rw[decide_eq_true Ω,U6,r9];unfold kc;rw[aq]
   have bT:=(cA.trans bP).trans bS;rw[eX,bE,bZ];refine⟨λaG=>?_,λaG=>?_⟩
   .have aS:¬x.gone≠0:=by simpa using aG
    obtain⟨bk,cD,v5,eY,ap,E,bn⟩:=bi.ext bS;rw[aw (v:=v5) Ψ (ap.Qz rfl)];have eZ:((jD x).take q).length<=100:=by rw[n9];unfold jD;rw[if_neg aS,u9];omega
    refine uH E (by simp only[dy,r8,p3,V6];omega) λe0 cE e1 G cF cG=>?_;have e2:=bk.size;have cH:Ext w cE:=bk.then G λr z he=>by have:=bn r he;omega
    refine hL.put (w:=w) (g1:=g1) cH aJ (side cD E Φ G) (side ap E Φ G) cF (λr z=>(cG r z).elim (bn r) λh=>Ω) λcJ bU aT=>?_;have e3:=rK (side ((cC.ext bP).ext bS) E Φ G) (side ap E Φ G) Φ bU;have cK:=eP;have e4:∀{b:Nat}{e:p8}{cs:List x1},af dz b e cs->ao≠e->ay≠e->af cJ b e cs:=λB h1 N=>rK (side (B.ext bT) E h1 G) (side ap E Φ G) N bU;refine⟨⟨e4 dA Φ Φ,b8.ext aT.1⟩,⟨?_,e3⟩,λh=>by cases h⟩;rw[u7,show(jD x)[q]?=σ (x.un.getD y 0) by unfold jD;rw[if_neg aS,x8,dD];rfl,o8,<-Y6];exact aT
   .have aS:x.gone≠0:=by simpa using aG
    refine⟨⟨dA.ext bT,eR.ext bT⟩,⟨?_,cz.ext bT⟩,λh=>by cases h⟩;have e:jD x=[]:=by unfold jD;rw[if_pos aS]
    rw[e,List.take_nil]at bi ⊢;exact bi.ext bS
  .rintro q dz rfl ⟨bO,cz⟩;rw[aO];refine es _ ?_;rw[bb];have:(jD x).take (fs eK eL).length=jD x:=j6 (by
    unfold jD;split
    .simp
    .rw[u9,<-dw,u9];exact o4 _)
   rw[this]at bO;unfold jE;rw[<-Y6,<-Y6];exact bO
 .rintro bA er P;refine ct Ω ?_;rw[j6 Ω]at P;have e5:([s.zero]++s.vars.flatMap jE).length<=100000:=by
   have:=ky (L:=s.vars) (f:=jE) (b:=66) c3;have N:s.vars.length*66<=64*66:=X1 _ Ω;rw[r8];simp only[V6];omega
  have I:∀{O:x3}{K:x1->Prop},af O g1 cI [Γ ae]->K (Γ ae)->ac x7 (u5 cI (Γ g1)) O K:=λB ax=>by
   rw[aw (v:=Γ ae) Ψ (B.Qz rfl)];exact ax
  refine I P.2.1 ?_;rw[aQ cq.p 3 (c6.ext P.1) rfl,ea fa.u (cc.ext P.1)];unfold EZ;generalize[s.zero]++s.vars.flatMap jE=cO at P e5;refine ce.range b9.length (λj bV=>hL w bV ae g1 go (cO++(s.funs.take j).flatMap (iC s))) Ω (by rw[List.take_zero,List.flatMap_nil,X5];exact P) ?_ ?_
  .rintro j bV e6 aE H e7;obtain⟨f,ag⟩:=aI (l:=s.funs) (i:=j) Ω;obtain⟨y,bN⟩:=aI (l:=b9) aE;obtain⟨⟨⟨bC,aV⟩,_⟩,e8,_⟩:=c7.2 j y f bN ag;have bX:=e8.ls;obtain⟨aW,cL,_⟩:=aa.funs f (x5 ag);have bY:dF f.aj:=by rw[cL];exact m8 aa.eW.2.2 λv ad=>⟨(aW.scope.1 v ad).1,aW.vars v ad⟩
   have g4:f.sc.length<=6:=aW.scope.2;have e9:f.aj.length=f.sc.length:=by rw[cL];unfold bW;rw[u9]
   have fb:b3 f.aj:=⟨Ω,bY⟩;have g5:=iK bY;have g6:aP f.aj<=4096:=by rw[cL];exact aW.small
   have a7:(cO++(s.funs.take j).flatMap (iC s)).length<=1000000000:=by
    have:=ky (L:=s.funs.take j) (f:=iC s) (b:=4103) λa a8=>c4 a (S0 a8);rw[n9]at this;have N:min j s.funs.length*4103<=100000*4103:=X1 _ Ω;rw[r8];omega
   generalize ba:cO++(s.funs.take j).flatMap (iC s)=ai at H a7;have bb:cO++(s.funs.take (j+1)).flatMap (iC s)=ai++iC s f:=by
    rw[<-ba,u7,ag,o8,S8,List.flatMap_singleton,Y6]
   refine bH Ω ?_;refine c5 (λdG=>hL w dG ae g1 go (ai++iC s f)) (λdG fc=>by rw[aO];exact e7 _ (by rw[bb];exact fc)) λaB dH=>?_;rw[dj rfl fa.u dC.i (cc.ext H.1) aE,bK dC.p dC.i rfl ((cc.ext H.1).range bN)];refine bo ah.i λY dI g7 b0 aX=>?_;have aX:af dI Y ah [Δ 0]:=aX;refine bo dC.i λb1 dJ g8 dK dL=>?_;refine bl (g:=Y) (o:=0) ah.i rfl rfl (aX.ext dK) Ξ λcM dM g9 cN=>?_;have cN:af cM Y ah [Δ (j:Int)]:=cN;have ha:=b0.size;have hb:=aX.lt;have cP:=(aV.ext H.1).ls;have fd:=bX.ext H.1;refine cb (vs:=mm y) dC.i rfl rfl (by intro u hu;simp[mm]at hu;rcases hu with rfl|rfl|rfl<;>first|rfl|exact cP.cells.2|exact fd.cells.2) (dL.ab dM λhe=>by have he:b1=Y:=he;omega) λdN dO hc fe=>?_;have dP:=cN.ab dO λhe=>by have he:Y=b1:=he;omega
   have ff:Ext bV dN:=((b0.trans dK).then dM λr z he=>by have he:r=Y:=he;omega).put dO Ω;have cR:=H.ext ff;have dQ:∀{O:x3}{K:x1->Prop},af O Y ah [Δ (j:Int)]->K (Δ (j:Int))->ac x7 (u5 ah (Γ Y)) O K:=λB ax=>by
    rw[aw (v:=Δ (j:Int)) Ψ (B.Qz rfl)];exact ax
   refine I cR.2.1 (dQ dP ?_);refine(pW (j:=(j:Int)) (h.ext cR.1)).mono ?_;rintro _ dR _ ⟨rfl,bp⟩;have dS:=cR.ext bp;have fi:(decide (0<=(j:Int))&&eM s (j:Int).toNat)=decide (f.live≠0):=by
    rw[decide_eq_true Ω,U6,r9];unfold eM;rw[ag]
   rw[fi,bE,bZ];refine⟨λaG=>dH _ ?_,λaG=>?_⟩
   .have aS:¬f.live≠0:=by simpa using aG
    unfold iC;rw[if_neg aS,X5];exact dS
   have cK:f.live≠0:=by simpa using aG
   obtain⟨cS,fk,fm,ge,cT,bt,dT⟩:=id dS;have fo:=dP.ext bp;have dU:af dR b1 dC [y.aK,y.szv,Δ (y.at_:Int)]:=fe.ext bp;rw[aw (v:=fm) Ψ (cT.Qz rfl),aM dC.p 0 dU rfl];refine(uI bt (aV.ext cS) Ω).mono ?_;rintro bG be _ ⟨C,⟨dr,az⟩,bg⟩;have hd:=cS.size;have aC:Ext w be:=cS.then C λr z he=>by have:=dT r he;omega
   refine hL.put (w:=w) (g1:=g1) aC aJ (side fk bt Φ C) (side cT bt Φ C) az (λr z=>(bg r z).elim (dT r) λh=>Ω) λbL aD bh=>?_;have dV:∀{b:Nat}{e:p8}{cs:List x1},af dR b e cs->ao≠e->ay≠e->af bL b e cs:=λB h1 N=>rK (side B bt h1 C) (side cT bt Φ C) N aD;have fp:=dV fo Φ Φ;have dW:=dV dU Φ Φ;rw[aU dC.p rfl,bK (cs:=[y.szv]) bz.p bz.i rfl (λq u bM=>by
    cases q with
    |zero=>cases bM;exact dW.cell (o:=0+1) rfl
    |succ q=>simp at bM)]
   refine tm.mono ?_;rintro _ hg _ ⟨cU,dX,rfl,hj,fq⟩;have cV:=bh.ext cU;have ft:=tk (g:=dX) (B0:=w.heap.size) (sv:=y.szv) fb;refine nG.old ⟨Nat,false,k7,#[Γ dX],_,_,_,_,λq w'=>hL w w' ae g1 go (ai++nu f.sc++(((bj f.aj).take q).filter (fj s f.sc)).map (bm f.aj f.cs))/\af w' Y ah [Δ (j:Int)]/\af w' b1 dC [y.aK,y.szv,Δ (y.at_:Int)],λ_ _ _=>False,rfl,ft.s,
    ?_,λ_ _ J h=>⟨h.1.ext J,h.2.1.ext J,Y8 h.2.2 J.size⟩,λ_ _ _ J h=>⟨h.1.ext J,h.2.1.ext J,h.2.2.ext J⟩,λ_ _ _ _ _ h=>h,⟨fq,bX.ext cV.1,cV.1.size⟩,⟨by rw[List.take_zero,List.filter_nil,List.map_nil,X5];exact cV,fp.ext cU,dW.ext cU⟩,?_,?_,λ_ _ h=>h.elim,λ_ _ _ h=>h.elim⟩
   .rintro _ _ _ _ ⟨_,_,_,_,rfl,_⟩;rfl
   .rintro _ aL q _ dY ⟨dZ,fu,fv⟩ ⟨bM,rfl,hl,gt,fw,hn,eb⟩ ⟨b2,cW,cX⟩;cases fw;have b4:(bj f.aj)[q]?=σ (cQ f.aj (q:Int)):=pu bY Ω;generalize cQ f.aj (q:Int)=tl at b4 eb;intro ho b5 _ _;have cY:=b2.ext b5;have ec:=(eb.ext b5).ls;refine I cY.2.1 (dQ (cW.ext b5) ?_);refine(um (j:=j) (h.ext cY.1) ec).mono ?_;rintro _ hp _ ⟨rfl,cZ⟩;have fx:=ju bY b4;have fy:(hh s j tl).isSome=true:=by unfold hh;rw[ag];simp only;rw[if_pos cK,fx];rfl
    have fz:lG s j tl=bm f.aj f.cs tl:=by unfold lG;rw[ag]
    have bw:=cY.ext cZ;rw[if_pos fy,fz,bq,br];refine I bw.2.1 ?_;have ed:=b5.trans cZ;rw[bK dC.p dC.i rfl (cX.ext ed).range];refine(P5 (at_:=(y.at_:Int)) (h.ext bw.1) ((aV.ext bw.1).ls) (bX.ext bw.1) (λv ad=>⟨(aW.scope.1 v ad).1,aW.vars v ad⟩) (ec.ext cZ) (by rw[vV b4,e9])).mono ?_;rintro _ hq _ ⟨rfl,ef⟩;have eh:=bw.ext ef;have aZ:=ed.trans ef;have ei:((bj f.aj).take (q+1)).filter (fj s f.sc)=((bj f.aj).take q).filter (fj s f.sc)++(if fj s f.sc tl=true then[tl]else[]):=by
     rw[u7,b4,o8,List.filter_append];congr 1;cases aA:fj s f.sc tl<;>simp[aA]
    rw[bZ];refine⟨λc0=>?_,λc0=>?_⟩
    .obtain⟨bk,cD,v5,eY,ap,E,bn⟩:=eh;rw[aw (v:=v5) Ψ (ap.Qz rfl)];have eZ:(((bj f.aj).take q).filter (fj s f.sc)).length<=4096:=by
      have:=T9 (fj s f.sc) ((bj f.aj).take q);rw[n9]at this;omega
     refine uH E (by simp only[r8,p3,u9];omega) λe0 cE e1 G cF cG=>?_;have e2:=bk.size;have cH:Ext w cE:=bk.then G λr z he=>by have:=bn r he;omega
     refine hL.put (w:=w) (g1:=g1) cH aJ (side cD E Φ G) (side ap E Φ G) cF (λr z=>(cG r z).elim (bn r) λh=>Ω) λcJ bU aT=>?_;have c1:∀{b:Nat}{e:p8}{cs:List x1},af dY b e cs->ao≠e->ay≠e->af cJ b e cs:=λB h1 N=>rK (side (B.ext aZ) E h1 G) (side ap E Φ G) N bU;refine⟨⟨c1 dZ Φ Φ,bX.ext aT.1,aT.1.size⟩,⟨?_,c1 cW Φ Φ,c1 cX Φ Φ⟩,λh=>by cases h⟩;rw[ei,if_pos c0,Z3,List.map_singleton,<-Y6];exact aT
    .refine⟨⟨dZ.ext aZ,fu.ext aZ,Y8 fv aZ.size⟩,⟨?_,cW.ext aZ,cX.ext aZ⟩,λh=>by cases h⟩;rw[ei,if_neg (by rw[c0];decide),X5];exact eh
   .rintro q dY rfl ⟨b2,_⟩;refine dH _ ?_;rw[j6 Ω]at b2;unfold iC;rw[if_pos cK,<-Y6];exact b2
  .rintro bV e6 H;refine ct Ω ?_;rw[j6 Ω]at H;have fA:(cO++s.funs.flatMap (iC s)).length<=1000000000:=by
    have:=ky (L:=s.funs) (f:=iC s) (b:=4103) c4;have N:s.funs.length*4103<=100000*4103:=X1 _ Ω;rw[r8];omega
   refine I H.2.1 ?_;rw[aQ cq.p 4 (c6.ext H.1) rfl,ea sG.u (cd.ext H.1)];generalize cO++s.funs.flatMap (iC s)=b6 at H fA;refine ce.range ca.length (λj b7=>hL w b7 ae g1 go (b6++(s.eg.take j).flatMap mu)) Ω (by rw[List.take_zero,List.flatMap_nil,X5];exact H) ?_ ?_
   .rintro j b7 fB aE Z fD;obtain⟨e,he⟩:=aI (l:=s.eg) (i:=j) Ω;obtain⟨x,J⟩:=aI (l:=ca) aE;obtain⟨bp,⟨⟨bC,aV⟩,_⟩,⟨hr,ej⟩,_⟩:=c8.2 j x e J he;obtain⟨hs,dL⟩:=B e (x5 he);have a7:(b6++(s.eg.take j).flatMap mu).length<=10000000000:=by
     have:=ky (L:=s.eg.take j) (f:=mu) (b:=2004) λa a8=>by
      obtain⟨h1,N⟩:=B a (S0 a8);unfold mu;simp only[r8,p3,j9,List.length_nil];omega
     rw[n9]at this;have N:min j s.eg.length*2004<=100000*2004:=X1 _ Ω;rw[r8];omega
    generalize ba:b6++(s.eg.take j).flatMap mu=ai at Z a7;have bb:b6++(s.eg.take (j+1)).flatMap mu=ai++mu e:=by
     rw[<-ba,u7,he,o8,S8,List.flatMap_singleton,Y6]
    refine bH Ω ?_;rw[dj rfl sG.u gp.i (cd.ext Z.1) aE,bK gp.p gp.i rfl ((cd.ext Z.1).range J)];refine bo gp.i λge dI ht b0 aX=>?_;have cP:=(aV.ext Z.1).ls;have fE:=(ej.ext Z.1).ls;refine cb (vs:=xd x) gp.i rfl rfl (by intro u hu;simp[xd]at hu;rcases hu with rfl|rfl|rfl<;>first|rfl|exact cP.cells.2|exact fE.cells.2) aX λdJ fF hy a2=>?_;have fG:Ext b7 dJ:=b0.put fF Ω;intro cM ek _ _;have a2:af cM ge gp [Δ x.v,x.aK,x.bv]:=a2.ext ek;obtain⟨ak,U,v,g,M,hm,au⟩:=Z.ext (fG.trans ek);rw[aw (v:=v) Ψ (M.Qz rfl),aM gp.p 0 a2 rfl,aM gp.p 1 a2 rfl,aM gp.p 2 a2 rfl,bp];refine pn (l:=[-1,e.v]) ay.u ao.i Ω rfl Ψ λhz hA dN hB aH fH=>?_;refine⟨.inl aH,?_⟩;have Q:=hm.ext aH;refine gD ay.u ao.i rfl Q fH.ls Θ Θ λcm eB cn S cp W=>?_;have eC:=ak.size;have hC:=aH.size;have bd:∀r,leads cm r->w.heap.size<=r:=λr z=>(cp r z).elim (au r) λh=>Ω
    have al:Ext w cn:=(ak.trans aH).then W λr z he=>by have:=au r he;omega
    have c2:=side (a2.ext aH) Q Φ W;have bF:=side (U.ext aH) Q Φ W;have cr:=side (M.ext aH) Q Φ W;refine⟨.inr ⟨md Ψ (c2.cell (o:=0+2) rfl),Go.Vc.jw λK=>aU gp.p rfl,md Ψ (c2.cell (o:=0+1) rfl),Go.Vc.jw λK=>aU gp.p rfl,trivial⟩,?_⟩;refine(uI S (aV.ext al) Θ).mono ?_;rintro bG be _ ⟨C,⟨dr,az⟩,bg⟩;have eH:=al.size;have bI:∀r,leads bG r->w.heap.size<=r:=λr z=>(bg r z).elim (bd r) λh=>Ω
    have aC:Ext w be:=al.then C λr z he=>by have:=bd r he;omega
    have fI:=side c2 S Φ C;have cw:=side bF S Φ C;have bJ:=side cr S Φ C;refine⟨.inr ⟨md Ψ (fI.cell (o:=0+2) rfl),Go.Vc.jw λK=>aU gp.p rfl,trivial⟩,?_⟩;refine(uI az (ej.ext aC) (by simp[p3];omega)).mono ?_;rintro hD bL _ ⟨aD,⟨hE,fJ⟩,fK⟩;have hF:=aC.size;have fL:Ext w bL:=aC.then aD λr z he=>by have:=bI r he;omega
    refine hL.put (w:=w) (g1:=g1) fL aJ (side cw az Φ aD) (side bJ az Φ aD) fJ (λr z=>(fK r z).elim (bI r) λh=>Ω) λeJ hG fM=>?_;rw[aO];refine fD _ ?_;rw[bb];unfold mu;rw[<-Y6,<-Y6];exact fM
   .rintro b7 fB Z;refine ct Ω ?_;rw[j6 Ω]at Z;obtain⟨ak,U,v,g,M,hm,au⟩:=Z;rw[aw (v:=v) Ψ (M.Qz rfl)];intro hH em _;exact⟨ak.trans em,g,hm.ext em,au⟩
end
theorem nv{t:p8}{cx cy:Bool}{a b:Bool}{K:x1->Prop}(e:x7.underlying t=σ .bool):ac x7 (aN .neq t cx cy (.bool a) (.bool b)) w K=K (.bool !(a == b)):=
 Af (λ_=>rfl) rfl λw' _=>run_equalIn_bool' (P:=x7) (w:=w') 9999 t a b e
section
variable{w:x3}{ae gT:Nat}{A R:ak}{n:aJ}{s:au}{t:aC}{fd:x1}
end
def oM(aj t:Λ):Int:=(cJ aj t 0).getD 0
def lJ(s:au)(f:b7)(pos:Nat)(v:Int):Λ:=(cm s f.sc pos v).map (oM f.aj)
def kW(s:au)(sc:Λ)(pos:Nat)(v:Int)(t:Λ):Bool:=decide (t.getD pos 0=v)&&fj s sc t
section
variable{k:Int}{sizes:Λ}{s:au}{f:b7}{pos:Nat}{v:Int}
theorem P8:fj s sc t=true↔ ∀(p:Nat)u w,sc[p]?=σ u->t[p]?=σ w->w∈bw s u:=by
 unfold fj;rw[List.all_eq_true];constructor
 .intro h p u w hu hw;have:=h (u,w) (x5 (List.getElem?_zip_eq_some.2 ⟨hu,hw⟩));unfold bw;cases J:s.vars[u.toNat]? with
  |none=>simp[J]at this
  |some x=>simpa[J]using this
 .rintro h ⟨u,w⟩ hm;obtain⟨p,a⟩:=X7.1 hm;obtain⟨h1,e⟩:=List.getElem?_zip_eq_some.1 a;have:=h p u w h1 e;unfold bw at this;simp only;cases J:s.vars[u.toNat]? with
  |none=>rw[J]at this;cases this
  |some x=>rw[J]at this;simpa using this
theorem P9(r:bx k sizes s)(ag:f∈s.funs)(B:pos<f.sc.length)(ad:∀u,f.sc[pos]?=σ u->v∈bw s u):cm s f.sc pos v=(bj f.aj).filter (kW s f.sc pos v):=by
 obtain⟨x,y,_⟩:=r.funs f ag;have q:=xQ r (λu hu=>⟨(x.scope.1 u hu).1,x.vars u hu⟩) ad;rw[<-y]at q;have h1:∀t∈bj f.aj,(nj (oG s pos v f.sc 0) t=true↔t∈cm s f.sc pos v):=λt a=>by rw[q,U5];exact⟨λh=>⟨a,h⟩,λh=>h.2⟩
 rw[q];refine List.filter_congr λt a=>?_;have C:t.length=f.sc.length:=by rw[sT a,y];simp[bW]
 rw[V9,h1 t a,xV,kW,U1,decide_eq_true_eq,P8];constructor
 .rintro⟨_,h⟩;obtain⟨u,hu⟩:=aI (l:=f.sc) B;obtain⟨w,hw⟩:=aI (l:=t) (i:=pos) Ω;have z:=h pos u w hu hw;rw[if_pos rfl]at z;refine⟨by rw[u4,hw];exact z,λp u' w' A E=>?_⟩;have:=h p u' w' A E;split at this
  .rename_i e;subst e;rw[this];exact ad u' A
  .exact this
 .rintro⟨h1,F⟩;refine⟨C,λp u w hu hw=>?_⟩;split
  .rename_i e;subst e;rw[u4,hw]at h1;exact h1
  .exact F p u w hu hw
end
section
variable{w:x3}{fd:x1}{k:Int}{sizes:Λ}{s:au}
theorem Qa{j:Int}(h:jA w fd k sizes s)(Z:bx k sizes s)(ak:dp s):am x7 IH [fd,Δ j,Δ pos,Δ v] w λr w'=>Ext w w'/\∃u,r= .tuple #[Δ u,.bool (en s j pos v).isSome]:=by
 have aG:=Z.vars;refine az func214 ?_;refine bf λg1 V aH G ao=>?_;have ab:=h.box G ao;obtain⟨szv,aJ,aK,aL,aN,aO,H,aP,_,ap,aQ,aR,ac,aT⟩:=id ab;refine aV (λr aa=>Ext V aa/\((r= .bool true/\en s j pos v=ν)\/(r= .bool false/\∃f u,0<=j/\0<=pos/\s.funs[j.toNat]?=σ f/\f.live≠0/\f.sc[pos.toNat]?=σ u))) ?_ λaB C=>?_
 .rintro _ aa ⟨z,⟨rfl,e⟩|⟨rfl,f,u,I,ad,ag,ae,hu⟩⟩
  .rw[bT,e];exact⟨G.trans z,0,rfl⟩
  .rw[a1];have af:=x5 ag;have K:=x5 hu;obtain⟨ai,aX,_⟩:=Z.funs f af;have L:=(ai.scope.1 u K).1;have aY:=ai.vars u K;have L:0<=u:=L;obtain⟨x,J⟩:=aI (l:=s.vars) (i:=u.toNat) Ω;rw[aM ba.p 6 (H.ext z) rfl];refine kz (i:=j.toNat) Ω fI.u eO.i (b0 ac z) (by rw[x8,ag];rfl) λb o cs M N=>?_;obtain⟨O,aq,v3,rfl,h1,au,av⟩:=np N;rw[aU eO.p rfl,aU bb.p rfl,aw (v:=O) Ψ (M 0 _ rfl),fN (y:=pos) (i:=pos.toNat) Ω an.u ah.i Ψ (eG h1) hu,aM ba.p 3 (H.ext z) rfl];refine mQ (α:=Λ) (a:=aF x) (i:=u.toNat) rfl Ω dx.u an.i Ψ (b0 ap z) (by rw[x8,J];rfl) λaZ ax=>?_;refine(xH (eG ax)).mono ?_;rintro _ a2 _ ⟨rfl,ay⟩;refine⟨(G.trans z).trans ay,u,?_⟩;have aA:=ak f af ae u K x J;have Q:en s j pos v=(ek s u v).map λx=>(f,u,x):=by
    unfold en;rw[if_pos ⟨I,ad⟩,ag];simp only;rw[if_pos ae,hu]
   have aC:ek s u v=if v∈aF x then σ x else ν:=by
    unfold ek;rw[if_pos L,J];simp only[aA,true_and]
   rw[Q,aC];by_cases E:v∈aF x
   .rw[if_pos E,decide_eq_true E];rfl
   .rw[if_neg E,decide_eq_false E];rfl
 have R:∀{P:Prop},(¬∃f u,0<=j/\0<=pos/\s.funs[j.toNat]?=σ f/\f.live≠0/\f.sc[pos.toNat]?=σ u)->(en s j pos v=ν->P)->P:=λe aD=>aD (by
  cases Q:en s j pos v with
  |none=>rfl
  |some q=>
   obtain⟨f,u,x⟩:=q;obtain⟨S,U,a3,a4,a5,_⟩:=nr Q;exact absurd ⟨f,u,S,U,a3,a4,a5⟩ e)
 refine ab.load λu hu=>?_;refine(PK (j:=j) hu).mono ?_;rintro _ a6 _ ⟨rfl,A⟩;have same:∀{f W:b7},s.funs[j.toNat]?=σ f->s.funs[j.toNat]?=σ W->W=f:=λa b=>by rw[a]at b;exact(Z0 b).symm
 rw[bE,bZ];refine⟨λX=>R (λ⟨f,u,S,U,a3,a4,a5⟩=>?_) λe=>C _ _ ⟨A,.inl ⟨rfl,e⟩⟩,λY=>?_⟩
 .unfold eM at X;rw[a3]at X;simp[S,a4]at X
 have Y:0<=j/\eM s j.toNat=true:=by simpa using Y
 obtain⟨I,B⟩:=Y;obtain⟨f,ag,aE⟩:∃f,s.funs[j.toNat]?=σ f/\f.live≠0:=by
  unfold eM at B;cases ag:s.funs[j.toNat]? with
  |none=>rw[ag]at B;cases B
  |some f=>rw[ag]at B;exact⟨f,rfl,by simpa using B⟩
 rw[aS,al];refine⟨λa7=>R (λ⟨_,_,_,U,_⟩=>Ω) λe=>C _ _ ⟨A,.inl ⟨rfl,e⟩⟩,λad=>?_⟩;rw[aM ba.p 6 (H.ext A) rfl];refine kz (i:=j.toNat) Ω fI.u eO.i (b0 ac A) (by rw[x8,ag];rfl) λb o cs M N=>?_;obtain⟨O,aq,v3,rfl,h1,au,av⟩:=np N;rw[aU eO.p rfl,aU bb.p rfl,aw (v:=O) Ψ (M 0 _ rfl),aW an.u (eG h1),cn];by_cases aj:(f.sc.length:Int)<=pos
 .refine R (λ⟨W,u,_,_,a3,_,a5⟩=>?_) λe=>C _ _ ⟨A,.inl ⟨by rw[decide_eq_true aj],e⟩⟩;obtain rfl:=same ag a3;have:=(x4.1 a5).1;omega
 .obtain⟨u,hu⟩:=aI (l:=f.sc) (i:=pos.toNat) Ω;exact C _ _ ⟨A,.inr ⟨by rw[decide_eq_false aj],f,u,I,Ω,ag,aE,hu⟩⟩
theorem E1{pos:Nat}{f:b7}(h:jA w fd k sizes s)(M:bx k sizes s)(ag:s.funs[j]?=σ f)(aK:pos<f.sc.length)(ad:∀u,f.sc[pos]?=σ u->v∈bw s u):
  am x7 Hk [fd,Δ (j:Int),Δ (pos:Int),Δ v] w λr w'=>Ext w w'/\aH .i64 w' r (lJ s f pos v)/\∀q,leads r q->w.heap.size<=q:=by
 have bB:=M.vars;have U:=x5 ag;obtain⟨N,ai,_⟩:=M.funs f U;have O:=(lH M U).1;have aN:f.aj.length=f.sc.length:=by rw[ai];simp[bW]
 have bC:=iK O;have bD:(bj f.aj).length<=4096:=by
  have P:aP (bW sizes f.sc)<=4096:=N.small;rw[<-ai]at P;omega
 refine az func84 ?_;refine bf λg1 V bE W aQ=>?_;obtain⟨szv,bF,bG,bI,bJ,bL,ak,bM,_,aR,bN,bO,aS,bP⟩:=h.box W aQ;rw[aM ba.p 6 ak rfl];refine kz (i:=j) rfl fI.u eO.i aS (by rw[x8,ag];rfl) λb o cs G aT=>?_;obtain⟨X,Y,v3,rfl,h1,P,aX⟩:=np aT;rw[aU eO.p rfl,bK (cs:=[X,Y,v3]) bb.p bb.i rfl (λq u z=>by
  have:q<3:=(x4.1 z).1
  match q,this,z with
  |0,_,z=>cases z;exact G 0 _ rfl
  |1,_,z=>cases z;exact G 1 _ rfl
  |2,_,z=>cases z;exact G 2 _ rfl)]
 refine bo bb.i λbQ aa bR aY aZ=>?_;have a1:∀u∈[X,Y,v3],u.oneCell'=true:=λu hu=>by
  simp only[V4,List.not_mem_nil,or_false]at hu;rcases hu with rfl|rfl|rfl
  .exact jp h1
  .exact jp P
  .exact jp aX
 refine cb (vs:=[X,Y,v3]) bb.i rfl rfl a1 aZ λa2 a6 bS al=>?_;have ao:Ext V a2:=aY.put a6 Ω;have s1:=eG h1;have a7:=eG P;rw[aM bb.p 1 al rfl];refine(A7 f.aj (a7.ext ao) ⟨by rw[aN];exact N.scope.2,O⟩).mono ?_;rintro bT H _ ⟨ap,aq⟩;have Z:=ao.trans ap;rw[jq dx.u aq];refine b5.range (bj f.aj).length (λi out E=>Ext H E/\(∃g,av .i64 ah E g out ((((bj f.aj).take i).filter (kW s f.sc pos v)).map (oM f.aj)))/\∀r,leads out r->H.heap.size<=r) Ω ⟨Ext.refl _,⟨0,av.nil _ _ _ _⟩,λr G=>by obtain⟨_,_,_,e,_⟩:=G;cases e⟩ ?_ ?_
 .rintro q out E a8 z ⟨A,⟨g,hm⟩,Q⟩ bc;have I:(bj f.aj)[q]?=σ (cQ f.aj (q:Int)):=pu O Ω;generalize cQ f.aj (q:Int)=tl at I;have bU:=vV I;have bd:=ju O I;have bg:oM f.aj tl=(q:Int):=by unfold oM;rw[bd];rfl
  have R:=Z.trans A;have au:((bj f.aj).take (q+1)).filter (kW s f.sc pos v)=((bj f.aj).take q).filter (kW s f.sc pos v)++(if kW s f.sc pos v tl=true then[tl]else[]):=by
   rw[u7,I,o8,List.filter_append];congr 1;cases aA:kW s f.sc pos v tl<;>simp[aA]
  obtain⟨ab,aw⟩:=aI (l:=tl) (i:=pos) Ω;refine bH Ω ?_;refine aV (λax ay=>Ext H ay/\(∃g,av .i64 ah ay g ax ((((bj f.aj).take (q+1)).filter (kW s f.sc pos v)).map (oM f.aj)))/\∀r,leads ax r->H.heap.size<=r) (λ_ _ ac=>by rw[aO];exact bc _ _ ac) λaB K=>?_;refine mQ (α:=Λ) rfl rfl dx.u an.i Ψ (b0 aq A) I λaL S=>?_;have S:=eG S;rw[bh an.u ah.i Ψ S aw,be,aM bb.p 0 (al.ext (ap.trans A)) rfl,aW an.u (s1.ext R)];refine b5.range f.sc.length (λp ok ae=>Ext E ae/\ok= .bool (decide (ab=v)&&fj s (f.sc.take p) (tl.take p))) s1.le ⟨Ext.refl _,by simp[fj]⟩ ?_ ?_
  .rintro p _ ae bi bk ⟨B,rfl⟩ bl;obtain⟨u,af⟩:=aI (l:=f.sc) bk;obtain⟨y,aC⟩:=aI (l:=tl) (i:=p) Ω;have aD:=x5 af;have aE:=(N.scope.1 u aD).1;have aG:=N.vars u aD;have aG:u<sizes.length:=aG;have aE:0<=u:=aE;obtain⟨x,J⟩:=aI (l:=s.vars) (i:=u.toNat) Ω;have aJ:fj s (f.sc.take (p+1)) (tl.take (p+1))=(fj s (f.sc.take p) (tl.take p)&&decide (y∈aF x)):=by
    unfold fj;rw[u7,u7,af,aC,o8,o8,List.zip_append Θ,List.all_append];simp[J]
   refine bH Ω ?_;refine aV (λok bm=>Ext E bm/\ok= .bool (decide (ab=v)&&fj s (f.sc.take (p+1)) (tl.take (p+1)))) (λ_ _ ac=>by rw[aO];exact bl _ _ ac) λaB K=>?_;rw[bh an.u ah.i Ψ (s1.ext (R.trans B)) af];intro bV bn _ _;have L:=B.trans bn;rw[bZ];refine⟨λC=>?_,λC=>K _ _ ⟨L,by rw[aJ,<-Bool.and_assoc,C];rfl⟩⟩;rw[aM ba.p 3 (ak.ext (R.trans L)) rfl];refine mQ (α:=Λ) (a:=aF x) (i:=u.toNat) rfl Ω dx.u an.i Ψ (b0 aR (R.trans L)) (by rw[x8,J];rfl) λbX bp=>?_;rw[bh an.u ah.i Ψ (S.ext L) aC];refine(xH (eG bp)).mono ?_;rintro _ bY _ ⟨rfl,bq⟩;exact K _ _ ⟨L.trans bq,by rw[aJ,<-Bool.and_assoc,C,U6]⟩
  .rintro _ ae bi ⟨B,rfl⟩;rw[o7,j6 Ω];refine ct Ω ?_;have br:(decide (ab=v)&&fj s f.sc tl)=kW s f.sc pos v tl:=by unfold kW;rw[u4,aw];rfl
   rw[br,bZ];refine⟨λC=>?_,λC=>K _ _ ⟨A.trans B,⟨g,by rw[au,if_neg (by rw[C];decide),X5];exact hm.ext B⟩,Q⟩⟩;refine EX (w0:=H) (A.trans B) (hm.ext B) Q ?_ λb1 w' bt bu bz bA=>K _ _ ⟨bu,⟨bt,?_⟩,bA⟩
   .rw[u9];have h1:=T9 (kW s f.sc pos v) ((bj f.aj).take q);rw[n9]at h1;omega
   .rw[au,if_pos C,Z3,List.map_singleton,bg];exact bz
 .rintro out E a8 ⟨A,⟨g,hm⟩,Q⟩;rw[o7,<-P9 M U aK ad]at hm;refine ct Ω ?_;exact⟨(W.trans Z).trans A,hm.ls,λq z=>by have:=Q q z;have:=(W.trans Z).size;omega⟩
theorem Qb{j:Int}(h:jA w fd k sizes s)(e:bx k sizes s)(O:dp s):
  am x7 HN [fd,Δ j,Δ pos,Δ v] w λr w'=>Ext w w'/\r=(match en s j pos v with|some (f,_,_)=>.tuple #[Δ (mr k s f pos.toNat v),.bool true]|none=>.tuple #[Δ 0,.bool false]):=by
 refine az func134 ?_;refine bf λg1 V aA y P=>?_;have G:=h.box y P;refine G.load λu hu=>?_;refine(Qa hu e O).mono ?_;rintro _ aa _ ⟨z,eT,rfl⟩;rw[bq,br,bE];cases Q:en s j pos v with
 |none=>
  rw[R3,V0,bT];exact⟨y.trans z,rfl⟩
 |some q=>
 obtain⟨f,u',x⟩:=q;rw[S3,Y7,a1];obtain⟨R,S,ag,aB,A,U⟩:=nr Q;obtain⟨aC,W,aD,X⟩:=kV U;obtain⟨j,rfl⟩:=U2 R;obtain⟨pos,rfl⟩:=U2 S;rw[r9]at ag A;have H:=x5 ag;have Y:=(x4.1 A).1;have ad:∀u,f.sc[pos]?=σ u->v∈bw s u:=λu hu=>by
  rw[A]at hu;cases hu;unfold bw;rw[W];exact X
 have I:=G.ext z;obtain⟨szv,aE,aF,aG,aH,aJ,J,aK,_,aN,aP,aQ,Z,aR⟩:=id I;rw[aM ba.p 0 J rfl];refine I.load λaS ab=>?_;refine(E1 ab e ag Y ad).mono ?_;rintro aL ac _ ⟨K,B,_⟩;rw[aW an.u B];have L:(lJ s f pos v).length=(cm s f.sc pos v).length:=by unfold lJ;rw[u9]
 rw[L];refine b5.range (cm s f.sc pos v).length (λi ae C=>Ext ac C/\ae=Δ ((((cm s f.sc pos v).take i).map (bm f.aj f.cs)).foldl min k)) (by rw[<-L];exact B.le) ⟨Ext.refl _,rfl⟩ ?_ ?_
 .rintro i _ C af hi ⟨a,rfl⟩ ai;obtain⟨tl,E⟩:=aI (l:=cm s f.sc pos v) hi;obtain⟨m,hm⟩:=uD e H ad (x5 E);have ak:(lJ s f pos v)[i]?=σ (m:Int):=by
   unfold lJ;rw[x8,E];unfold oM;rw[Z7,hm];rfl
  obtain⟨al,aT⟩:=lH e H;have aV:=(x4.1 (mW al hm)).1;obtain⟨c,M⟩:=aI (l:=f.cs) (i:=m) Ω;have ap:bm f.aj f.cs tl=c:=by
   unfold bm;rw[hm];simp[u4,M]
  have N:=K.trans a;refine bH Ω ?_;rw[bh an.u ah.i Ψ (B.ext a) ak,aM ba.p 6 (J.ext N) rfl];refine kz (i:=j) rfl fI.u eO.i (b0 Z N) (by rw[x8,ag];rfl) λb o cs aq au=>?_;obtain⟨aX,aY,v3,rfl,h1,aZ,av⟩:=np au;rw[aU eO.p rfl,aU bb.p rfl,aw (v:=v3) Ψ (aq 2 _ rfl),bh ay.u ao.i Ψ (eG av) M];refine DT.mono ?_;rintro _ a2 _ ⟨rfl,ax⟩;rw[aO];refine ai _ _ ⟨a.trans ax,?_⟩;rw[u7,E,o8,Z3,List.foldl_append,List.map_singleton,ap];rfl
 .rintro _ C af ⟨a,rfl⟩;rw[o7];refine ct Ω ?_;exact⟨(y.trans z).trans (K.trans a),rfl⟩
theorem uJ{b k:Int}(h1:0<=a/\a<=4294967296)(f:0<=b/\b<=4294967296):am x7 HP [Δ a,Δ b,Δ k] w λr w'=>r=Δ (dL k a b)/\Ext w w':=by
 refine az func136 ?_;refine(show am x7 IK [Δ a,Δ b,Δ k] w λr w'=>(∃q,r= .tuple #[Δ (dL k a b),q])/\Ext w w' from ?_).mono ?_
 .refine az func217 ?_;unfold dL;rw[be,al];refine⟨λh=>⟨⟨_,by rw[if_pos h]⟩,Ext.refl _⟩,λh=>?_⟩;rw[dO,wrap_i64 Ω Ω,mL,if_neg h];exact⟨⟨_,rfl⟩,Ext.refl _⟩
 .rintro _ V _ ⟨⟨q,rfl⟩,e⟩;rw[bq,br];exact⟨rfl,e⟩
end
def dr(w:x3)(ae gT ap:Nat)(A R:ak)(A9:Nat->ak)(aG:ak)(n:aJ)(s:au)(t:aC)(h:List aC)(u:au)(w':x3):Prop:=ai (λr=>(∃q,A9 q r)\/r=ap) w w'/\∃cp cs,cj w' ae gT ap A R cp aG n s u t h cs/\∀q r,cp q r->(∃a,A9 a r)\/w.heap.size<=r
section
variable{w w' V aa:x3}{ae gT ap:Nat}{A R:ak}{A9:Nat->ak}{aG:ak}{n:aJ}{s u eS eT:au}{t:aC}{h:List aC}{cs:List x1}
theorem dr.same(p:cj w ae gT ap A R A9 aG n s u t h cs)(J:Ext w w'):dr w ae gT ap A R A9 aG n s t h u w':=⟨J.ab _,A9,cs,p.ext J,λq r h=>.inl ⟨q,h⟩⟩
theorem dr.comp{cp:Nat->ak}(e:ai (λr=>(∃q,A9 q r)\/r=ap) w V)(f:∀q r,cp q r->(∃a,A9 a r)\/w.heap.size<=r)(d:dr V ae gT ap A R cp aG n s t h eT aa):dr w ae gT ap A R A9 aG n s t h eT aa:=by
 obtain⟨x,y,b6,B,C⟩:=d;have z:=e.size;refine⟨?_,y,b6,B,λq r p=>(C q r p).elim (λ⟨a,h⟩=>f a r h) λh=>.inr Ω⟩;refine((e.mono λr _ h=>.inl h).trans (x.mono λr _ h=>?_):ai (λr=>((∃q,A9 q r)\/r=ap)\/w.heap.size<=r) w aa).mono λr p h=>h.elim id λh=>Ω
 rcases h with⟨q,h⟩|h
 .exact (f q r h).imp .inl id
 .exact .inl (.inr h)
def jF(w:x3)(ae gT ap:Nat)(A R:ak)(A9:Nat->ak)(aG:ak)(n:aJ)(s:au)(t:aC)(h:List aC)(u:au)(w':x3):Prop:=ai (A9 2) w w'/\∃cp cs,cj w' ae gT ap A R cp aG n s u t h cs/\(∀q r,cp q r->(∃a,A9 a r)\/w.heap.size<=r)/\∀r,cp 2 r->A9 2 r\/w.heap.size<=r
theorem jF.E2(d:jF w ae gT ap A R A9 aG n s t h u w'):dr w ae gT ap A R A9 aG n s t h u w':=by
 obtain⟨h1,cp,cs,a,e,_⟩:=d;exact⟨h1.mono λr _ h=>.inl ⟨2,h⟩,cp,cs,a,e⟩
theorem jF.same(p:cj w ae gT ap A R A9 aG n s u t h cs)(J:Ext w w'):jF w ae gT ap A R A9 aG n s t h u w':=⟨J.ab _,A9,cs,p.ext J,λq r h=>.inl ⟨q,h⟩,λr h=>.inl h⟩
theorem jF.comp{cp:Nat->ak}(f:ai (A9 2) w V)(x:∀q r,cp q r->(∃e,A9 e r)\/w.heap.size<=r)(p:∀r,cp 2 r->A9 2 r\/w.heap.size<=r)(d:jF V ae gT ap A R cp aG n s t h eT aa):jF w ae gT ap A R A9 aG n s t h eT aa:=by
 obtain⟨y,B,b6,C,E,F⟩:=d;have z:=f.size;refine⟨?_,B,b6,C,λq r a=>(E q r a).elim (λ⟨e,h⟩=>x e r h) λh=>.inr Ω,λr a=>(F r a).elim (p r) λh=>.inr Ω⟩;exact((f.mono λr _ h=>.inl h).trans (y.mono λr _ h=>p r h):ai (λr=>A9 2 r\/w.heap.size<=r) w aa).mono λr a h=>h.elim id λh=>Ω
theorem cj.Qc{T:ak}{v:x1}{u':au}(p:cj w ae gT ap A R A9 aG n s u t h cs)(z:∀q r,A9 q r->r<w.heap.size)(ad:cs[5]?=σ v)(e:ai T w w')(f:∀r,r<w.heap.size->T r->A9 2 r)(C:bG (λr=>A9 2 r\/w.heap.size<=r) aG w' [v] (u'.vars.map (·.un)))(E:u'.zero=u.zero)(F:u'.vars.map aF=u.vars.map aF)(G:(u'.vars.map λx=>decide (x.gone≠0))=u.vars.map λx=>decide (x.gone≠0))(H:u'.funs=u.funs)(I:u'.eg=u.eg):
  ∃cp,cj w' ae gT ap A R cp aG n s u' t h cs/\(∀q r,cp q r->(∃J,A9 J r)\/w.heap.size<=r)/\∀r,cp 2 r->A9 2 r\/w.heap.size<=r:=by
 have K:=cd.kQ p.doc (x0 e) (λr a=>.inl (f r a.2 a.1)) C (λj r L a=>?_) (λr a=>?_)
 .have y:=x2 (w:=w) (A9:=A9) (q:=2) (B:=λr=>A9 2 r\/w.heap.size<=r) λr h=>h;refine⟨_,p.row e f ?_ y,y,λr a=>a⟩;have:=cd.qO ad K;unfold iy;rw[E,F,G,H,I];exact this
 .rcases a with a|a
  .exact p.gI.1 2 j r (Ne.symm L) a
  .exact λh=>by have:=z j r h;omega
 .rcases a with a|a
  .exact p.gI.2 2 r a
  .exact λh=>by have:=(p.read r h).2.1;omega
theorem ye(p:cj w ae gT ap A R A9 aG n s u t h cs){i:Nat}{x:bJ}(J:u.vars[i]?=σ x):∃g cap y,cs[5]?=σ (.slice (σ ⟨g,0,ν⟩) u.vars.length cap)/\w.cell? ⟨g,i,ν⟩=σ y/\aH .i64 w y x.un/\
  ∀{w':x3}{v:Nat}{c:Int}{K:Unit->x3->Prop},Ext w w'->v<x.un.length->(∀H,jF w ae gT ap A R A9 aG n s t h (eB u i x (x.un.set v c)) H->K () H)->
   ac x7 (c9 ay y (Δ (v:Int))) w' λa=>aD x7 (o9 ao a (Δ c)) w' K:=by
 have I:=p.olds;obtain⟨szv,aj,ak,al,am,an,L,_,_,_,M,_,_,C⟩:=id I.doc;obtain⟨g,cap,c,au,e,S,N,av,_⟩:=uB (i:=i) (a:=x.un) M (by rw[x8,J];rfl) λr _ h=>(C rfl).2 2 r h;obtain⟨y,rfl⟩:=W9.1 (aq.len N);have O:w.cell? ⟨g,i,ν⟩=σ y:=by
  have:=S 0 y rfl;simpa[show aq.n (Λ)=1 from rfl]using this
 rw[u9]at e;refine⟨g,cap,y,by rw[L,<-e];rfl,O,eG (jT N),λ{w' v c K}B ad U=>?_⟩;have V:=I.ext B;have z:=B.size;obtain⟨aw,ax,az,aA,P,W,Q,E,X⟩:=uB (i:=i) (a:=x.un) (b0 M B) (by rw[x8,J];rfl) λr _ h=>(C rfl).2 2 r h;obtain⟨F,rfl⟩:=W9.1 (aq.len Q);rw[u9,e]at P;cases P;have Y:F=y:=by
  have h1:=W 0 F rfl;have h1:w'.cell? ⟨g,i,ν⟩=σ F:=by simpa[show aq.n (Λ)=1 from rfl]using h1
  rw[iH B O]at h1;exact(Z0 h1).symm
 subst Y;refine D6 (α:=Int) (i:=v) (A:=λ_=>False) rfl rfl ay.u ao.i Q ad rfl rfl (λr _ f=>⟨λh=>h,(C rfl).2 2 r (E r f)⟩) λaB G Z=>?_;have aa:=X G (λr _ h=>h) Z λr f=>f.elim .inl False.elim;obtain⟨cp,af,ag,ah⟩:=V.Qc (u':=eB u i x (x.un.set v c)) (λq r h=>by have:=h.2;omega) (by rw[L];rfl) G (λr _ h=>E r h) (by show bG _ _ _ _ ((u.vars.set i {x with un:=x.un.set v c}).map (·.un));rw[U9];exact aa) rfl (p0 J (by unfold aF;simp)) (p0 J rfl) rfl rfl;refine U _ ⟨(B.ab _).trans (G.mono λr _ h=>(E r h).1),cp,cs,af,λq r f=>?_,λr f=>?_⟩
 .rcases ag q r f with⟨ai,h⟩|h
  .exact .inl ⟨ai,h.1⟩
  .exact .inr Ω
 .exact (ah r f).imp (λh=>h.1) λh=>Ω
theorem Qd(p:cj w ae gT ap A R A9 aG n s u t h cs){f:b7}(ag:u.funs[j]?=σ f):∃g cap x E y,cs[6]?=σ (.slice (σ ⟨g,0,ν⟩) u.funs.length cap)/\w.rangeAt g (j*4) [x,E,y,.bool (decide (f.live≠0))]/\aH .i64 w x f.sc/\aH .i64 w y f.cs/\
  ∀{w':x3}{m:Nat}{c:Int}{K:Unit->x3->Prop},Ext w w'->m<f.cs.length->(∀N,dr w ae gT ap A R A9 aG n s t h (dN u j f (f.cs.set m c)) N->K () N)->
   ac x7 (c9 ay y (Δ (m:Int))) w' λa=>aD x7 (o9 ao a (Δ c)) w' K:=by
 have O:=p.olds;obtain⟨szv,ax,az,aA,aB,aC,P,_,_,_,_,Q,_,F⟩:=id O.doc;obtain⟨g,cap,c,aE,e,G,U,aF,_⟩:=uB (i:=j) (a:=ix f) Q (by rw[x8,ag];rfl) λr _ h=>(F rfl).2 3 r h;have V:=np U;obtain⟨x,E,y,rfl,W,aI,X⟩:=V;rw[u9]at e;have G:w.rangeAt g (j*4) [x,E,y,.bool (decide (f.live≠0))]:=G;refine⟨g,cap,x,E,y,by rw[P,<-e];rfl,G,eG W,eG X,λ{w' m c K}B hm Y=>?_⟩;have Z:=O.ext B;have z:=B.size;obtain⟨aJ,aK,aL,aM,S,L,aa,H,ad⟩:=uB (i:=j) (a:=ix f) (b0 Q B) (by rw[x8,ag];rfl) λr _ h=>(F rfl).2 3 r h;rw[u9,e]at S;cases S;obtain⟨af,ah,M,aN,rfl,ai,I,aj⟩:=PU aa λr h=>(F rfl).2 3 r (H r h);have L:w'.rangeAt g (j*4) [af,ah,M,.bool (decide (f.live≠0))]:=L;have ak:M=y:=by
  have h1:=L 2 M rfl;rw[(nS B G) 2 y rfl]at h1;exact(Z0 h1).symm
 subst ak;refine D6 (α:=Int) (i:=m) (A:=λ_=>False) rfl rfl ay.u ao.i ai hm rfl rfl (λr _ C=>⟨λh=>h,(F rfl).2 3 r (H r (I r C))⟩) λaO J al=>?_;have am:=aj J (aq.mono al (λr _ h=>h.elim id False.elim) λ_ _ h=>h);have an:=ad J (λr _ h=>I r h) am λr C=>.inl C;obtain⟨cp,au,av⟩:=Z.PS (u':=dN u j f (f.cs.set m c)) (λq r h=>by have:=h.2;omega) (by rw[P];rfl) J (λr _ h=>H r (I r h)) (by show bG _ _ _ _ ((u.funs.set j {f with cs:=f.cs.set m c}).map ix);rw[U9];exact an) rfl rfl rfl;refine Y _ ⟨(B.ab _).trans (J.mono λr _ h=>.inl ⟨3,(H r (I r h)).1⟩),cp,cs,au,λq r C=>?_⟩;rcases av q r C with⟨aw,h⟩|h
 .exact .inl ⟨aw,h.1⟩
 .exact .inr Ω
theorem Qe(p:cj w ae gT ap A R A9 aG n s u t h cs){K:Unit->x3->Prop}(f:∀e,dr w ae gT ap A R A9 aG n s t h {u with zero:=c} e->K () e):aD x7 (o9 ao (.pointer (σ ⟨ap,0+2,ν⟩)) (Δ c)) w K:=by
 refine bl (o:=0+2) ao.i rfl rfl p.box (by rw[p.doc.len.1];omega) λaa a y x=>?_;refine f _ ⟨a.mono λr _ h=>.inr h,A9,_,p.EJ a (λr _ h=>.inr h) x ?_ λq r h=>.inl ⟨q,h⟩,λq r h=>.inl ⟨q,h⟩⟩;exact(cd.ab p.doc a λr _ h he=>h.elim (λ⟨q,h⟩=>(p.apart q r h).2.2 he) λh=>(p.read r h).2.2 he).Pd
theorem Qf(p:cj w ae gT ap A R A9 aG n s u t h cs){i:Nat}{x:bJ}(J:u.vars[i]?=σ x):∃g cap y,cs[3]?=σ (.slice (σ ⟨g,0,ν⟩) u.vars.length cap)/\w.cell? ⟨g,i,ν⟩=σ y/\aH .i64 w y (aF x)/\(∀r,leads y r->A9 0 r)/\
  ∀{w':x3}{m:Int}{z:x1}{gz:Nat}{K:Unit->x3->Prop},Ext w w'->av .i64 ah w' gz z (aF {x with mask:=m})->(∀r,leads z r->w.heap.size<=r)->(∀I,dr w ae gT ap A R A9 aG n s t h {u with vars:=u.vars.set i {x with mask:=m}} I->K () I)->
   ac x7 (c9 dx (.slice (σ ⟨g,0,ν⟩) u.vars.length cap) (Δ (i:Int))) w' λa=>aD x7 (o9 an a z) w' K:=by
 have L:=p.olds;have X:=(x4.1 J).1;obtain⟨szv,Y,aC,aE,aI,aJ,M,_,Z,_,_,_,_,aa⟩:=id L.doc;obtain⟨g,cap,full,ad,c,aK,e,C,ag,E,N,F,aj,aL,ak⟩:=EK (i:=i) (a:=aF x) Z (by rw[x8,J];rfl) λr _ h=>(aa rfl).2 0 r h;obtain⟨y,rfl⟩:=W9.1 (aq.len F);rw[u9]at e;have al:full[i]?=σ y:=by have:=N 0 y rfl;simpa[show aq.n (Λ)=1 from rfl]using this
 refine⟨g,cap,y,by rw[M,<-e];rfl,by have:=C.cell (o:=i) al;exact this,eG (jT F),λr f=>?_,λ{w' m O gz K}G P Q am=>?_⟩
 .obtain⟨aM,aN,ao,au⟩:=Av F;rcases au with rfl|aw
  .obtain⟨_,_,_,e,_⟩:=f;cases e
  .obtain⟨e,_⟩:=bQ ao f;rw[e];exact(aj _ aw).1
 have z:=G.size;have E:i*1+1<=full.length:=E;rw[fb dx.u an.i X λ_=>rfl];obtain⟨_,_,_,S⟩:=cU P.ls;refine bl (o:=0+i*1) an.i (by rw[S];rfl) (by rw[S];rfl) (C.ext G) Ω λU V aO B=>?_;have B:af U g ad (over full (i*1) [O]):=by
  have e:=EO (full:=full) (c:=[y]) (o:=i*1) (q:=0) (x:=O) N E Ξ;rw[X8]at B;rw[Nat.add_zero]at e;rw[e]at B;exact B
 have aP:g<w.heap.size:=C.lt;have H:ai (λr=>r=g) w U:=(G.ab _).trans V;have ax:=bt P V λr f he=>by have he:r=g:=he;have:=Q r f;omega
 have ay:=ak H (λr _ h=>.inr h) B (ni (R:=aG) ax) λr f=>.inr (Q r f);have W:∀r,r<w.heap.size->r=g->A9 0 r/\r<w.heap.size:=λr f h=>by rw[h];exact ag
 obtain⟨cp,az,aA⟩:=L.oJ (u':={u with vars:=u.vars.set i {x with mask:=m}}) (λq r h=>h.2) (v:=Y) (by rw[M];rfl) H W (by show bG _ _ _ _ ((u.vars.set i {x with mask:=m}).map aF);rw[U9];exact ay) rfl (p0 J rfl) (p0 J rfl) rfl rfl;refine am _ ⟨H.mono λr f h=>.inl ⟨0,(W r f h).1⟩,cp,cs,az,λq r f=>?_⟩;rcases aA q r f with⟨aB,h⟩|h
 .exact .inl ⟨aB,h.1⟩
 .exact .inr h
end
def fY(s:au)(sc:Λ)(pos:Int)(v:Int):Nat->Nat->Λ->List (Λ)
 |0,_,tl=>[tl]
 |m+1,p,tl=>if(p:Int)=pos then fY s sc pos v m (p+1) (tl.set p v)else(bw s (sc.getD p 0)).flatMap λx=>fY s sc pos v m (p+1) (tl.set p x)
theorem uK{α:Type}{l:List α}{p:Nat}{x:α}(h:p<l.length):(l.set p x).take (p+1)=l.take p++[x]:=by
 rw[u7,b9 h,List.take_set_of_le (o4 _)];rfl
theorem rL{s:au}{sc:Λ}{pos:Nat}{v:Int}:∀(m p:Nat)(tl:Λ),sc.length=p+m->tl.length=sc.length->fY s sc pos v m p tl=(iA (jC s pos v (sc.drop p) p)).map (tl.take p++ ·)
 |0,p,tl,h1,a=>by
  rw[List.drop_eq_nil_of_le Ω,j6 Ω];unfold fY jC iA;rw[List.map_singleton,X5]
 |m+1,p,tl,h1,a=>by
  have e:p<sc.length:=Ω
  obtain⟨u,hu⟩:=aI (l:=sc) e;have h:sc.drop p=u::sc.drop (p+1):=by rw[W3 e,(x4.1 hu).2]
  have q:sc.getD p 0=u:=by rw[u4,hu];rfl
  rw[h];unfold fY jC;rw[iA];by_cases f:p=pos
  .rw[if_pos Ω,if_pos f,List.flatMap_singleton,rL m (p+1) (tl.set p v) Ω (by rw[b8];exact a),R4,uK Ω];refine List.map_congr_left λr _=>?_;simp
  .rw[if_neg Ω,if_neg f,q,List.map_flatMap];congr 1;funext x;rw[rL m (p+1) (tl.set p x) Ω (by rw[b8];exact a),R4,uK Ω];refine List.map_congr_left λr _=>?_;simp
theorem Qg{s:au}{pos:Nat}{m p:Nat}{a:Λ}(h1:sc.length=p+m)(e:tl.length=sc.length)(f:a.length=sc.length)(h:a.take p=tl.take p):fY s sc pos v m p a=fY s sc pos v m p tl:=by
 rw[rL m p tl h1 e,rL m p a h1 f,h]
theorem Qh{s:au}{pos:Nat}(h:tl.length=sc.length):fY s sc pos v sc.length 0 tl=cm s sc pos v:=by
 rw[rL sc.length 0 tl Ω h];unfold cm;simp
def nw(w:x3)(ae gs bC bk aY:Nat)(aK:x1)(pos v:Int):Prop:=af w gs cI [Γ ae]/\af w bC an [aK]/\af w bk ah [Δ pos]/\af w aY ah [Δ v]
theorem nw.ab{S:ak}{gs bC bk aY:Nat}(h:nw w ae gs bC bk aY aK pos v)(a:ai S w w')(e:¬S gs/\¬S bC/\¬S bk/\¬S aY):nw w' ae gs bC bk aY aK pos v:=
 ⟨h.1.ab a e.1,h.2.1.ab a e.2.1,h.2.2.1.ab a e.2.2.1,h.2.2.2.ab a e.2.2.2⟩
theorem nw.ext{gs bC bk aY:Nat}(h:nw w ae gs bC bk aY aK pos v)(J:Ext w w'):nw w' ae gs bC bk aY aK pos v:=h.ab (J.ab λ_=>False) ⟨id,id,id,id⟩
def gk(ae gT:Nat)(R:ak)(n:aJ)(s:au)(gs bC bk aY:Nat)(aK:x1)(sc:Λ)(pos v:Int)(B0:Nat)(D:Nat->Prop)(w:x3):Prop:=
 nw w ae gs bC bk aY aK pos v/\(gs<B0/\bC<B0/\bk<B0/\aY<B0)/\aH .i64 w aK sc/\(∀r,leads aK r->r<B0)/\(Laid w/\B0<=w.heap.size)/\∃A s' bp,bu w ae gT A R n s' bp/\(∀i,bw s' i=bw s i)/\∀r,A r\/R r->r<B0\/D r
section
variable{ae gT gs bC bk aY B0:Nat}{R:ak}{n:aJ}{s:au}{aK:x1}{sc:Λ}{pos v:Int}
theorem gk.ext(h:gk ae gT R n s gs bC bk aY aK sc pos v B0 D w)(J:Ext w w'):gk ae gT R n s gs bC bk aY aK sc pos v B0 D w':=by
 obtain⟨h1,e,f,p,a,A,s',bp,q,r,x⟩:=h;exact⟨h1.ext J,e,f.ext J,p,⟨a.1.ext J,Y8 a.2 J.size⟩,A,s',bp,q.ext J,r,x⟩
def ke(w:x3)(l gy gt gtb ga:Nat)(hj:Array x1)(q:Nat)(tl:Λ):Prop:=af w gy Aa [.func (.yield l) #[] #[]]/\af w gtb an [.slice (σ ⟨gt,0,ν⟩) q q]/\af w ga pa [.func (.func l4) #[] hj]/\
 av .i64 ah w gt (.slice (σ ⟨gt,0,ν⟩) q q) tl
theorem ke.ab{S:ak}{l q:Nat}{hj:Array x1}(h:ke w l gy gt gtb ga hj q tl)(f:ai S w w')(p:¬S gy/\¬S gtb/\¬S ga/\¬S gt):ke w' l gy gt gtb ga hj q tl:=
 ⟨h.1.ab f p.1,h.2.1.ab f p.2.1,h.2.2.1.ab f p.2.2.1,bt h.2.2.2 f λr s=>by
  obtain⟨a,_,_,e,x⟩:=s;cases e;rw[<-x];exact p.2.2.2⟩
theorem ke.ext{l q:Nat}{hj:Array x1}(h:ke w l gy gt gtb ga hj q tl)(J:Ext w w'):ke w' l gy gt gtb ga hj q tl:=h.ab (J.ab λ_=>False) ⟨id,id,id,id⟩
theorem Qi(U:aH .i64 w aK sc):am x7 zX [Γ ae,aK,Δ pos,Δ v] w λr w'=>Ext w w'/\∃gs bC bk aY,r= .func (.func l3) #[] #[Γ bC,Γ bk,Γ aY,Γ gs]/\nw w' ae gs bC bk aY aK pos v/\w.heap.size<=gs/\w.heap.size<=bC/\w.heap.size<=bk/\w.heap.size<=aY:=by
 obtain⟨_,_,_,y⟩:=cU U;refine az func218 ?_;refine bf λgs V A x h=>?_;refine bf λbC aa B p a=>?_;refine bf λbk C E e q=>?_;refine bf λaY s G f z=>?_;have h:af s gs cI [Γ ae]:=((af.ext h p).ext e).ext f;have a:af s bC an [aK]:=by rw[y]at a ⊢;exact(af.ext a e).ext f
 have q:af s bk ah [Δ pos]:=af.ext q f;rw[ig];have H:=x.size;have I:=p.size;have z3:=e.size;exact⟨((x.trans p).trans e).trans f,gs,bC,bk,aY,rfl,⟨h,a,q,z⟩,Ω,Ω,Ω,Ω⟩
theorem gk.own{S:ak}(h:gk ae gT R n s gs bC bk aY aK sc pos v B0 D w)(p:ai S w w')(x:∀r,S r->B0<=r/\¬D r):gk ae gT R n s gs bC bk aY aK sc pos v B0 D w':=by
 obtain⟨h1,f,E,y,z,A,s',bp,B,F,C⟩:=h;have no:∀{r:Nat},r<B0->¬S r:=λh1 f=>by have:=(x _ f).1;omega
 refine⟨h1.ab p ⟨no f.1,no f.2.1,no f.2.2.1,no f.2.2.2⟩,f,hT E p λr q a n c e G=>?_,y,⟨?_,Y8 z.2 p.size⟩,A,s',bp,⟨B.1.ab p λr _ q U=>?_,B.2⟩,F,C⟩
 .exact no (y r ⟨a,n,c,e,G⟩) q
 .exact iI p (no Ω) z.1
 .exact (C r q).elim (λh=>no h U) (x r U).2
def Qj(P:(Nat->Prop)->x3->Prop)(aB:(Nat->Prop)->Nat->x3->Prop)(L:List (Λ))(l B:Nat):Prop:=∀(D:Nat->Prop)(k:Nat)tl aL w',(∀r,D r->B<=r/\r<w'.heap.size)->B<=w'.heap.size->P D w'->L[k]?=σ tl->aH .i64 w' aL tl->aB D k w'->
 hN x7 l [aL] w' λu a=>u= .bool true/\(∃D',(∀r,D' r->D r\/w'.heap.size<=r/\r<a.heap.size)/\(∀r,D r->D' r)/\P D' a/\aB D' (k+1) a)/\cN w' a/\w'.heap.size<=a.heap.size/\ai (λr=>r<B\/D r) w' a
def rM(D:Nat->Prop)(B gy gtb ga gt:Nat):Prop:=(B<=gy/\¬D gy)/\(B<=gtb/\¬D gtb)/\(B<=ga/\¬D ga)/\B<=gt/\¬D gt
theorem rM.go{D':Nat->Prop}{m cg:Nat}(h:rM D B gy gtb ga gt)(a:∀r,D' r->D r\/m<=r/\r<cg)(hm:gy<m/\gtb<m/\ga<m/\gt<m):rM D' B gy gtb ga gt:=
 have f:∀{g:Nat},g<m->¬D g->¬D' g:=λh1 e p=>(a _ p).elim e λh=>Ω
 ⟨⟨h.1.1,f hm.1 h.1.2⟩,⟨h.2.1.1,f hm.2.1 h.2.1.2⟩,⟨h.2.2.1.1,f hm.2.2.1 h.2.2.1.2⟩,h.2.2.2.1,f hm.2.2.2 h.2.2.2.2⟩
theorem ke.lt{l q:Nat}{hj:Array x1}(h:ke w l gy gt gtb ga hj q tl):gy<w.heap.size/\gtb<w.heap.size/\ga<w.heap.size/\gt<w.heap.size:=
 ⟨h.1.lt,h.2.1.lt,h.2.2.1.lt,(bQ h.2.2.2 ⟨_,_,_,rfl,rfl⟩).2⟩
def AtR(l gy gt gtb ga:Nat)(hj:Array x1)(P:(Nat->Prop)->x3->Prop)(aB:(Nat->Prop)->Nat->x3->Prop)(S:ak)(D:Nat->Prop)(w:x3)(sl k p:Nat)(tl:Λ)(w':x3):Prop:=
 w.heap.size<=w'.heap.size/\∃D' a,a.length=sl/\a.take p=tl.take p/\ke w' l gy gt gtb ga hj sl a/\((∀r,D' r->D r\/w.heap.size<=r/\r<w'.heap.size)/\∀r,D r->D' r)/\P D' w'/\aB D' k w'/\ai S w w'
section
variable{l gy gt gtb ga B:Nat}{hj:Array x1}{P:(Nat->Prop)->x3->Prop}{aB:(Nat->Prop)->Nat->x3->Prop}{S T:ak}{D:Nat->Prop}{w V aa:x3}{sl k p:Nat}{tl:Λ}
theorem AtR.own(x:∀D T V aa,ai T V aa->(∀r,T r->B<=r/\¬D r)->P D V->P D aa)(y:∀D k V aa,ai (λr=>B<=r/\¬D r) V aa->fG B V aa->aB D k V->aB D k aa)(h:AtR l gy gt gtb ga hj P aB S D w sl k p tl V)(e:ai T V aa)(z:fG B V aa)(a:∀r,T r->r<w.heap.size/\¬D r/\B<=r/\S r/\r≠gy/\r≠gtb/\r≠ga/\r≠gt):AtR l gy gt gtb ga hj P aB S D w sl k p tl aa:=by
 obtain⟨A,D',C,h1,E,F,⟨q,G⟩,H,I,J⟩:=h;have s:∀r,T r->B<=r/\¬D' r:=λr f=>⟨(a r f).2.2.1,λK=>(q r K).elim (a r f).2.1 λh=>by have:=(a r f).1;omega⟩;exact⟨Y8 A e.size,D',C,h1,E,F.ab e ⟨λh=>(a _ h).2.2.2.2.1 rfl,λh=>(a _ h).2.2.2.2.2.1 rfl,λh=>(a _ h).2.2.2.2.2.2.1 rfl,λh=>(a _ h).2.2.2.2.2.2.2 rfl⟩,
  ⟨λr f=>(q r f).imp id λh=>⟨h.1,Q1 h.2 e.size⟩,G⟩,x D' T V aa e s H,y D' k V aa (e.mono λr _ h=>s r h) z I,J.trans (e.mono λr _ h=>(a r h).2.2.2.1)⟩
theorem AtR.base{w0:x3}(h:AtR l gy gt gtb ga hj P aB S D w sl k p tl V)(J:Ext w0 w)(a:∀r,r<w0.heap.size->S r->T r):AtR l gy gt gtb ga hj P aB T D w0 sl k p tl V:=by
 obtain⟨e,D',f,h1,q,s,⟨x,y⟩,z,A,B⟩:=h;exact⟨Y8 J.size e,D',f,h1,q,s,⟨λr C=>(x r C).imp id λh=>⟨Y8 J.size h.1,h.2⟩,y⟩,z,A,((J.ab S).trans B).mono a⟩
theorem AtR.comp{a:Nat->Prop}{q:Λ}{x:Int}(f:∀r,r<B\/D r\/r=gt->S r)(s:∀r,a r->D r\/w.heap.size<=r/\r<V.heap.size)(z:∀r,D r->a r)(y:ai S w V)(A:q.take p=tl.take p)(h:AtR l gy gt gtb ga hj P aB (λr=>r<B\/a r\/r=gt) a V sl k (p+1) (q.set p x) aa):AtR l gy gt gtb ga hj P aB S D w sl k p tl aa:=by
 obtain⟨C,D',E,h1,F,G,⟨H,I⟩,J,K,L⟩:=h;have U:=y.size;refine⟨Y8 U C,D',E,h1,?_,G,⟨λr e=>?_,λr e=>I r (z r e)⟩,J,K,?_⟩
 .have:=congrArg (List.take p) F;rw[List.take_take,List.take_take,Nat.min_eq_left Ω,List.take_set_of_le (o4 _)]at this;rw[this,A]
 .rcases H r e with h|h
  .exact (s r h).imp id λh=>⟨h.1,Ω⟩
  .exact .inr ⟨Ω,h.2⟩
 .refine ((y.mono λr _ h=>.inl h).trans (L.mono λr _ h=>?_):ai (λr=>S r\/w.heap.size<=r) w aa).mono λr e h=>h.elim id λh=>Ω
  rcases h with h|h|h
  .exact .inl (f r (.inl h))
  .exact (s r h).elim (λh=>.inl (f r (.inr (.inl h)))) λh=>.inr h.1
  .exact .inl (f r (.inr (.inr h)))
end
theorem Qk{α β:Type}{l:List α}{a:α->List β}{i:Nat}{y:α}{z:β}(h:l[j]?=σ y)(hi:(a y)[i]?=σ z):(l.flatMap a)[((l.take j).flatMap a).length+i]?=σ z:=by
 have f:=(x4.1 h).1;have e:l=l.take j++y::l.drop (j+1):=by
  conv=>lhs;rw[<-List.take_append_drop j l,W3 f,(x4.1 h).2]
 conv=>lhs;rw[e,S8,W0]
 have p:=(x4.1 hi).1;have el:((l.take j++y::l.drop (j+1)).take j)=l.take j:=by rw[List.take_append_of_le_length (by rw[n9];omega),List.take_take,Nat.min_self]
 rw[el,X0 Ω,R6,Y9 p];exact hi
theorem Ql{t:p8}{b o:Nat}{x:x1}{K:x1->Prop}(a:jR x7 t=true)(h:w.cell? ⟨b,o,ν⟩=σ x):ac x7 (do loadVar t (<-asAddr (.pointer (σ ⟨b,o,ν⟩)))) w K=K x:=ac.of λw' J=>by
 have h':=iH J h;unfold jR at a;cases hu:x7.underlying t with
 |none=>rw[hu]at a;cases a
 |some d=>
  rw[hu]at a;cases d<;>first|(cases a;done)|simp[asAddr,loadVar,isAgg,run_underlying hu,h']
def kf(bC gy gtb bk aY ga gs:Nat):Array x1:=#[Γ bC,Γ gy,Γ gtb,Γ bk,Γ aY,Γ ga,Γ gs]
def uL(p:Nat)(bC gy gtb bk aY ga gs:Nat):List x1:=[Δ (p:Int),Γ bC,Γ gy,Γ gtb,Γ bk,Γ aY,Γ ga,Γ gs]
theorem Qm{l:Nat}{aB:(Nat->Prop)->Nat->x3->Prop}(bW:0<=pos)(bX:∀u∈sc,0<=u/\u<n.sizes.length)(c3:sc.length<=6)(bY:B0<=B)(Z:gt≠gy/\gt≠gtb/\gt≠ga)(P:∀D k V aa,ai (λr=>B<=r/\¬D r) V aa->fG B V aa->aB D k V->aB D k aa)(bZ:Qj (gk ae gT R n s gs bC bk aY aK sc pos v B0) aB L l B):
  ∀(q p:Nat)(tl:Λ)(k:Nat)(D:Nat->Prop)(w:x3),sc.length=p+q->tl.length=sc.length->(∀r,D r->B<=r/\r<w.heap.size)->B<=w.heap.size->rM D B gy gtb ga gt->ke w l gy gt gtb ga (kf bC gy gtb bk aY ga gs) sc.length tl->gk ae gT R n s gs bC bk aY aK sc pos v B0 D w->aB D k w->
   (∀i x,(fY s sc pos v q p tl)[i]?=σ x->L[k+i]?=σ x)->
   am x7 l4 (uL p bC gy gtb bk aY ga gs) w λr w'=>r= .bool true/\AtR l gy gt gtb ga (kf bC gy gtb bk aY ga gs) (gk ae gT R n s gs bC bk aY aK sc pos v B0) aB (λr=>r<B\/D r\/r=gt) D w sc.length (k+(fY s sc pos v q p tl).length) p tl w':=by
 obtain⟨ec,rfl⟩:=U2 bW;have ad:∀D T V aa,ai T V aa->(∀r,T r->B<=r/\¬D r)->gk ae gT R n s gs bC bk aY aK sc ec v B0 D V->gk ae gT R n s gs bC bk aY aK sc ec v B0 D aa:=λD T V aa aS bm h=>h.own aS λr f=>⟨Y8 bY (bm r f).1,(bm r f).2⟩;have aT:∀{M:x3}{K:x1->Prop},af M bC an [aK]->K aK->ac x7 (u5 an (Γ bC)) M K:=λaU aV=>by rw[aw (v:=aK) Ψ (aU.Qz rfl)];exact aV
 have aX:∀{a2 p:Nat}{tl:Λ}{D:Nat->Prop}{w aa M:x3}{a:Nat}{b:Bool},Ext w aa->w.heap.size<=a->a<aa.heap.size->(∀r,D r->B<=r/\r<w.heap.size)->B<=w.heap.size->(gy<w.heap.size/\gtb<w.heap.size/\ga<w.heap.size/\gt<w.heap.size)->
   AtR l gy gt gtb ga (kf bC gy gtb bk aY ga gs) (gk ae gT R n s gs bC bk aY aK sc ec v B0) aB (λr=>r<B\/D r\/r=gt\/r=a) D aa sc.length a2 p tl M->af M a eh [.bool b]->
   aD x7 (o9 eh (Γ a) (.bool true)) M λ(_:Unit)aG=>ac x7 (do loadVar eh (<-asAddr (Γ a))) aG λr=>vg w.heap.size aG λbn=>r= .bool true/\AtR l gy gt gtb ga (kf bC gy gtb bk aY ga gs) (gk ae gT R n s gs bC bk aY aK sc ec v B0) aB (λr=>r<B\/D r\/r=gt) D w sc.length a2 p tl bn:=by
  intro a2 p tl D w aa M a b G bq ag z aj ap a6 a7;have b0:∀r,r=a->r<aa.heap.size/\¬D r/\B<=r/\(r<B\/D r\/r=gt\/r=a)/\r≠gy/\r≠gtb/\r≠ga/\r≠gt:=by
   rintro r rfl;exact⟨ag,λh=>by have:=(z _ h).2;omega,Ω,.inr (.inr (.inr rfl)),Ω,Ω,Ω,Ω⟩
  refine aD.cw (bl eh.i rfl rfl a7 Ξ λaG b1 c4 a8 b2=>?_);have a8:af aG a eh [.bool true]:=a8;have b3:=a6.own ad P b1 b2.o b0;rw[Ql (x:=.bool true) Ψ (a8.Qz rfl)];intro bn b4 b5;refine⟨rfl,((b3.own ad P (b4.ab λ_=>False) (b5.2.mono aj) λ_ h=>h.elim).base G λr f h=>?_)⟩;rcases h with h|h|h|h
  .exact .inl h
  .exact .inr (.inl h)
  .exact .inr (.inr h)
  .omega
 intro q;induction q with
 |zero=>
  intro p tl k D w b6 aq z aj C au ba bb av;refine gV func268 ?_;refine aD.cw (bf λg1 V b7 ax E bc=>?_);refine aD.cw (bo eh.i λa aa bq W N bd=>?_);have G:=ax.trans W;have b9:=ax.size;have ca:=W.size;have E:af aa g1 ah [Δ (p:Int)]:=af.ext E W;have N:af aa a eh [.bool false]:=N;have ag:=N.lt;have aH:=P D k w aa (G.ab _) (bc.trans bd).o bb;have I:=ba.ext G;have H:=au.ext G;rw[aw (v:=Δ (p:Int)) Ψ (E.Qz rfl)];refine aT I.1.2.1 ?_;rw[aW an.u I.2.2.1,be,al];refine⟨λ_=>?_,λh=>absurd Ω h⟩;rw[aw (v:=.func (.yield l) #[] #[]) Ψ (H.1.Qz rfl),aw (v:=.slice (σ ⟨gt,0,ν⟩) sc.length sc.length) Ψ (H.2.1.Qz rfl)];have cb:L[k]?=σ tl:=av 0 tl rfl;refine(show hN x7 l [.slice (σ ⟨gt,0,ν⟩) sc.length sc.length] aa _ from hN.mono (bZ D k tl _ aa (λr f=>⟨(z r f).1,by have:=(z r f).2;omega⟩) Ω I cb H.2.2.2.ls aH) ?_);rintro _ br ⟨rfl,⟨D',d1,d2,cc,cd⟩,ce,cg,bg⟩;refine⟨ce,?_⟩;have ap:=au.lt;have aJ:∀{g:Nat},w.heap.size<=g->¬D g:=λh1 ay=>by have:=(z _ ay).2;omega
  have az:∀{g:Nat},B<=g->¬D g->¬(g<B\/D g):=λh1 ay ch=>ch.elim Ω ay;have a7:af br a eh [.bool false]:=N.ab bg (az Ω (aJ Ω));have a6:AtR l gy gt gtb ga (kf bC gy gtb bk aY ga gs) (gk ae gT R n s gs bC bk aY aK sc ec v B0) aB (λr=>r<B\/D r\/r=gt\/r=a) D aa sc.length (k+1) p tl br:=
   ⟨cg,D',tl,aq,rfl,H.ab bg ⟨az C.1.1 C.1.2,az C.2.1.1 C.2.1.2,az C.2.2.1.1 C.2.2.1.2,az C.2.2.2.1 C.2.2.2.2⟩,⟨d1,d2⟩,cc,cd,bg.mono λr _ h=>h.imp id .inl⟩
  exact aX G Ω ag z aj ap a6 a7
 |succ q bt=>
  intro p tl k D w b6 aq z aj C au ba bb av;refine gV func268 ?_;refine aD.cw (bf λg1 V b7 ax E bc=>?_);refine aD.cw (bo eh.i λa aa bq W N bd=>?_);have G:=ax.trans W;have b9:=ax.size;have ca:=W.size;have E:af aa g1 ah [Δ (p:Int)]:=af.ext E W;have N:af aa a eh [.bool false]:=N;have ag:=N.lt;have h1:=E.lt;have aH:=P D k w aa (G.ab _) (bc.trans bd).o bb;have I:=ba.ext G;have H:=au.ext G;have ap:=au.lt;have aJ:∀{g:Nat},w.heap.size<=g->¬D g:=λh1 ay=>by have:=(z _ ay).2;omega
  rw[aw (v:=Δ (p:Int)) Ψ (E.Qz rfl)];refine aT I.1.2.1 ?_;rw[aW an.u I.2.2.1,be,al];refine⟨λh=>absurd h Ω,λ_=>?_⟩;rw[aw (v:=Δ (p:Int)) Ψ (E.Qz rfl),aw (v:=Δ (ec:Int)) Ψ (I.1.2.2.1.Qz rfl),be,al];have bu:∀{M:x3}{K:x1->Prop},af M gtb an [.slice (σ ⟨gt,0,ν⟩) sc.length sc.length]->K (.slice (σ ⟨gt,0,ν⟩) sc.length sc.length)->ac x7 (u5 an (Γ gtb)) M K:=λaU aV=>by rw[aw (v:=.slice (σ ⟨gt,0,ν⟩) sc.length sc.length) Ψ (aU.Qz rfl)];exact aV
  have aL:∀{D:Nat->Prop}(r:Nat),rM D B gy gtb ga gt->r=gt->B<=r/\¬D r:=λr h e=>e▸⟨h.2.2.2.1,h.2.2.2.2⟩;refine⟨λhe=>?_,λci=>?_⟩
  .refine bu H.2.1 ?_;rw[aw (v:=Δ (p:Int)) Ψ (E.Qz rfl),aw (v:=Δ v) Ψ (I.1.2.2.2.Qz rfl),hx rfl an.u ah.i H.2.2.2 Ω];refine aD.cw (hy ah.i H.2.2.2 Ω λak U c5 cj ck=>?_);have bx:ke ak l gy gt gtb ga (kf bC gy gtb bk aY ga gs) sc.length (tl.set p v):=⟨H.1.ab U λh=>Z.1 h.symm,H.2.1.ab U λh=>Z.2.1 h.symm,H.2.2.1.ab U λh=>Z.2.2 h.symm,cj⟩;have cl:=ad D _ _ _ U (λr h=>aL r C h) I;have cm:=P D k aa ak (U.mono λr _ h=>aL r C h) ck.o aH;have cn:af ak g1 ah [Δ (p:Int)]:=E.ab U Ω;have cp:af ak a eh [.bool false]:=N.ab U Ω;rw[aw (v:=.func (.func l4) #[] (kf bC gy gtb bk aY ga gs)) Ψ (bx.2.2.1.Qz rfl),aw (v:=Δ (p:Int)) Ψ (cn.Qz rfl),aO,wrap_i64 Ω Ω];have hw:fY s sc ec v (q+1) p tl=fY s sc ec v q (p+1) (tl.set p v):=by rw[fY,if_pos he]
   rw[hw];rw[hw]at av;refine(show am x7 l4 (uL (p+1) bC gy gtb bk aY ga gs) ak _ from am.mono (bt (p+1) (tl.set p v) k D ak Ω (by rw[b8];exact aq) (λr f=>⟨(z r f).1,by have:=(z r f).2;omega⟩) Ω C bx cl cm av) ?_);rintro _ cq c6 ⟨rfl,bz⟩;have cr:af cq a eh [.bool false]:=by
    obtain⟨_,_,_,_,_,_,_,_,_,ct⟩:=bz;exact cp.ab ct λh=>by
     rcases h with h|h|h
     .omega
     .exact aJ Ω h
     .omega
   exact aX G Ω ag z aj ap (AtR.comp (λr h=>h.imp id λh=>h.imp id .inl) (λr h=>.inl h) (λ_ h=>h) (U.mono λr _ h=>.inr (.inr (.inl h))) rfl bz) cr
  intro c7 aM _ cu;have aN:=I.ext aM;obtain⟨A,s',bp,bA,cz,c8⟩:=id aN.2.2.2.2.2;obtain⟨u,hu⟩:=aI (l:=sc) (i:=p) Ω;obtain⟨cA,c9⟩:=bX u (x5 hu);have da:=bA.2.2.2.1.vars;obtain⟨x,bB⟩:=aI (l:=s'.vars) (i:=u.toNat) Ω;rw[aw (v:=Γ ae) Ψ (aN.1.1.Qz rfl)];refine aT aN.1.2.1 ?_;rw[aw (v:=Δ (p:Int)) Ψ ((E.ext aM).Qz rfl),bh an.u ah.i Ψ aN.2.2.1 hu];refine(h3 (i:=u) bA).mono ?_;rintro _ db cB ⟨⟨b,cC,rfl,bD⟩,bF⟩;refine(ll (b:=b) (n:=cC)).mono ?_;rintro _ aP cD ⟨cE,bG,rfl,dc,bH⟩;have bI:=kd bD cA bB;have cF:bw s (sc.getD p 0)=aF x:=by
   rw[<-cz,u4,hu,V1];unfold bw;rw[bB]
  have bJ:fY s sc ec v (q+1) p tl=(aF x).flatMap λy=>fY s sc ec v q (p+1) (tl.set p y):=by rw[fY,if_neg ci,cF]
  have X:=(aM.trans bF).trans cE;have cG:=(cu.trans cB).trans cD;have z12:=X.size;have dd:=(aM.trans bF).size;have de:=bH.lt;have bK:B<=aP.heap.size:=Ω
  have cH:=P D k aa aP (X.ab _) cG.o aH;have bL:=I.ext X;have bM:=H.ext X;refine⟨Nat,false,false,ic,#[Γ bG],0,_,_,λ_=>_,λ_ j w'=>AtR l gy gt gtb ga (kf bC gy gtb bk aY ga gs) (gk ae gT R n s gs bC bk aY aK sc ec v B0) aB (λr=>r<B\/D r\/r=gt) D aP sc.length (k+(((aF x).take j).flatMap λy=>fY s sc ec v q (p+1) (tl.set p y)).length) p tl w'/\af w' g1 ah [Δ (p:Int)]/\af w' a eh [.bool false],
   λ_ _ _ _=>False,rfl,(lk (g:=bG) bD.1).s.x,?_,λ_ _ _ J h=>⟨h.1.ext J,h.2.ext J⟩,?_,λ_ _ _ _ _ _ _ h=>h,⟨bH,bL.2.2.2.2.1.1⟩,?_,?_,?_,λ_ _ _ h=>h.elim,λ_ _ _ _ h=>h.elim⟩
  .rintro _ _ _ _ ⟨_,_,_,_,rfl⟩;rfl
  .rintro _ j df dg aS cI ⟨Y,aA,O⟩;have J:=aS.ext λ_ _ h=>nomatch h.1;exact⟨Y.own ad P (J.ab λ_=>False) (cI.mono bK) λ_ h=>h.elim,aA.ext J,O.ext J⟩
  .exact⟨⟨o4 _,D,tl,aq,rfl,bM,⟨λ_ h=>.inl h,λ_ h=>h⟩,bL,by simpa using cH,ai.refl _ _⟩,E.ext X,N.ext X⟩
  .rintro _ _ j _ dh _ _ ⟨cJ,di⟩ ⟨dj,rfl,y,cK,cL⟩ ⟨cM,bN,cN⟩;cases cL;intro bO aC cO _;have bP:(aF x)[j]?=σ (y:Int):=by rw[<-bI,x8,cK];rfl
   have cP:=cM.own ad P (aC.ab λ_=>False) (cO.2.mono bK) λ_ h=>h.elim;obtain⟨dk,aE,aQ,Y,aA,O,⟨aR,cQ⟩,cR,cS,cT⟩:=cP;have cU:=bM.lt;have bi:=C.go aR cU;have bQ:∀r,aE r->B<=r/\r<bO.heap.size:=λr f=>(aR r f).elim (λh=>⟨(z r h).1,by have:=(z r h).2;omega⟩) λh=>⟨Ω,h.2⟩;refine bu O.2.1 ?_;rw[aw (v:=Δ (p:Int)) Ψ ((bN.ext aC).Qz rfl),hx rfl an.u ah.i O.2.2.2 Ω];refine aD.cw (hy ah.i O.2.2.2 Ω λao Q dl cV cW=>?_);have bR:ke ao l gy gt gtb ga (kf bC gy gtb bk aY ga gs) sc.length (aQ.set p y):=⟨O.1.ab Q λh=>Z.1 h.symm,O.2.1.ab Q λh=>Z.2.1 h.symm,O.2.2.1.ab Q λh=>Z.2.2 h.symm,cV⟩;have cX:=ad aE _ _ _ Q (λr h=>aL r bi h) cR;have cY:=P aE _ bO ao (Q.mono λr _ h=>aL r bi h) cW.o cS;have bS:af ao g1 ah [Δ (p:Int)]:=(bN.ext aC).ab Q Ω;have cZ:af ao a eh [.bool false]:=(cN.ext aC).ab Q Ω;have c0:=(cJ.ext aC).ab Q Ω;rw[aw (v:=.func (.func l4) #[] (kf bC gy gtb bk aY ga gs)) Ψ (bR.2.2.1.Qz rfl),aw (v:=Δ (p:Int)) Ψ (bS.Qz rfl),aO,wrap_i64 Ω Ω];have bT:fY s sc ec v q (p+1) (aQ.set p (y:Int))=fY s sc ec v q (p+1) (tl.set p (y:Int)):=Qg Ω (by rw[b8];exact aq) (by rw[b8];exact Y) (by rw[uK Ω,uK Ω,aA]);refine(show am x7 l4 (uL (p+1) bC gy gtb bk aY ga gs) ao _ from am.mono (bt (p+1) (aQ.set p y) _ aE ao Ω (by rw[b8];exact Y) (λr f=>⟨(bQ r f).1,by have:=(bQ r f).2;omega⟩) Ω bi bR cX cY λi dm hi=>?_) ?_)
   .rw[bT]at hi;rw[R5];refine av _ _ ?_;rw[bJ];exact Qk bP hi
   rintro _ dn dp ⟨rfl,bU⟩;rw[bE,Y7,a1];have bV:=AtR.comp (S:=λr=>r<B\/D r\/r=gt) (λr h=>h) (λr h=>(aR r h).imp id λh=>⟨h.1,Ω⟩) cQ (cT.trans (Q.mono λr _ h=>.inr (.inr h))) aA bU;obtain⟨_,_,_,_,_,_,_,c1,_,bj⟩:=bU;have aZ:∀{g:Nat},w.heap.size<=g->g<aP.heap.size->¬(g<B\/aE g\/g=gt):=λc2 dq h=>by
    rcases h with h|h|h
    .omega
    .exact (aR _ h).elim (aJ c2) λh=>Ω
    .omega
   refine⟨⟨c0.ab bj (aZ Ω Ω),c1.2.2.2.2.1.1⟩,⟨?_,bS.ab bj (aZ Ω Ω),cZ.ab bj (aZ Ω Ω)⟩,λh=>by cases h⟩;have e:k+(((aF x).take j).flatMap λy=>fY s sc ec v q (p+1) (tl.set p y)).length+(fY s sc ec v q (p+1) (aQ.set p (y:Int))).length=k+(((aF x).take (j+1)).flatMap λy=>fY s sc ec v q (p+1) (tl.set p y)).length:=by
    rw[bT,u7,bP,o8,S8,List.flatMap_singleton,r8];omega
   rw[e]at bV;exact bV
  .rintro _ j dr rfl ⟨Y,aA,O⟩;rw[j6 (by rw[<-bI,u9];exact o4 _),<-bJ]at Y;exact aX G Ω ag z aj ap (Y.base X λr _ h=>h.imp id λh=>h.imp id .inl) O
end
section
variable{ae gT gs bC bk aY B0:Nat}{R:ak}{n:aJ}{s:au}{aK:x1}{sc:Λ}{v:Int}
theorem E3{ec:Nat}(Q:∀u∈sc,0<=u/\u<n.sizes.length)(S:sc.length<=6):
  qo x7 true false l3 [Γ bC,Γ bk,Γ aY,Γ gs] 0 (λk=>k=(cm s sc ec v).length)
   (λk vs W w=>W=k+1/\∃tl aL,(cm s sc ec v)[k]?=σ tl/\vs=[aL]/\aH .i64 w aL tl) (gk ae gT R n s gs bC bk aY aK sc ec v B0):=by
 refine⟨l3.enters,λl aB aX w X _ Y hf Z=>?_⟩;have E:∀D k V aa,ai (λr=>w.heap.size<=r/\¬D r) V aa->fG w.heap.size V aa->aB D k V->aB D k aa:=λD k V aa ad ag=>X D k V aa (ad.mono λr _ h=>⟨rfl,h⟩) ag;have U:=hf.2.2.1;have aj:=hf.2.2.2.2.1.2;obtain⟨_,_,_,aZ⟩:=cU U;refine qz func267 ?_;refine aD.cw (bf λgy V a1 p G ak=>?_);have al:∀{H:x3}{K:x1->Prop},af H bC an [aK]->K aK->ac x7 (u5 an (Γ bC)) H K:=λam ao=>by rw[aw (v:=aK) Ψ (am.Qz rfl)];exact ao
 refine al (hf.1.2.1.ext p) ?_;rw[aW an.u (U.ext p)];refine aD.cw (jS (k:=.i64) an.u ah.i Ω Ω λgt aa a2 A I ap=>?_);refine aD.cw (bo an.i λgtb a6 a7 q J aq=>?_);refine aD.cw (bl an.i rfl rfl J (by simp[x1.cells]) λa8 C ba au ax=>?_);refine aD.cw (bo pa.i λga bb bc e M ay=>?_);rw[ig];refine aD.cw (bl pa.i rfl rfl M (by simp[x1.cells]) λa y bd az aA=>?_);have be:=p.size;have bg:=A.size;have z3:=q.size;have z5:=e.size;have bh:=G.lt;have bi:=I.lt;have bj:=J.lt;have bm:=M.lt;have aC:af a gy Aa [.func (.yield l) #[] #[]]:=(((((af.ext G A).ext q).ab C Ω).ext e).ab y Ω);have aE:af a gt ah (ints .i64 (p9 sc.length 0)):=((((I.ext q).ab C Ω).ext e).ab y Ω);have aF:af a gtb an [.slice (σ ⟨gt,0,ν⟩) sc.length sc.length]:=((af.ext au e).ab y Ω);have N:af a ga pa [.func (.func l4) #[] (kf bC gy gtb bk aY ga gs)]:=az;rw[aw (v:=.func (.func l4) #[] (kf bC gy gtb bk aY ga gs)) Ψ (N.Qz rfl)];have hm:av .i64 ah a gt (.slice (σ ⟨gt,0,ν⟩) sc.length sc.length) (p9 sc.length 0):=by
  have:=bX.full (n:=sc.length) (k:=1) aE Ξ (by simp only[maxLen];omega);unfold av;rw[List.length_replicate];exact this
 have aG:=(p.trans A).trans q;have O:ai (λr=>w.heap.size<=r/\¬False) w a:=(((aG.ab _).trans (C.mono λr _ h=>⟨by have h:r=gtb:=h;omega,id⟩)).trans (e.ab _)).trans (y.mono λr _ h=>⟨by have h:r=ga:=h;omega,id⟩);have aI:cN w a:=((((ak.trans ap).trans aq).trans ax).trans ay).trans aA;have aJ:gk ae gT R n s gs bC bk aY aK sc ec v B0 (λ_=>False) a:=hf.own O λr aM=>⟨Ω,aM.2⟩;have P:=Qh (s:=s) (sc:=sc) (pos:=ec) (v:=v) (tl:=p9 sc.length 0) Ξ;refine(show gF x7 l4 (uL 0 bC gy gtb bk aY ga gs) a _ from(Qm (L:=cm s sc ec v) (B:=w.heap.size) (l:=l) (gy:=gy) (gt:=gt) (gtb:=gtb) (ga:=ga) (pos:=ec) Ω Q S aj ⟨Ω,Ω,Ω⟩ E ?_ sc.length 0 (p9 sc.length 0) 0 (λ_=>False) a Ω Ξ (λ_ h=>h.elim) Ω ⟨⟨Ω,id⟩,⟨Ω,id⟩,⟨Ω,id⟩,Ω,id⟩ ⟨aC,aF,N,hm⟩ aJ (E _ _ _ _ O aI.o Z) λi x hi=>?_).free.mono ?_)
 .intro D k tl aL w' aN aO aP aQ aR z;refine hN.mono (Y D k (k+1) [aL] w' aN aO aP ⟨rfl,tl,aL,aQ,rfl,aR⟩ z) ?_;rintro u bn (⟨h1,aS,aT,aU,aV⟩|⟨h,_⟩)
  .exact⟨h1,aS,aT (.inr rfl),aU,aV rfl⟩
  .cases h
 .rw[P]at hi;rw[X8];exact hi
 .rintro _ bp ⟨_,rfl,_,D',_,_,_,_,_,_,z,_⟩;rw[P,X8]at z;exact .inl ⟨D',_,rfl,z⟩
end
def E4(m gs bC bk aY:Nat)(aK:x1):Prop:=(m<=gs/\m<=bC/\m<=bk/\m<=aY)/\∀r,leads aK r->m<=r
section
variable{ae gT gs bC bk aY B0 m:Nat}{A R:ak}{n:aJ}{s s':au}{t:aC}{aK:x1}{sc:Λ}{pos v:Int}{w w':x3}
theorem bu.lt(h:bu w ae gT A R n s t){r:Nat}(a:A r\/R r):r<w.heap.size:=by
 obtain⟨⟨p,q,x,y,⟨_,_,e,f⟩,_⟩,_⟩:=h;exact a.elim (f r) (e r)
theorem gk.put{D' S:Nat->Prop}(h:gk ae gT R n s gs bC bk aY aK sc pos v B0 D w)(p:ai S w w')(hm:E4 m gs bC bk aY aK)(z:∀r,S r->r<m\/B0<=r)(B:Laid w')(C:bu w' ae gT A R n s' t)(E:∀i,bw s' i=bw s i)(F:∀r,A r\/R r->r<B0\/D' r):gk ae gT R n s gs bC bk aY aK sc pos v B0 D' w':=by
 obtain⟨h1,f,q,x,G,_⟩:=h;have no:∀{r:Nat},m<=r->r<B0->¬S r:=λh1 f q=>by have:=z _ q;omega
 exact⟨h1.ab p ⟨no hm.1.1 f.1,no hm.1.2.1 f.2.1,no hm.1.2.2.1 f.2.2.1,no hm.1.2.2.2 f.2.2.2⟩,f,hT q p λr H a n c e y=>no (hm.2 r ⟨a,n,c,e,y⟩) (x r ⟨a,n,c,e,y⟩) H,x,⟨B,Y8 G.2 p.size⟩,A,s',t,C,E,F⟩
theorem E5{f:b7}{x:x3->Prop}(h:bu w ae gT A R n s t)(y:Laid w)(ag:s.funs[j]?=σ f)(B:∀aK gs bC bk aY w',Ext w w'->E4 w.heap.size gs bC bk aY aK->gk ae gT R n s gs bC bk aY aK f.sc pos v w'.heap.size (λ_=>False) w'->K (.func (.func l3) #[] #[Γ bC,Γ bk,Γ aY,Γ gs]) w'):
  am x7 qu [Γ ae,Δ (j:Int)] w λaK V=>(Ext w V\/x V)/\am x7 zX [Γ ae,aK,Δ pos,Δ v] V K:=by
 refine(kS h ag).mono ?_;rintro aK V _ ⟨p,g,C,hm⟩;refine⟨.inl p,(Qi hm.ls).mono ?_⟩;rintro _ aa _ ⟨q,gs,bC,bk,aY,rfl,a,E,G,H,I⟩;have J:=p.trans q;have L:=p.size;have z:=J.size;refine B aK gs bC bk aY aa J ⟨⟨Ω,Ω,Ω,Ω⟩,λr e=>(bQ hm e).1▸C⟩ ⟨a,⟨a.1.lt,a.2.1.lt,a.2.2.1.lt,a.2.2.2.lt⟩,hm.ls.ext q,λr e=>?_,⟨y.ext J,o4 _⟩,A,s,t,h.ext J,λ_=>rfl,λr e=>.inl ?_⟩
 .have:=bQ hm e;have:=q.size;omega
 .have:=h.lt e;omega
end
section
variable{k:Int}{sizes:Λ}{s:au}{f:b7}{j pos:Nat}{v:Int}{tl:Λ}
theorem E6{m:Nat}(ag:s.funs[j]?=σ f)(a:f.live≠0)(hm:cJ f.aj tl 0=σ (m:Int)):(hh s j tl).isSome=true/\lG s j tl=bm f.aj f.cs tl:=by
 unfold hh lG;rw[ag];simp[a,hm]
end
section
variable{w:x3}{ae gT:Nat}{A R:ak}{n:aJ}{s:au}{t:aC}
theorem Qn{pos:Nat}{f:b7}(h:bu w ae gT A R n s t)(ak:Laid w)(ag:s.funs[j]?=σ f)(az:f.live≠0)(ad:∀u,f.sc[pos]?=σ u->v∈bw s u):
  am x7 HU [Γ ae,Δ (j:Int),Δ (pos:Int),Δ v] w λr w'=>r=Δ (mr n.k s f pos v)/\Ext w w':=by
 have al:=h.2.2.2.1;have an:=x5 ag;obtain⟨N,aT,_⟩:=al.funs f an;refine gV func141 ?_;refine bf λg1 V aU O y=>?_;refine bf λP aa aV K L=>?_;have y:af aa g1 cI [Γ ae]:=af.ext y K;have L:af aa P ah [Δ (j:Int)]:=L;rw[aw (v:=Γ ae) Ψ (y.Qz rfl)];refine(kb (h.ext (O.trans K))).mono ?_;rintro _ aW _ ⟨rfl,Q⟩;refine bo ao.i λz aX a1 S ap=>?_;have a2:=O.size;have a6:=K.size;have z3:=Q.size;have z4:=S.size;have a7:=y.lt;have a8:=L.lt;have ba:=ap.lt;refine bl ao.i rfl rfl ap (by simp[x1.cells]) λaA U bb W=>?_;have W:af aA z ao [Δ n.k]:=W;intro X B _ _;have bc:=B.size;have aq:=Q.trans S;have Y:Ext w X:=((((O.trans K).trans Q).trans S).then U (by rintro r p rfl;omega)).trans B;have Z:af X g1 cI [Γ ae]:=((y.ext aq).ab U Ω).ext B;have au:af X P ah [Δ (j:Int)]:=((L.ext aq).ab U Ω).ext B;have av:=W.ext B;have bd:=av.lt;rw[aw (v:=Γ ae) Ψ (Z.Qz rfl),aw (v:=Γ ae) Ψ (Z.Qz rfl),aw (v:=Δ (j:Int)) Ψ (au.Qz rfl)];refine E5 (h.ext Y) (ak.ext Y) ag λaK gs bC bk aY aB C aC aE=>?_;have be:=C.size;refine⟨Nat,true,false,l3,#[Γ bC,Γ bk,Γ aY,Γ gs],0,_,_,_,λD k w'=>Ext w w'/\af w' g1 cI [Γ ae]/\af w' P ah [Δ (j:Int)]/\af w' z ao [Δ ((((cm s f.sc pos v).take k).map (bm f.aj f.cs)).foldl min n.k)],
  λ_ _ _ _=>False,rfl,E3 (λu hu=>⟨(N.scope.1 u hu).1,N.vars u hu⟩) N.scope.2,?_,λ_ _ _ J h=>h.ext J,?_,λ_ _ _ _ _ _ _ h=>h,aE,?_,?_,?_,λ_ _ _ h=>h.elim,λ_ _ _ _ h=>h.elim⟩
 .rintro _ _ _ _ ⟨_,_,_,_,rfl,_⟩;rfl
 .rintro D k aF aG M bg ⟨q,E,G,x⟩;have aZ:∀{g:Nat}{e:p8}{cs:List x1},g<aB.heap.size->af aF g e cs->af aG g e cs:=λbh aH=>aH.ab M λh=>by have:=h.2.1;omega
  exact⟨q.then M λr p h=>by have:=h.2.1;omega,aZ Ω E,aZ Ω G,aZ Ω x⟩
 .exact⟨Y.trans C,Z.ext C,au.ext C,av.ext C⟩
 .rintro aL D k bi bj bn bp aI ⟨rfl,tl,bt,ax,e,aJ⟩ ⟨q,E,G,x⟩;cases e;intro bx H _ aM;obtain⟨m,hm⟩:=uD al an ad (x5 ax);obtain⟨aN,M⟩:=E6 ag az hm;rw[aw (v:=Γ ae) Ψ ((E.ext H).Qz rfl),aw (v:=Δ (j:Int)) Ψ ((G.ext H).Qz rfl)];refine(um (j:=j) (h.ext (q.trans H)) (aJ.ext H)).mono ?_;rintro _ bz aO ⟨rfl,aP⟩;have a:=H.trans aP;rw[if_pos aN,M,bq,br,aw (v:=Δ ((((cm s f.sc pos v).take k).map (bm f.aj f.cs)).foldl min n.k)) Ψ ((x.ext a).Qz rfl),l8];refine aD.cw (bl ao.i rfl rfl (x.ext a) Ξ λay I bA ac aQ=>?_);have bB:=a.size;have ai:Ext w ay:=(q.trans a).then I (by rintro r p rfl;omega);have aR:=h.ext ai;refine⟨⟨D,λr h=>.inl h,λ_ h=>h,(aI.ext a).put I aC (λr p=>.inl (by have p:r=z:=p;omega)) (ak.ext ai) aR (λ_=>rfl) λr p=>.inl (by have:=h.lt p;omega),ai,(E.ext a).ab I Ω,(G.ext a).ab I Ω,?_⟩,aM.trans (aO.ko.trans aQ.ko),(a.ab _).trans (I.mono λr _ h=>.inl (by have h:r=z:=h;omega))⟩;have ac:af ay z ao [Δ (min ((((cm s f.sc pos v).take k).map (bm f.aj f.cs)).foldl min n.k) (bm f.aj f.cs tl))]:=ac;rw[u7,ax,o8,Z3,List.foldl_append];exact ac
 .rintro D k bD rfl ⟨q,E,G,x⟩;rw[aw (v:=Δ ((((cm s f.sc pos v).take (cm s f.sc pos v).length).map (bm f.aj f.cs)).foldl min n.k)) Ψ (x.Qz rfl)];intro bE aS _;refine⟨?_,q.trans aS⟩;rw[j6 (o4 _)];rfl
end
def rN(t:aC):Prop:=∀m,t.marks.getLast? =σ m->m.olds+t.cells.length<100000000/\t.olds.length<=m.olds+t.cells.countP λc=>decide (c.st=m.st)
def fz(aA:List aC)(t:aC):Prop:=hv t aA/\rN t
theorem hv.m{t:aC}(h:hv t []):fz [] t:=⟨h,λm hm=>by rw[h.1]at hm;cases hm⟩
theorem fz.room{aA:List aC}{t:aC}(h:fz aA t):Room t:=by
 cases hm:t.marks.getLast? with
 |none=>exact .inl (List.getLast?_eq_none_iff.1 hm)
 |some m=>
  obtain⟨h1,a⟩:=h.2 m hm;have:=List.countP_le_length (p:=λc:Cell=>decide (c.st=m.st)) (l:=t.cells);exact .inr Ω
theorem rN.set{t:aC}{i:Nat}{x:Int}(h:rN t):rN (t.set i x):=by
 unfold aC.set;cases e:t.cells[i]? with
 |none=>exact h
 |some c=>
  obtain⟨f,q⟩:=x4.1 e;cases hm:t.marks.getLast? with
  |none=>
   intro m a;have a:t.marks.getLast? =σ m:=a;rw[hm]at a;cases a
  |some m=>
   obtain⟨h1,r⟩:=h m hm;simp only;split
   .rename_i s;intro cg a;have a:t.marks.getLast? =σ cg:=a;rw[hm]at a;cases a;show m.olds+(t.cells.set i _).length<_/\(t.olds++[_]).length<=m.olds+(t.cells.set i _).countP _;rw[b8,List.countP_set f,q,r8,V6,if_neg (by rw[decide_eq_true_eq];omega),if_pos Ξ];exact⟨h1,Ω⟩
   .intro cg a;have a:t.marks.getLast? =σ cg:=a;rw[hm]at a;cases a;show m.olds+(t.cells.set i _).length<_/\t.olds.length<=m.olds+(t.cells.set i _).countP _;rw[b8,List.countP_set f,q];refine⟨h1,?_⟩;by_cases U:c.st=m.st
    .have:=List.countP_pos_iff (p:=λc:Cell=>decide (c.st=m.st)).2 ⟨c,x5 e,decide_eq_true U⟩;rw[if_pos (decide_eq_true U)];omega
    .rw[if_neg (by rw[decide_eq_true_eq];exact U)];omega
theorem fz.set{aA:List aC}{t:aC}{i:Nat}{x:Int}(h:fz aA t):fz aA (t.set i x):=⟨h.1.set,h.2.set⟩
def eC(aA:List aC)(w:x3)(ae gT:Nat)(A R:ak)(n:aJ)(s':au)(w':x3):Prop:=ai (et w) w w'/\Laid w'/\∃aT bp,Grow A w aT w'/\bu w' ae gT aT R n s' bp/\fz aA bp/\¬aT 0
def fA(aA:List aC)(w:x3)(ae gT:Nat)(A R:ak)(n:aJ)(m:Nat)(D:Nat->Prop)(s':au)(w':x3):Prop:=
 ai (λr=>et w r\/w.heap.size<=r) w w'/\(Laid w'/\w.heap.size<=m/\0<w.heap.size/\(∀r,A r\/R r->r<w.heap.size))/\∃aT bp,Grow A w aT w'/\bu w' ae gT aT R n s' bp/\(fz aA bp/\¬aT 0)/\∀r,aT r->r<m\/D r
section
variable{aA:List aC}{w V aa:x3}{ae gT m:Nat}{A R:ak}{n:aJ}{s s' oN:au}{t:aC}{D D' S:Nat->Prop}
theorem fA.start(h:bu w ae gT A R n s t)(e:Laid w)(f:¬A 0)(p:fz aA t)(J:Ext w V)(hm:w.heap.size<=m):fA aA w ae gT A R n m D s V:=
 ⟨J.ab _,⟨e.ext J,hm,by
  obtain⟨x,y,z,B,⟨h1,_,_,q⟩,_⟩:=h.1;have:=q _ h1;omega,λr a=>h.lt a⟩,A,t,Grow.ext J,h.ext J,⟨p,f⟩,λr a=>.inl (by have:=h.lt (.inl a);omega)⟩
theorem fA.own(h:fA aA w ae gT A R n m D s' V)(e:ai S V aa)(f:∀r,S r->m<=r/\¬D r):fA aA w ae gT A R n m D s' aa:=by
 obtain⟨h1,⟨x,y,z,p⟩,aT,bp,⟨g1,B,C⟩,q,E,s⟩:=h;refine⟨h1.trans (e.mono λr _ h=>.inr (by have:=(f r h).1;omega)),⟨iI e (λh=>by have:=(f _ h).1;omega) x,y,z,p⟩,aT,bp,⟨?_,B,C⟩,⟨q.1.ab e λr _ a U=>?_,q.2⟩,E,s⟩
 .exact ((g1.mono λr _ h=>.inl h).trans (e.mono λr _ h=>.inr (f r h).1):ai (λr=>A r\/m<=r) w aa).mono λr a h=>h.elim id λh=>Ω
 .obtain⟨G,F⟩:=f r U;rcases a with a|a
  .exact (s r a).elim Ω F
  .have:=p r (.inr a);omega
theorem fA.ext(h:fA aA w ae gT A R n m D s' V)(J:Ext V aa):fA aA w ae gT A R n m D s' aa:=h.own (J.ab λ_=>False) λ_ h=>h.elim
theorem fA.Qo(h:fA aA w ae gT A R n m D s' V):∃aT bp,bu V ae gT aT R n s' bp/\fz aA bp/\¬aT 0/\∀{aa:x3}{oN:au}{D' a:Nat->Prop}{p:aC},ai (et V) V aa->Grow aT V a aa->bu aa ae gT a R n oN p->fz aA p->(∀r,D r->D' r)->(∀r,V.heap.size<=r->r<aa.heap.size->D' r)->
  fA aA w ae gT A R n m D' oN aa/\ai (λr=>r<m\/D r) V aa/\∀r,a r->r<m\/D' r:=by
 obtain⟨h1,⟨z,B,C,E⟩,aT,bp,F,G,q,s⟩:=h;refine⟨aT,bp,G,q.1,q.2,λ{aa oN D' a p}H e x I J K=>?_⟩;have O:=h1.size;have L:¬a 0:=λh=>(e.2.1 0 h).elim q.2 λh=>Ω
 have y:∀r,a r->r<m\/D' r:=λr f=>(e.2.1 r f).elim (λh=>(s r h).imp id (J r)) λh=>.inr (K r h (x.lt (.inl f)));refine⟨⟨h1.trans (H.mono λr _ h=>?_),⟨iI e.1 q.2 z,B,C,E⟩,a,p,F.trans e,x,⟨I,L⟩,y⟩,e.1.mono λr _ h=>s r h,y⟩;by_cases f:w.heap.size<=r
 .exact .inr f
 .exact .inl (ne (λo M U N=>h1.aZ r o M U λh=>h.elim N f) h)
theorem fA.open(h:fA aA w ae gT A R n m D s' V):∃aT bp,bu V ae gT aT R n s' bp/\fz aA bp/\∀{aa:x3}{oN:au}{D' e:Nat->Prop}{f:aC},ai (et V) V aa->Grow aT V e aa->bu aa ae gT e R n oN f->fz aA f->(∀r,D r->D' r)->(∀r,V.heap.size<=r->r<aa.heap.size->D' r)->
  fA aA w ae gT A R n m D' oN aa/\ai (λr=>r<m\/D r) V aa/\∀r,e r->r<m\/D' r:=by
 obtain⟨aT,bp,a,b,_,d⟩:=h.Qo;exact⟨aT,bp,a,b,d⟩
theorem fA.done(h:fA aA w ae gT A R n m D s' V)(J:Ext V aa):eC aA w ae gT A R n s' aa:=by
 obtain⟨h1,⟨e,q,s,x⟩,aT,bp,f,p,a,y⟩:=h.ext J;exact⟨h1.mono λr z h=>h.elim id λh=>Ω,e,aT,bp,f,p,a.1,a.2⟩
end
section
variable{aA:List aC}{w:x3}{ae gT:Nat}{A R:ak}{n:aJ}{s:au}{t:aC}
theorem p4{u:Nat}{x:bJ}(a:bx n.k n.sizes s)(J:s.vars[u]?=σ x)(ad:v∈aF x):fh n (u:Int) v:=by
 have h:=(x4.1 J).1;have p:=a.vars;obtain⟨z,e⟩:=aI (l:=n.sizes) (i:=u) Ω;have q:=(a.var _ x z J e).1;have r:=a.eW.2.2 z (x5 e);have f:=(i7.1 ad).1;refine⟨Ω,Ω,f.1,?_⟩;rw[r9,u4,e,V1];omega
theorem E7{f:b7}{g:Int->Int}(a:bx k sizes s)(ag:s.funs[j]?=σ f):dN s j f (dB g [] f.aj f.cs)=s:=by
 obtain⟨p,q⟩:=lH a (x5 ag);rw[PW p Ω (λ_ h=>absurd h List.not_mem_nil)];have:s.funs.set j f=s.funs:=by
  apply Y5;intro i;by_cases e:j=i
  .subst e;rw[b9 (x4.1 ag).1,ag]
  .rw[Y4 e]
 unfold dN;show{s with funs:=s.funs.set j f}=s;rw[this]
theorem E8{pos u:Nat}{f:b7}{x:bJ}{F1 F2:R7}{tup un:Int->Int}(h:bu w ae gT A R n s t)(aP:Laid w)(bi:¬A 0)(bj:fz aA t)(ag:s.funs[j]?=σ f)(bl:f.live≠0)(hu:f.sc[pos]?=σ (u:Int))(J:s.vars[u]?=σ x)(ad:v∈aF x)(h1:∀tl∈cm s f.sc pos v,(0<=tup (bm f.aj f.cs tl)/\tup (bm f.aj f.cs tl)<=n.k)/\∀{w:x3}{A:ak}{s:au}{t:aC},bu w ae gT A R n s t->am x7 F1 [Γ ae,Δ (bm f.aj f.cs tl),Δ c] w λr w'=>r=Δ (tup (bm f.aj f.cs tl))/\Ext w w')(aQ:(0<=un (x.un.getD v.toNat 0)/\un (x.un.getD v.toNat 0)<=n.k)/\∀{w:x3}{A:ak}{s:au}{t:aC},bu w ae gT A R n s t->am x7 F2 [Γ ae,Δ (x.un.getD v.toNat 0),Δ c] w λr w'=>r=Δ (un (x.un.getD v.toNat 0))/\Ext w w'):
  am x7 HV [.agg #[.func (.func F1) #[] #[],.func (.func F2) #[] #[]],Γ ae,Δ (j:Int),Δ (pos:Int),Δ v,Δ c] w λ_ w'=>eC aA w ae gT A R n (i9 s j f pos u x v tup un) w':=by
 have C:=h.2.2.2.1;have Z:=x5 ag;obtain⟨ac,b4,_⟩:=C.funs f Z;have aR:∀u',f.sc[pos]?=σ u'->v∈bw s u':=λu' aS=>by
  rw[hu]at aS;cases aS;unfold bw;rw[r9,J];exact ad
 have bn:=ES C Z aR;refine gV func144 ?_;refine bf λbo V b5 aU N=>?_;refine bf λg1 aa b6 al a=>?_;refine bf λbp b8 ca W z=>?_;refine bf λbt y cb X O=>?_;have N:af y bo qy [.func (.func F1) #[] #[],.func (.func F2) #[] #[]]:=((af.ext N al).ext W).ext X;have a:af y g1 cI [Γ ae]:=(af.ext a W).ext X;have z:af y bp ah [Δ (j:Int)]:=af.ext z X;have O:af y bt ao [Δ c]:=O;have ap:=((aU.trans al).trans W).trans X;have cc:=aU.size;have cd:=al.size;have z3:=W.size;have ce:=ap.size;have aV:=N.lt;have E:=a.lt;have aW:=z.lt;have aX:=O.lt;rw[aw (v:=Γ ae) Ψ (a.Qz rfl),aw (v:=Δ (j:Int)) Ψ (z.Qz rfl)];refine(kS (h.ext ap) ag).mono ?_;rintro cg ch _ ⟨bx,_,_,bz⟩;rw[bh an.u ah.i Ψ bz.ls hu];intro ci bA _ _;have G:=bx.trans bA;have aq:=ap.trans G;have z46:=G.size;rw[aw (v:=Γ ae) Ψ ((a.ext G).Qz rfl),aw (v:=Γ ae) Ψ ((a.ext G).Qz rfl),aw (v:=Δ (j:Int)) Ψ ((z.ext G).Qz rfl)];refine E5 (h.ext aq) (aP.ext aq) ag λaK gs bC bk aY a1 av bB bD=>?_;have cj:=av.size;have bE:=G.trans av;refine⟨Nat,true,false,l3,#[Γ bC,Γ bk,Γ aY,Γ gs],0,_,_,_,
  λD k w'=>fA aA w ae gT A R n w.heap.size D (dN s j f (dB tup ((cm s f.sc pos v).take k) f.aj f.cs)) w'/\(ai (λr=>r<w.heap.size\/a1.heap.size<=r) y w'/\a1.heap.size<=w'.heap.size),
  λ_ _ _ _=>False,rfl,E3 (λu hu=>⟨(ac.scope.1 u hu).1,ac.vars u hu⟩) ac.scope.2,?_,λ_ _ _ J h=>h.ext J,?_,λ_ _ _ _ _ _ _ h=>h,bD,?_,?_,?_,λ_ _ _ h=>h.elim,λ_ _ _ _ h=>h.elim⟩
 .rintro _ _ _ _ ⟨_,_,_,_,rfl,_⟩;rfl
 .rintro D k ck cl P cn ⟨H,I,ax⟩;exact⟨H.own P λr q=>⟨Ω,q.2.2⟩,I.trans (P.mono λr _ h=>.inr h.2.1),Y8 ax P.size⟩
 .refine⟨?_,bE.ab _,o4 _⟩;have e:dN s j f (dB tup ((cm s f.sc pos v).take 0) f.aj f.cs)=s:=E7 C ag;rw[e];exact fA.start h aP bi bj (aq.trans av) (o4 _)
 .rintro aL D k cp ay a2 cq bF ⟨rfl,tl,cr,az,e,a6⟩ ⟨H,I,ax⟩;cases e;intro ct Q _ bG;obtain⟨m,hm⟩:=uD C Z aR (x5 az);obtain⟨bH,bI⟩:=ET (g:=tup) C ag bn az hm;obtain⟨⟨bK,bL⟩,bM⟩:=h1 tl (x5 az);have aZ:∀{S:x3}{g:Nat}{e:p8}{cs:List x1},Ext ay S->w.heap.size<=g->g<y.heap.size->af y g e cs->af S g e cs:=λJ K aB aD=>(aD.ab I Ω).ext J;have bN:=(x4.1 ag).1;have a7:(dN s j f (dB tup ((cm s f.sc pos v).take k) f.aj f.cs)).funs[j]?=σ {f with cs:=dB tup ((cm s f.sc pos v).take k) f.aj f.cs}:=b9 bN;obtain⟨K,P⟩:=E6 (tl:=tl) a7 bl hm;obtain⟨A9,t9,aE,a8,aG⟩:=H.open;rw[aw (v:=Γ ae) Ψ ((aZ Q Ω E a).Qz rfl),aw (v:=Δ (j:Int)) Ψ ((aZ Q Ω aW z).Qz rfl)];refine(um (j:=j) (aE.ext Q) (a6.ext Q)).mono ?_;rintro _ cu bO ⟨rfl,bP⟩;rw[if_pos K,P,bq,br];intro bQ bR _ bS;have B:=(Q.trans bP).trans bR;rw[aw (v:=Γ ae) Ψ ((aZ B Ω E a).Qz rfl),aw (v:=Δ (j:Int)) Ψ ((aZ B Ω aW z).Qz rfl),
   aM qy.p 0 (aZ B Ω aV N) rfl,aw (v:=Γ ae) Ψ ((aZ B Ω E a).Qz rfl),aw (v:=Δ c) Ψ ((aZ B Ω aX O).Qz rfl)]
  show am x7 F1 [Γ ae,Δ (bm f.aj (dB tup ((cm s f.sc pos v).take k) f.aj f.cs) tl),Δ c] bQ _;rw[bH];refine(bM (aE.ext B)).mono ?_;rintro _ cw bT ⟨rfl,ba⟩;have U:=B.trans ba;refine⟨.inl ba,(Py (j:=j) (aE.ext U) a8.room (a6.ext U)).mono ?_⟩;rintro r bb bU ⟨_,_,aH⟩;obtain⟨_,Y,aT,bV,bW,aI,L⟩:=aH K ⟨bK,bL⟩ _ m a7 hm;rw[bI]at L;have cz:=U.size;have cA:=Y.size;obtain⟨bc,aJ,bX⟩:=aG (D':=λr=>D r\/ay.heap.size<=r/\r<bb.heap.size) (j7 U Y) ((Grow.ext U).trans aI) L a8.set (λr h=>.inl h) λr K aB=>.inr ⟨K,aB⟩;refine⟨⟨λr=>D r\/ay.heap.size<=r/\r<bb.heap.size,λr h=>h,λr h=>.inl h,?_,bc,I.trans (aJ.mono λr _ h=>h.imp id λh=>(a2 r h).1),Ω⟩,bG.trans ((((bO.trans bS).trans bT).trans bU).ko),aJ.mono λr _ h=>h.imp (λh=>Ω) id⟩;refine bF.put aJ bB (λr q=>?_) bc.2.1.1 L (λ_=>rfl) λr q=>?_
  .rcases q with q|q
   .exact .inl Ω
   .exact .inr (a2 r q).1
  .rcases q with q|q
   .exact (bX r q).imp (λh=>Ω) id
   .exact .inl (by have:=h.lt (.inr q);omega)
 .rintro D k bY rfl ⟨H,I,ax⟩;rw[j6 (o4 _)]at H;have bd:=p4 C J ad;obtain⟨cB,cC,aN,be,aG⟩:=H.open;have aZ:∀{S:x3}{g:Nat}{e:p8}{cs:List x1},Ext bY S->w.heap.size<=g->g<y.heap.size->af y g e cs->af S g e cs:=λJ K aB aD=>(aD.ab I Ω).ext J;rw[aw (v:=Γ ae) Ψ ((aZ (Ext.refl _) Ω E a).Qz rfl)];refine(oE (i:=(u:Int)) (v:=v) aN).mono ?_;rintro _ cD _ ⟨rfl,bZ⟩;have b0:h2 (dN s j f (dB tup (cm s f.sc pos v) f.aj f.cs)) (u:Int).toNat v.toNat=x.un.getD v.toNat 0:=by
   unfold h2;rw[r9,show(dN s j f (dB tup (cm s f.sc pos v) f.aj f.cs)).vars[u]?=σ x from J]
  rw[if_pos bd,b0,bq,br];intro b1 b2 _ _;have M:=bZ.trans b2;rw[aw (v:=Γ ae) Ψ ((aZ M Ω E a).Qz rfl),aM qy.p 1 (aZ M Ω aV N) rfl,aw (v:=Γ ae) Ψ ((aZ M Ω E a).Qz rfl),aw (v:=Δ c) Ψ ((aZ M Ω aX O).Qz rfl)];show am x7 F2 [Γ ae,Δ (x.un.getD v.toNat 0),Δ c] b1 _;refine(aQ.2 (aN.ext M)).mono ?_;rintro _ cE _ ⟨rfl,bg⟩;have aO:=M.trans bg;refine⟨.inl bg,(En (i:=(u:Int)) (v:=v) (aN.ext aO) be.room).mono ?_⟩;rintro r cF _ ⟨_,_,aH⟩;obtain⟨_,Y,aT,bV,bW,aI,L⟩:=aH bd aQ.1;have e:kQ (dN s j f (dB tup (cm s f.sc pos v) f.aj f.cs)) (u:Int).toNat v.toNat (un (x.un.getD v.toNat 0))=i9 s j f pos u x v tup un:=by
   unfold kQ i9 eB;rw[r9,show(dN s j f (dB tup (cm s f.sc pos v) f.aj f.cs)).vars[u]?=σ x from J]
  rw[e]at L;intro cG b3 _;exact(aG (D':=λ_=>True) (j7 aO Y) ((Grow.ext aO).trans aI) L be.set (λ_ _=>trivial) λ_ _ _=>trivial).1.done b3
end
theorem rO(h e:Nat){l a:Nat}(f:l<256)(hm:a<256):(256*h+l) &&& (256*e+a)=256*(h &&& e)+(l &&& a):=by
 have p:l &&& a<2 ^ 8:=Nat.and_lt_two_pow _ hm;apply Nat.eq_of_testBit_eq;intro i;rw[Nat.testBit_and,show 256=2 ^ 8 from rfl,Nat.testBit_two_pow_mul_add _ f,Nat.testBit_two_pow_mul_add _ hm,Nat.testBit_two_pow_mul_add _ p];split
 .rw[Nat.testBit_and]
 .rw[Nat.testBit_and]
def gQ(m x:Nat):Nat:=(x / 2 &&& m)+(x &&& m)
def hM(m x:Nat):Nat:=(x / 4 &&& m)+(x &&& m)
def jG(m x:Nat):Nat:=(x / 16+x) &&& m
def c3(a:Nat):Nat:=jG 15 (hM 51 (gQ 85 a))
theorem Qp:∀e<2,∀l<256,(128*e+l / 2) &&& 85=l / 2 &&& 85:=by decide+kernel
theorem Qq:∀e<4,∀l<256,(64*e+l / 4) &&& 51=l / 4 &&& 51:=by decide+kernel
theorem Qr:∀e<5,∀l<69,(16*e+l / 16+l) &&& 15=(l / 16+l) &&& 15:=by decide+kernel
theorem nx:∀l<256,gQ 85 l<256/\hM 51 (gQ 85 l)<69/\hM 51 (gQ 85 l) % 16<5/\c3 l<=8/\(c3 l=0->l=0):=by decide+kernel
theorem uM(h a:Nat){l:Nat}(e:l<256):gQ (256*a+85) (256*h+l)=256*gQ a h+gQ 85 l:=by
 unfold gQ;rw[show(256*h+l) / 2=256*(h / 2)+(128*(h % 2)+l / 2) by omega,rO _ _ Ω Ω,rO _ _ e Ω,Qp _ Ω _ e];omega
theorem uN(h a:Nat){l:Nat}(e:l<256):hM (256*a+51) (256*h+l)=256*hM a h+hM 51 l:=by
 unfold hM;rw[show(256*h+l) / 4=256*(h / 4)+(64*(h % 4)+l / 4) by omega,rO _ _ Ω Ω,rO _ _ e Ω,Qq _ Ω _ e];omega
theorem uO(h a:Nat){l:Nat}(e:l<69)(he:h % 16<5):jG (256*a+15) (256*h+l)=256*jG a h+jG 15 l:=by
 unfold jG;rw[show(256*h+l) / 16+(256*h+l)=256*(h / 16+h)+(16*(h % 16)+l / 16+l) by omega,rO _ _ Ω Ω,Qr _ he _ e]
def four(a b c d:Nat):Nat:=256*(256*(256*d+c)+b)+a
theorem Qs{a b c d:Nat}(e:a<256)(f:b<256)(h:c<256)(p:d<256):gQ 6148914691236517205 (four a b c d)=four (gQ 85 a) (gQ 85 b) (gQ 85 c) (gQ 85 d):=by
 unfold four;rw[show 6148914691236517205=256*(256*(256*(256*1431655765+85)+85)+85)+85 from rfl,uM _ _ e,uM _ _ f,uM _ _ h];have:=uM 0 1431655765 p;rw[show 256*0+d=d by omega,show gQ 1431655765 0=0 from by unfold gQ;simp]at this;rw[this,Nat.mul_zero,X8]
theorem Qt{a b c d:Nat}(e:a<256)(f:b<256)(h:c<256)(p:d<256):hM 3689348814741910323 (four a b c d)=four (hM 51 a) (hM 51 b) (hM 51 c) (hM 51 d):=by
 unfold four;rw[show 3689348814741910323=256*(256*(256*(256*858993459+51)+51)+51)+51 from rfl,uN _ _ e,uN _ _ f,uN _ _ h];have:=uN 0 858993459 p;rw[show 256*0+d=d by omega,show hM 858993459 0=0 from by unfold hM;simp]at this;rw[this,Nat.mul_zero,X8]
theorem Qu{a b c d:Nat}(e:a<69)(f:b<69/\b % 16<5)(h:c<69/\c % 16<5)(p:d<69/\d % 16<5):jG 1085102592571150095 (four a b c d)=four (jG 15 a) (jG 15 b) (jG 15 c) (jG 15 d):=by
 unfold four;rw[show 1085102592571150095=256*(256*(256*(256*252645135+15)+15)+15)+15 from rfl,uO _ _ e Ω,uO _ _ f.1 Ω,uO _ _ h.1 Ω];have:=uO 0 252645135 p.1 Ω;rw[show 256*0+d=d by omega,show jG 252645135 0=0 from by unfold jG;simp]at this;rw[this,Nat.mul_zero,X8]
def rP(x:Nat):Nat:=c3 (x % 256)+c3 (x / 256 % 256)+c3 (x / 65536 % 256)+c3 (x / 16777216)
theorem Qv{x:Nat}(h:x<4294967296):rP x=0↔x=0:=by
 constructor
 .intro a;unfold rP at a;have h1:=(nx (x % 256) Ω).2.2.2.2 Ω;have e:=(nx (x / 256 % 256) Ω).2.2.2.2 Ω;have f:=(nx (x / 65536 % 256) Ω).2.2.2.2 Ω;have p:=(nx (x / 16777216) Ω).2.2.2.2 Ω;omega
 .rintro rfl;decide
theorem Qw{x:Nat}(J:x<4294967296):am x7 IQ [.int .u64 (x:Int)] w λv w'=>v=Δ (rP x:Int)/\Ext w w':=by
 obtain⟨a,b,c,d,H,I,L,M,e,S,U,V,W⟩:∃a b c d,a<256/\b<256/\c<256/\d<256/\x=four a b c d/\a=x % 256/\b=x / 256 % 256/\c=x / 65536 % 256/\d=x / 16777216:=
  ⟨x % 256,x / 256 % 256,x / 65536 % 256,x / 16777216,Ω,Ω,Ω,Ω,by unfold four;omega,rfl,rfl,rfl,rfl⟩
 obtain⟨X,Y,a3,a4,_⟩:=nx a H;obtain⟨Z,aa,ab,ap,_⟩:=nx b I;obtain⟨ad,ae,af,aq,_⟩:=nx c L;obtain⟨d1,d2,d3,d4,_⟩:=nx d M;have g1:=Qs H I L M;have N:=Qt X Z ad d1;have ag:=Qu Y ⟨aa,ab⟩ ⟨ae,af⟩ ⟨d2,d3⟩;have ai:rP x=c3 a+c3 b+c3 c+c3 d:=by unfold rP;rw[<-S,<-U,<-V,<-W]
 rw[<-e]at g1;have aj:gQ 6148914691236517205 x<4294967296:=by rw[g1];unfold four;omega
 have O:hM 3689348814741910323 (gQ 6148914691236517205 x)<4294967296:=by rw[g1,N];unfold four;omega
 have B:jG 1085102592571150095 (hM 3689348814741910323 (gQ 6148914691236517205 x))=four (c3 a) (c3 b) (c3 c) (c3 d):=by rw[g1,N,ag];rfl
 have ak:four (c3 a) (c3 b) (c3 c) (c3 d)<4294967296:=by unfold four;omega
 refine az func223 ?_;have A:∀{t:p8}{cx cy:Bool}{K:x1->Prop}(p q:Nat),p+q<18446744073709551616->ac x7 (aN .add t cx cy (.int .u64 (p:Int)) (.int .u64 (q:Int))) w K=K (.int .u64 ((p+q:Nat):Int)):=λp q h=>by
  rw[aO,wrap_u64 Ω Ω];rfl
 have small:∀(p m:Nat),p &&& m<=p:=λp m=>Nat.and_le_left;rw[show(1:Int)=((1:Nat):Int)from rfl,lj Ω,show(6148914691236517205:Int)=((6148914691236517205:Nat):Int)from rfl,u64_and Ω Ω,u64_and Ω Ω,A (x / 2 ^ 1 &&& 6148914691236517205) (x &&& 6148914691236517205) (by exact Nat.lt_of_le_of_lt (Nat.add_le_add (small _ _) (small _ _)) Ω)];obtain⟨y,C⟩:∃y,(x / 2 ^ 1 &&& 6148914691236517205)+(x &&& 6148914691236517205)=y:=⟨_,rfl⟩;rw[C];have C:gQ 6148914691236517205 x=y:=C;rw[C]at aj O B;rw[show(2:Int)=((2:Nat):Int)from rfl,lj Ω,show(3689348814741910323:Int)=((3689348814741910323:Nat):Int)from rfl,u64_and Ω Ω,u64_and Ω Ω,A (y / 2 ^ 2 &&& 3689348814741910323) (y &&& 3689348814741910323) (by exact Nat.lt_of_le_of_lt (Nat.add_le_add (small _ _) (small _ _)) Ω)];obtain⟨z,E⟩:∃z,(y / 2 ^ 2 &&& 3689348814741910323)+(y &&& 3689348814741910323)=z:=⟨_,rfl⟩;rw[E];have E:hM 3689348814741910323 y=z:=E;rw[E]at O B;rw[show(4:Int)=((4:Nat):Int)from rfl,lj Ω,A (z / 2 ^ 4) z Ω,show(1085102592571150095:Int)=((1085102592571150095:Nat):Int)from rfl,u64_and Ω Ω];have B:z / 2 ^ 4+z &&& 1085102592571150095=four (c3 a) (c3 b) (c3 c) (c3 d):=B;rw[B];obtain⟨r,G⟩:∃r,four (c3 a) (c3 b) (c3 c) (c3 d)=r:=⟨_,rfl⟩;rw[G]at ak ⊢;unfold four at G;rw[show(8:Int)=((8:Nat):Int)from rfl,lj Ω,A r (r / 2 ^ 8) Ω];obtain⟨s,P⟩:∃s,r+r / 2 ^ 8=s:=⟨_,rfl⟩;rw[P];rw[show(16:Int)=((16:Nat):Int)from rfl,lj Ω,A s (s / 2 ^ 16) Ω];obtain⟨f,Q⟩:∃f,s+s / 2 ^ 16=f:=⟨_,rfl⟩;rw[Q];rw[show(32:Int)=((32:Nat):Int)from rfl,lj Ω,A f (f / 2 ^ 32) Ω,fm fJ.u ah.u,wrap_i64 Ω Ω,show(127:Int)=((127:Nat):Int)from rfl,Eb Ω Ω];refine⟨?_,Ext.refl _⟩;rw[ai,show 127=2 ^ 7-1 from rfl,Nat.and_two_pow_sub_one_eq_mod];have al:r / 2 ^ 8=65536*c3 d+256*c3 c+c3 b:=Ω
 have an:s / 2 ^ 16=256*c3 d+(c3 c+c3 d):=Ω
 have R:f / 2 ^ 32=0:=Ω
 have au:f=128*(131072*c3 d+512*(c3 c+c3 d)+2*(c3 b+c3 c+c3 d))+(c3 a+c3 b+c3 c+c3 d):=Ω
 have ao:(f+f / 2 ^ 32) % 2 ^ 7=c3 a+c3 b+c3 c+c3 d:=by rw[R];clear G P Q al an R;omega
 rw[ao]
theorem hs{b n:Nat}(a:mf b n):am x7 HY [jt b n] w λr w'=>(∃q:Int,r=Δ q/\(q=0↔b=0))/\Ext w w':=by
 have e:b<4294967296:=by
  have:=a.2;have:(2:Nat) ^ n<=2 ^ 32:=S2 Ω a.1;omega
 refine az func147 ?_;refine bf λg V x f h=>?_;rw[aM b1.p 0 h rfl];refine(Qw e).mono ?_;rintro _ aa _ ⟨rfl,s⟩;refine⟨⟨_,rfl,?_⟩,f.trans s⟩;rw[<-Qv e];omega
def oO(aA:List aC)(w:x3)(ae gT:Nat)(A R:ak)(n:aJ)(s:au)(a:hK)(r:x1)(w':x3):Prop:=r=Δ (cB n.k s a).2/\eC aA w ae gT A R n (cB n.k s a).1 w'
section
variable{aA:List aC}{w:x3}{ae gT:Nat}{A R:ak}{n:aJ}{s:au}{t:aC}{a:hK}
theorem eC.same(h:bu w ae gT A R n s t)(a:Laid w)(e:¬A 0)(f:fz aA t)(J:Ext w w'):eC aA w ae gT A R n s w':=(fA.start (m:=w.heap.size) (D:=λ_=>False) h a e f J (o4 _)).done (Ext.refl _)
theorem eC.before{V:x3}{s':au}(J:Ext w V)(h:eC aA V ae gT A R n s' w'):eC aA w ae gT A R n s' w':=by
 obtain⟨h1,a,aT,bp,e,f⟩:=h;exact⟨j7 J h1,a,aT,bp,(Grow.ext J).trans e,f⟩
theorem yf{j u:Int}{f:b7}{x:bJ}(h:en s j pos v=σ (f,u,x)):∃p e u':Nat,j=p/\pos=e/\u=u'/\s.funs[p]?=σ f/\f.live≠0/\f.sc[e]?=σ (u':Int)/\s.vars[u']?=σ x/\v∈aF x/\∀q,f.sc[e]?=σ q->v∈bw s q:=by
 obtain⟨h1,z,A,B,a,C⟩:=nr h;obtain⟨E,r,F,w⟩:=kV C;obtain⟨j,rfl⟩:=U2 h1;obtain⟨pos,rfl⟩:=U2 z;obtain⟨u,rfl⟩:=U2 E;refine⟨j,pos,u,rfl,rfl,rfl,A,B,a,r,w,λu' y=>?_⟩;have a:f.sc[pos]?=σ (u:Int):=a;rw[a]at y;cases y;unfold bw;rw[r];exact w
theorem Qx(hk:a.kind=0)(h:bu w ae gT A R n s t)(z:Laid w)(E:¬A 0)(G:fz aA t):am x7 G6 [Γ ae,Δ a.i,Δ a.pos,Δ a.v,Δ a.c] w (oO aA w ae gT A R n s a):=by
 have I:=h.2.2.2.1;refine az func65 ?_;refine(EU h).mono ?_;rintro _ V _ ⟨y,u,e,rfl,q⟩;rw[bq,br];have p:cB n.k s a=match en s a.i a.pos a.v with
  |none=>(s,1)
  |some (f,u,x)=>if dq n.k a.c (mr n.k s f a.pos.toNat a.v)≠0 then(s,dq n.k a.c (mr n.k s f a.pos.toNat a.v))else(i9 s a.i.toNat f a.pos.toNat u.toNat x a.v (λg=>dL n.k g a.c) λg=>dM n.k g a.c,0):=by unfold cB;rw[if_pos hk]<;>cases en s a.i a.pos a.v<;>rfl
 rcases q with⟨rfl,f,x,q⟩|⟨rfl,q⟩
 rotate_left
 .rw[q]at p;rw[bD,al];exact⟨λ_=>⟨by rw[p],by rw[p];exact eC.same h z E G y⟩,λh=>absurd Φ h⟩
 rw[q]at p;rw[bD,al];refine⟨λh=>absurd rfl h,λ_=>?_⟩;obtain⟨j,pos,u,S,T,U,ag,K,hu,J,ad,W⟩:=yf q;have X:=x5 ag;simp only[S,T,U,r9]at p ⊢;refine(Qn (j:=j) (pos:=pos) (h.ext y) (z.ext y) ag K W).mono ?_;rintro _ aa _ ⟨rfl,L⟩;refine(uE (h.ext (y.trans L))).mono ?_;rintro _ af _ ⟨Y,rfl⟩;have B:=(y.trans L).trans Y;refine c5 (λw'=>eC aA w ae gT A R n (cB n.k s a).1 w') ?_ λaB M=>?_
 .intro w' Z;refine⟨?_,Z⟩;rw[p];split
  .rfl
  .rename_i r;rw[Y0.1 r]
 rw[be,al];refine⟨λr=>?_,λr=>M _ ?_⟩
 .obtain⟨C,hm⟩:=nq (λh=>h r);rw[cZ (cs:=#[.func (.func nO) #[] #[],.func (.func nP) #[] #[]]) Ψ];have N:∀t∈cm s f.sc pos a.v,a.c<=bm f.aj f.cs t:=λt ab=>((p1 _ _ _).1 hm).2 _ (j5.2 ⟨t,ab,rfl⟩);have O:=h5 (v:=a.v.toNat) I J;refine(E8 (t:=t) (F1:=nO) (F2:=nP) (tup:=λg=>dL n.k g a.c) (un:=λg=>dM n.k g a.c) (h.ext B) (z.ext B) E G ag K hu J ad (λtl P=>?_) ⟨nt O C.1,λ{w A s t}H=>rJ H O C⟩).mono ?_
  .have Q:=oK (t:=tl) I X;exact⟨ns Q ⟨C.1,N tl P⟩,λ{w A s t}H=>uF H Q C (.inr (N tl P))⟩
  .rintro _ ah _ ac;refine M _ ?_;rw[p,if_neg (λh=>h r)];exact ac.before B
 .rw[p,if_pos r];exact eC.same h z E G B
theorem Qy(hk:a.kind=1)(h:bu w ae gT A R n s t)(C:Laid w)(E:¬A 0)(G:fz aA t):am x7 G7 [Γ ae,Δ a.i,Δ a.pos,Δ a.v,Δ a.c] w (oO aA w ae gT A R n s a):=by
 have H:=h.2.2.2.1;refine az func66 ?_;refine(EU h).mono ?_;rintro _ V _ ⟨y,u,e,rfl,q⟩;rw[bq,br];have p:cB n.k s a=match en s a.i a.pos a.v with
  |none=>(s,1)
  |some (f,u,x)=>if dq n.k a.c (x.un.getD a.v.toNat 0)≠0 then(s,dq n.k a.c (x.un.getD a.v.toNat 0))else(i9 s a.i.toNat f a.pos.toNat u.toNat x a.v (λg=>dM n.k g a.c) λg=>dL n.k g a.c,0):=by unfold cB;rw[if_neg Ω,if_pos hk]<;>cases en s a.i a.pos a.v<;>rfl
 rcases q with⟨rfl,f,x,q⟩|⟨rfl,q⟩
 rotate_left
 .rw[q]at p;rw[bD,al];exact⟨λ_=>⟨by rw[p],by rw[p];exact eC.same h C E G y⟩,λh=>absurd Φ h⟩
 rw[q]at p;rw[bD,al];refine⟨λh=>absurd rfl h,λ_=>?_⟩;obtain⟨j,pos,u,O,P,Q,ag,S,hu,J,ad,Z⟩:=yf q;have T:=x5 ag;simp only[O,P,Q,r9]at p ⊢;refine(oE (i:=(u:Int)) (v:=a.v) (h.ext y)).mono ?_;rintro _ aa _ ⟨rfl,K⟩;have U:h2 s (u:Int).toNat a.v.toNat=x.un.getD a.v.toNat 0:=by
  unfold h2;rw[r9,J]
 rw[if_pos (p4 H J ad),U,bq,br];refine(uE (h.ext (y.trans K))).mono ?_;rintro _ ab _ ⟨W,rfl⟩;have z:=(y.trans K).trans W;refine c5 (λw'=>eC aA w ae gT A R n (cB n.k s a).1 w') ?_ λaB L=>?_
 .intro w' X;refine⟨?_,X⟩;rw[p];split
  .rfl
  .rename_i r;rw[Y0.1 r]
 rw[be,al];refine⟨λr=>?_,λr=>L _ ?_⟩
 .obtain⟨B,hm⟩:=nq (λh=>h r);rw[cZ (cs:=#[.func (.func nP) #[] #[],.func (.func nO) #[] #[]]) Ψ];have M:=h5 (v:=a.v.toNat) H J;refine(E8 (t:=t) (F1:=nP) (F2:=nO) (tup:=λg=>dM n.k g a.c) (un:=λg=>dL n.k g a.c) (h.ext z) (C.ext z) E G ag S hu J ad (λtl ac=>?_) ⟨ns M ⟨B.1,hm⟩,λ{w A s t}I=>uF I M B (.inr hm)⟩).mono ?_
  .have N:=oK (t:=tl) H T;exact⟨nt N B.1,λ{w A s t}I=>rJ I N B⟩
  .rintro _ af _ Y;refine L _ ?_;rw[p,if_neg (λh=>h r)];exact Y.before z
 .rw[p,if_pos r];exact eC.same h C E G z
end
def gR(s:au)(i:Int):Option bJ:=match(if 0<=i then s.vars[i.toNat]? else ν)with
 |some x=>if x.gone=0 then σ x else ν
 |none=>ν
theorem yg{s:au}{i:Int}{x:bJ}(h:gR s i=σ x):0<=i/\s.vars[i.toNat]?=σ x/\x.gone=0:=by
 unfold gR at h;by_cases a:0<=i
 .rw[if_pos a]at h;cases J:s.vars[i.toNat]? with
  |none=>rw[J]at h;cases h
  |some y=>
   rw[J]at h;simp only at h;split at h
   .rename_i e;cases h;exact⟨a,rfl,e⟩
   .cases h
 .rw[if_neg a]at h;cases h
theorem E9{g:Int->Int}{un L:Λ}(h:L[j]?=σ v):ed g un (L.take (j+1))=(ed g un (L.take j)).set v.toNat (g ((ed g un (L.take j)).getD v.toNat 0)):=by
 unfold ed;rw[u7,h,o8,List.foldl_append];rfl
theorem Fa{i:Nat}{v:Int}:∀(L M:Λ)(s:au),gj s i v (L++M)=gj (gj s i v L) i v M
 |[],_,_=>rfl
 |w::L,M,s=>by
  rw[List.cons_append,gj,gj];exact Fa L M _
theorem Qz{s:au}{i:Nat}{w:Int}{L:Λ}(h:L[j]?=σ w):gj s i v (L.take (j+1))=if w≠v then ej (gj s i v (L.take j)) i w.toNat else gj s i v (L.take j):=by
 rw[u7,h,o8,Fa];rfl
def kg(m u:Int):Int:=if m<0\/u<m then u else m
theorem Fb:∀(l:Λ)(m:Int),0<=m->(∀c∈l,0<=c)->l.foldl kg m=l.foldl min m
 |[],_,_,_=>rfl
 |c::l,m,hm,a=>by
  have f:=a c (.head _);have e:kg m c=min m c:=by unfold kg;split<;>omega
  rw[List.foldl_cons,List.foldl_cons,e];exact Fb l _ Ω λc h=>a c (.tail _ h)
theorem QA{x:bJ}(h:∀v∈aF x,0<=x.un.getD v.toNat 0):((aF x).map λv=>x.un.getD v.toNat 0).foldl kg (-1)=ja x:=by
 unfold ja;have a:∀c∈(aF x).map (λv=>x.un.getD v.toNat 0),0<=c:=λc e=>by
  obtain⟨v,ad,rfl⟩:=j5.1 e;exact h v ad
 generalize (aF x).map (λv=>x.un.getD v.toNat 0)=l at a;cases l with
 |nil=>rfl
 |cons c l=>exact Fb l c (a c (.head _)) λc h=>a c (.tail _ h)
section
variable{aA:List aC}{w:x3}{ae gT:Nat}{A R:ak}{n:aJ}{s:au}{t:aC}{a:hK}
theorem Fc{i:Int}(h:bu w ae gT A R n s t):am x7 HW [Γ ae,Δ i] w λr w'=>Ext w w'/\r=Δ (if(gR s i).isSome=true then 0 else 1):=by
 have p:=h.2.2.2.1;have O:=p.vars;refine az func145 ?_;rw[dc cI.u];simp only[Z5,a1];refine aV (λr V=>r= .bool (!(gR s i).isSome)/\Ext w V) ?_ ?_
 .rintro _ V ⟨rfl,C⟩;rw[bZ];exact⟨λq=>⟨C,by rw[if_neg (by simpa using q)]⟩,λq=>⟨C,by rw[if_pos (by simpa using q)]⟩⟩
 intro aB E;refine(uk (i:=i) h).mono ?_;rintro _ aa _ ⟨rfl,y⟩;rw[bZ];refine⟨λa=>E _ _ ⟨?_,y⟩,λa=>?_⟩
 .rw[U1,decide_eq_true_eq]at a;have K:gR s i=ν:=by
   unfold gR;rw[if_pos a.1];have B:=a.2;unfold kc at B;cases J:s.vars[i.toNat]? with
   |none=>rfl
   |some x=>
    rw[J]at B;simp only;rw[if_neg λh=>by simp[h]at B]
  rw[K];rfl
 refine(h3 (i:=i) (h.ext y)).mono ?_;rintro _ P _ ⟨⟨b,m,rfl,G⟩,L⟩;refine(wk (b:=b) (n:=m)).mono ?_;rintro _ Q _ ⟨rfl,M⟩;rw[be];refine E _ _ ⟨?_,(y.trans L).trans M⟩;congr 1;by_cases f:0<=i/\i<n.sizes.length
 .obtain⟨x,J⟩:=aI (l:=s.vars) (i:=i.toNat) Ω;obtain⟨z,H⟩:=aI (l:=n.sizes) (i:=i.toNat) Ω;have S:=p.eW.2.2 z (x5 H);have U:=(p.var _ x z J H).1;have hm:=(G.2.2 x f.1 J).1;have N:x.gone=0:=by
   rw[decide_eq_true f.1,U6]at a;unfold kc at a;rw[J]at a;simpa using a
  have e:gR s i=σ x:=by
   unfold gR;rw[if_pos f.1,J];simp only;rw[if_pos N]
  rw[e,decide_eq_false Ω];rfl
 .obtain⟨rfl,rfl⟩:=G.2.1 f;have e:gR s i=ν:=by
   unfold gR;by_cases I:0<=i
   .rw[if_pos I,Z4 Ω]
   .rw[if_neg I]
  rw[e];rfl
theorem Fe{u:Nat}{x:bJ}{F1 F2:R7}{g z:Int->Int}(h:bu w ae gT A R n s t)(aB:Laid w)(a2:¬A 0)(a6:fz aA t)(J:s.vars[u]?=σ x)(h1:∀v∈aF x,(0<=g (x.un.getD v.toNat 0)/\g (x.un.getD v.toNat 0)<=n.k)/\∀{w:x3}{A:ak}{s:au}{t:aC},bu w ae gT A R n s t->am x7 F1 [Γ ae,Δ (x.un.getD v.toNat 0),Δ c] w λr w'=>r=Δ (g (x.un.getD v.toNat 0))/\Ext w w')(aD:(0<=z s.zero/\z s.zero<=n.k)/\∀{w:x3}{A:ak}{s':au}{t:aC},bu w ae gT A R n s' t->am x7 F2 [Γ ae,Δ s.zero,Δ c] w λr w'=>r=Δ (z s.zero)/\Ext w w'):
  am x7 HX [Γ ae,Δ (u:Int),Δ c,.func (.func F1) #[] #[],.func (.func F2) #[] #[]] w λ_ w'=>eC aA w ae gT A R n (kT s u x g z) w':=by
 have a7:=h.2.2.2.1;have U:=(x4.1 J).1;refine gV func146 ?_;refine bf λg1 V bC aE a=>?_;refine bf λa8 aa bD W q=>?_;refine bf λba bE bF H B=>?_;refine bf λbb f bG I K=>?_;have a:af f g1 cI [Γ ae]:=((af.ext a W).ext H).ext I;have q:af f a8 ah [Δ (u:Int)]:=(af.ext q H).ext I;have B:af f ba ao [Δ c]:=af.ext B I;have K:af f bb JB [.func (.func F1) #[] #[]]:=K;have L:=((aE.trans W).trans H).trans I;have bH:=aE.size;have bI:=W.size;have z3:=H.size;have bK:=L.size;have M:=a.lt;have aG:=q.lt;have aH:=B.lt;have bc:=K.lt;rw[aw (v:=Γ ae) Ψ (a.Qz rfl),aw (v:=Δ (u:Int)) Ψ (q.Qz rfl)];refine(h3 (i:=(u:Int)) (h.ext L)).mono ?_;rintro _ bL _ ⟨⟨b,bd,rfl,aI⟩,aJ⟩;refine(ll (b:=b) (n:=bd)).mono ?_;rintro _ N _ ⟨be,aK,rfl,bM,aL⟩;have aM:=kd aI Ω (show s.vars[(u:Int).toNat]?=σ x by rw[r9];exact J);have C:=aJ.trans be;have z5:=aJ.size;have z46:=C.size;have bN:=aL.lt;have aN:=rH x;have bg:eB s u x (ed g x.un ((aF x).take 0))=s:=by
  unfold eB;show{s with vars:=s.vars.set u x}=s;have:s.vars.set u x=s.vars:=by
   apply Y5;intro i;by_cases e:u=i
   .subst e;rw[b9 U,J]
   .rw[Y4 e]
  rw[this]
 refine jf.old ⟨_,false,ic,#[Γ aK],_,_,_,_,λj w'=>fA aA w ae gT A R n w.heap.size (λr=>N.heap.size<=r) (eB s u x (ed g x.un ((aF x).take j))) w'/\ai (λr=>r<w.heap.size\/N.heap.size<=r) N w',λ_ _ _=>False,rfl,(lk (g:=aK) aI.1).s,?_,
  λ_ _ J h=>⟨h.1.ext J,h.2.ext J⟩,λ_ _ _ J h=>⟨h.1.ext J,h.2.trans (J.ab _)⟩,λ_ _ _ _ _ h=>h,⟨aL,aB.ext (L.trans C)⟩,?_,?_,?_,λ_ _ h=>h.elim,λ_ _ _ h=>h.elim⟩
 .rintro _ _ _ _ ⟨_,_,_,_,rfl⟩;rfl
 .refine⟨?_,ai.refl _ _⟩;rw[bg];exact fA.start h aB a2 a6 (L.trans C) (o4 _)
 .rintro _ j _ bh ⟨bi,bO⟩ ⟨bP,rfl,v,ad,bj⟩ ⟨O,E⟩;cases bj;intro bQ P _ _;have X:(aF x)[j]?=σ (v:Int):=by rw[<-aM,x8,ad];rfl
  have aO:=x5 X;have aZ:∀{G:x3}{g:Nat}{e:p8}{cs:List x1},Ext bh G->w.heap.size<=g->g<f.heap.size->af f g e cs->af G g e cs:=λJ aP aQ Y=>((Y.ext C).ab E Ω).ext J;obtain⟨bR,bS,Z,aR,ac⟩:=O.open;have aS:fh n (u:Int) (v:Int):=p4 a7 J aO;have bk:∀y∈aF x,0<=y/\y<x.un.length:=λy ag=>(i7.1 ag).1;have aj:=uA (g:=g) ((aF x).take j) x.un (v:Int) (aN.sublist (List.take_sublist _ _)) (λy ag=>bk y (S0 ag)) Ω;rw[if_neg (yb aN X)]at aj;have bl:h2 (eB s u x (ed g x.un ((aF x).take j))) (u:Int).toNat (v:Int).toNat=x.un.getD (v:Int).toNat 0:=by
   unfold h2 eB;rw[r9,b9 U];exact aj
  rw[aw (v:=Γ ae) Ψ ((aZ P Ω M a).Qz rfl),aw (v:=Δ (u:Int)) Ψ ((aZ P Ω aG q).Qz rfl)];refine(oE (i:=(u:Int)) (v:=(v:Int)) (Z.ext P)).mono ?_;rintro _ bT _ ⟨rfl,bm⟩;rw[if_pos aS,bl,bq,br];intro bn bo _ _;have p:=(P.trans bm).trans bo;rw[aw (v:=Γ ae) Ψ ((aZ p Ω M a).Qz rfl),aw (v:=Δ (u:Int)) Ψ ((aZ p Ω aG q).Qz rfl),
   aw (v:=.func (.func F1) #[] #[]) Ψ ((aZ p Ω bc K).Qz rfl),aw (v:=Γ ae) Ψ ((aZ p Ω M a).Qz rfl),aw (v:=Δ c) Ψ ((aZ p Ω aH B).Qz rfl)]
  show am x7 F1 [Γ ae,Δ (x.un.getD (v:Int).toNat 0),Δ c] bn _;obtain⟨bp,bt⟩:=h1 v aO;refine(bt (Z.ext p)).mono ?_;rintro _ bU _ ⟨rfl,aU⟩;have al:=p.trans aU;refine⟨.inl aU,(En (i:=(u:Int)) (v:=(v:Int)) (Z.ext al) aR.room).mono ?_⟩;rintro r bV _ ⟨_,_,an⟩;obtain⟨_,ap,aT,bw,bx,aq,Q⟩:=an aS bp;have e:kQ (eB s u x (ed g x.un ((aF x).take j))) (u:Int).toNat (v:Int).toNat (g (x.un.getD (v:Int).toNat 0))=eB s u x (ed g x.un ((aF x).take (j+1))):=by
   rw[E9 X,aj];unfold kQ eB;rw[r9,b9 U];simp only[List.set_set]
  rw[e]at Q;have bW:=E.size;obtain⟨aV,aW,bX⟩:=ac (D':=λr=>N.heap.size<=r) (j7 al ap) ((Grow.ext al).trans aq) Q aR.set (λr h=>h) λr aP aQ=>Ω
  exact⟨⟨bi.ab aW Ω,aV.2.1.1⟩,⟨aV,E.trans aW⟩,λh=>by cases h⟩
 .rintro k bz rfl ⟨O,E⟩;rw[j6 (by rw[<-aM,u9];exact o4 _)]at O;obtain⟨bY,bZ,av,aX,ac⟩:=O.open;have aZ:∀{G:x3}{g:Nat}{e:p8}{cs:List x1},Ext bz G->w.heap.size<=g->g<f.heap.size->af f g e cs->af G g e cs:=λJ aP aQ Y=>((Y.ext C).ab E Ω).ext J;intro b0 S _ _;have ax:=aZ S Ω M a;rw[aw (v:=Γ ae) Ψ (ax.Qz rfl),aw (v:=Γ ae) Ψ (ax.Qz rfl),aw (v:=Γ ae) Ψ (ax.Qz rfl),aw (v:=Δ c) Ψ ((aZ S Ω aH B).Qz rfl)];refine(rA (av.ext S)).mono ?_;rintro _ bA _ ⟨rfl,ay⟩;have aY:=S.trans ay;refine⟨.inl ay,?_⟩;show am x7 F2 [Γ ae,Δ s.zero,Δ c] bA _;refine(aD.2 (av.ext aY)).mono ?_;rintro _ b1 _ ⟨rfl,a1⟩;have az:=aY.trans a1;refine⟨.inl (ay.trans a1),(Px (av.ext az) aX.room).mono ?_⟩;rintro r b2 _ ⟨_,an⟩;obtain⟨_,ap,aT,bw,bx,aq,Q⟩:=an aD.1;intro b3 bB _;exact(ac (D':=λ_=>True) (j7 az ap) ((Grow.ext az).trans aq) Q aX.set (λ_ _=>trivial) λ_ _ _=>trivial).1.done bB
end
section
variable{w:x3}{ae gT ap:Nat}{A R:ak}{A9:Nat->ak}{aG:ak}{n:aJ}{s u:au}{t:aC}{h:List aC}{cs:List x1}{a:hK}
theorem QB(hk:a.kind<2):cB n.k u a=match en u a.i a.pos a.v with
  |none=>(u,1)
  |some (f,v,x)=>if dq n.k a.c (if a.kind=1 then x.un.getD a.v.toNat 0 else mr n.k u f a.pos.toNat a.v)≠0 then(u,dq n.k a.c (if a.kind=1 then x.un.getD a.v.toNat 0 else mr n.k u f a.pos.toNat a.v))
   else(i9 u a.i.toNat f a.pos.toNat v.toNat x a.v (λg=>if a.kind=0 then dL n.k g a.c else dM n.k g a.c) λg=>if a.kind=0 then dM n.k g a.c else dL n.k g a.c,0):=by
 unfold cB;by_cases e:a.kind=0
 .rw[if_pos e];simp only[e];cases en u a.i a.pos a.v<;>rfl
 .have h1:a.kind=1:=Ω
  rw[if_neg e,if_pos h1];simp only[h1];cases en u a.i a.pos a.v<;>rfl
theorem getD_some{i:Nat}(h:i<l.length):l[i]?=σ (l.getD i 0):=by
 rw[u4,x6 h];rfl
theorem QC(p:cj w ae gT ap A R A9 aG n s u t h cs)(G:bx n.k n.sizes u)(bO:dp u)(hk:a.kind<2):am x7 vD [Γ ap,Δ (a.kind:Int),Δ a.i,Δ a.pos,Δ a.v,Δ a.c] w λr w'=>r=Δ (cB n.k u a).2/\dr w ae gT ap A R A9 aG n s t h (cB n.k u a).1 w':=by
 have C:=QB (n:=n) (u:=u) hk;have c0:=G.vars;have bQ:=G.eV;refine az func64 ?_;have bR:cs[0]?=σ (Δ n.k):=by obtain⟨_,_,_,_,_,_,rfl,_⟩:=p.oI;rfl
 rw[aQ ba.p 0 p.box bR,aS,al];refine⟨λ_=>?_,λh=>Ω⟩;rw[bV];refine p.look.load λfd bS=>?_;refine(Qb bS G bO).mono ?_;rintro _ V _ ⟨aA,rfl⟩;cases aR:en u a.i a.pos a.v with
 |none=>
  rw[aR]at C;simp only;rw[bq,br,bE,V0,bT];exact⟨by rw[C],by rw[C];exact dr.same p aA⟩
 |some q=>
 obtain⟨f,M,x⟩:=q;rw[aR]at C;simp only;rw[bq,br,bE,Y7,a1];obtain⟨j,pos,M,bU,bW,bX,ag,c1,hu,J,ad,aT⟩:=yf aR;have aC:=x5 ag;simp only[bU,bW,bX,r9]at C ⊢;have bY:=(x4.1 ag).1;have bl:=(x4.1 J).1;have b0:=(x4.1 hu).1;obtain⟨b1,c2⟩:=lH G aC;have b2:=ES G aC aT;have b3:=(i7.1 ad).1;obtain⟨v,P⟩:=U2 b3.1;have bn:=h5 (v:=a.v.toNat) G J;have aE:=p.ext aA;have bo:∀{aa:x3}{eT:au}{bp:List x1}{bt:Nat->ak}{f2:b7},cj aa ae gT ap A R bt aG n s eT t h bp->eT.funs[j]?=σ f2->∃Q cap S aX y,bp[6]?=σ (.slice (σ ⟨Q,0,ν⟩) eT.funs.length cap)/\j<eT.funs.length/\aa.cell? ⟨Q,0+j*4+0+0,ν⟩=σ S/\aa.cell? ⟨Q,0+j*4+0+2,ν⟩=σ y/\aH .i64 aa S f2.sc/\aH .i64 aa y f2.cs/\
   ∀{w':x3}{m:Nat}{c:Int}{K:Unit->x3->Prop},Ext aa w'->m<f2.cs.length->(∀bu,dr aa ae gT ap A R bt aG n s t h (dN eT j f2 (f2.cs.set m c)) bu->K () bu)->ac x7 (c9 ay y (Δ (m:Int))) w' λa=>aD x7 (o9 ao a (Δ c)) w' K:=λb4 aF=>by
  obtain⟨Q,cap,S,aX,y,b5,bw,b8,ca,U⟩:=Qd b4 aF;exact⟨Q,cap,S,aX,y,b5,(x4.1 aF).1,by rw[X8];exact bw 0 _ rfl,by rw[X8];exact bw 2 _ rfl,b8,ca,U⟩
 obtain⟨Q,c3,S,aX,c4,cb,cc,cd,_,cg,_,_⟩:=bo aE ag;rw[aQ ba.p 6 aE.box cb,fb fI.u eO.i cc λ_=>rfl,aU eO.p rfl,aU bb.p rfl,aw (v:=S) (o:=0+j*4+0+0) Ψ cd,bh an.u ah.i Ψ cg hu];generalize bz:(if a.kind=1 then x.un.getD a.v.toNat 0 else mr n.k u f pos a.v)=most at C;refine aV (λr aa=>r=Δ most/\Ext w aa) ?_ λaB bA=>?_
 rotate_left
 .rw[be,al];refine⟨λh1=>?_,λh1=>bA _ _ ⟨by rw[<-bz,if_neg Ω],aA⟩⟩;have h1:a.kind=1:=Ω
  obtain⟨aY,bB,y,aZ,a2,aJ,_⟩:=ye aE J;rw[aQ ba.p 5 aE.box aZ,fb eE.u ay.i bl λ_=>rfl,aw (v:=y) (o:=0+M*1) Ψ (by rw[X8,U7];exact a2),P,bh ay.u ao.i Ψ aJ (getD_some Ω)];refine bA _ _ ⟨?_,aA⟩;rw[<-bz,if_pos h1,P,r9]
 rintro _ aa ⟨rfl,ch⟩;refine Ax.mono ?_;rintro _ c6 _ ⟨rfl,ci⟩;have W:=ch.trans ci;have bC:cu a.c n.k↔0<=a.c/\a.c<=n.k:=⟨λh=>h.2,λaF=>⟨bQ,aF⟩⟩;rw[bE,bZ];refine⟨λX=>?_,λX=>?_⟩
 .have ck:¬cu a.c n.k:=by simpa using X
  have E:dq n.k a.c most=3:=by unfold dq;rw[if_pos λh=>ck (bC.2 h)]
  rw[if_pos (by rw[E];decide),E]at C;exact⟨by rw[C],by rw[C];exact dr.same p W⟩
 have bD:=bC.1 (show cu a.c n.k by simpa using X);rw[bN,al];refine⟨λcl=>?_,λcn=>?_⟩
 .have E:dq n.k a.c most=7:=by unfold dq;rw[if_neg (λh=>h bD),if_pos cl]
  rw[if_pos (by rw[E];decide),E]at C;exact⟨by rw[C],by rw[C];exact dr.same p W⟩
 have E:dq n.k a.c most=0:=by unfold dq;rw[if_neg (λh=>h bD),if_neg cn]
 rw[if_neg (λh=>h E)]at C;have cp:=p.ext W;rw[bV];refine cp.look.load λc7 cq=>?_;refine(E1 cq G ag b0 aT).mono ?_;rintro aL a6 _ ⟨cr,a7,cw⟩;have bF:=W.trans cr;rw[aW an.u a7];have bG:(lJ u f pos a.v).length=(cm u f.sc pos a.v).length:=by unfold lJ;rw[u9]
 rw[bG];obtain⟨tup,a8⟩:∃tup:Int->Int,tup=λg=>if a.kind=0 then dL n.k g a.c else dM n.k g a.c:=⟨_,rfl⟩;obtain⟨un,bc⟩:∃un:Int->Int,un=λg=>if a.kind=0 then dM n.k g a.c else dL n.k g a.c:=⟨_,rfl⟩;rw[<-a8,<-bc]at C;have cz:=p.olds.ext bF;have c8:=p.box.lt;have da:=W.size;have cA:∀{w':x3},ai (λr=>(∃q,A9 q r/\r<w.heap.size)\/r=ap) a6 w'->aH .i64 w' aL (lJ u f pos a.v):=λcC=>hT a7 cC λr E b n c e X=>by
  have:=cw r ⟨b,n,c,e,X⟩;rcases E with⟨q,E⟩|E
  .have:=E.2;omega
  .omega
 refine ce.range (cm u f.sc pos a.v).length (λq w'=>dr a6 ae gT ap A R (λq r=>A9 q r/\r<w.heap.size) aG n s t h (dN u j f (dB tup ((cm u f.sc pos a.v).take q) f.aj f.cs)) w') (by rw[<-bG];exact a7.le) ?_ ?_ ?_
 .rw[List.take_zero,E7 G ag];exact dr.same cz (Ext.refl _)
 .rintro q Y cD cE aK cF;obtain⟨tl,bd⟩:=aI (l:=cm u f.sc pos a.v) cE;obtain⟨m,hm⟩:=uD G aC aT (x5 bd);have cG:(lJ u f pos a.v)[q]?=σ (m:Int):=by
   unfold lJ;rw[x8,bd];unfold oM;rw[Z7,hm];rfl
  obtain⟨bI,bJ⟩:=ET (g:=tup) G ag b2 bd hm;have cH:=(x4.1 (mW b1 hm)).1;have db:m<f.cs.length:=by rw[r9]at cH;omega
  obtain⟨U,cI,bK,O,bf⟩:=id aK;obtain⟨b6,bL⟩:∃b6,b6=dB tup ((cm u f.sc pos a.v).take q) f.aj f.cs:=⟨_,rfl⟩;have dc:b6.length=f.cs.length:=by rw[bL,oF _ _ _ _ Ω]
  rw[<-bL]at O bI bJ;have bM:(dN u j f b6).funs[j]?=σ {f with cs:=b6}:=b9 bY;obtain⟨aM,cJ,dd,de,aN,cK,cL,_,bg,_,cM,cN⟩:=bo O bM;have cO:b6[m]?=σ (bm f.aj f.cs tl):=by
   rw[getD_some Ω,<-bI];unfold bm;rw[hm];simp
  have df:=oK (t:=tl) G aC;have dg:bK[0]?=σ (Δ n.k):=by obtain⟨_,_,_,_,_,_,rfl,_⟩:=O.oI;rfl
  have cP:=cA U;refine bH Ω ?_;refine c5 (λH=>dr a6 ae gT ap A R (λq r=>A9 q r/\r<w.heap.size) aG n s t h (dN u j f (dB tup ((cm u f.sc pos a.v).take (q+1)) f.aj f.cs)) H) (λH N=>by rw[aO];exact cF _ N) λcQ cR=>?_;have Z:∀{I:x3},Ext Y I->ac x7 (c9 ay aN (Δ (m:Int))) I λa'=>aD x7 (o9 ao a' (Δ (tup (bm f.aj f.cs tl)))) I λ(_:Unit)H=>cQ H:=λbi=>by
   refine cN bi (by show m<b6.length;omega) λH N=>cR _ (dr.comp U bf ?_);have cS:dN (dN u j f b6) j {f with cs:=b6} (b6.set m (tup (bm f.aj f.cs tl)))=kR (dN u j f b6) j m (tup (bm f.aj f.cs tl)):=by unfold kR;rw[bM];rfl
   rw[cS,bJ]at N;exact N
  have row:∀{z:x3}{K:x1->x1->x1->x1->x1->x1->Prop},Ext Y z->K (Γ ap) (.pointer (σ ⟨ap,0+6,ν⟩)) (.slice (σ ⟨aM,0,ν⟩) (dN u j f b6).funs.length cJ) (.pointer (σ ⟨aM,0+j*4,ν⟩)) (.pointer (σ ⟨aM,0+j*4+0,ν⟩)) (.pointer (σ ⟨aM,0+j*4+0+2,ν⟩))->
    ac x7 (bP (Γ ap)) z λaf=>ac x7 (u6 ba af 6) z λaq=>ac x7 (u5 fI aq) z λav=>ac x7 (c9 fI av (Δ (j:Int))) z λax=>ac x7 (u6 eO ax 0) z λaP=>ac x7 (u6 bb aP 2) z λcT=>K af aq av ax aP cT:=λJ bj=>by
   rw[aQ ba.p 6 (O.box.ext J) cK,fb fI.u eO.i cL λ_=>rfl,aU eO.p rfl,aU bb.p rfl];exact bj
  rw[bh an.u ah.i Ψ cP cG];refine row (Ext.refl _) ?_;rw[aw (v:=aN) (o:=0+j*4+0+2) Ψ bg,bh ay.u ao.i Ψ cM cO,be,al];refine⟨λbk=>?_,λbk=>?_⟩
  .intro z B _ _;refine row B ?_;rw[aw (v:=aN) (o:=0+j*4+0+2) Ψ (iH B bg)];refine(uJ Ω Ω).mono ?_;rintro _ I _ ⟨rfl,L⟩;refine⟨.inl L,?_⟩;have:=Z (B.trans L);rw[a8]at this;simp only[if_pos (show a.kind=0 by omega)]at this;exact this
  .intro z B _ _;refine row B ?_;rw[aw (v:=aN) (o:=0+j*4+0+2) Ψ (iH B bg)];refine(pA Ω Ω).mono ?_;rintro _ I _ ⟨rfl,L⟩;refine⟨.inl L,?_⟩;have:=Z (B.trans L);rw[a8]at this;simp only[if_neg (show¬a.kind=0 by omega)]at this;exact this
 .rintro Y cD aK;rw[o7]at aK;refine ct Ω ?_;obtain⟨U,cI,bK,O,bf⟩:=id aK;have cU:(dN u j f (dB tup (cm u f.sc pos a.v) f.aj f.cs)).vars[M]?=σ x:=J;obtain⟨aY,bB,y,aZ,a2,aJ,cV⟩:=ye O cU;refine c5 (λH=>dr w ae gT ap A R A9 aG n s t h (i9 u j f pos M x a.v tup un) H) (λH N=>⟨by rw[C],by rw[C];exact N⟩) λcW cX=>?_;have cY:M<(dN u j f (dB tup (cm u f.sc pos a.v) f.aj f.cs)).vars.length:=bl;have row:∀{z:x3}{K:x1->x1->x1->x1->x1->Prop},Ext Y z->K (Γ ap) (.pointer (σ ⟨ap,0+5,ν⟩)) (.slice (σ ⟨aY,0,ν⟩) (dN u j f (dB tup (cm u f.sc pos a.v) f.aj f.cs)).vars.length bB) (.pointer (σ ⟨aY,0+M*1,ν⟩)) y->
    ac x7 (bP (Γ ap)) z λaf=>ac x7 (u6 ba af 5) z λaq=>ac x7 (u5 eE aq) z λav=>ac x7 (c9 eE av (Δ (M:Int))) z λax=>ac x7 (u5 ay ax) z λaP=>K af aq av ax aP:=λJ bj=>by
   rw[aQ ba.p 5 (O.box.ext J) aZ,fb eE.u ay.i cY λ_=>rfl,aw (v:=y) (o:=0+M*1) Ψ (by rw[X8,U7];exact iH J a2)];exact bj
  have Z:∀{I:x3},Ext Y I->ac x7 (c9 ay y (Δ (v:Int))) I λa'=>aD x7 (o9 ao a' (Δ (un (x.un.getD v 0)))) I λ(_:Unit)H=>cW H:=λbi=>by
   refine cV bi Ω λH N=>cX _ ?_;have cZ:=dr.comp U bf N.E2;have:=dr.comp (A9:=A9) (w:=w) (bF.ab _) (λq r E=>.inl ⟨q,E.1⟩) cZ;unfold i9;rw[show a.v.toNat=v by omega];exact this
  rw[be,al];refine⟨λbk=>?_,λbk=>?_⟩
  .intro z B _ _;refine row B (row B ?_);rw[P,bh ay.u ao.i Ψ (aJ.ext B) (getD_some Ω)];rw[P,r9]at bn;refine(pA Ω Ω).mono ?_;rintro _ I _ ⟨rfl,L⟩;refine⟨.inl L,?_⟩;have:=Z (B.trans L);rw[bc]at this;simp only[if_pos (show a.kind=0 by omega)]at this;exact this
  .intro z B _ _;refine row B (row B ?_);rw[P,bh ay.u ao.i Ψ (aJ.ext B) (getD_some Ω)];rw[P,r9]at bn;refine(uJ Ω Ω).mono ?_;rintro _ I _ ⟨rfl,L⟩;refine⟨.inl L,?_⟩;have:=Z (B.trans L);rw[bc]at this;simp only[if_neg (show¬a.kind=0 by omega)]at this;exact this
end
end Go.Proofs.YtikkpokkcdocoabGreatDoor
