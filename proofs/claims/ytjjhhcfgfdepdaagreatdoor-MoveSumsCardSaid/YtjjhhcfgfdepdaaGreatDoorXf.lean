/- own texts, made small by a tool (wip/ holds them as they were written): no statement of the seat. -/
import Derived.Test.YtjjhhcfgfdepdaaGreatDoorXe
set_option linter.unusedVariables false
set_option linter.unusedSimpArgs false
set_option linter.unnecessarySimpa false
open Array renaming getElem?_eq_some_iff→j0
open Bool renaming not_true→Y5,not_false→V0,eq_iff_iff→U1,and_eq_true→T0,true_and→T3
open Decidable renaming not_not→Y7
open Go renaming Value→x1,World→x3,TypeId→r9,IntKind→o6,FuncId→Q0
open Go.Builtin renaming append_→b9
open Go.Instr renaming loadAt→u5,fieldAt→u6,storeAt→o5,indexAt→c8,extract→Z8,alloc→S0
open Go.IntKind renaming i64→X7,u64→U8
open Go.Proofs.Tryz renaming prog→x7
open Go.Value renaming int→V5
open Int renaming toNat_natCast→r8,eq_ofNat_of_zero_le→U5
open List renaming getElem?_eq_some_iff→x4,mem_of_getElem?→x5,getElem?_eq_getElem→x6,getElem?_map→x8,getD_eq_getElem?_getD→u4,length_map→u7,take_add_one→u9,length_append→p8,replicate→p9,take_length→o7,take_of_length_le→o9,mem_singleton→n9,mem_map→l7,mem_append→l9,length_take→j5,map_append→j6,getElem?_set_self→j9,append_assoc→c9,length_cons→b8,eq_nil_of_length_eq_zero→Z0,getElem?_eq_none→Z4,length_set→Z5,getElem?_set_ne→Y0,ext_getElem?→Y6,getElem?_append_left→Y8,getElem?_append_right→X1,flatMap_cons→X2,mem_iff_getElem?→X9,drop_eq_getElem_cons→W5,append_nil→W7,mem_cons→V1,length_eq_one_iff→V2,map_cons→V7,length_singleton→U3,map_set→U9,mem_filter→T4,length→T7,mem_of_mem_take→T9,map_map→R6
open Nat renaming le_refl→o4,le_trans→X0,zero_le→X8,zero_add→W0,add_mul→U4,mul_one→T5,pow_le_pow_right→S3,add_assoc→R7,add_sub_cancel_left→R8,lt_of_lt_of_le→Q2,eq_zero_or_pos→Q3
open Ne renaming symm→S8
open Option renaming toList_some→o8,map_some→Z6,isNone_some→Z7,map_eq_some_iff→X3,getD_some→V8,isSome_some→R3,isSome_none→R4
open Option.some renaming inj→c7,injEq→Y3
open Prod renaming mk→R5
open Prod.mk renaming injEq→T2
set_option maxHeartbeats 16000000
open Option renaming some→σ,none→ν
variable {w w':x3}{a ab ga gt gtb gy j l m pos:Nat}{c v:Int}{pl tl:Λ}{D:Nat->Prop}{K:x1->x3->Prop}
namespace Go.Proofs.YtjjhhcfgfdepdaaGreatDoor
open Go Go.Vc Go.RowKit Go.Proofs Go.Proofs.Tryz
set_option maxRecDepth 100000
def ra (s:aq):Prop:=∀x∈s.vars,x.gone=0\/x.gone=1
theorem mW {α β:Type} {f:α->β} {l:List α} {i:Nat} {x:α} (h:l[i]? =σ x):(l.take (i+1)).map f=(l.take i).map f++[f x]:=by
 rw[u9,h,o8,j6,List.map_singleton]
theorem pw {α β a:Type} {f:α->a} {g:β->a} {l:List α} {m:List β} {i:Nat} {x:α} {y:β} (h:l.map f=m.map g) (e:l[i]? =σ x) (j:m[i]? =σ y):f x=g y:=by
 have:(l.map f)[i]? =(m.map g)[i]?:=by rw[h]
 rw[x8,x8,e,j] at this;exact c7 this
theorem Ex {a:Int} {aD bv:x1} {e f:Λ} (h1:Seen ek w [aD] e) (h:Seen ek w [bv] f):∀u∈[Δ a,aD,bv],u.oneCell'=true:=by
 intro u hu;simp only[V1,List.not_mem_nil,or_false] at hu;rcases hu with rfl|rfl|rfl
 .rfl
 .exact e4 h1
 .exact e4 h
section
variable {w:x3} {xs gG:x1} {k:Int} {sizes:Λ} {s t:aq}
theorem Ps {Q:x1->x3->Prop} (I:ho w xs k sizes s) (df:ho w gG k sizes t) (ap:br k sizes s) (a1:br k sizes t) (gs:ra s) (gt:ra t) (cp:s.funs.length<=100000/\t.funs.length<=100000)
  (aq:¬pv s t-> ∀w',Ext w w'->Q (.bool false) w') (dg:pv s t-> ∀w',Ext w w'->Q (.bool true) w'):ai x7 yT [xs,gG] w Q:=by
 have ez:=ap.vars;have bw:=a1.vars;have eB:=ap.e1.2.1;have one:∀ {w:x3} {α:Type} [aj α] {m:Bool} {S R:af} {c:List x1} {l:List α},aj.rep m S R w c l-> ∃v,c=[v]:=λh=>by obtain⟨v,bx,_⟩:=h;exact⟨v,bx⟩
 refine aw func26 ?_;refine bn λg1 J eC bV dh=>?_;refine bn λeD w2 eE bW di=>?_;have cq:=(I.box bV dh).ext bW;have cr:=df.box (bV.trans bW) di;have aa:=bV.trans bW;obtain⟨szv,eF,dj,eH,eI,eJ,H,ct,_,bX,dk,dl,eK,bz⟩:=id cq;obtain⟨eL,eM,eN,eO,eP,ev',aF,_,_,dm,dp,dq,eQ,cw⟩:=id cr;refine aT (λv cz=>v= .bool (!decide (s.zero=t.zero/\s.ce.length=t.ce.length))/\Ext w2 cz) ?_ λau M=>?_
 rotate_left
 .rw[az aG.p 2 H rfl,az aG.p 2 aF rfl,bE,ah];refine⟨λj=>M _ _ ⟨by rw[decide_eq_false λh=>j (by rw[h.1])];rfl,Ext.refl _⟩,λa2=>?_⟩;rw[az aG.p 7 H rfl,fC jC.u bz,u7,az aG.p 7 aF rfl,fC jC.u cw,u7,bE];refine M _ _ ⟨?_,Ext.refl _⟩;congr 1;have a2:s.zero=t.zero:=Y7.1 a2;by_cases C:s.ce.length=t.ce.length
  .rw[decide_eq_true (show _/\_ from⟨a2,C⟩)];exact decide_eq_false Ω
  .rw[decide_eq_false (λh:_/\_=>C h.2)];exact decide_eq_true Ω
 rintro _ cz ⟨rfl,bA⟩;rw[b0];refine⟨λj=>aq (λh=>by rw[decide_eq_true (show _/\_ from⟨h.zero,h.Pp⟩)] at j;cases j) _ (aa.trans bA),λdr=>?_⟩;obtain⟨a2,ds⟩:s.zero=t.zero/\s.ce.length=t.ce.length:=by simpa using dr
 rw[az aG.p 1 (H.ext bA) rfl,aX al.u (ct.ext bA)];refine bY.range sizes.length (λi _ bZ=>Ext w2 bZ/\(s.vars.take i).map dN=(t.vars.take i).map dN) ct.le ⟨bA,rfl⟩ ?_ ?_
 .rintro i t4 bZ a6 hi ⟨a7,bb⟩ bc;obtain⟨x,av⟩:=aE (l:=s.vars) (i:=i) Ω;obtain⟨y,aA⟩:=aE (l:=t.vars) (i:=i) Ω;have am:=gs x (x5 av);have gy:=gt y (x5 aA);have cA:pv s t->dN x=dN y:=λh=>pw h.vars av aA;have cB:(s.vars.map ax)[i]? =σ (ax x):=by rw[x8,av];rfl
  have dt:(t.vars.map ax)[i]? =σ (ax y):=by rw[x8,aA];rfl
  have du:(s.vars.map λx=>decide (x.gone≠0))[i]? =σ (decide (x.gone≠0)):=by rw[x8,av];rfl
  have dw:(t.vars.map λx=>decide (x.gone≠0))[i]? =σ (decide (y.gone≠0)):=by rw[x8,aA];rfl
  have dx:(s.vars.map (·.un))[i]? =σ x.un:=by rw[x8,av];rfl
  have dy:(t.vars.map (·.un))[i]? =σ y.un:=by rw[x8,aA];rfl
  have eR:=(ap.var i x _ av (x6 hi)).1;have eS:=(a1.var i y _ aA (x6 hi)).1;have dz:∀d∈ax x,0<=d/\d<(x.un.length:Int):=λd U=>by
   unfold ax at U;obtain⟨h1,_⟩:=T4.1 U;obtain⟨q,bB,rfl⟩:=l7.1 h1;have:=List.mem_range.1 bB;omega
  have cC:∀ {E:x3} {K:x1->Prop},Ext w2 E->K (.bool (decide (x.gone≠0)))->V x7 (c8 hs dj (Δ (i:Int))) E λp=>V x7 (u5 ey p) E K:=λaH b1=>by
   refine ib (α:=Bool) (a:=decide (x.gone≠0)) rfl hs.u ey.i (bd dk aH) du λb o cs b2 W=>?_;obtain rfl:cs=[.bool (decide (x.gone≠0))]:=W;rw[aB (v:=.bool (decide (x.gone≠0))) Ψ (by have:=b2 0 _ rfl;simpa using this)];exact b1
  refine bH Ω ?_;refine aT (λv N=>v= .bool (!decide (x.gone=y.gone/\ax x=ax y))/\Ext w2 N) ?_ λeU cD=>?_
  rotate_left
  .intro N A _ _;have O:=a7.trans A;rw[az aG.p 4 (H.ext O) rfl];refine cC O ?_;rw[az aG.p 4 (aF.ext O) rfl];refine ib (α:=Bool) (a:=decide (y.gone≠0)) rfl hs.u ey.i (bd dp O) dw λb o cs b2 W=>?_;obtain rfl:cs=[.bool (decide (y.gone≠0))]:=W;rw[aB (v:=.bool (decide (y.gone≠0))) Ψ (by have:=b2 0 _ rfl;simpa using this),Pq ey.u,b0];have dA:(decide (x.gone≠0) == decide (y.gone≠0))=decide (x.gone=y.gone):=by
    rcases am with e|e<;>rcases gy with z|z<;>rw[e,z]<;>decide
   rw[dA];refine⟨λj=>cD _ _ ⟨by rw[decide_eq_false (λh:_/\_=>by rw[decide_eq_true h.1] at j;cases j)];rfl,O⟩,λj=>?_⟩;have bC:x.gone=y.gone:=by simpa using j
   rw[az aG.p 3 (H.ext O) rfl];refine gl (α:=Λ) (a:=ax x) rfl rfl cu.u al.i Ψ (bd bX O) cB λcE X=>?_;rw[az aG.p 3 (aF.ext O) rfl];refine gl (α:=Λ) (a:=ax y) rfl rfl cu.u al.i Ψ (bd dm O) dt λeV dC=>?_;refine (p4 (cN X) (cN dC)).mono ?_;rintro _ aI _ ⟨rfl,P⟩;rw[bF];exact cD _ _ ⟨by congr 2;exact decide_eq_decide.2 ⟨λh=>⟨bC,h⟩,λh=>h.2⟩,O.trans P⟩
  rintro _ N ⟨rfl,A⟩;rw[b0];refine⟨λj=>aq (λh=>by
   have h:=q8.1 (cA h);rw[decide_eq_true (show _/\_ from⟨h.1,h.2.1⟩)] at j;cases j) _ (aa.trans A),λj=>?_⟩
  obtain⟨bC,b3⟩:x.gone=y.gone/\ax x=ax y:=by simpa using j
  rw[az aG.p 3 (H.ext A) rfl];refine gl (α:=Λ) (a:=ax x) rfl rfl cu.u al.i Ψ (bd bX A) cB λcE X=>?_;have X:=cN X;rw[aX al.u X];refine bY.range (ax x).length (λq _ aI=>Ext N aI/\(x.gone=0->((ax x).take q).map (λv=>x.un.getD v.toNat 0)=((ax x).take q).map (λv=>y.un.getD v.toNat 0))) X.le ⟨Ext.refl _,λ_=>rfl⟩ ?_ ?_
  .rintro q b4 aI dD bB ⟨P,bD⟩ dE;obtain⟨d,U⟩:=aE (l:=(ax x)) bB;have eW:=dz d (x5 U);obtain⟨c,W⟩:=aE (l:=x.un) (i:=d.toNat) Ω;obtain⟨ab,bf⟩:∃c,y.un[d.toNat]? =σ c:=⟨_,x6 Ω⟩;have cF:x.un.getD d.toNat 0=c:=by rw[u4,W];rfl
   have cG:y.un.getD d.toNat 0=ab:=by rw[u4,bf];rfl
   refine bH Ω ?_;rw[be al.u ag.i Ψ (X.ext P) U];refine aT (λr aJ=>r= .bool (!decide (x.gone=0->c=ab))/\Ext N aJ) ?_ λeX cH=>?_
   .rintro _ aJ ⟨rfl,aK⟩;rw[b0];refine⟨λj=>aq (λh=>?_) _ (aa.trans (A.trans aK)),λj=>?_⟩
    .have h:=(q8.1 (cA h)).2.2;rw[decide_eq_true λad=>?_] at j
     .cases j
     .unfold fZ at h;rw[if_neg Ω,if_neg Ω,<-b3] at h;have:=pw h U U;rw[cF,cG] at this;exact this
    .rw[aM];have dF:x.gone=0->c=ab:=by simpa using j
     exact dE _ _ ⟨aK,λad=>by rw[mW U,mW U,bD ad,cF,cG,dF ad]⟩
   .intro bG aN _ _;have b5:=P.trans aN;have B:=A.trans b5;rw[az aG.p 4 (H.ext B) rfl];refine cC B ?_;rw[bF,b0];refine⟨λae=>?_,λae=>cH _ _ ⟨by rw[decide_eq_true λh=>absurd h (by simpa using ae)];rfl,b5⟩⟩;have ad:x.gone=0:=by simpa using ae
    rw[az aG.p 5 (H.ext B) rfl];refine gl (α:=Λ) (a:=x.un) rfl rfl dn.u an.i Ψ (bd dl B) dx λeY dG=>?_;rw[fA (y:=d) (i:=d.toNat) Ω an.u ak.i Ψ (cN dG) W,az aG.p 5 (aF.ext B) rfl];refine gl (α:=Λ) (a:=y.un) rfl rfl dn.u an.i Ψ (bd dq B) dy λeZ dH=>?_;rw[fA (y:=d) (i:=d.toNat) Ω an.u ak.i Ψ (cN dH) bf,bE];refine cH _ _ ⟨?_,b5⟩;congr 1;by_cases h:c=ab
    .rw[decide_eq_true (p:=x.gone=0->c=ab) λ_=>h];exact decide_eq_false Ω
    .rw[decide_eq_false (p:=x.gone=0->c=ab) λY=>h (Y ad)];exact decide_eq_true h
  .rintro b4 aI dD ⟨P,bD⟩;refine ca Ω ?_;rw[aM];rw[o7] at bD;refine bc _ _ ⟨A.trans P,?_⟩;rw[mW av,mW aA,bb];congr 2;refine q8.2 ⟨bC,b3,?_⟩;unfold fZ;by_cases ad:x.gone=0
   .rw[if_neg Ω,if_neg Ω,<-b3];exact bD ad
   .rw[if_pos ad,if_pos Ω]
 rintro t4 bZ a6 ⟨a7,b6⟩;rw[o9 Ω,o9 Ω] at b6;refine ca Ω ?_;rw[az aG.p 7 (H.ext a7) rfl,fC jC.u (bd bz a7),u7];have cI:=nx bz;rw[u7] at cI;refine bY.range s.ce.length (λi _ N=>Ext w2 N/\(s.ce.take i).map fM=(t.ce.take i).map fM) cI ⟨a7,rfl⟩ ?_ ?_
 .rintro i t4 N a6 hi ⟨A,bb⟩ bc;obtain⟨e,b7⟩:=aE (l:=s.ce) (i:=i) Ω;obtain⟨z,b8⟩:∃y,t.ce[i]? =σ y:=⟨_,x6 Ω⟩;have dI:pv s t->e.v=z.v/\e.sc=z.sc/\e.hd=z.hd:=λh=>(Es (r:=[]) (r':=[]) (by rw[pw h.ce b7 b8])).1;refine bH Ω ?_;refine jI (α:=jq) (a:=l1 e) fO.p rfl jC.u fO.i (bd bz A) (by rw[x8,b7];rfl) λcs bg=>?_;obtain⟨aD,bv,rfl,bI,bJ⟩:=Eu bg;refine bt fO.i λge aI bC P dJ=>?_;refine bT (vs:=[Δ e.v,aD,bv]) fO.i rfl rfl (Ex bI bJ) dJ λaJ dK e0 dL=>?_;have cK:Ext N aJ:=P.put dK Ω;have b9:=A.trans cK;rw[az aG.p 7 (aF.ext b9) rfl];refine jI (α:=jq) (a:=l1 z) fO.p rfl jC.u fO.i (bd cw b9) (by rw[x8,b8];rfl) λcs bg=>?_;obtain⟨dM,dO,rfl,cL,cM⟩:=Eu bg;refine bt fO.i λe2 bG e3 aN dP=>?_;refine bT (vs:=[Δ z.v,dM,dO]) fO.i rfl rfl (Ex cL cM) dP λbh dQ e4 cb=>?_;have bi:Ext aJ bh:=aN.put dQ Ω;have cc:=b9.trans bi;have cd:=dL.ext bi;have cP:=cK.trans bi;refine aT (λr bK=>r= .bool (!decide (e.v=z.v/\e.sc=z.sc/\e.hd=z.hd))/\Ext w2 bK) ?_ λau M=>?_
  .rintro _ bK ⟨rfl,G⟩;rw[b0];refine⟨λj=>aq (λh=>by rw[decide_eq_true (dI h)] at j;cases j) _ (aa.trans G),λj=>?_⟩;obtain⟨h1,Y,dR⟩:e.v=z.v/\e.sc=z.sc/\e.hd=z.hd:=by simpa using j
   rw[aM];exact bc _ _ ⟨G,by rw[mW b7,mW b8,bb];unfold fM;rw[h1,Y,dR]⟩
  .have cg:∀ {b:Bool} {E:x3},Ext w2 E->(b=false↔e.v=z.v/\e.sc=z.sc/\e.hd=z.hd)->au (.bool b) E:=λ{b E} aH cQ=>M _ _ ⟨by
    congr 1;cases b
    .rw[decide_eq_true (cQ.1 rfl)];rfl
    .rw[decide_eq_false λh=>by cases cQ.2 h];rfl,aH⟩
   rw[az fO.p 0 cd rfl,az fO.p 0 cb rfl,bE,ah];refine⟨λj=>cg cc ⟨λh=>(by cases h),λh=>absurd h.1 j⟩,λj=>?_⟩;have h1:e.v=z.v:=Y7.1 j;rw[az fO.p 1 cd rfl,az fO.p 1 cb rfl];refine (p4 (cN (bd bI cP)) (cN (bd cL bi))).mono ?_;rintro _ bK _ ⟨rfl,G⟩;rw[bF,b0];refine⟨λj=>cg (cc.trans G) ⟨λh=>(by cases h),λh=>absurd h.2.1 (by simpa using j)⟩,λj=>?_⟩;have Y:e.sc=z.sc:=by simpa using j
   rw[az fO.p 2 (cd.ext G) rfl,az fO.p 2 (cb.ext G) rfl];refine (p4 (cN (bd bJ (cP.trans G))) (cN (bd cM (bi.trans G)))).mono ?_;rintro _ dS _ ⟨rfl,ch⟩;rw[bF];exact cg ((cc.trans G).trans ch) ⟨λh=>⟨h1,Y,by simpa using h⟩,λh=>by rw[decide_eq_true h.2.2];rfl⟩
 rintro t4 N a6 ⟨A,cR⟩;rw[o9 Ω,o9 Ω] at cR;refine ca Ω ?_;intro aI P _ _;have ci:=A.trans P;refine (cq.ext ci).load λus dT=>?_;refine (cr.ext ci).load λe5 dU=>?_;refine (Ew dT ap cp.1).mono ?_;rintro dV aJ _ ⟨aK,e6,dW⟩;refine⟨.inl aK,?_⟩;obtain⟨dX,rfl,dY⟩:=dU;refine (Ew ⟨dX,rfl,dY.ext aK⟩ a1 cp.2).mono ?_;rintro e7 bG _ ⟨aN,e8,cS,bj,cT,ea⟩;obtain⟨L,Z,cU,eb⟩:=dW.ext aN;have B:=(ci.trans aK).trans aN;have e9:L.length=(gD s).length:=by have:=congrArg T7 cU;simpa using this
 have fa:cS.length=(gD t).length:=by have:=congrArg T7 cT;simpa using this
 rw[eA cj.u Z,eA cj.u bj,bE,ah];refine⟨λj=>aq (λh=>by have:=congrArg T7 h.funs;rw[u7,u7] at this;omega) _ (aa.trans B),λj=>?_⟩;rw[eA cj.u Z];refine bY.range L.length (λi _ bh=>Ext bG bh/\((gD s).take i).map (dZ s)=((gD t).take i).map (dZ t)) Z.le ⟨Ext.refl _,rfl⟩ ?_ ?_
 .rintro i t4 bh a6 hi ⟨ck,bb⟩ bc;obtain⟨h,ay⟩:=aE (l:=L) hi;obtain⟨h',bL⟩:∃h,cS[i]? =σ h:=⟨_,x6 Ω⟩;obtain⟨f,bM⟩:=aE (l:=(gD s)) (i:=i) Ω;obtain⟨g,ae⟩:=aE (l:=(gD t)) (i:=i) Ω;have cV:=x5 bM;have cW:=x5 ae;have ec:dc h=q9 f:=pw cU ay bM;have ed:dc h'=q9 g:=pw cT bL ae;obtain⟨ee,bg⟩:=R5.inj ec;obtain⟨ef,eg⟩:=R5.inj ed;obtain⟨aC,bk,bN⟩:=eb h (x5 ay);obtain⟨bO,_,bQ⟩:=ea h' (x5 bL);have aC:=cN aC;have bk:=cN bk;have bN:=cN bN;have bO:=cN bO;have bQ:=cN bQ;rw[ee] at aC bk;rw[bg] at bN;rw[ef] at bO;rw[eg] at bQ;obtain⟨aO,bl,_⟩:=ap.funs f (od cV).1;obtain⟨eh,fb,_⟩:=a1.funs g (od cW).1;rw[<-bl] at bk;have bR:dv f.ac:=by rw[bl];exact la ap.e1.2.2 λv bx=>⟨(aO.scope.1 v bx).1,aO.vars v bx⟩
  have ei:f.ac.length=f.sc.length:=by rw[bl];simp[bP]
  have cl:=Er ap a1 b6 cV cW;have cX:pv s t->dZ s f=dZ t g:=λh=>pw h.funs bM ae;have fc:=hU bR;refine bH Ω ?_;intro bK G _ _;have aR:=ck.trans G;have cY:∀ {E:x3} {K:x1->Prop},Ext bG E->K h.aD->V x7 (c8 cj dV (Δ (i:Int))) E λp=>V x7 (u6 aU p 0) E λq=>V x7 (u5 al q) E K:=λaH b1=>by
   rw[db rfl cj.u aU.i (Z.ext aH) hi,aP aU.p rfl,aB (v:=h.aD) Ψ ((Z.ext aH).range ay 0 _ rfl)];exact b1
  refine cY aR ?_;rw[db rfl cj.u aU.i (bj.ext aR) Ω,aP aU.p rfl,aB (v:=h'.aD) Ψ ((bj.ext aR).range bL 0 _ rfl)];refine (p4 (aC.ext aR) (bO.ext aR)).mono ?_;rintro _ dS _ ⟨rfl,ch⟩;have bm:=aR.trans ch;rw[bF,b0];refine⟨λj=>aq (λh=>absurd (cl.1 (cX h)).1 (by simpa using j)) _ (aa.trans (B.trans bm)),λj=>?_⟩;have cZ:f.sc=g.sc:=by simpa using j
  rw[db rfl cj.u aU.i (Z.ext bm) hi,aP aU.p rfl,aB (v:=h.szv) Ψ ((Z.ext bm).range ay 1 _ rfl)];refine (sn f.ac (bk.ext bm) ⟨by rw[ei];exact aO.scope.2,bR⟩).mono ?_;rintro fd ej _ ⟨ek,cm⟩;have c0:=bm.trans ek;rw[fC cu.u cm];refine bY.range (a8 f.ac).length (λq _ bo=>Ext ej bo/\(((a8 f.ac).take q).filter (cO s f.sc)).map (ba f.ac f.cs)=(((a8 f.ac).take q).filter (cO s f.sc)).map (ba f.ac g.cs)) (nx cm) ⟨Ext.refl _,rfl⟩ ?_ ?_
  .rintro q b4 bo em bB ⟨bp,bS⟩ en;have aS:(a8 f.ac)[q]? =σ (cJ f.ac (q:Int)):=nK bR Ω;generalize cJ f.ac (q:Int)=tl at aS;have fe:=sd aS;have c3:=hW bR aS;have aV:=c0.trans bp;have eo:((a8 f.ac).take (q+1)).filter (cO s f.sc)=((a8 f.ac).take q).filter (cO s f.sc)++(if cO s f.sc tl=true then[tl] else[]):=by
    rw[u9,aS,o8,List.filter_append];congr 1;cases ay:cO s f.sc tl<;>simp[ay]
   refine bH Ω ?_;refine gl (α:=Λ) rfl rfl cu.u al.i Ψ (bd cm bp) aS λaL bw=>?_;have bw:=cN bw;refine cY aV ?_;rw[aX al.u (aC.ext aV)];refine bY.range f.sc.length (λp left bU=>Ext bo bU/\left= .bool (cO s (f.sc.take p) (tl.take p))) aC.le ⟨Ext.refl _,rfl⟩ ?_ ?_
   .rintro p _ bU ep er ⟨bq,rfl⟩ es;obtain⟨v,cn⟩:=aE (l:=f.sc) er;obtain⟨y,c4⟩:=aE (l:=tl) (i:=p) Ω;have c5:=x5 cn;have c6:=(aO.scope.1 v c5).1;have c7:=aO.vars v c5;have c7:v<sizes.length:=c7;have c6:0<=v:=c6;obtain⟨x,c9⟩:=aE (l:=s.vars) (i:=v.toNat) Ω;have da:cO s (f.sc.take (p+1)) (tl.take (p+1))=(cO s (f.sc.take p) (tl.take p)&&decide (y∈ax x)):=by
     unfold cO;rw[u9,u9,cn,c4,o8,o8,List.zip_append Θ,List.all_append];simp[c9]
    refine bH Ω ?_;refine aT (λleft aW=>Ext bo aW/\left= .bool (cO s (f.sc.take (p+1)) (tl.take (p+1)))) (λ_ _ et=>by rw[aM];exact es _ _ et) λau M=>?_;rw[be al.u ag.i Ψ (aC.ext (aV.trans bq)) cn];intro aW ao _ _;have bu:=bq.trans ao;rw[b0];refine⟨λC=>?_,λC=>M _ _ ⟨bu,by rw[da,C];rfl⟩⟩;rw[az aG.p 3 (H.ext (B.trans (aV.trans bu))) rfl];refine gl (α:=Λ) (a:=ax x) (i:=v.toNat) rfl Ω cu.u al.i Ψ (bd bX (B.trans (aV.trans bu))) (by rw[x8,c9];rfl) λcE X=>?_;rw[be al.u ag.i Ψ (bw.ext bu) c4];refine (tw (cN X)).mono ?_;rintro _ ff _ ⟨rfl,eu⟩;exact M _ _ ⟨bu.trans eu,by rw[da,C,T3]⟩
   .rintro _ bU ep ⟨bq,rfl⟩;rw[o7,o9 Ω];refine ca Ω ?_;have dd:=aV.trans bq;refine aT (λr aW=>r= .bool (cO s f.sc tl&& !decide (ba f.ac f.cs tl=ba f.ac g.cs tl))/\Ext bU aW) ?_ λau M=>?_
    .rintro _ aW ⟨rfl,ao⟩;rw[b0];refine⟨λj=>aq (λh=>?_) _ (aa.trans (B.trans (dd.trans ao))),λj=>?_⟩
     .have h:=(cl.1 (cX h)).2;have hm:tl∈(a8 f.ac).filter (cO s f.sc):=T4.2 ⟨x5 aS,by revert j;cases cO s f.sc tl<;>simp⟩;have h:=List.map_inj_left.1 h tl hm;rw[decide_eq_true h,Y5,Bool.and_false] at j;cases j
     .rw[aM];refine en _ _ ⟨(bp.trans bq).trans ao,?_⟩;rw[eo,j6,j6,bS];congr 1;split
      .rename_i C;rw[C,T3] at j;rw[List.map_singleton,List.map_singleton,show ba f.ac f.cs tl=ba f.ac g.cs tl by simpa using j]
      .rfl
    .intro aW ao _ _;rw[b0];refine⟨λC=>?_,λC=>M _ _ ⟨by rw[C];rfl,ao⟩⟩;have aZ:=dd.trans ao;have ev:q<f.cs.length:=by have:=aO.len;have Y:f.cs.length=_:=this;rw[<-bl] at Y;omega
     have ew:q<g.cs.length:=by have:=eh.len;have Y:g.cs.length=_:=this;rw[show (g.sc,g.cs).1=f.sc from cZ.symm,<-bl] at Y;omega
     obtain⟨c,W⟩:=aE (l:=f.cs) ev;obtain⟨ab,bf⟩:∃c,g.cs[q]? =σ c:=⟨_,x6 ew⟩;have bI:ba f.ac f.cs tl=c:=by unfold ba;rw[c3];simp[u4,W]
     have bJ:ba f.ac g.cs tl=ab:=by unfold ba;rw[c3];simp[u4,bf]
     rw[db rfl cj.u aU.i (Z.ext aZ) hi,aP aU.p rfl,aB (v:=h.aY) Ψ ((Z.ext aZ).range ay 2 _ rfl),be an.u ak.i Ψ (bN.ext aZ) W,
      db rfl cj.u aU.i (bj.ext aZ) Ω,aP aU.p rfl,aB (v:=h'.aY) Ψ ((bj.ext aZ).range bL 2 _ rfl),be an.u ak.i Ψ (bQ.ext aZ) bf,bE]
     refine M _ _ ⟨?_,ao⟩;rw[C,T3,bI,bJ];congr 1;exact decide_not
  .rintro b4 bo em ⟨bp,bS⟩;rw[o7] at bS;refine ca Ω ?_;rw[aM];exact bc _ _ ⟨c0.trans bp,by rw[mW bM,mW ae,bb,cl.2 ⟨cZ,bS⟩]⟩
 .rintro t4 bh a6 ⟨ck,de⟩;rw[o9 Ω,o9 Ω] at de;rw[aQ,ah];exact⟨λh=>Ω,λ_=>dg ⟨a2,ds,b6,cR,de⟩ _ (aa.trans (B.trans ck))⟩
theorem Pt (I:ho w xs k sizes s) (p:ho w gG k sizes t) (a:br k sizes s) (f:br k sizes t) (gs:ra s) (gt:ra t) (q:s.funs.length<=100000/\t.funs.length<=100000):
  ai x7 yT [xs,gG] w λv w'=>v= .bool (decide (mV s=mV t))/\Ext w w':=
 Ps I p a f gs gt q (λh w' j=>⟨by rw[decide_eq_false λe=>h ((Et a f).1 e)],j⟩) λh w' j=>⟨by rw[decide_eq_true ((Et a f).2 h)],j⟩
end
def oe (ac t:Λ):Int:=(cH ac t 0).getD 0
def lv (s:aq) (f:b3) (pos:Nat) (v:Int):Λ:=(bX s f.sc pos v).map (oe f.ac)
def kG (s:aq) (sc:Λ) (pos:Nat) (v:Int) (t:Λ):Bool:=decide (t.getD pos 0=v)&&cO s sc t
section
variable {k:Int} {sizes:Λ} {s:aq} {f:b3} {pos:Nat} {v:Int}
theorem Pu {sc t:Λ}:cO s sc t=true↔ ∀ (p:Nat) u w,sc[p]? =σ u->t[p]? =σ w->w∈cS s u:=by
 unfold cO;rw[List.all_eq_true];constructor
 .intro h p u w hu hw;have:=h (u,w) (x5 (List.getElem?_zip_eq_some.2 ⟨hu,hw⟩));unfold cS;cases a:s.vars[u.toNat]? with
  |none=>simp[a] at this
  |some x=>simpa[a] using this
 .rintro h ⟨u,w⟩ hm;obtain⟨p,e⟩:=X9.1 hm;obtain⟨h1,f⟩:=List.getElem?_zip_eq_some.1 e;have:=h p u w h1 f;unfold cS at this;simp only;cases a:s.vars[u.toNat]? with
  |none=>rw[a] at this;cases this
  |some x=>rw[a] at this;simpa using this
theorem Pv (q:br k sizes s) (B:f∈s.funs) (C:pos<f.sc.length) (r:∀u,f.sc[pos]? =σ u->v∈cS s u):bX s f.sc pos v=(a8 f.ac).filter (kG s f.sc pos v):=by
 obtain⟨x,y,_⟩:=q.funs f B;have j:=w4 q (λu hu=>⟨(x.scope.1 u hu).1,x.vars u hu⟩) r;rw[<-y] at j;have h1:∀t∈a8 f.ac,(mN (oa s pos v f.sc 0) t=true↔t∈bX s f.sc pos v):=λt a=>by rw[j,T4];exact⟨λh=>⟨a,h⟩,λh=>h.2⟩
 rw[j];refine List.filter_congr λt a=>?_;have E:t.length=f.sc.length:=by rw[sb a,y];simp[bP]
 rw[U1,h1 t a,xa,kG,T0,decide_eq_true_eq,Pu];constructor
 .rintro⟨_,h⟩;obtain⟨u,hu⟩:=aE (l:=f.sc) C;obtain⟨w,hw⟩:=aE (l:=t) (i:=pos) Ω;have z:=h pos u w hu hw;rw[if_pos rfl] at z;refine⟨by rw[u4,hw];exact z,λp u' w' A F=>?_⟩;have:=h p u' w' A F;split at this
  .rename_i e;subst e;rw[this];exact r u' A
  .exact this
 .rintro⟨h1,G⟩;refine⟨E,λp u w hu hw=>?_⟩;split
  .rename_i e;subst e;rw[u4,hw] at h1;exact h1
  .exact G p u w hu hw
end
section
variable {w:x3} {eH:x1} {k:Int} {sizes:Λ} {s:aq}
theorem Pw {j pos:Int} (h:ho w eH k sizes s) (aa:br k sizes s) (am:dD s):ai x7 Gv [eH,Δ j,Δ pos,Δ v] w λr w'=>Ext w w'/\ ∃u,r= .tuple #[Δ u,.bool (dl s j pos v).isSome]:=by
 have aI:=aa.vars;refine aw func59 ?_;refine bn λg1 J aJ H an=>?_;have ab:=h.box H an;obtain⟨szv,aK,aL,aM,aN,aO,I,aR,_,ao,aS,aV,ac,aY⟩:=id ab;refine aT (λr w2=>Ext J w2/\((r= .bool true/\dl s j pos v=ν)\/(r= .bool false/\ ∃f u,0<=j/\0<=pos/\s.funs[j.toNat]? =σ f/\f.live≠0/\f.sc[pos.toNat]? =σ u))) ?_ λau E=>?_
 .rintro _ w2 ⟨A,⟨rfl,z⟩|⟨rfl,f,u,K,ad,e,ae,hu⟩⟩
  .rw[bO,z];exact⟨H.trans A,0,rfl⟩
  .rw[aW];have af:=x5 e;have L:=x5 hu;obtain⟨aj,aZ,_⟩:=aa.funs f af;have M:=(aj.scope.1 u L).1;have a1:=aj.vars u L;have M:0<=u:=M;obtain⟨x,N⟩:=aE (l:=s.vars) (i:=u.toNat) Ω;rw[az aG.p 6 (I.ext A) rfl];refine ib (i:=j.toNat) Ω dP.u cT.i (bd ac A) (by rw[x8,e];rfl) λb o cs O Q=>?_;obtain⟨R,ap,v3,rfl,h1,aq,av⟩:=mR Q;rw[aP cT.p rfl,aP aU.p rfl,aB (v:=R) Ψ (O 0 _ rfl),fA (y:=pos) (i:=pos.toNat) Ω al.u ag.i Ψ (cN h1) hu,az aG.p 3 (I.ext A) rfl];refine gl (α:=Λ) (a:=ax x) (i:=u.toNat) rfl Ω cu.u al.i Ψ (bd ao A) (by rw[x8,N];rfl) λa2 ay=>?_;refine (tw (cN ay)).mono ?_;rintro _ a6 _ ⟨rfl,aA⟩;refine⟨(H.trans A).trans aA,u,?_⟩;have aC:=am f af ae u L x N;have S:dl s j pos v=(eg s u v).map λx=>(f,u,x):=by
    unfold dl;rw[if_pos ⟨K,ad⟩,e];simp only;rw[if_pos ae,hu]
   have aD:eg s u v=if v∈ax x then σ x else ν:=by
    unfold eg;rw[if_pos M,N];simp only[aC,true_and]
   rw[S,aD];by_cases G:v∈ax x
   .rw[if_pos G,decide_eq_true G];rfl
   .rw[if_neg G,decide_eq_false G];rfl
 have U:∀ {P:Prop},(¬∃f u,0<=j/\0<=pos/\s.funs[j.toNat]? =σ f/\f.live≠0/\f.sc[pos.toNat]? =σ u)->(dl s j pos v=ν->P)->P:=λz aF=>aF (by
  cases S:dl s j pos v with
  |none=>rfl
  |some q=>
   obtain⟨f,u,x⟩:=q;obtain⟨V,W,a3,a4,a5,_⟩:=i7 S;exact absurd ⟨f,u,V,W,a3,a4,a5⟩ z)
 refine ab.load λu hu=>?_;refine (ON (j:=j) hu).mono ?_;rintro _ a7 _ ⟨rfl,B⟩;have same:∀ {f X:b3},s.funs[j.toNat]? =σ f->s.funs[j.toNat]? =σ X->X=f:=λa b=>by rw[a] at b;exact (c7 b).symm
 rw[bF,b0];refine⟨λY=>U (λ⟨f,u,V,W,a3,a4,a5⟩=>?_) λz=>E _ _ ⟨B,.inl ⟨rfl,z⟩⟩,λZ=>?_⟩
 .unfold gA at Y;rw[a3] at Y;simp[V,a4] at Y
 have Z:0<=j/\gA s j.toNat=true:=by simpa using Z
 obtain⟨K,C⟩:=Z;obtain⟨f,e,aH⟩:∃f,s.funs[j.toNat]? =σ f/\f.live≠0:=by
  unfold gA at C;cases e:s.funs[j.toNat]? with
  |none=>rw[e] at C;cases C
  |some f=>rw[e] at C;exact⟨f,rfl,by simpa using C⟩
 rw[aQ,ah];refine⟨λa8=>U (λ⟨_,_,_,W,_⟩=>Ω) λz=>E _ _ ⟨B,.inl ⟨rfl,z⟩⟩,λad=>?_⟩;rw[az aG.p 6 (I.ext B) rfl];refine ib (i:=j.toNat) Ω dP.u cT.i (bd ac B) (by rw[x8,e];rfl) λb o cs O Q=>?_;obtain⟨R,ap,v3,rfl,h1,aq,av⟩:=mR Q;rw[aP cT.p rfl,aP aU.p rfl,aB (v:=R) Ψ (O 0 _ rfl),aX al.u (cN h1),cU];by_cases ak:(f.sc.length:Int)<=pos
 .refine U (λ⟨X,u,_,_,a3,_,a5⟩=>?_) λz=>E _ _ ⟨B,.inl ⟨by rw[decide_eq_true ak],z⟩⟩;obtain rfl:=same e a3;have:=(x4.1 a5).1;omega
 .obtain⟨u,hu⟩:=aE (l:=f.sc) (i:=pos.toNat) Ω;exact E _ _ ⟨B,.inr ⟨by rw[decide_eq_false ak],f,u,K,Ω,e,aH,hu⟩⟩
theorem Ey {f:b3} (h:ho w eH k sizes s) (M:br k sizes s) (af:s.funs[j]? =σ f) (aO:pos<f.sc.length) (aQ:∀u,f.sc[pos]? =σ u->v∈cS s u):
  ai x7 Gw [eH,Δ (j:Int),Δ (pos:Int),Δ v] w λr w'=>Ext w w'/\aF .i64 w' r (lv s f pos v)/\ ∀q,leads r q->w.heap.size<=q:=by
 have bC:=M.vars;have U:=x5 af;obtain⟨N,ah,_⟩:=M.funs f U;have O:=(js M U).1;have aR:f.ac.length=f.sc.length:=by rw[ah];simp[bP]
 have bD:=hU O;have bE:(a8 f.ac).length<=4096:=by
  have P:aK (bP sizes f.sc)<=4096:=N.small;rw[<-ah] at P;omega
 refine aw func60 ?_;refine bn λg1 J bF V aS=>?_;obtain⟨szv,bG,bI,bJ,bK,bL,aj,bM,_,aV,bN,bO,aW,bQ⟩:=h.box V aS;rw[az aG.p 6 aj rfl];refine ib (i:=j) rfl dP.u cT.i aW (by rw[x8,af];rfl) λb o cs G aY=>?_;obtain⟨W,X,v3,rfl,h1,P,aZ⟩:=mR aY;rw[aP cT.p rfl,bx (cs:=[W,X,v3]) aU.p aU.i rfl (λq u z=>by
  have:q<3:=(x4.1 z).1
  match q,this,z with
  |0,_,z=>cases z;exact G 0 _ rfl
  |1,_,z=>cases z;exact G 1 _ rfl
  |2,_,z=>cases z;exact G 2 _ rfl)]
 refine bt aU.i λbR w2 bS a1 a2=>?_;have a6:∀u∈[W,X,v3],u.oneCell'=true:=λu hu=>by
  simp only[V1,List.not_mem_nil,or_false] at hu;rcases hu with rfl|rfl|rfl
  .exact e4 h1
  .exact e4 P
  .exact e4 aZ
 refine bT (vs:=[W,X,v3]) aU.i rfl rfl a6 a2 λa7 ba bU ak=>?_;have am:Ext J a7:=a1.put ba Ω;have Y:=cN h1;have bb:=cN P;rw[az aU.p 1 ak rfl];refine (sn f.ac (bb.ext am) ⟨by rw[aR];exact N.scope.2,O⟩).mono ?_;rintro bV H _ ⟨an,ao⟩;have Z:=am.trans an;rw[fC cu.u ao];refine bY.range (a8 f.ac).length (λi out E=>Ext H E/\(∃g,ap .i64 ag E g out ((((a8 f.ac).take i).filter (kG s f.sc pos v)).map (oe f.ac)))/\ ∀r,leads out r->H.heap.size<=r) Ω ⟨Ext.refl _,⟨0,ap.nil _ _ _ _⟩,λr G=>by obtain⟨_,_,_,e,_⟩:=G;cases e⟩ ?_ ?_
 .rintro q out E bc z ⟨A,⟨g,hm⟩,Q⟩ bf;have I:(a8 f.ac)[q]? =σ (cJ f.ac (q:Int)):=nK O Ω;generalize cJ f.ac (q:Int)=tl at I;have bW:=sd I;have bg:=hW O I;have bh:oe f.ac tl=(q:Int):=by unfold oe;rw[bg];rfl
  have R:=Z.trans A;have aq:((a8 f.ac).take (q+1)).filter (kG s f.sc pos v)=((a8 f.ac).take q).filter (kG s f.sc pos v)++(if kG s f.sc pos v tl=true then[tl] else[]):=by
   rw[u9,I,o8,List.filter_append];congr 1;cases ay:kG s f.sc pos v tl<;>simp[ay]
  obtain⟨aa,av⟩:=aE (l:=tl) (i:=pos) Ω;refine bH Ω ?_;refine aT (λaA aB=>Ext H aB/\(∃g,ap .i64 ag aB g aA ((((a8 f.ac).take (q+1)).filter (kG s f.sc pos v)).map (oe f.ac)))/\ ∀r,leads aA r->H.heap.size<=r) (λ_ _ ab=>by rw[aM];exact bf _ _ ab) λau K=>?_;refine gl (α:=Λ) rfl rfl cu.u al.i Ψ (bd ao A) I λaL S=>?_;have S:=cN S;rw[be al.u ag.i Ψ S av,bi,az aU.p 0 (ak.ext (an.trans A)) rfl,aX al.u (Y.ext R)];refine bY.range f.sc.length (λp ok ad=>Ext E ad/\ok= .bool (decide (aa=v)&&cO s (f.sc.take p) (tl.take p))) Y.le ⟨Ext.refl _,by simp[cO]⟩ ?_ ?_
  .rintro p _ ad bj bk ⟨B,rfl⟩ bl;obtain⟨u,ae⟩:=aE (l:=f.sc) bk;obtain⟨y,aC⟩:=aE (l:=tl) (i:=p) Ω;have aD:=x5 ae;have aH:=(N.scope.1 u aD).1;have aI:=N.vars u aD;have aI:u<sizes.length:=aI;have aH:0<=u:=aH;obtain⟨x,aJ⟩:=aE (l:=s.vars) (i:=u.toNat) Ω;have aN:cO s (f.sc.take (p+1)) (tl.take (p+1))=(cO s (f.sc.take p) (tl.take p)&&decide (y∈ax x)):=by
    unfold cO;rw[u9,u9,ae,aC,o8,o8,List.zip_append Θ,List.all_append];simp[aJ]
   refine bH Ω ?_;refine aT (λok bm=>Ext E bm/\ok= .bool (decide (aa=v)&&cO s (f.sc.take (p+1)) (tl.take (p+1)))) (λ_ _ ab=>by rw[aM];exact bl _ _ ab) λau K=>?_;rw[be al.u ag.i Ψ (Y.ext (R.trans B)) ae];intro bX bo _ _;have L:=B.trans bo;rw[b0];refine⟨λC=>?_,λC=>K _ _ ⟨L,by rw[aN,<-Bool.and_assoc,C];rfl⟩⟩;rw[az aG.p 3 (aj.ext (R.trans L)) rfl];refine gl (α:=Λ) (a:=ax x) (i:=u.toNat) rfl Ω cu.u al.i Ψ (bd aV (R.trans L)) (by rw[x8,aJ];rfl) λbZ bp=>?_;rw[be al.u ag.i Ψ (S.ext L) aC];refine (tw (cN bp)).mono ?_;rintro _ b1 _ ⟨rfl,bq⟩;exact K _ _ ⟨L.trans bq,by rw[aN,<-Bool.and_assoc,C,T3]⟩
  .rintro _ ad bj ⟨B,rfl⟩;rw[o7,o9 Ω];refine ca Ω ?_;have bu:(decide (aa=v)&&cO s f.sc tl)=kG s f.sc pos v tl:=by unfold kG;rw[u4,av];rfl
   rw[bu,b0];refine⟨λC=>?_,λC=>K _ _ ⟨A.trans B,⟨g,by rw[aq,if_neg (by rw[C];decide),W7];exact hm.ext B⟩,Q⟩⟩;refine Ek (w0:=H) (A.trans B) (hm.ext B) Q ?_ λb2 w' bw bz bA bB=>K _ _ ⟨bz,⟨bw,?_⟩,bB⟩
   .rw[u7];have h1:=List.length_filter_le (kG s f.sc pos v) ((a8 f.ac).take q);rw[j5] at h1;omega
   .rw[aq,if_pos C,j6,List.map_singleton,bh];exact bA
 .rintro out E bc ⟨A,⟨g,hm⟩,Q⟩;rw[o7,<-Pv M U aO aQ] at hm;refine ca Ω ?_;exact⟨(V.trans Z).trans A,hm.ls,λq z=>by have:=Q q z;have:=(V.trans Z).size;omega⟩
theorem Ez {j pos:Int} (h:ho w eH k sizes s) (e:br k sizes s) (R:dD s):
  ai x7 F3 [eH,Δ j,Δ pos,Δ v] w λr w'=>Ext w w'/\r=(match dl s j pos v with|some (f,_,_)=>.tuple #[Δ (iw k s f pos.toNat v),.bool true]|none=>.tuple #[Δ 0,.bool false]):=by
 refine aw func19 ?_;refine bn λg1 J ay z S=>?_;have H:=h.box z S;refine H.load λu hu=>?_;refine (Pw hu e R).mono ?_;rintro _ w2 _ ⟨A,dY,rfl⟩;rw[bu,bw,bF];cases U:dl s j pos v with
 |none=>
  rw[R4,V0,bO];exact⟨z.trans A,rfl⟩
 |some q=>
 obtain⟨f,u',x⟩:=q;rw[R3,Y5,aW];obtain⟨V,W,y,aA,B,X⟩:=i7 U;obtain⟨aC,Y,aD,Z⟩:=h5 X;obtain⟨j,rfl⟩:=U5 V;obtain⟨pos,rfl⟩:=U5 W;rw[r8] at y B;have I:=x5 y;have aa:=(x4.1 B).1;have K:∀u,f.sc[pos]? =σ u->v∈cS s u:=λu hu=>by
  rw[B] at hu;cases hu;unfold cS;rw[Y];exact Z
 have L:=H.ext A;obtain⟨szv,aF,aH,aI,aJ,aK,M,aN,_,aO,aQ,aR,ab,aS⟩:=id L;rw[az aG.p 0 M rfl];refine L.load λaT ad=>?_;refine (Ey ad e y aa K).mono ?_;rintro aL ae _ ⟨N,C,_⟩;rw[aX al.u C];have O:(lv s f pos v).length=(bX s f.sc pos v).length:=by unfold lv;rw[u7]
 rw[O];refine bY.range (bX s f.sc pos v).length (λi af E=>Ext ae E/\af=Δ ((((bX s f.sc pos v).take i).map (ba f.ac f.cs)).foldl min k)) (by rw[<-O];exact C.le) ⟨Ext.refl _,rfl⟩ ?_ ?_
 .rintro i _ E ah hi ⟨a,rfl⟩ aj;obtain⟨tl,G⟩:=aE (l:=bX s f.sc pos v) hi;obtain⟨m,hm⟩:=q4 e I K (x5 G);have am:(lv s f pos v)[i]? =σ (m:Int):=by
   unfold lv;rw[x8,G];unfold oe;rw[Z6,hm];rfl
  obtain⟨ao,aV⟩:=js e I;have aY:=(x4.1 (mz ao hm)).1;obtain⟨c,P⟩:=aE (l:=f.cs) (i:=m) Ω;have ap:ba f.ac f.cs tl=c:=by
   unfold ba;rw[hm];simp[u4,P]
  have Q:=N.trans a;refine bH Ω ?_;rw[be al.u ag.i Ψ (C.ext a) am,az aG.p 6 (M.ext Q) rfl];refine ib (i:=j) rfl dP.u cT.i (bd ab Q) (by rw[x8,y];rfl) λb o cs aq au=>?_;obtain⟨aZ,a1,v3,rfl,h1,a2,av⟩:=mR au;rw[aP cT.p rfl,aP aU.p rfl,aB (v:=v3) Ψ (aq 2 _ rfl),be an.u ak.i Ψ (cN av) P];refine Dk.mono ?_;rintro _ a6 _ ⟨rfl,ax⟩;rw[aM];refine aj _ _ ⟨a.trans ax,?_⟩;rw[u9,G,o8,j6,List.foldl_append,List.map_singleton,ap];rfl
 .rintro _ E ah ⟨a,rfl⟩;rw[o7];refine ca Ω ?_;exact⟨(z.trans A).trans (N.trans a),rfl⟩
theorem tV {a b k:Int} (h1:0<=a/\a<=4294967296) (f:0<=b/\b<=4294967296):ai x7 G0 [Δ a,Δ b,Δ k] w λr w'=>r=Δ (cA k a b)/\Ext w w':=by
 refine aw func108 ?_;refine (show ai x7 HR [Δ a,Δ b,Δ k] w λr w'=>(∃q,r= .tuple #[Δ (cA k a b),q])/\Ext w w' from ?_).mono ?_
 .refine aw func176 ?_;unfold cA;rw[bi,ah];refine⟨λh=>⟨⟨_,by rw[if_pos h]⟩,Ext.refl _⟩,λh=>?_⟩;rw[dR,wrap_i64 Ω Ω,ml,if_neg h];exact⟨⟨_,rfl⟩,Ext.refl _⟩
 .rintro _ J _ ⟨⟨q,rfl⟩,e⟩;rw[bu,bw];exact⟨rfl,e⟩
end
def dI (w:x3) (ab ad am:Nat) (A R:af) (A9:Nat->af) (aH:af) (n:aS) (s:aq) (t:aC) (h:List aC) (u:aq) (w':x3):Prop:=ae (λr=>(∃q,A9 q r)\/r=am) w w'/\ ∃cI cs,ck w' ab ad am A R cI aH n s u t h cs/\ ∀q r,cI q r->(∃a,A9 a r)\/w.heap.size<=r
section
variable {w w' J w2:x3} {ab ad am:Nat} {A R:af} {A9:Nat->af} {aH:af} {n:aS} {s u dC dY:aq} {t:aC} {h:List aC} {cs:List x1}
theorem dI.same (p:ck w ab ad am A R A9 aH n s u t h cs) (a:Ext w w'):dI w ab ad am A R A9 aH n s t h u w':=⟨a.U _,A9,cs,p.ext a,λq r h=>.inl ⟨q,h⟩⟩
theorem dI.comp {cI:Nat->af} (c1:ae (λr=>(∃q,A9 q r)\/r=am) w J) (e:∀q r,cI q r->(∃a,A9 a r)\/w.heap.size<=r) (d:dI J ab ad am A R cI aH n s t h dY w2):dI w ab ad am A R A9 aH n s t h dY w2:=by
 obtain⟨c2,j,bI,p,x⟩:=d;have z:=c1.size;refine⟨?_,j,bI,p,λq r f=>(x q r f).elim (λ⟨a,h⟩=>e a r h) λh=>.inr Ω⟩;refine ((c1.mono λr _ h=>.inl h).trans (c2.mono λr _ h=>?_):ae (λr=>((∃q,A9 q r)\/r=am)\/w.heap.size<=r) w w2).mono λr f h=>h.elim id λh=>Ω
 rcases h with⟨q,h⟩|h
 .exact (e q r h).imp .inl id
 .exact .inl (.inr h)
def jt (w:x3) (ab ad am:Nat) (A R:af) (A9:Nat->af) (aH:af) (n:aS) (s:aq) (t:aC) (h:List aC) (u:aq) (w':x3):Prop:=ae (A9 2) w w'/\ ∃cI cs,ck w' ab ad am A R cI aH n s u t h cs/\(∀q r,cI q r->(∃a,A9 a r)\/w.heap.size<=r)/\ ∀r,cI 2 r->A9 2 r\/w.heap.size<=r
theorem jt.EA (d:jt w ab ad am A R A9 aH n s t h u w'):dI w ab ad am A R A9 aH n s t h u w':=by
 obtain⟨h1,cI,cs,a,e,_⟩:=d;exact⟨h1.mono λr _ h=>.inl ⟨2,h⟩,cI,cs,a,e⟩
theorem jt.same (p:ck w ab ad am A R A9 aH n s u t h cs) (a:Ext w w'):jt w ab ad am A R A9 aH n s t h u w':=⟨a.U _,A9,cs,p.ext a,λq r h=>.inl ⟨q,h⟩,λr h=>.inl h⟩
theorem jt.comp {cI:Nat->af} (c1:ae (A9 2) w J) (j:∀q r,cI q r->(∃e,A9 e r)\/w.heap.size<=r) (f:∀r,cI 2 r->A9 2 r\/w.heap.size<=r) (d:jt J ab ad am A R cI aH n s t h dY w2):jt w ab ad am A R A9 aH n s t h dY w2:=by
 obtain⟨c2,p,bI,x,y,B⟩:=d;have z:=c1.size;refine⟨?_,p,bI,x,λq r a=>(y q r a).elim (λ⟨e,h⟩=>j e r h) λh=>.inr Ω,λr a=>(B r a).elim (f r) λh=>.inr Ω⟩;exact ((c1.mono λr _ h=>.inl h).trans (c2.mono λr _ h=>f r h):ae (λr=>A9 2 r\/w.heap.size<=r) w w2).mono λr a h=>h.elim id λh=>Ω
theorem ck.Px {T:af} {v:x1} {u':aq} (p:ck w ab ad am A R A9 aH n s u t h cs) (z:∀q r,A9 q r->r<w.heap.size) (C:cs[5]? =σ v) (e:ae T w w') (f:∀r,r<w.heap.size->T r->A9 2 r) (E:bj (λr=>A9 2 r\/w.heap.size<=r) aH w' [v] (u'.vars.map (·.un)))
  (F:u'.zero=u.zero) (G:u'.vars.map ax=u.vars.map ax) (H:(u'.vars.map λx=>decide (x.gone≠0))=u.vars.map λx=>decide (x.gone≠0)) (I:u'.funs=u.funs) (J:u'.ce=u.ce):
  ∃cI,ck w' ab ad am A R cI aH n s u' t h cs/\(∀q r,cI q r->(∃K,A9 K r)\/w.heap.size<=r)/\ ∀r,cI 2 r->A9 2 r\/w.heap.size<=r:=by
 have L:=bz.jW p.doc (xd e) (λr a=>.inl (f r a.2 a.1)) E (λj r M a=>?_) (λr a=>?_)
 .have y:=xe (w:=w) (A9:=A9) (q:=2) (B:=λr=>A9 2 r\/w.heap.size<=r) λr h=>h;refine⟨_,p.row e f ?_ y,y,λr a=>a⟩;have:=bz.qb C L;unfold hn;rw[F,G,H,I,J];exact this
 .rcases a with a|a
  .exact p.gL.1 2 j r (S8 M) a
  .exact λh=>by have:=z j r h;omega
 .rcases a with a|a
  .exact p.gL.2 2 r a
  .exact λh=>by have:=(p.read r h).2.1;omega
theorem xm (p:ck w ab ad am A R A9 aH n s u t h cs) {i:Nat} {x:bl} (B:u.vars[i]? =σ x):∃g cap y,cs[5]? =σ (.slice (σ ⟨g,0,ν⟩) u.vars.length cap)/\w.cell? ⟨g,i,ν⟩=σ y/\aF .i64 w y x.un/\
  ∀ {w':x3} {v:Nat} {c:Int} {K:Unit->x3->Prop},Ext w w'->v<x.un.length->(∀H,jt w ab ad am A R A9 aH n s t h (ep u i x (x.un.set v c)) H->K () H)->
   V x7 (c8 an y (Δ (v:Int))) w' λa=>av x7 (o5 ak a (Δ c)) w' K:=by
 have I:=p.olds;obtain⟨szv,al,ao,ap,aq,au,J,_,_,_,L,_,_,C⟩:=id I.doc;obtain⟨g,cap,c,aw,e,Q,M,ay,_⟩:=tG (i:=i) (a:=x.un) L (by rw[x8,B];rfl) λr _ h=>(C rfl).2 2 r h;obtain⟨y,rfl⟩:=V2.1 (aj.len M);have N:w.cell? ⟨g,i,ν⟩=σ y:=by
  have:=Q 0 y rfl;simpa[show aj.n (Λ)=1 from rfl] using this
 rw[u7] at e;refine⟨g,cap,y,by rw[J,<-e];rfl,N,cN (gK M),λ{w' v c K} j S W=>?_⟩;have X:=I.ext j;have z:=j.size;obtain⟨az,aA,aB,aC,O,Y,P,E,Z⟩:=tG (i:=i) (a:=x.un) (bd L j) (by rw[x8,B];rfl) λr _ h=>(C rfl).2 2 r h;obtain⟨F,rfl⟩:=V2.1 (aj.len P);rw[u7,e] at O;cases O;have aa:F=y:=by
  have h1:=Y 0 F rfl;have h1:w'.cell? ⟨g,i,ν⟩=σ F:=by simpa[show aj.n (Λ)=1 from rfl] using h1
  rw[iE j N] at h1;exact (c7 h1).symm
 subst aa;refine Dx (α:=Int) (i:=v) (A:=λ_=>False) rfl rfl an.u ak.i P S rfl rfl (λr _ f=>⟨λh=>h,(C rfl).2 2 r (E r f)⟩) λaD G ac=>?_;have ae:=Z G (λr _ h=>h) ac λr f=>f.elim .inl False.elim;obtain⟨cI,af,ag,ah⟩:=X.Px (u':=ep u i x (x.un.set v c)) (λq r h=>by have:=h.2;omega) (by rw[J];rfl) G (λr _ h=>E r h) (by show bj _ _ _ _ ((u.vars.set i {x with un:=x.un.set v c}).map (·.un));rw[U9];exact ae) rfl (tH B (by unfold ax;simp)) (tH B rfl) rfl rfl;refine W _ ⟨(j.U _).trans (G.mono λr _ h=>(E r h).1),cI,cs,af,λq r f=>?_,λr f=>?_⟩
 .rcases ag q r f with⟨ai,h⟩|h
  .exact .inl ⟨ai,h.1⟩
  .exact .inr Ω
 .exact (ah r f).imp (λh=>h.1) λh=>Ω
theorem Py (p:ck w ab ad am A R A9 aH n s u t h cs) {f:b3} (N:u.funs[j]? =σ f):∃g cap x E y,cs[6]? =σ (.slice (σ ⟨g,0,ν⟩) u.funs.length cap)/\w.rangeAt g (j*4) [x,E,y,.bool (decide (f.live≠0))]/\aF .i64 w x f.sc/\aF .i64 w y f.cs/\
  ∀ {w':x3} {m:Nat} {c:Int} {K:Unit->x3->Prop},Ext w w'->m<f.cs.length->(∀O,dI w ab ad am A R A9 aH n s t h (dH u j f (f.cs.set m c)) O->K () O)->
   V x7 (c8 an y (Δ (m:Int))) w' λa=>av x7 (o5 ak a (Δ c)) w' K:=by
 have P:=p.olds;obtain⟨szv,aA,aB,aC,aD,aE,Q,_,_,_,_,S,_,F⟩:=id P.doc;obtain⟨g,cap,c,aG,e,G,X,aI,_⟩:=tG (i:=j) (a:=fW f) S (by rw[x8,N];rfl) λr _ h=>(F rfl).2 3 r h;have Y:=mR X;obtain⟨x,E,y,rfl,Z,aJ,aa⟩:=Y;rw[u7] at e;have G:w.rangeAt g (j*4) [x,E,y,.bool (decide (f.live≠0))]:=G;refine⟨g,cap,x,E,y,by rw[Q,<-e];rfl,G,cN Z,cN aa,λ{w' m c K} B hm ac=>?_⟩;have ae:=P.ext B;have z:=B.size;obtain⟨aK,aL,aM,aN,W,L,af,H,ag⟩:=tG (i:=j) (a:=fW f) (bd S B) (by rw[x8,N];rfl) λr _ h=>(F rfl).2 3 r h;rw[u7,e] at W;cases W;obtain⟨ah,ai,M,aO,rfl,al,I,ao⟩:=OV af λr h=>(F rfl).2 3 r (H r h);have L:w'.rangeAt g (j*4) [ah,ai,M,.bool (decide (f.live≠0))]:=L;have ap:M=y:=by
  have h1:=L 2 M rfl;rw[(np B G) 2 y rfl] at h1;exact (c7 h1).symm
 subst ap;refine Dx (α:=Int) (i:=m) (A:=λ_=>False) rfl rfl an.u ak.i al hm rfl rfl (λr _ C=>⟨λh=>h,(F rfl).2 3 r (H r (I r C))⟩) λaP J aq=>?_;have au:=ao J (aj.mono aq (λr _ h=>h.elim id False.elim) λ_ _ h=>h);have aw:=ag J (λr _ h=>I r h) au λr C=>.inl C;obtain⟨cI,ax,ay⟩:=ae.OT (u':=dH u j f (f.cs.set m c)) (λq r h=>by have:=h.2;omega) (by rw[Q];rfl) J (λr _ h=>H r (I r h)) (by show bj _ _ _ _ ((u.funs.set j {f with cs:=f.cs.set m c}).map fW);rw[U9];exact aw) rfl rfl rfl;refine ac _ ⟨(B.U _).trans (J.mono λr _ h=>.inl ⟨3,(H r (I r h)).1⟩),cI,cs,ax,λq r C=>?_⟩;rcases ay q r C with⟨az,h⟩|h
 .exact .inl ⟨az,h.1⟩
 .exact .inr Ω
theorem Pz (p:ck w ab ad am A R A9 aH n s u t h cs) {K:Unit->x3->Prop} (f:∀e,dI w ab ad am A R A9 aH n s t h {u with zero:=c} e->K () e):av x7 (o5 ak (.pointer (σ ⟨am,0+2,ν⟩)) (Δ c)) w K:=by
 refine bo (o:=0+2) ak.i rfl rfl p.box (by rw[p.doc.len.1];omega) λw2 a x j=>?_;refine f _ ⟨a.mono λr _ h=>.inr h,A9,_,p.D2 a (λr _ h=>.inr h) j ?_ λq r h=>.inl ⟨q,h⟩,λq r h=>.inl ⟨q,h⟩⟩;exact (bz.U p.doc a λr _ h he=>h.elim (λ⟨q,h⟩=>(p.apart q r h).2.2 he) λh=>(p.read r h).2.2 he).N9
theorem PA (p:ck w ab ad am A R A9 aH n s u t h cs) {i:Nat} {x:bl} (B:u.vars[i]? =σ x):∃g cap y,cs[3]? =σ (.slice (σ ⟨g,0,ν⟩) u.vars.length cap)/\w.cell? ⟨g,i,ν⟩=σ y/\aF .i64 w y (ax x)/\(∀r,leads y r->A9 0 r)/\
  ∀ {w':x3} {m:Int} {z:x1} {gz:Nat} {K:Unit->x3->Prop},Ext w w'->ap .i64 ag w' gz z (ax {x with mask:=m})->(∀r,leads z r->w.heap.size<=r)->(∀I,dI w ab ad am A R A9 aH n s t h {u with vars:=u.vars.set i {x with mask:=m}} I->K () I)->
   V x7 (c8 cu (.slice (σ ⟨g,0,ν⟩) u.vars.length cap) (Δ (i:Int))) w' λa=>av x7 (o5 al a z) w' K:=by
 have J:=p.olds;have Y:=(x4.1 B).1;obtain⟨szv,Z,aE,aG,aI,aJ,L,_,ac,_,_,_,_,af⟩:=id J.doc;obtain⟨g,cap,full,ah,c,aK,e,C,ai,E,M,F,ak,aL,an⟩:=OR (i:=i) (a:=ax x) ac (by rw[x8,B];rfl) λr _ h=>(af rfl).2 0 r h;obtain⟨y,rfl⟩:=V2.1 (aj.len F);rw[u7] at e;have ao:full[i]? =σ y:=by have:=M 0 y rfl;simpa[show aj.n (Λ)=1 from rfl] using this
 refine⟨g,cap,y,by rw[L,<-e];rfl,by have:=C.cell (o:=i) ao;exact this,cN (gK F),λr f=>?_,λ{w' m N gz K} G O P aq=>?_⟩
 .obtain⟨aM,aN,au,aw⟩:=IN F;rcases aw with rfl|ay
  .obtain⟨_,_,_,e,_⟩:=f;cases e
  .obtain⟨e,_⟩:=bU au f;rw[e];exact (ak _ ay).1
 have z:=G.size;have E:i*1+1<=full.length:=E;rw[fz cu.u al.i Y λ_=>rfl];obtain⟨_,_,_,Q⟩:=du O.ls;refine bo (o:=0+i*1) al.i (by rw[Q];rfl) (by rw[Q];rfl) (C.ext G) Ω λS W aO j=>?_;have j:aa S g ah (over full (i*1) [N]):=by
  have e:=OS (full:=full) (c:=[y]) (o:=i*1) (q:=0) (x:=N) M E Ξ;rw[W0] at j;rw[Nat.add_zero] at e;rw[e] at j;exact j
 have aP:g<w.heap.size:=C.lt;have H:ae (λr=>r=g) w S:=(G.U _).trans W;have az:=bq O W λr f he=>by have he:r=g:=he;have:=P r f;omega
 have aA:=an H (λr _ h=>.inr h) j (n7 (R:=aH) az) λr f=>.inr (P r f);have X:∀r,r<w.heap.size->r=g->A9 0 r/\r<w.heap.size:=λr f h=>by rw[h];exact ai
 obtain⟨cI,aB,aC⟩:=J.pq (u':={u with vars:=u.vars.set i {x with mask:=m}}) (λq r h=>h.2) (v:=Z) (by rw[L];rfl) H X (by show bj _ _ _ _ ((u.vars.set i {x with mask:=m}).map ax);rw[U9];exact aA) rfl (tH B rfl) (tH B rfl) rfl rfl;refine aq _ ⟨H.mono λr f h=>.inl ⟨0,(X r f h).1⟩,cI,cs,aB,λq r f=>?_⟩;rcases aC q r f with⟨aD,h⟩|h
 .exact .inl ⟨aD,h.1⟩
 .exact .inr h
end
def fN (s:aq) (sc:Λ) (pos:Int) (v:Int):Nat->Nat->Λ->List (Λ)
 |0,_,tl=>[tl]
 |m+1,p,tl=>if (p:Int)=pos then fN s sc pos v m (p+1) (tl.set p v) else (cS s (sc.getD p 0)).flatMap λx=>fN s sc pos v m (p+1) (tl.set p x)
theorem tW {α:Type} {l:List α} {p:Nat} {x:α} (h:p<l.length):(l.set p x).take (p+1)=l.take p++[x]:=by
 rw[u9,j9 h,List.take_set_of_le (o4 _)];rfl
theorem rb {s:aq} {sc:Λ} {pos:Nat} {v:Int}:∀ (m p:Nat) (tl:Λ),sc.length=p+m->tl.length=sc.length->fN s sc pos v m p tl=(iv (h4 s pos v (sc.drop p) p)).map (tl.take p++ ·)
 |0,p,tl,h1,a=>by
  rw[List.drop_eq_nil_of_le Ω,o9 Ω];unfold fN h4 iv;rw[List.map_singleton,W7]
 |m+1,p,tl,h1,a=>by
  have e:p<sc.length:=Ω
  obtain⟨u,hu⟩:=aE (l:=sc) e;have h:sc.drop p=u::sc.drop (p+1):=by rw[W5 e,(x4.1 hu).2]
  have j:sc.getD p 0=u:=by rw[u4,hu];rfl
  rw[h];unfold fN h4;rw[iv];by_cases f:p=pos
  .rw[if_pos Ω,if_pos f,List.flatMap_singleton,rb m (p+1) (tl.set p v) Ω (by rw[Z5];exact a),R6,tW Ω];refine List.map_congr_left λr _=>?_;simp
  .rw[if_neg Ω,if_neg f,j,List.map_flatMap];congr 1;funext x;rw[rb m (p+1) (tl.set p x) Ω (by rw[Z5];exact a),R6,tW Ω];refine List.map_congr_left λr _=>?_;simp
theorem PB {s:aq} {sc:Λ} {p:Nat} {a:Λ} (h1:sc.length=p+m) (e:tl.length=sc.length) (f:a.length=sc.length) (h:a.take p=tl.take p):fN s sc pos v m p a=fN s sc pos v m p tl:=by
 rw[rb m p tl h1 e,rb m p a h1 f,h]
theorem PC {s:aq} {sc:Λ} (h:tl.length=sc.length):fN s sc pos v sc.length 0 tl=bX s sc pos v:=by
 rw[rb sc.length 0 tl Ω h];unfold bX;simp
def mX (w:x3) (ab gs bJ bm a7:Nat) (aD:x1) (pos v:Int):Prop:=aa w gs dO [Γ ab]/\aa w bJ al [aD]/\aa w bm ag [Δ pos]/\aa w a7 ag [Δ v]
theorem mX.U {S:af} {gs bJ bm a7:Nat} {aD:x1} {pos:Int} (h:mX w ab gs bJ bm a7 aD pos v) (a:ae S w w') (e:¬S gs/\¬S bJ/\¬S bm/\¬S a7):mX w' ab gs bJ bm a7 aD pos v:=
 ⟨h.1.U a e.1,h.2.1.U a e.2.1,h.2.2.1.U a e.2.2.1,h.2.2.2.U a e.2.2.2⟩
theorem mX.ext {gs bJ bm a7:Nat} {aD:x1} {pos:Int} (h:mX w ab gs bJ bm a7 aD pos v) (a:Ext w w'):mX w' ab gs bJ bm a7 aD pos v:=h.U (a.U λ_=>False) ⟨id,id,id,id⟩
def gb (ab ad:Nat) (R:af) (n:aS) (s:aq) (gs bJ bm a7:Nat) (aD:x1) (sc:Λ) (pos v:Int) (B0:Nat) (D:Nat->Prop) (w:x3):Prop:=
 mX w ab gs bJ bm a7 aD pos v/\(gs<B0/\bJ<B0/\bm<B0/\a7<B0)/\aF .i64 w aD sc/\(∀r,leads aD r->r<B0)/\(Laid w/\B0<=w.heap.size)/\ ∃A s' bp,bQ w ab ad A R n s' bp/\(∀i,cS s' i=cS s i)/\ ∀r,A r\/R r->r<B0\/D r
section
variable {ab ad gs bJ bm a7 B0:Nat} {R:af} {n:aS} {s:aq} {aD:x1} {sc:Λ} {pos v:Int}
theorem gb.ext (h:gb ab ad R n s gs bJ bm a7 aD sc pos v B0 D w) (a:Ext w w'):gb ab ad R n s gs bJ bm a7 aD sc pos v B0 D w':=by
 obtain⟨h1,f,j,p,e,A,s',bp,q,r,x⟩:=h;exact⟨h1.ext a,f,j.ext a,p,⟨e.1.ext a,X0 e.2 a.size⟩,A,s',bp,q.ext a,r,x⟩
def j3 (w:x3) (l gy gt gtb ga:Nat) (hq:Array x1) (q:Nat) (tl:Λ):Prop:=aa w gy zn [.func (.yield l) #[] #[]]/\aa w gtb al [.slice (σ ⟨gt,0,ν⟩) q q]/\aa w ga oC [.func (.func lL) #[] hq]/\
 ap .i64 ag w gt (.slice (σ ⟨gt,0,ν⟩) q q) tl
theorem j3.U {S:af} {q:Nat} {hq:Array x1} (h:j3 w l gy gt gtb ga hq q tl) (f:ae S w w') (j:¬S gy/\¬S gtb/\¬S ga/\¬S gt):j3 w' l gy gt gtb ga hq q tl:=
 ⟨h.1.U f j.1,h.2.1.U f j.2.1,h.2.2.1.U f j.2.2.1,bq h.2.2.2 f λr p=>by
  obtain⟨a,_,_,e,s⟩:=p;cases e;rw[<-s];exact j.2.2.2⟩
theorem j3.ext {q:Nat} {hq:Array x1} (h:j3 w l gy gt gtb ga hq q tl) (a:Ext w w'):j3 w' l gy gt gtb ga hq q tl:=h.U (a.U λ_=>False) ⟨id,id,id,id⟩
theorem PD (I:aF .i64 w aD sc):ai x7 y8 [Γ ab,aD,Δ pos,Δ v] w λr w'=>Ext w w'/\ ∃gs bJ bm a7,r= .func (.func lK) #[] #[Γ bJ,Γ bm,Γ a7,Γ gs]/\mX w' ab gs bJ bm a7 aD pos v/\w.heap.size<=gs/\w.heap.size<=bJ/\w.heap.size<=bm/\w.heap.size<=a7:=by
 obtain⟨_,_,_,x⟩:=du I;refine aw func121 ?_;refine bn λgs J z s h=>?_;refine bn λbJ w2 A j a=>?_;refine bn λbm B C e p=>?_;refine bn λa7 q E f y=>?_;have h:aa q gs dO [Γ ab]:=((aa.ext h j).ext e).ext f;have a:aa q bJ al [aD]:=by rw[x] at a ⊢;exact (aa.ext a e).ext f
 have p:aa q bm ag [Δ pos]:=aa.ext p f;rw[mm];have G:=s.size;have H:=j.size;have z3:=e.size;exact⟨((s.trans j).trans e).trans f,gs,bJ,bm,a7,rfl,⟨h,a,p,y⟩,Ω,Ω,Ω,Ω⟩
theorem gb.own {S:af} (h:gb ab ad R n s gs bJ bm a7 aD sc pos v B0 D w) (j:ae S w w') (q:∀r,S r->B0<=r/\¬D r):gb ab ad R n s gs bJ bm a7 aD sc pos v B0 D w':=by
 obtain⟨h1,f,C,x,y,A,s',bp,z,E,B⟩:=h;have no:∀ {r:Nat},r<B0->¬S r:=λh1 f=>by have:=(q _ f).1;omega
 refine⟨h1.U j ⟨no f.1,no f.2.1,no f.2.2.1,no f.2.2.2⟩,f,hV C j λr p a n c e F=>?_,x,⟨?_,X0 y.2 j.size⟩,A,s',bp,⟨z.1.U j λr _ p I=>?_,z.2⟩,E,B⟩
 .exact no (x r ⟨a,n,c,e,F⟩) p
 .exact jh j (no Ω) y.1
 .exact (B r p).elim (λh=>no h I) (q r I).2
def PE (P:(Nat->Prop)->x3->Prop) (au:(Nat->Prop)->Nat->x3->Prop) (L:List (Λ)) (l B:Nat):Prop:=∀ (D:Nat->Prop) (k:Nat) tl aL w',(∀r,D r->B<=r/\r<w'.heap.size)->B<=w'.heap.size->P D w'->L[k]? =σ tl->aF .i64 w' aL tl->au D k w'->
 hL x7 l [aL] w' λu a=>u= .bool true/\(∃D',(∀r,D' r->D r\/w'.heap.size<=r/\r<a.heap.size)/\(∀r,D r->D' r)/\P D' a/\au D' (k+1) a)/\cM w' a/\w'.heap.size<=a.heap.size/\ae (λr=>r<B\/D r) w' a
def re (D:Nat->Prop) (B gy gtb ga gt:Nat):Prop:=(B<=gy/\¬D gy)/\(B<=gtb/\¬D gtb)/\(B<=ga/\¬D ga)/\B<=gt/\¬D gt
theorem re.go {D':Nat->Prop} {B cm:Nat} (h:re D B gy gtb ga gt) (a:∀r,D' r->D r\/m<=r/\r<cm) (hm:gy<m/\gtb<m/\ga<m/\gt<m):re D' B gy gtb ga gt:=
 have f:∀ {g:Nat},g<m->¬D g->¬D' g:=λh1 e j=>(a _ j).elim e λh=>Ω
 ⟨⟨h.1.1,f hm.1 h.1.2⟩,⟨h.2.1.1,f hm.2.1 h.2.1.2⟩,⟨h.2.2.1.1,f hm.2.2.1 h.2.2.1.2⟩,h.2.2.2.1,f hm.2.2.2 h.2.2.2.2⟩
theorem j3.lt {q:Nat} {hq:Array x1} (h:j3 w l gy gt gtb ga hq q tl):gy<w.heap.size/\gtb<w.heap.size/\ga<w.heap.size/\gt<w.heap.size:=
 ⟨h.1.lt,h.2.1.lt,h.2.2.1.lt,(bU h.2.2.2 ⟨_,_,_,rfl,rfl⟩).2⟩
def AtR (l gy gt gtb ga:Nat) (hq:Array x1) (P:(Nat->Prop)->x3->Prop) (au:(Nat->Prop)->Nat->x3->Prop) (S:af) (D:Nat->Prop) (w:x3) (sl k p:Nat) (tl:Λ) (w':x3):Prop:=
 w.heap.size<=w'.heap.size/\ ∃D' a,a.length=sl/\a.take p=tl.take p/\j3 w' l gy gt gtb ga hq sl a/\((∀r,D' r->D r\/w.heap.size<=r/\r<w'.heap.size)/\ ∀r,D r->D' r)/\P D' w'/\au D' k w'/\ae S w w'
section
variable {l gy gt gtb ga B:Nat} {hq:Array x1} {P:(Nat->Prop)->x3->Prop} {au:(Nat->Prop)->Nat->x3->Prop} {S T:af} {D:Nat->Prop} {w J w2:x3} {sl k p:Nat} {tl:Λ}
theorem AtR.own (s:∀D T J w2,ae T J w2->(∀r,T r->B<=r/\¬D r)->P D J->P D w2) (x:∀D k J w2,ae (λr=>B<=r/\¬D r) J w2->ft B J w2->au D k J->au D k w2)
  (h:AtR l gy gt gtb ga hq P au S D w sl k p tl J) (e:ae T J w2) (y:ft B J w2) (a:∀r,T r->r<w.heap.size/\¬D r/\B<=r/\S r/\r≠gy/\r≠gtb/\r≠ga/\r≠gt):AtR l gy gt gtb ga hq P au S D w sl k p tl w2:=by
 obtain⟨z,D',A,h1,C,E,⟨j,F⟩,G,H,I⟩:=h;have q:∀r,T r->B<=r/\¬D' r:=λr f=>⟨(a r f).2.2.1,λK=>(j r K).elim (a r f).2.1 λh=>by have:=(a r f).1;omega⟩;exact⟨X0 z e.size,D',A,h1,C,E.U e ⟨λh=>(a _ h).2.2.2.2.1 rfl,λh=>(a _ h).2.2.2.2.2.1 rfl,λh=>(a _ h).2.2.2.2.2.2.1 rfl,λh=>(a _ h).2.2.2.2.2.2.2 rfl⟩,
  ⟨λr f=>(j r f).imp id λh=>⟨h.1,Q2 h.2 e.size⟩,F⟩,s D' T J w2 e q G,x D' k J w2 (e.mono λr _ h=>q r h) y H,I.trans (e.mono λr _ h=>(a r h).2.2.2.1)⟩
theorem AtR.base {w0:x3} (h:AtR l gy gt gtb ga hq P au S D w sl k p tl J) (a:Ext w0 w) (e:∀r,r<w0.heap.size->S r->T r):AtR l gy gt gtb ga hq P au T D w0 sl k p tl J:=by
 obtain⟨f,D',j,h1,q,s,⟨x,y⟩,z,A,B⟩:=h;exact⟨X0 a.size f,D',j,h1,q,s,⟨λr C=>(x r C).imp id λh=>⟨X0 a.size h.1,h.2⟩,y⟩,z,A,((a.U S).trans B).mono e⟩
theorem AtR.comp {a:Nat->Prop} {j:Λ} {x:Int} (f:∀r,r<B\/D r\/r=gt->S r) (q:∀r,a r->D r\/w.heap.size<=r/\r<J.heap.size) (y:∀r,D r->a r) (s:ae S w J) (z:j.take p=tl.take p)
  (h:AtR l gy gt gtb ga hq P au (λr=>r<B\/a r\/r=gt) a J sl k (p+1) (j.set p x) w2):AtR l gy gt gtb ga hq P au S D w sl k p tl w2:=by
 obtain⟨A,D',C,h1,E,F,⟨G,H⟩,K,L,M⟩:=h;have I:=s.size;refine⟨X0 I A,D',C,h1,?_,F,⟨λr e=>?_,λr e=>H r (y r e)⟩,K,L,?_⟩
 .have:=congrArg (List.take p) E;rw[List.take_take,List.take_take,Nat.min_eq_left Ω,List.take_set_of_le (o4 _)] at this;rw[this,z]
 .rcases G r e with h|h
  .exact (q r h).imp id λh=>⟨h.1,Ω⟩
  .exact .inr ⟨Ω,h.2⟩
 .refine ((s.mono λr _ h=>.inl h).trans (M.mono λr _ h=>?_):ae (λr=>S r\/w.heap.size<=r) w w2).mono λr e h=>h.elim id λh=>Ω
  rcases h with h|h|h
  .exact .inl (f r (.inl h))
  .exact (q r h).elim (λh=>.inl (f r (.inr (.inl h)))) λh=>.inr h.1
  .exact .inl (f r (.inr (.inr h)))
end
theorem PF {α β:Type} {l:List α} {a:α->List β} {i:Nat} {y:α} {z:β} (h:l[j]? =σ y) (hi:(a y)[i]? =σ z):(l.flatMap a)[((l.take j).flatMap a).length+i]? =σ z:=by
 have f:=(x4.1 h).1;have e:l=l.take j++y::l.drop (j+1):=by
  conv=>lhs;rw[<-List.take_append_drop j l,W5 f,(x4.1 h).2]
 conv=>lhs;rw[e,List.flatMap_append,X2]
 have p:=(x4.1 hi).1;have el:((l.take j++y::l.drop (j+1)).take j)=l.take j:=by rw[List.take_append_of_le_length (by rw[j5];omega),List.take_take,Nat.min_self]
 rw[el,X1 Ω,R8,Y8 p];exact hi
theorem PG {t:r9} {b o:Nat} {x:x1} {K:x1->Prop} (a:jF x7 t=true) (h:w.cell? ⟨b,o,ν⟩=σ x):V x7 (do loadVar t (<-asAddr (.pointer (σ ⟨b,o,ν⟩)))) w K=K x:=V.of λw' e=>by
 have h':=iE e h;unfold jF at a;cases hu:x7.underlying t with
 |none=>rw[hu] at a;cases a
 |some d=>
  rw[hu] at a;cases d<;>first|(cases a;done)|simp[asAddr,loadVar,isAgg,run_underlying hu,h']
def j7 (bJ gy gtb bm a7 ga gs:Nat):Array x1:=#[Γ bJ,Γ gy,Γ gtb,Γ bm,Γ a7,Γ ga,Γ gs]
def tX (p:Nat) (bJ gy gtb bm a7 ga gs:Nat):List x1:=[Δ (p:Int),Γ bJ,Γ gy,Γ gtb,Γ bm,Γ a7,Γ ga,Γ gs]
theorem PH {B:Nat} {L:List (Λ)} {au:(Nat->Prop)->Nat->x3->Prop} (bW:0<=pos) (bX:∀u∈sc,0<=u/\u<n.sizes.length) (c5:sc.length<=6) (bY:B0<=B) (af:gt≠gy/\gt≠gtb/\gt≠ga)
  (Q:∀D k J w2,ae (λr=>B<=r/\¬D r) J w2->ft B J w2->au D k J->au D k w2) (bZ:PE (gb ab ad R n s gs bJ bm a7 aD sc pos v B0) au L l B):
  ∀ (q p:Nat) (tl:Λ) (k:Nat) (D:Nat->Prop) (w:x3),sc.length=p+q->tl.length=sc.length->(∀r,D r->B<=r/\r<w.heap.size)->B<=w.heap.size->re D B gy gtb ga gt->j3 w l gy gt gtb ga (j7 bJ gy gtb bm a7 ga gs) sc.length tl->gb ab ad R n s gs bJ bm a7 aD sc pos v B0 D w->au D k w->
   (∀i x,(fN s sc pos v q p tl)[i]? =σ x->L[k+i]? =σ x)->
   ai x7 lL (tX p bJ gy gtb bm a7 ga gs) w λr w'=>r= .bool true/\AtR l gy gt gtb ga (j7 bJ gy gtb bm a7 ga gs) (gb ab ad R n s gs bJ bm a7 aD sc pos v B0) au (λr=>r<B\/D r\/r=gt) D w sc.length (k+(fN s sc pos v q p tl).length) p tl w':=by
 obtain⟨f,rfl⟩:=U5 bW;have aj:∀D T J w2,ae T J w2->(∀r,T r->B<=r/\¬D r)->gb ab ad R n s gs bJ bm a7 aD sc f v B0 D J->gb ab ad R n s gs bJ bm a7 aD sc f v B0 D w2:=λD T J w2 aT bk h=>h.own aT λr z=>⟨X0 bY (bk r z).1,(bk r z).2⟩;have aU:∀ {N:x3} {K:x1->Prop},aa N bJ al [aD]->K aD->V x7 (u5 al (Γ bJ)) N K:=λaY aZ=>by rw[aB (v:=aD) Ψ (aY.Qz rfl)];exact aZ
 have a1:∀ {a2 p:Nat} {tl:Λ} {D:Nat->Prop} {w w2 N:x3} {a:Nat} {b:Bool},Ext w w2->w.heap.size<=a->a<w2.heap.size->(∀r,D r->B<=r/\r<w.heap.size)->B<=w.heap.size->(gy<w.heap.size/\gtb<w.heap.size/\ga<w.heap.size/\gt<w.heap.size)->
   AtR l gy gt gtb ga (j7 bJ gy gtb bm a7 ga gs) (gb ab ad R n s gs bJ bm a7 aD sc f v B0) au (λr=>r<B\/D r\/r=gt\/r=a) D w2 sc.length a2 p tl N->aa N a ey [.bool b]->
   av x7 (o5 ey (Γ a) (.bool true)) N λ(_:Unit) aJ=>V x7 (do loadVar ey (<-asAddr (Γ a))) aJ λr=>uz w.heap.size aJ λbl=>r= .bool true/\AtR l gy gt gtb ga (j7 bJ gy gtb bm a7 ga gs) (gb ab ad R n s gs bJ bm a7 aD sc f v B0) au (λr=>r<B\/D r\/r=gt) D w sc.length a2 p tl bl:=by
  intro a2 p tl D w w2 N a b H bq ak C am aq a6 a8;have b0:∀r,r=a->r<w2.heap.size/\¬D r/\B<=r/\(r<B\/D r\/r=gt\/r=a)/\r≠gy/\r≠gtb/\r≠ga/\r≠gt:=by
   rintro r rfl;exact⟨ak,λh=>by have:=(C _ h).2;omega,Ω,.inr (.inr (.inr rfl)),Ω,Ω,Ω,Ω⟩
  refine av.cq (bo ey.i rfl rfl a8 Ξ λaJ b1 c6 ba b2=>?_);have ba:aa aJ a ey [.bool true]:=ba;have b3:=a6.own aj Q b1 b2.o b0;rw[PG (x:=.bool true) Ψ (ba.Qz rfl)];intro bl b4 b5;refine⟨rfl,((b3.own aj Q (b4.U λ_=>False) (b5.2.mono am) λ_ h=>h.elim).base H λr z h=>?_)⟩;rcases h with h|h|h|h
  .exact .inl h
  .exact .inr (.inl h)
  .exact .inr (.inr h)
  .omega
 intro q;induction q with
 |zero=>
  intro p tl k D w b6 aw C am E ay bb bc az;refine jg func179 ?_;refine av.cq (bn λg1 J b7 aA G bd=>?_);refine av.cq (bt ey.i λa w2 bq Y O bf=>?_);have H:=aA.trans Y;have b8:=aA.size;have b9:=Y.size;have G:aa w2 g1 ag [Δ (p:Int)]:=aa.ext G Y;have O:aa w2 a ey [.bool false]:=O;have ak:=O.lt;have aK:=Q D k w w2 (H.U _) (bd.trans bf).o bc;have M:=bb.ext H;have I:=ay.ext H;rw[aB (v:=Δ (p:Int)) Ψ (G.Qz rfl)];refine aU M.1.2.1 ?_;rw[aX al.u M.2.2.1,bi,ah];refine⟨λ_=>?_,λh=>absurd Ω h⟩;rw[aB (v:=.func (.yield l) #[] #[]) Ψ (I.1.Qz rfl),aB (v:=.slice (σ ⟨gt,0,ν⟩) sc.length sc.length) Ψ (I.2.1.Qz rfl)];have ca:L[k]? =σ tl:=az 0 tl rfl;refine (show hL x7 l [.slice (σ ⟨gt,0,ν⟩) sc.length sc.length] w2 _ from hL.mono (bZ D k tl _ w2 (λr z=>⟨(C r z).1,by have:=(C r z).2;omega⟩) Ω M ca I.2.2.2.ls aK) ?_);rintro _ br ⟨rfl,⟨D',d1,d2,cb,cc⟩,cd,ce,bg⟩;refine⟨cd,?_⟩;have aq:=ay.lt;have aL:∀ {g:Nat},w.heap.size<=g->¬D g:=λh1 aC=>by have:=(C _ aC).2;omega
  have aF:∀ {g:Nat},B<=g->¬D g->¬(g<B\/D g):=λh1 aC cg=>cg.elim Ω aC;have a8:aa br a ey [.bool false]:=O.U bg (aF Ω (aL Ω));have a6:AtR l gy gt gtb ga (j7 bJ gy gtb bm a7 ga gs) (gb ab ad R n s gs bJ bm a7 aD sc f v B0) au (λr=>r<B\/D r\/r=gt\/r=a) D w2 sc.length (k+1) p tl br:=
   ⟨ce,D',tl,aw,rfl,I.U bg ⟨aF E.1.1 E.1.2,aF E.2.1.1 E.2.1.2,aF E.2.2.1.1 E.2.2.1.2,aF E.2.2.2.1 E.2.2.2.2⟩,⟨d1,d2⟩,cb,cc,bg.mono λr _ h=>h.imp id .inl⟩
  exact a1 H Ω ak C am aq a6 a8
 |succ q bu=>
  intro p tl k D w b6 aw C am E ay bb bc az;refine jg func179 ?_;refine av.cq (bn λg1 J b7 aA G bd=>?_);refine av.cq (bt ey.i λa w2 bq Y O bf=>?_);have H:=aA.trans Y;have b8:=aA.size;have b9:=Y.size;have G:aa w2 g1 ag [Δ (p:Int)]:=aa.ext G Y;have O:aa w2 a ey [.bool false]:=O;have ak:=O.lt;have h1:=G.lt;have aK:=Q D k w w2 (H.U _) (bd.trans bf).o bc;have M:=bb.ext H;have I:=ay.ext H;have aq:=ay.lt;have aL:∀ {g:Nat},w.heap.size<=g->¬D g:=λh1 aC=>by have:=(C _ aC).2;omega
  rw[aB (v:=Δ (p:Int)) Ψ (G.Qz rfl)];refine aU M.1.2.1 ?_;rw[aX al.u M.2.2.1,bi,ah];refine⟨λh=>absurd h Ω,λ_=>?_⟩;rw[aB (v:=Δ (p:Int)) Ψ (G.Qz rfl),aB (v:=Δ (f:Int)) Ψ (M.1.2.2.1.Qz rfl),bi,ah];have bw:∀ {N:x3} {K:x1->Prop},aa N gtb al [.slice (σ ⟨gt,0,ν⟩) sc.length sc.length]->K (.slice (σ ⟨gt,0,ν⟩) sc.length sc.length)->V x7 (u5 al (Γ gtb)) N K:=λaY aZ=>by rw[aB (v:=.slice (σ ⟨gt,0,ν⟩) sc.length sc.length) Ψ (aY.Qz rfl)];exact aZ
  have aN:∀ {D:Nat->Prop} (r:Nat),re D B gy gtb ga gt->r=gt->B<=r/\¬D r:=λr h e=>e▸⟨h.2.2.2.1,h.2.2.2.2⟩;refine⟨λhe=>?_,λch=>?_⟩
  .refine bw I.2.1 ?_;rw[aB (v:=Δ (p:Int)) Ψ (G.Qz rfl),aB (v:=Δ v) Ψ (M.1.2.2.2.Qz rfl),iK rfl al.u ag.i I.2.2.2 Ω];refine av.cq (iL ag.i I.2.2.2 Ω λan X c7 ci cj=>?_);have bx:j3 an l gy gt gtb ga (j7 bJ gy gtb bm a7 ga gs) sc.length (tl.set p v):=⟨I.1.U X λh=>af.1 h.symm,I.2.1.U X λh=>af.2.1 h.symm,I.2.2.1.U X λh=>af.2.2 h.symm,ci⟩;have ck:=aj D _ _ _ X (λr h=>aN r E h) M;have cl:=Q D k w2 an (X.mono λr _ h=>aN r E h) cj.o aK;have cm:aa an g1 ag [Δ (p:Int)]:=G.U X Ω;have cn:aa an a ey [.bool false]:=O.U X Ω;rw[aB (v:=.func (.func lL) #[] (j7 bJ gy gtb bm a7 ga gs)) Ψ (bx.2.2.1.Qz rfl),aB (v:=Δ (p:Int)) Ψ (cm.Qz rfl),aM,wrap_i64 Ω Ω];have hw:fN s sc f v (q+1) p tl=fN s sc f v q (p+1) (tl.set p v):=by rw[fN,if_pos he]
   rw[hw];rw[hw] at az;refine (show ai x7 lL (tX (p+1) bJ gy gtb bm a7 ga gs) an _ from ai.mono (bu (p+1) (tl.set p v) k D an Ω (by rw[Z5];exact aw) (λr z=>⟨(C r z).1,by have:=(C r z).2;omega⟩) Ω E bx ck cl az) ?_);rintro _ cp c8 ⟨rfl,bz⟩;have cr:aa cp a ey [.bool false]:=by
    obtain⟨_,_,_,_,_,_,_,_,_,ct⟩:=bz;exact cn.U ct λh=>by
     rcases h with h|h|h
     .omega
     .exact aL Ω h
     .omega
   exact a1 H Ω ak C am aq (AtR.comp (λr h=>h.imp id λh=>h.imp id .inl) (λr h=>.inl h) (λ_ h=>h) (X.mono λr _ h=>.inr (.inr (.inl h))) rfl bz) cr
  intro c9 aO _ cu;have aP:=M.ext aO;obtain⟨A,s',bp,bA,cw,da⟩:=id aP.2.2.2.2.2;obtain⟨u,hu⟩:=aE (l:=sc) (i:=p) Ω;obtain⟨cz,db⟩:=bX u (x5 hu);have dc:=bA.2.2.2.1.vars;obtain⟨x,bB⟩:=aE (l:=s'.vars) (i:=u.toNat) Ω;rw[aB (v:=Γ ab) Ψ (aP.1.1.Qz rfl)];refine aU aP.1.2.1 ?_;rw[aB (v:=Δ (p:Int)) Ψ ((G.ext aO).Qz rfl),be al.u ag.i Ψ aP.2.2.1 hu];refine (kC (i:=u) bA).mono ?_;rintro _ dd cA ⟨⟨b,cB,rfl,bC⟩,bD⟩;refine (nJ (b:=b) (n:=cB)).mono ?_;rintro _ aQ cC ⟨cD,bE,rfl,de,bG⟩;have bH:=l2 bC cz bB;have cE:cS s (sc.getD p 0)=ax x:=by
   rw[<-cw,u4,hu,V8];unfold cS;rw[bB]
  have bI:fN s sc f v (q+1) p tl=(ax x).flatMap λy=>fN s sc f v q (p+1) (tl.set p y):=by rw[fN,if_neg ch,cE]
  have Z:=(aO.trans bD).trans cD;have cF:=(cu.trans cA).trans cC;have z12:=Z.size;have df:=(aO.trans bD).size;have dg:=bG.lt;have bK:B<=aQ.heap.size:=Ω
  have cG:=Q D k w2 aQ (Z.U _) cF.o aK;have bL:=M.ext Z;have bM:=I.ext Z;refine⟨Nat,false,false,kh,#[Γ bE],0,_,_,λ_=>_,λ_ j w'=>AtR l gy gt gtb ga (j7 bJ gy gtb bm a7 ga gs) (gb ab ad R n s gs bJ bm a7 aD sc f v B0) au (λr=>r<B\/D r\/r=gt) D aQ sc.length (k+(((ax x).take j).flatMap λy=>fN s sc f v q (p+1) (tl.set p y)).length) p tl w'/\aa w' g1 ag [Δ (p:Int)]/\aa w' a ey [.bool false],
   λ_ _ _ _=>False,rfl,(nI (g:=bE) bC.1).s.x,?_,λ_ _ _ ao h=>⟨h.1.ext ao,h.2.ext ao⟩,?_,λ_ _ _ _ _ _ _ h=>h,⟨bG,bL.2.2.2.2.1.1⟩,?_,?_,?_,λ_ _ _ h=>h.elim,λ_ _ _ _ h=>h.elim⟩
  .rintro _ _ _ _ ⟨_,_,_,_,rfl⟩;rfl
  .rintro _ j dh di aT cH ⟨ac,aG,P⟩;have ao:=aT.ext λ_ _ h=>nomatch h.1;exact⟨ac.own aj Q (ao.U λ_=>False) (cH.mono bK) λ_ h=>h.elim,aG.ext ao,P.ext ao⟩
  .exact⟨⟨o4 _,D,tl,aw,rfl,bM,⟨λ_ h=>.inl h,λ_ h=>h⟩,bL,by simpa using cG,ae.refl _ _⟩,G.ext Z,O.ext Z⟩
  .rintro _ _ j _ dj _ _ ⟨cI,dk⟩ ⟨dl,rfl,y,cJ,cK⟩ ⟨cL,bN,cM⟩;cases cK;intro bO aH cN _;have bP:(ax x)[j]? =σ (y:Int):=by rw[<-bH,x8,cJ];rfl
   have cO:=cL.own aj Q (aH.U λ_=>False) (cN.2.mono bK) λ_ h=>h.elim;obtain⟨dm,aI,aR,ac,aG,P,⟨aS,cP⟩,cQ,cR,cT⟩:=cO;have cU:=bM.lt;have bh:=E.go aS cU;have bQ:∀r,aI r->B<=r/\r<bO.heap.size:=λr z=>(aS r z).elim (λh=>⟨(C r h).1,by have:=(C r h).2;omega⟩) λh=>⟨Ω,h.2⟩;refine bw P.2.1 ?_;rw[aB (v:=Δ (p:Int)) Ψ ((bN.ext aH).Qz rfl),iK rfl al.u ag.i P.2.2.2 Ω];refine av.cq (iL ag.i P.2.2.2 Ω λap W dn cV cW=>?_);have bR:j3 ap l gy gt gtb ga (j7 bJ gy gtb bm a7 ga gs) sc.length (aR.set p y):=⟨P.1.U W λh=>af.1 h.symm,P.2.1.U W λh=>af.2.1 h.symm,P.2.2.1.U W λh=>af.2.2 h.symm,cV⟩;have cX:=aj aI _ _ _ W (λr h=>aN r bh h) cQ;have cY:=Q aI _ bO ap (W.mono λr _ h=>aN r bh h) cW.o cR;have bS:aa ap g1 ag [Δ (p:Int)]:=(bN.ext aH).U W Ω;have cZ:aa ap a ey [.bool false]:=(cM.ext aH).U W Ω;have c0:=(cI.ext aH).U W Ω;rw[aB (v:=.func (.func lL) #[] (j7 bJ gy gtb bm a7 ga gs)) Ψ (bR.2.2.1.Qz rfl),aB (v:=Δ (p:Int)) Ψ (bS.Qz rfl),aM,wrap_i64 Ω Ω];have bT:fN s sc f v q (p+1) (aR.set p (y:Int))=fN s sc f v q (p+1) (tl.set p (y:Int)):=PB Ω (by rw[Z5];exact aw) (by rw[Z5];exact ac) (by rw[tW Ω,tW Ω,aG]);refine (show ai x7 lL (tX (p+1) bJ gy gtb bm a7 ga gs) ap _ from ai.mono (bu (p+1) (aR.set p y) _ aI ap Ω (by rw[Z5];exact ac) (λr z=>⟨(bQ r z).1,by have:=(bQ r z).2;omega⟩) Ω bh bR cX cY λi dp hi=>?_) ?_)
   .rw[bT] at hi;rw[R7];refine az _ _ ?_;rw[bI];exact PF bP hi
   rintro _ dq dr ⟨rfl,bU⟩;rw[bF,Y5,aW];have bV:=AtR.comp (S:=λr=>r<B\/D r\/r=gt) (λr h=>h) (λr h=>(aS r h).imp id λh=>⟨h.1,Ω⟩) cP (cT.trans (W.mono λr _ h=>.inr (.inr h))) aG bU;obtain⟨_,_,_,_,_,_,_,c3,_,bj⟩:=bU;have aV:∀ {g:Nat},w.heap.size<=g->g<aQ.heap.size->¬(g<B\/aI g\/g=gt):=λc4 ds h=>by
    rcases h with h|h|h
    .omega
    .exact (aS _ h).elim (aL c4) λh=>Ω
    .omega
   refine⟨⟨c0.U bj (aV Ω Ω),c3.2.2.2.2.1.1⟩,⟨?_,bS.U bj (aV Ω Ω),cZ.U bj (aV Ω Ω)⟩,λh=>by cases h⟩;have e:k+(((ax x).take j).flatMap λy=>fN s sc f v q (p+1) (tl.set p y)).length+(fN s sc f v q (p+1) (aR.set p (y:Int))).length=k+(((ax x).take (j+1)).flatMap λy=>fN s sc f v q (p+1) (tl.set p y)).length:=by
    rw[bT,u9,bP,o8,List.flatMap_append,List.flatMap_singleton,p8];omega
   rw[e] at bV;exact bV
  .rintro _ j dt rfl ⟨ac,aG,P⟩;rw[o9 (by rw[<-bH,u7];exact o4 _),<-bI] at ac;exact a1 H Ω ak C am aq (ac.base Z λr _ h=>h.imp id λh=>h.imp id .inl) P
end
section
variable {ab ad gs bJ bm a7 B0:Nat} {R:af} {n:aS} {s:aq} {aD:x1} {sc:Λ} {v:Int}
theorem EB {e:Nat} (W:∀u∈sc,0<=u/\u<n.sizes.length) (X:sc.length<=6):
  pJ x7 true false lK [Γ bJ,Γ bm,Γ a7,Γ gs] 0 (λk=>k=(bX s sc e v).length)
   (λk vs Y w=>Y=k+1/\ ∃tl aL,(bX s sc e v)[k]? =σ tl/\vs=[aL]/\aF .i64 w aL tl) (gb ab ad R n s gs bJ bm a7 aD sc e v B0):=by
 refine⟨lK.enters,λl au aW w Z _ ac hj af=>?_⟩;have E:∀D k J w2,ae (λr=>w.heap.size<=r/\¬D r) J w2->ft w.heap.size J w2->au D k J->au D k w2:=λD k J w2 ah ai=>Z D k J w2 (ah.mono λr _ h=>⟨rfl,h⟩) ai;have I:=hj.2.2.1;have aj:=hj.2.2.2.2.1.2;obtain⟨_,_,_,aY⟩:=du I;refine pT func178 ?_;refine av.cq (bn λgy J aZ p G ak=>?_);have am:∀ {H:x3} {K:x1->Prop},aa H bJ al [aD]->K aD->V x7 (u5 al (Γ bJ)) H K:=λan ao=>by rw[aB (v:=aD) Ψ (an.Qz rfl)];exact ao
 refine am (hj.1.2.1.ext p) ?_;rw[aX al.u (I.ext p)];refine av.cq (kk (k:=.i64) al.u ag.i Ω Ω λgt w2 a1 A M aq=>?_);refine av.cq (bt al.i λgtb a2 a6 q N aw=>?_);refine av.cq (bo al.i rfl rfl N (by simp[x1.cells]) λa8 C ba ax ay=>?_);refine av.cq (bt oC.i λga bb bc f O az=>?_);rw[mm];refine av.cq (bo oC.i rfl rfl O (by simp[x1.cells]) λa y bd aA aC=>?_);have be:=p.size;have bf:=A.size;have z3:=q.size;have z5:=f.size;have bg:=G.lt;have bh:=M.lt;have bi:=N.lt;have bj:=O.lt;have aE:aa a gy zn [.func (.yield l) #[] #[]]:=(((((aa.ext G A).ext q).U C Ω).ext f).U y Ω);have aG:aa a gt ag (ints .i64 (p9 sc.length 0)):=((((M.ext q).U C Ω).ext f).U y Ω);have aH:aa a gtb al [.slice (σ ⟨gt,0,ν⟩) sc.length sc.length]:=((aa.ext ax f).U y Ω);have P:aa a ga oC [.func (.func lL) #[] (j7 bJ gy gtb bm a7 ga gs)]:=aA;rw[aB (v:=.func (.func lL) #[] (j7 bJ gy gtb bm a7 ga gs)) Ψ (P.Qz rfl)];have hm:ap .i64 ag a gt (.slice (σ ⟨gt,0,ν⟩) sc.length sc.length) (p9 sc.length 0):=by
  have:=bV.full (n:=sc.length) (k:=1) aG Ξ (by simp only[maxLen];omega);unfold ap;rw[List.length_replicate];exact this
 have aI:=(p.trans A).trans q;have Q:ae (λr=>w.heap.size<=r/\¬False) w a:=(((aI.U _).trans (C.mono λr _ h=>⟨by have h:r=gtb:=h;omega,id⟩)).trans (f.U _)).trans (y.mono λr _ h=>⟨by have h:r=ga:=h;omega,id⟩);have aJ:cM w a:=((((ak.trans aq).trans aw).trans ay).trans az).trans aC;have aK:gb ab ad R n s gs bJ bm a7 aD sc e v B0 (λ_=>False) a:=hj.own Q λr aM=>⟨Ω,aM.2⟩;have S:=PC (s:=s) (sc:=sc) (pos:=e) (v:=v) (tl:=p9 sc.length 0) Ξ;refine (show gH x7 lL (tX 0 bJ gy gtb bm a7 ga gs) a _ from (PH (L:=bX s sc e v) (B:=w.heap.size) (l:=l) (gy:=gy) (gt:=gt) (gtb:=gtb) (ga:=ga) (pos:=e) Ω W X aj ⟨Ω,Ω,Ω⟩ E ?_ sc.length 0 (p9 sc.length 0) 0 (λ_=>False) a Ω Ξ (λ_ h=>h.elim) Ω ⟨⟨Ω,id⟩,⟨Ω,id⟩,⟨Ω,id⟩,Ω,id⟩ ⟨aE,aH,P,hm⟩ aK (E _ _ _ _ Q aJ.o af) λi x hi=>?_).free.mono ?_)
 .intro D k tl aL w' aN aO aP aQ aR z;refine hL.mono (ac D k (k+1) [aL] w' aN aO aP ⟨rfl,tl,aL,aQ,rfl,aR⟩ z) ?_;rintro u bk (⟨h1,aS,aT,aU,aV⟩|⟨h,_⟩)
  .exact⟨h1,aS,aT (.inr rfl),aU,aV rfl⟩
  .cases h
 .rw[S] at hi;rw[W0];exact hi
 .rintro _ bl ⟨_,rfl,_,D',_,_,_,_,_,_,z,_⟩;rw[S,W0] at z;exact .inl ⟨D',_,rfl,z⟩
end
def EC (m gs bJ bm a7:Nat) (aD:x1):Prop:=(m<=gs/\m<=bJ/\m<=bm/\m<=a7)/\ ∀r,leads aD r->m<=r
section
variable {ab ad gs bJ bm a7 B0 m:Nat} {A R:af} {n:aS} {s s':aq} {t:aC} {aD:x1} {sc:Λ} {pos v:Int} {w w':x3}
theorem bQ.lt (h:bQ w ab ad A R n s t) {r:Nat} (a:A r\/R r):r<w.heap.size:=by
 obtain⟨⟨j,p,q,x,⟨_,_,e,f⟩,_⟩,_⟩:=h;exact a.elim (f r) (e r)
theorem gb.put {D' S:Nat->Prop} (h:gb ab ad R n s gs bJ bm a7 aD sc pos v B0 D w) (j:ae S w w') (hm:EC m gs bJ bm a7 aD) (y:∀r,S r->r<m\/B0<=r) (z:Laid w') (B:bQ w' ab ad A R n s' t) (C:∀i,cS s' i=cS s i) (E:∀r,A r\/R r->r<B0\/D' r):gb ab ad R n s gs bJ bm a7 aD sc pos v B0 D' w':=by
 obtain⟨h1,f,p,q,F,_⟩:=h;have no:∀ {r:Nat},m<=r->r<B0->¬S r:=λh1 f p=>by have:=y _ p;omega
 exact⟨h1.U j ⟨no hm.1.1 f.1,no hm.1.2.1 f.2.1,no hm.1.2.2.1 f.2.2.1,no hm.1.2.2.2 f.2.2.2⟩,f,hV p j λr G a n c e x=>no (hm.2 r ⟨a,n,c,e,x⟩) (q r ⟨a,n,c,e,x⟩) G,q,⟨z,X0 F.2 j.size⟩,A,s',t,B,C,E⟩
theorem ED {f:b3} {y:x3->Prop} (h:bQ w ab ad A R n s t) (B:Laid w) (C:s.funs[j]? =σ f)
  (E:∀aD gs bJ bm a7 w',Ext w w'->EC w.heap.size gs bJ bm a7 aD->gb ab ad R n s gs bJ bm a7 aD f.sc pos v w'.heap.size (λ_=>False) w'->K (.func (.func lK) #[] #[Γ bJ,Γ bm,Γ a7,Γ gs]) w'):
  ai x7 rR [Γ ab,Δ (j:Int)] w λaD J=>(Ext w J\/y J)/\ai x7 y8 [Γ ab,aD,Δ pos,Δ v] J K:=by
 refine (w3 h C).mono ?_;rintro aD J _ ⟨q,g,G,hm⟩;refine⟨.inl q,(PD hm.ls).mono ?_⟩;rintro _ w2 _ ⟨x,gs,bJ,bm,a7,rfl,a,H,I,L,M⟩;have p:=q.trans x;have N:=q.size;have z:=p.size;refine E aD gs bJ bm a7 w2 p ⟨⟨Ω,Ω,Ω,Ω⟩,λr e=>(bU hm e).1▸G⟩ ⟨a,⟨a.1.lt,a.2.1.lt,a.2.2.1.lt,a.2.2.2.lt⟩,hm.ls.ext x,λr e=>?_,⟨B.ext p,o4 _⟩,A,s,t,h.ext p,λ_=>rfl,λr e=>.inl ?_⟩
 .have:=bU hm e;have:=x.size;omega
 .have:=h.lt e;omega
end
section
variable {k:Int} {sizes:Λ} {s:aq} {f:b3} {j pos:Nat} {v:Int} {tl:Λ}
theorem EE (a:s.funs[j]? =σ f) (e:f.live≠0) (hm:cH f.ac tl 0=σ (m:Int)):(gB s j tl).isSome=true/\kD s j tl=ba f.ac f.cs tl:=by
 unfold gB kD;rw[a];simp[e,hm]
end
section
variable {w:x3} {ab ad:Nat} {A R:af} {n:aS} {s:aq} {t:aC}
theorem PI {f:b3} (h:bQ w ab ad A R n s t) (aj:Laid w) (N:s.funs[j]? =σ f) (ax:f.live≠0) (ay:∀u,f.sc[pos]? =σ u->v∈cS s u):
  ai x7 Gl [Γ ab,Δ (j:Int),Δ (pos:Int),Δ v] w λr w'=>r=Δ (iw n.k s f pos v)/\Ext w w':=by
 have al:=h.2.2.2.1;have am:=x5 N;obtain⟨O,aT,_⟩:=al.funs f am;refine jg func48 ?_;refine bn λg1 J aU P y=>?_;refine bn λQ w2 aW K L=>?_;have y:aa w2 g1 dO [Γ ab]:=aa.ext y K;have L:aa w2 Q ag [Δ (j:Int)]:=L;rw[aB (v:=Γ ab) Ψ (y.Qz rfl)];refine (n8 (h.ext (P.trans K))).mono ?_;rintro _ aX _ ⟨rfl,S⟩;refine bt ak.i λz aY aZ V an=>?_;have a1:=P.size;have a2:=K.size;have z3:=S.size;have z4:=V.size;have a6:=y.lt;have a8:=L.lt;have bb:=an.lt;refine bo ak.i rfl rfl an (by simp[x1.cells]) λaz W bc X=>?_;have X:aa az z ak [Δ n.k]:=X;intro Y B _ _;have bd:=B.size;have ao:=S.trans V;have Z:Ext w Y:=((((P.trans K).trans S).trans V).then W (by rintro r p rfl;omega)).trans B;have ae:aa Y g1 dO [Γ ab]:=((y.ext ao).U W Ω).ext B;have ap:aa Y Q ag [Δ (j:Int)]:=((L.ext ao).U W Ω).ext B;have aq:=X.ext B;have be:=aq.lt;rw[aB (v:=Γ ab) Ψ (ae.Qz rfl),aB (v:=Γ ab) Ψ (ae.Qz rfl),aB (v:=Δ (j:Int)) Ψ (ap.Qz rfl)];refine ED (h.ext Z) (aj.ext Z) N λaD gs bJ bm a7 aA C aC aE=>?_;have bf:=C.size;refine⟨Nat,true,false,lK,#[Γ bJ,Γ bm,Γ a7,Γ gs],0,_,_,_,λD k w'=>Ext w w'/\aa w' g1 dO [Γ ab]/\aa w' Q ag [Δ (j:Int)]/\aa w' z ak [Δ ((((bX s f.sc pos v).take k).map (ba f.ac f.cs)).foldl min n.k)],
  λ_ _ _ _=>False,rfl,EB (λu hu=>⟨(O.scope.1 u hu).1,O.vars u hu⟩) O.scope.2,?_,λ_ _ _ aF h=>h.ext aF,?_,λ_ _ _ _ _ _ _ h=>h,aE,?_,?_,?_,λ_ _ _ h=>h.elim,λ_ _ _ _ h=>h.elim⟩
 .rintro _ _ _ _ ⟨_,_,_,_,rfl,_⟩;rfl
 .rintro D k aG aH M bg ⟨q,E,G,x⟩;have aV:∀ {g:Nat} {e:r9} {cs:List x1},g<aA.heap.size->aa aG g e cs->aa aH g e cs:=λbh aI=>aI.U M λh=>by have:=h.2.1;omega
  exact⟨q.then M λr p h=>by have:=h.2.1;omega,aV Ω E,aV Ω G,aV Ω x⟩
 .exact⟨Z.trans C,ae.ext C,ap.ext C,aq.ext C⟩
 .rintro aL D k bi bj bk bl aJ ⟨rfl,tl,bp,au,e,aK⟩ ⟨q,E,G,x⟩;cases e;intro bq H _ aM;obtain⟨m,hm⟩:=q4 al am ay (x5 au);obtain⟨aN,M⟩:=EE N ax hm;rw[aB (v:=Γ ab) Ψ ((E.ext H).Qz rfl),aB (v:=Δ (j:Int)) Ψ ((G.ext H).Qz rfl)];refine (pm (j:=j) (h.ext (q.trans H)) (aK.ext H)).mono ?_;rintro _ br aO ⟨rfl,aP⟩;have a:=H.trans aP;rw[if_pos aN,M,bu,bw,aB (v:=Δ ((((bX s f.sc pos v).take k).map (ba f.ac f.cs)).foldl min n.k)) Ψ ((x.ext a).Qz rfl),kU];refine av.cq (bo ak.i rfl rfl (x.ext a) Ξ λaw I bx af aQ=>?_);have bz:=a.size;have ah:Ext w aw:=(q.trans a).then I (by rintro r p rfl;omega);have aR:=h.ext ah;refine⟨⟨D,λr h=>.inl h,λ_ h=>h,(aJ.ext a).put I aC (λr p=>.inl (by have p:r=z:=p;omega)) (aj.ext ah) aR (λ_=>rfl) λr p=>.inl (by have:=h.lt p;omega),ah,(E.ext a).U I Ω,(G.ext a).U I Ω,?_⟩,aM.trans (aO.kb.trans aQ.kb),(a.U _).trans (I.mono λr _ h=>.inl (by have h:r=z:=h;omega))⟩;have af:aa aw z ak [Δ (min ((((bX s f.sc pos v).take k).map (ba f.ac f.cs)).foldl min n.k) (ba f.ac f.cs tl))]:=af;rw[u9,au,o8,j6,List.foldl_append];exact af
 .rintro D k bA rfl ⟨q,E,G,x⟩;rw[aB (v:=Δ ((((bX s f.sc pos v).take (bX s f.sc pos v).length).map (ba f.ac f.cs)).foldl min n.k)) Ψ (x.Qz rfl)];intro bB aS _;refine⟨?_,q.trans aS⟩;rw[o9 (o4 _)];rfl
end
def eE (w:x3) (ab ad:Nat) (A R:af) (n:aS) (s':aq) (w':x3):Prop:=ae (eN w) w w'/\Laid w'/\ ∃aI bp,Grow A w aI w'/\bQ w' ab ad aI R n s' bp/\en bp []/\¬aI 0
def gE (w:x3) (ab ad:Nat) (A R:af) (n:aS) (m:Nat) (D:Nat->Prop) (s':aq) (w':x3):Prop:=
 ae (λr=>eN w r\/w.heap.size<=r) w w'/\(Laid w'/\w.heap.size<=m/\0<w.heap.size/\(∀r,A r\/R r->r<w.heap.size))/\ ∃aI bp,Grow A w aI w'/\bQ w' ab ad aI R n s' bp/\(en bp []/\¬aI 0)/\ ∀r,aI r->r<m\/D r
section
variable {w J w2:x3} {ab ad m:Nat} {A R:af} {n:aS} {s s' tY:aq} {t:aC} {D D' S:Nat->Prop}
theorem gE.start (h:bQ w ab ad A R n s t) (f:Laid w) (j:¬A 0) (p:en t []) (a:Ext w J) (hm:w.heap.size<=m):gE w ab ad A R n m D s J:=
 ⟨a.U _,⟨f.ext a,hm,by
  obtain⟨x,y,z,B,⟨h1,_,_,q⟩,_⟩:=h.1;have:=q _ h1;omega,λr e=>h.lt e⟩,A,t,Grow.ext a,h.ext a,⟨p,j⟩,λr e=>.inl (by have:=h.lt (.inl e);omega)⟩
theorem gE.own (h:gE w ab ad A R n m D s' J) (e:ae S J w2) (f:∀r,S r->m<=r/\¬D r):gE w ab ad A R n m D s' w2:=by
 obtain⟨h1,⟨s,x,y,j⟩,aI,bp,⟨g1,z,B⟩,p,C,q⟩:=h;refine⟨h1.trans (e.mono λr _ h=>.inr (by have:=(f r h).1;omega)),⟨jh e (λh=>by have:=(f _ h).1;omega) s,x,y,j⟩,aI,bp,⟨?_,z,B⟩,⟨p.1.U e λr _ a I=>?_,p.2⟩,C,q⟩
 .exact ((g1.mono λr _ h=>.inl h).trans (e.mono λr _ h=>.inr (f r h).1):ae (λr=>A r\/m<=r) w w2).mono λr a h=>h.elim id λh=>Ω
 .obtain⟨F,E⟩:=f r I;rcases a with a|a
  .exact (q r a).elim Ω E
  .have:=j r (.inr a);omega
theorem gE.ext (h:gE w ab ad A R n m D s' J) (a:Ext J w2):gE w ab ad A R n m D s' w2:=h.own (a.U λ_=>False) λ_ h=>h.elim
theorem gE.open (h:gE w ab ad A R n m D s' J):∃aI bp,bQ J ab ad aI R n s' bp/\en bp []/\ ∀ {w2:x3} {tY:aq} {D' a:Nat->Prop} {j:aC},ae (eN J) J w2->Grow aI J a w2->bQ w2 ab ad a R n tY j->en j []->(∀r,D r->D' r)->(∀r,J.heap.size<=r->r<w2.heap.size->D' r)->
  gE w ab ad A R n m D' tY w2/\ae (λr=>r<m\/D r) J w2/\ ∀r,a r->r<m\/D' r:=by
 obtain⟨h1,⟨y,z,B,C⟩,aI,bp,E,F,p,q⟩:=h;refine⟨aI,bp,F,p.1,λ{w2 tY D' a j} G e s H K L=>?_⟩;have P:=h1.size;have M:¬a 0:=λh=>(e.2.1 0 h).elim p.2 λh=>Ω
 have x:∀r,a r->r<m\/D' r:=λr f=>(e.2.1 r f).elim (λh=>(q r h).imp id (K r)) λh=>.inr (L r h (s.lt (.inl f)));refine⟨⟨h1.trans (G.mono λr _ h=>?_),⟨jh e.1 p.2 y,z,B,C⟩,a,j,E.trans e,s,⟨H,M⟩,x⟩,e.1.mono λr _ h=>q r h,x⟩;by_cases f:w.heap.size<=r
 .exact .inr f
 .exact .inl (mI (λo N I O=>h1.aV r o N I λh=>h.elim O f) h)
theorem gE.done (h:gE w ab ad A R n m D s' J) (e:Ext J w2):eE w ab ad A R n s' w2:=by
 obtain⟨h1,⟨f,q,s,x⟩,aI,bp,j,p,a,y⟩:=h.ext e;exact⟨h1.mono λr z h=>h.elim id λh=>Ω,f,aI,bp,j,p,a.1,a.2⟩
end
section
variable {w:x3} {ab ad:Nat} {A R:af} {n:aS} {s:aq} {t:aC}
theorem px {u:Nat} {x:bl} (a:br n.k n.sizes s) (f:s.vars[u]? =σ x) (h:v∈ax x):fX n (u:Int) v:=by
 have p:=(x4.1 f).1;have q:=a.vars;obtain⟨z,e⟩:=aE (l:=n.sizes) (i:=u) Ω;have r:=(a.var _ x z f e).1;have w:=a.e1.2.2 z (x5 e);have j:=(gS.1 h).1;refine⟨Ω,Ω,j.1,?_⟩;rw[r8,u4,e,V8];omega
theorem EF {k:Int} {sizes:Λ} {f:b3} {g:Int->Int} (p:br k sizes s) (a:s.funs[j]? =σ f):dH s j f (cZ g [] f.ac f.cs)=s:=by
 obtain⟨q,r⟩:=js p (x5 a);rw[OY q Ω (λ_ h=>absurd h List.not_mem_nil)];have:s.funs.set j f=s.funs:=by
  apply Y6;intro i;by_cases e:j=i
  .subst e;rw[j9 (x4.1 a).1,a]
  .rw[Y0 e]
 unfold dH;show {s with funs:=s.funs.set j f}=s;rw[this]
theorem EG {u:Nat} {f:b3} {x:bl} {F1 F2:Q0} {tup un:Int->Int} (h:bQ w ab ad A R n s t) (aO:Laid w) (bh:¬A 0) (bi:en t []) (E:s.funs[j]? =σ f) (bj:f.live≠0) (hu:f.sc[pos]? =σ (u:Int)) (y:s.vars[u]? =σ x) (aP:v∈ax x)
  (h1:∀tl∈bX s f.sc pos v,(0<=tup (ba f.ac f.cs tl)/\tup (ba f.ac f.cs tl)<=n.k)/\ ∀ {w:x3} {A:af} {s:aq} {t:aC},bQ w ab ad A R n s t->ai x7 F1 [Γ ab,Δ (ba f.ac f.cs tl),Δ c] w λr w'=>r=Δ (tup (ba f.ac f.cs tl))/\Ext w w')
  (aQ:(0<=un (x.un.getD v.toNat 0)/\un (x.un.getD v.toNat 0)<=n.k)/\ ∀ {w:x3} {A:af} {s:aq} {t:aC},bQ w ab ad A R n s t->ai x7 F2 [Γ ab,Δ (x.un.getD v.toNat 0),Δ c] w λr w'=>r=Δ (un (x.un.getD v.toNat 0))/\Ext w w'):
  ai x7 Gn [.agg #[.func (.func F1) #[] #[],.func (.func F2) #[] #[]],Γ ab,Δ (j:Int),Δ (pos:Int),Δ v,Δ c] w λ_ w'=>eE w ab ad A R n (er s j f pos u x v tup un) w':=by
 have G:=h.2.2.2.1;have aj:=x5 E;obtain⟨am,b4,_⟩:=G.funs f aj;have aR:∀u',f.sc[pos]? =σ u'->v∈cS s u':=λu' aS=>by
  rw[hu] at aS;cases aS;unfold cS;rw[r8,y];exact aP
 have bk:=Eh G aj aR;refine jg func52 ?_;refine bn λbo J b5 aT P=>?_;refine bn λg1 w2 b6 an a=>?_;refine bn λbp b7 b8 Y B=>?_;refine bn λbq z b9 Z Q=>?_;have P:aa z bo pR [.func (.func F1) #[] #[],.func (.func F2) #[] #[]]:=((aa.ext P an).ext Y).ext Z;have a:aa z g1 dO [Γ ab]:=(aa.ext a Y).ext Z;have B:aa z bp ag [Δ (j:Int)]:=aa.ext B Z;have Q:aa z bq ak [Δ c]:=Q;have ao:=((aT.trans an).trans Y).trans Z;have ca:=aT.size;have cb:=an.size;have z3:=Y.size;have cc:=ao.size;have aU:=P.lt;have H:=a.lt;have aW:=B.lt;have aX:=Q.lt;rw[aB (v:=Γ ab) Ψ (a.Qz rfl),aB (v:=Δ (j:Int)) Ψ (B.Qz rfl)];refine (w3 (h.ext ao) E).mono ?_;rintro cd ce _ ⟨br,_,_,bt⟩;rw[be al.u ag.i Ψ bt.ls hu];intro cg bx _ _;have I:=br.trans bx;have ap:=ao.trans I;have z46:=I.size;rw[aB (v:=Γ ab) Ψ ((a.ext I).Qz rfl),aB (v:=Γ ab) Ψ ((a.ext I).Qz rfl),aB (v:=Δ (j:Int)) Ψ ((B.ext I).Qz rfl)];refine ED (h.ext ap) (aO.ext ap) E λaD gs bJ bm a7 aY au bz bA=>?_;have ch:=au.size;have bB:=I.trans au;refine⟨Nat,true,false,lK,#[Γ bJ,Γ bm,Γ a7,Γ gs],0,_,_,_,
  λD k w'=>gE w ab ad A R n w.heap.size D (dH s j f (cZ tup ((bX s f.sc pos v).take k) f.ac f.cs)) w'/\(ae (λr=>r<w.heap.size\/aY.heap.size<=r) z w'/\aY.heap.size<=w'.heap.size),
  λ_ _ _ _=>False,rfl,EB (λu hu=>⟨(am.scope.1 u hu).1,am.vars u hu⟩) am.scope.2,?_,λ_ _ _ y h=>h.ext y,?_,λ_ _ _ _ _ _ _ h=>h,bA,?_,?_,?_,λ_ _ _ h=>h.elim,λ_ _ _ _ h=>h.elim⟩
 .rintro _ _ _ _ ⟨_,_,_,_,rfl,_⟩;rfl
 .rintro D k ci cj S ck ⟨K,L,av⟩;exact⟨K.own S λr q=>⟨Ω,q.2.2⟩,L.trans (S.mono λr _ h=>.inr h.2.1),X0 av S.size⟩
 .refine⟨?_,bB.U _,o4 _⟩;have e:dH s j f (cZ tup ((bX s f.sc pos v).take 0) f.ac f.cs)=s:=EF G E;rw[e];exact gE.start h aO bh bi (ap.trans au) (o4 _)
 .rintro aL D k cl aw aZ cm bC ⟨rfl,tl,cn,ay,e,a1⟩ ⟨K,L,av⟩;cases e;intro cp V _ bD;obtain⟨m,hm⟩:=q4 G aj aR (x5 ay);obtain⟨bE,bF⟩:=Ei (g:=tup) G E bk ay hm;obtain⟨⟨bG,bH⟩,bI⟩:=h1 tl (x5 ay);have aV:∀ {W:x3} {g:Nat} {e:r9} {cs:List x1},Ext aw W->w.heap.size<=g->g<z.heap.size->aa z g e cs->aa W g e cs:=λy M aA aE=>(aE.U L Ω).ext y;have bK:=(x4.1 E).1;have a2:(dH s j f (cZ tup ((bX s f.sc pos v).take k) f.ac f.cs)).funs[j]? =σ {f with cs:=cZ tup ((bX s f.sc pos v).take k) f.ac f.cs}:=j9 bK;obtain⟨M,S⟩:=EE (tl:=tl) a2 bj hm;obtain⟨A9,t9,aF,a6,aG⟩:=K.open;rw[aB (v:=Γ ab) Ψ ((aV V Ω H a).Qz rfl),aB (v:=Δ (j:Int)) Ψ ((aV V Ω aW B).Qz rfl)];refine (pm (j:=j) (aF.ext V) (a1.ext V)).mono ?_;rintro _ cq bL ⟨rfl,bM⟩;rw[if_pos M,S,bu,bw];intro bN bO _ bP;have C:=(V.trans bM).trans bO;rw[aB (v:=Γ ab) Ψ ((aV C Ω H a).Qz rfl),aB (v:=Δ (j:Int)) Ψ ((aV C Ω aW B).Qz rfl),
   az pR.p 0 (aV C Ω aU P) rfl,aB (v:=Γ ab) Ψ ((aV C Ω H a).Qz rfl),aB (v:=Δ c) Ψ ((aV C Ω aX Q).Qz rfl)]
  show ai x7 F1 [Γ ab,Δ (ba f.ac (cZ tup ((bX s f.sc pos v).take k) f.ac f.cs) tl),Δ c] bN _;rw[bE];refine (bI (aF.ext C)).mono ?_;rintro _ cr bR ⟨rfl,a8⟩;have X:=C.trans a8;refine⟨.inl a8,(Oz (j:=j) (aF.ext X) (.inl a6.1) (a1.ext X)).mono ?_⟩;rintro r bb bS ⟨_,_,aH⟩;obtain⟨_,ah,aI,bT,bU,aJ,N⟩:=aH M ⟨bG,bH⟩ _ m a2 hm;rw[bF] at N;have ct:=X.size;have cu:=ah.size;obtain⟨bc,aK,bV⟩:=aG (D':=λr=>D r\/aw.heap.size<=r/\r<bb.heap.size) (jT X ah) ((Grow.ext X).trans aJ) N a6.set (λr h=>.inl h) λr M aA=>.inr ⟨M,aA⟩;refine⟨⟨λr=>D r\/aw.heap.size<=r/\r<bb.heap.size,λr h=>h,λr h=>.inl h,?_,bc,L.trans (aK.mono λr _ h=>h.imp id λh=>(aZ r h).1),Ω⟩,bD.trans ((((bL.trans bP).trans bR).trans bS).kb),aK.mono λr _ h=>h.imp (λh=>Ω) id⟩;refine bC.put aK bz (λr q=>?_) bc.2.1.1 N (λ_=>rfl) λr q=>?_
  .rcases q with q|q
   .exact .inl Ω
   .exact .inr (aZ r q).1
  .rcases q with q|q
   .exact (bV r q).imp (λh=>Ω) id
   .exact .inl (by have:=h.lt (.inr q);omega)
 .rintro D k bW rfl ⟨K,L,av⟩;rw[o9 (o4 _)] at K;have bd:=px G y aP;obtain⟨cw,cz,aM,bf,aG⟩:=K.open;have aV:∀ {W:x3} {g:Nat} {e:r9} {cs:List x1},Ext bW W->w.heap.size<=g->g<z.heap.size->aa z g e cs->aa W g e cs:=λy M aA aE=>(aE.U L Ω).ext y;rw[aB (v:=Γ ab) Ψ ((aV (Ext.refl _) Ω H a).Qz rfl)];refine (mM (i:=(u:Int)) (v:=v) aM).mono ?_;rintro _ cA _ ⟨rfl,bY⟩;have bZ:hp (dH s j f (cZ tup (bX s f.sc pos v) f.ac f.cs)) (u:Int).toNat v.toNat=x.un.getD v.toNat 0:=by
   unfold hp;rw[r8,show (dH s j f (cZ tup (bX s f.sc pos v) f.ac f.cs)).vars[u]? =σ x from y]
  rw[if_pos bd,bZ,bu,bw];intro b0 b1 _ _;have O:=bY.trans b1;rw[aB (v:=Γ ab) Ψ ((aV O Ω H a).Qz rfl),az pR.p 1 (aV O Ω aU P) rfl,aB (v:=Γ ab) Ψ ((aV O Ω H a).Qz rfl),aB (v:=Δ c) Ψ ((aV O Ω aX Q).Qz rfl)];show ai x7 F2 [Γ ab,Δ (x.un.getD v.toNat 0),Δ c] b0 _;refine (aQ.2 (aM.ext O)).mono ?_;rintro _ cB _ ⟨rfl,bg⟩;have aN:=O.trans bg;refine⟨.inl bg,(DO (i:=(u:Int)) (v:=v) (aM.ext aN) (.inl bf.1)).mono ?_⟩;rintro r cC _ ⟨_,_,aH⟩;obtain⟨_,ah,aI,bT,bU,aJ,N⟩:=aH bd aQ.1;have e:jW (dH s j f (cZ tup (bX s f.sc pos v) f.ac f.cs)) (u:Int).toNat v.toNat (un (x.un.getD v.toNat 0))=er s j f pos u x v tup un:=by
   unfold jW er ep;rw[r8,show (dH s j f (cZ tup (bX s f.sc pos v) f.ac f.cs)).vars[u]? =σ x from y]
  rw[e] at N;intro cD b2 _;exact (aG (D':=λ_=>True) (jT aN ah) ((Grow.ext aN).trans aJ) N bf.set (λ_ _=>trivial) λ_ _ _=>trivial).1.done b2
end
theorem rf (h e:Nat) (f:l<256) (hm:a<256):(256*h+l) &&& (256*e+a)=256*(h &&& e)+(l &&& a):=by
 have j:l &&& a<2 ^ 8:=Nat.and_lt_two_pow _ hm;apply Nat.eq_of_testBit_eq;intro i;rw[Nat.testBit_and,show 256=2 ^ 8 from rfl,Nat.testBit_two_pow_mul_add _ f,Nat.testBit_two_pow_mul_add _ hm,Nat.testBit_two_pow_mul_add _ j];split
 .rw[Nat.testBit_and]
 .rw[Nat.testBit_and]
def gT (m x:Nat):Nat:=(x / 2 &&& m)+(x &&& m)
def hJ (m x:Nat):Nat:=(x / 4 &&& m)+(x &&& m)
def ju (m x:Nat):Nat:=(x / 16+x) &&& m
def c0 (a:Nat):Nat:=ju 15 (hJ 51 (gT 85 a))
theorem PJ:∀e<2,∀l<256,(128*e+l / 2) &&& 85=l / 2 &&& 85:=by decide+kernel
theorem PK:∀e<4,∀l<256,(64*e+l / 4) &&& 51=l / 4 &&& 51:=by decide+kernel
theorem PL:∀e<5,∀l<69,(16*e+l / 16+l) &&& 15=(l / 16+l) &&& 15:=by decide+kernel
theorem mY:∀l<256,gT 85 l<256/\hJ 51 (gT 85 l)<69/\hJ 51 (gT 85 l) % 16<5/\c0 l<=8/\(c0 l=0->l=0):=by decide+kernel
theorem tZ (h a:Nat) (e:l<256):gT (256*a+85) (256*h+l)=256*gT a h+gT 85 l:=by
 unfold gT;rw[show (256*h+l) / 2=256*(h / 2)+(128*(h % 2)+l / 2) by omega,rf _ _ Ω Ω,rf _ _ e Ω,PJ _ Ω _ e];omega
theorem ua (h a:Nat) (e:l<256):hJ (256*a+51) (256*h+l)=256*hJ a h+hJ 51 l:=by
 unfold hJ;rw[show (256*h+l) / 4=256*(h / 4)+(64*(h % 4)+l / 4) by omega,rf _ _ Ω Ω,rf _ _ e Ω,PK _ Ω _ e];omega
theorem ub (h a:Nat) (e:l<69) (he:h % 16<5):ju (256*a+15) (256*h+l)=256*ju a h+ju 15 l:=by
 unfold ju;rw[show (256*h+l) / 16+(256*h+l)=256*(h / 16+h)+(16*(h % 16)+l / 16+l) by omega,rf _ _ Ω Ω,PL _ he _ e]
def four (a b c d:Nat):Nat:=256*(256*(256*d+c)+b)+a
theorem PM {b c d:Nat} (e:a<256) (f:b<256) (h:c<256) (j:d<256):gT 6148914691236517205 (four a b c d)=four (gT 85 a) (gT 85 b) (gT 85 c) (gT 85 d):=by
 unfold four;rw[show 6148914691236517205=256*(256*(256*(256*1431655765+85)+85)+85)+85 from rfl,tZ _ _ e,tZ _ _ f,tZ _ _ h];have:=tZ 0 1431655765 j;rw[show 256*0+d=d by omega,show gT 1431655765 0=0 from by unfold gT;simp] at this;rw[this,Nat.mul_zero,W0]
theorem PN {b c d:Nat} (e:a<256) (f:b<256) (h:c<256) (j:d<256):hJ 3689348814741910323 (four a b c d)=four (hJ 51 a) (hJ 51 b) (hJ 51 c) (hJ 51 d):=by
 unfold four;rw[show 3689348814741910323=256*(256*(256*(256*858993459+51)+51)+51)+51 from rfl,ua _ _ e,ua _ _ f,ua _ _ h];have:=ua 0 858993459 j;rw[show 256*0+d=d by omega,show hJ 858993459 0=0 from by unfold hJ;simp] at this;rw[this,Nat.mul_zero,W0]
theorem PO {b c d:Nat} (e:a<69) (f:b<69/\b % 16<5) (h:c<69/\c % 16<5) (j:d<69/\d % 16<5):ju 1085102592571150095 (four a b c d)=four (ju 15 a) (ju 15 b) (ju 15 c) (ju 15 d):=by
 unfold four;rw[show 1085102592571150095=256*(256*(256*(256*252645135+15)+15)+15)+15 from rfl,ub _ _ e Ω,ub _ _ f.1 Ω,ub _ _ h.1 Ω];have:=ub 0 252645135 j.1 Ω;rw[show 256*0+d=d by omega,show ju 252645135 0=0 from by unfold ju;simp] at this;rw[this,Nat.mul_zero,W0]
def rg (x:Nat):Nat:=c0 (x % 256)+c0 (x / 256 % 256)+c0 (x / 65536 % 256)+c0 (x / 16777216)
theorem PP {x:Nat} (h:x<4294967296):rg x=0↔x=0:=by
 constructor
 .intro a;unfold rg at a;have h1:=(mY (x % 256) Ω).2.2.2.2 Ω;have e:=(mY (x / 256 % 256) Ω).2.2.2.2 Ω;have f:=(mY (x / 65536 % 256) Ω).2.2.2.2 Ω;have j:=(mY (x / 16777216) Ω).2.2.2.2 Ω;omega
 .rintro rfl;decide
theorem PQ {x:Nat} (al:x<4294967296):ai x7 Hg [.int .u64 (x:Int)] w λv w'=>v=Δ (rg x:Int)/\Ext w w':=by
 obtain⟨a,b,c,d,G,H,I,J,e,Q,R,S,U⟩:∃a b c d,a<256/\b<256/\c<256/\d<256/\x=four a b c d/\a=x % 256/\b=x / 256 % 256/\c=x / 65536 % 256/\d=x / 16777216:=
  ⟨x % 256,x / 256 % 256,x / 65536 % 256,x / 16777216,Ω,Ω,Ω,Ω,by unfold four;omega,rfl,rfl,rfl,rfl⟩
 obtain⟨W,X,a3,a4,_⟩:=mY a G;obtain⟨Y,Z,aa,am,_⟩:=mY b H;obtain⟨c1,c2,ab,an,_⟩:=mY c I;obtain⟨d1,d2,d3,d4,_⟩:=mY d J;have g1:=PM G H I J;have L:=PN W Y c1 d1;have ac:=PO X ⟨Z,aa⟩ ⟨c2,ab⟩ ⟨d2,d3⟩;have ad:rg x=c0 a+c0 b+c0 c+c0 d:=by unfold rg;rw[<-Q,<-R,<-S,<-U]
 rw[<-e] at g1;have ae:gT 6148914691236517205 x<4294967296:=by rw[g1];unfold four;omega
 have M:hJ 3689348814741910323 (gT 6148914691236517205 x)<4294967296:=by rw[g1,L];unfold four;omega
 have A:ju 1085102592571150095 (hJ 3689348814741910323 (gT 6148914691236517205 x))=four (c0 a) (c0 b) (c0 c) (c0 d):=by rw[g1,L,ac];rfl
 have af:four (c0 a) (c0 b) (c0 c) (c0 d)<4294967296:=by unfold four;omega
 refine aw func127 ?_;have s:∀ {t:r9} {cx cy:Bool} {K:x1->Prop} (p q:Nat),p+q<18446744073709551616->V x7 (aJ .add t cx cy (.int .u64 (p:Int)) (.int .u64 (q:Int))) w K=K (.int .u64 ((p+q:Nat):Int)):=λp q h=>by
  rw[aM,wrap_u64 Ω Ω];rfl
 have small:∀ (p m:Nat),p &&& m<=p:=λp m=>Nat.and_le_left;rw[show (1:Int)=((1:Nat):Int) from rfl,k2 Ω,show (6148914691236517205:Int)=((6148914691236517205:Nat):Int) from rfl,u64_and Ω Ω,u64_and Ω Ω,s (x / 2 ^ 1 &&& 6148914691236517205) (x &&& 6148914691236517205) (by exact Nat.lt_of_le_of_lt (Nat.add_le_add (small _ _) (small _ _)) Ω)];obtain⟨y,B⟩:∃y,(x / 2 ^ 1 &&& 6148914691236517205)+(x &&& 6148914691236517205)=y:=⟨_,rfl⟩;rw[B];have B:gT 6148914691236517205 x=y:=B;rw[B] at ae M A;rw[show (2:Int)=((2:Nat):Int) from rfl,k2 Ω,show (3689348814741910323:Int)=((3689348814741910323:Nat):Int) from rfl,u64_and Ω Ω,u64_and Ω Ω,s (y / 2 ^ 2 &&& 3689348814741910323) (y &&& 3689348814741910323) (by exact Nat.lt_of_le_of_lt (Nat.add_le_add (small _ _) (small _ _)) Ω)];obtain⟨z,C⟩:∃z,(y / 2 ^ 2 &&& 3689348814741910323)+(y &&& 3689348814741910323)=z:=⟨_,rfl⟩;rw[C];have C:hJ 3689348814741910323 y=z:=C;rw[C] at M A;rw[show (4:Int)=((4:Nat):Int) from rfl,k2 Ω,s (z / 2 ^ 4) z Ω,show (1085102592571150095:Int)=((1085102592571150095:Nat):Int) from rfl,u64_and Ω Ω];have A:z / 2 ^ 4+z &&& 1085102592571150095=four (c0 a) (c0 b) (c0 c) (c0 d):=A;rw[A];obtain⟨j,E⟩:∃j,four (c0 a) (c0 b) (c0 c) (c0 d)=j:=⟨_,rfl⟩;rw[E] at af ⊢;unfold four at E;rw[show (8:Int)=((8:Nat):Int) from rfl,k2 Ω,s j (j / 2 ^ 8) Ω];obtain⟨r,N⟩:∃r,j+j / 2 ^ 8=r:=⟨_,rfl⟩;rw[N];rw[show (16:Int)=((16:Nat):Int) from rfl,k2 Ω,s r (r / 2 ^ 16) Ω];obtain⟨f,O⟩:∃f,r+r / 2 ^ 16=f:=⟨_,rfl⟩;rw[O];rw[show (32:Int)=((32:Nat):Int) from rfl,k2 Ω,s f (f / 2 ^ 32) Ω,e3 fv.u ag.u,wrap_i64 Ω Ω,show (127:Int)=((127:Nat):Int) from rfl,DA Ω Ω];refine⟨?_,Ext.refl _⟩;rw[ad,show 127=2 ^ 7-1 from rfl,Nat.and_two_pow_sub_one_eq_mod];have ah:j / 2 ^ 8=65536*c0 d+256*c0 c+c0 b:=Ω
 have aj:r / 2 ^ 16=256*c0 d+(c0 c+c0 d):=Ω
 have P:f / 2 ^ 32=0:=Ω
 have ao:f=128*(131072*c0 d+512*(c0 c+c0 d)+2*(c0 b+c0 c+c0 d))+(c0 a+c0 b+c0 c+c0 d):=Ω
 have ak:(f+f / 2 ^ 32) % 2 ^ 7=c0 a+c0 b+c0 c+c0 d:=by rw[P];clear E N O ah aj P;omega
 rw[ak]
theorem hx {b n:Nat} (a:lS b n):ai x7 Gr [jm b n] w λr w'=>(∃q:Int,r=Δ q/\(q=0↔b=0))/\Ext w w':=by
 have e:b<4294967296:=by
  have:=a.2;have:(2:Nat) ^ n<=2 ^ 32:=S3 Ω a.1;omega
 refine aw func55 ?_;refine bn λg J s f h=>?_;rw[az cb.p 0 h rfl];refine (PQ e).mono ?_;rintro _ w2 _ ⟨rfl,j⟩;refine⟨⟨_,rfl,?_⟩,f.trans j⟩;rw[<-PP e];omega
def og (w:x3) (ab ad:Nat) (A R:af) (n:aS) (s:aq) (a:fc) (r:x1) (w':x3):Prop:=r=Δ (bh n.k s a).2/\eE w ab ad A R n (bh n.k s a).1 w'
section
variable {w:x3} {ab ad:Nat} {A R:af} {n:aS} {s:aq} {t:aC} {a:fc}
theorem eE.same (h:bQ w ab ad A R n s t) (a:Laid w) (e:¬A 0) (f:en t []) (j:Ext w w'):eE w ab ad A R n s w':=(gE.start (m:=w.heap.size) (D:=λ_=>False) h a e f j (o4 _)).done (Ext.refl _)
theorem eE.before {J:x3} {s':aq} (a:Ext w J) (h:eE J ab ad A R n s' w'):eE w ab ad A R n s' w':=by
 obtain⟨h1,e,aI,bp,f,j⟩:=h;exact⟨jT a h1,e,aI,bp,(Grow.ext a).trans f,j⟩
theorem uc {j pos u:Int} {f:b3} {x:bl} (h:dl s j pos v=σ (f,u,x)):∃p e u':Nat,j=p/\pos=e/\u=u'/\s.funs[p]? =σ f/\f.live≠0/\f.sc[e]? =σ (u':Int)/\s.vars[u']? =σ x/\v∈ax x/\ ∀q,f.sc[e]? =σ q->v∈cS s q:=by
 obtain⟨h1,z,A,B,a,C⟩:=i7 h;obtain⟨E,r,F,w⟩:=h5 C;obtain⟨j,rfl⟩:=U5 h1;obtain⟨pos,rfl⟩:=U5 z;obtain⟨u,rfl⟩:=U5 E;refine⟨j,pos,u,rfl,rfl,rfl,A,B,a,r,w,λu' y=>?_⟩;have a:f.sc[pos]? =σ (u:Int):=a;rw[a] at y;cases y;unfold cS;rw[r];exact w
theorem EH (hk:a.kind=0) (h:bQ w ab ad A R n s t) (z:Laid w) (E:¬A 0) (G:en t []):ai x7 FV [Γ ab,Δ a.i,Δ a.pos,Δ a.v,Δ a.c] w (og w ab ad A R n s a):=by
 have K:=h.2.2.2.1;refine aw func13 ?_;refine (Ej h).mono ?_;rintro _ J _ ⟨y,u,e,rfl,q⟩;rw[bu,bw];have p:bh n.k s a=match dl s a.i a.pos a.v with
  |none=>(s,1)
  |some (f,u,x)=>if c6 n.k a.c (iw n.k s f a.pos.toNat a.v)≠0 then (s,c6 n.k a.c (iw n.k s f a.pos.toNat a.v)) else (er s a.i.toNat f a.pos.toNat u.toNat x a.v (λg=>cA n.k g a.c) λg=>cL n.k g a.c,0):=by unfold bh;rw[if_pos hk];cases dl s a.i a.pos a.v<;>rfl
 rcases q with⟨rfl,f,x,q⟩|⟨rfl,q⟩
 rotate_left
 .rw[q] at p;rw[bE,ah];exact⟨λ_=>⟨by rw[p],by rw[p];exact eE.same h z E G y⟩,λh=>absurd Φ h⟩
 rw[q] at p;rw[bE,ah];refine⟨λh=>absurd rfl h,λ_=>?_⟩;obtain⟨j,pos,u,U,V,W,H,L,hu,M,X,Y⟩:=uc q;have Z:=x5 H;simp only[U,V,W,r8] at p ⊢;refine (PI (j:=j) (pos:=pos) (h.ext y) (z.ext y) H L Y).mono ?_;rintro _ w2 _ ⟨rfl,N⟩;refine (tO (h.ext (y.trans N))).mono ?_;rintro _ aj _ ⟨aa,rfl⟩;have B:=(y.trans N).trans aa;refine dm (λw'=>eE w ab ad A R n (bh n.k s a).1 w') ?_ λau O=>?_
 .intro w' ae;refine⟨?_,ae⟩;rw[p];split
  .rfl
  .rename_i r;rw[Y7.1 r]
 rw[bi,ah];refine⟨λr=>?_,λr=>O _ ?_⟩
 .obtain⟨C,hm⟩:=jZ (λh=>h r);rw[dq (cs:=#[.func (.func nh) #[] #[],.func (.func ni) #[] #[]]) Ψ];have P:∀t∈bX s f.sc pos a.v,a.c<=ba f.ac f.cs t:=λt af=>((mS _ _ _).1 hm).2 _ (l7.2 ⟨t,af,rfl⟩);have Q:=gC (v:=a.v.toNat) K M;refine (EG (t:=t) (F1:=nh) (F2:=ni) (tup:=λg=>cA n.k g a.c) (un:=λg=>cL n.k g a.c) (h.ext B) (z.ext B) E G H L hu M X (λtl S=>?_) ⟨mU Q C.1,λ{w A s t} I=>q6 I Q C⟩).mono ?_
  .have T:=lu (t:=tl) K Z;exact⟨mT T ⟨C.1,P tl S⟩,λ{w A s t} I=>tP I T C (.inr (P tl S))⟩
  .rintro _ ak _ ag;refine O _ ?_;rw[p,if_neg (λh=>h r)];exact ag.before B
 .rw[p,if_pos r];exact eE.same h z E G B
theorem PR (hk:a.kind=1) (h:bQ w ab ad A R n s t) (E:Laid w) (G:¬A 0) (H:en t []):ai x7 FW [Γ ab,Δ a.i,Δ a.pos,Δ a.v,Δ a.c] w (og w ab ad A R n s a):=by
 have I:=h.2.2.2.1;refine aw func14 ?_;refine (Ej h).mono ?_;rintro _ J _ ⟨y,u,e,rfl,q⟩;rw[bu,bw];have p:bh n.k s a=match dl s a.i a.pos a.v with
  |none=>(s,1)
  |some (f,u,x)=>if c6 n.k a.c (x.un.getD a.v.toNat 0)≠0 then (s,c6 n.k a.c (x.un.getD a.v.toNat 0)) else (er s a.i.toNat f a.pos.toNat u.toNat x a.v (λg=>cL n.k g a.c) λg=>cA n.k g a.c,0):=by unfold bh;rw[if_neg Ω,if_pos hk];cases dl s a.i a.pos a.v<;>rfl
 rcases q with⟨rfl,f,x,q⟩|⟨rfl,q⟩
 rotate_left
 .rw[q] at p;rw[bE,ah];exact⟨λ_=>⟨by rw[p],by rw[p];exact eE.same h E G H y⟩,λh=>absurd Φ h⟩
 rw[q] at p;rw[bE,ah];refine⟨λh=>absurd rfl h,λ_=>?_⟩;obtain⟨j,pos,u,S,T,U,L,V,hu,z,M,ac⟩:=uc q;have W:=x5 L;simp only[S,T,U,r8] at p ⊢;refine (mM (i:=(u:Int)) (v:=a.v) (h.ext y)).mono ?_;rintro _ w2 _ ⟨rfl,N⟩;have X:hp s (u:Int).toNat a.v.toNat=x.un.getD a.v.toNat 0:=by
  unfold hp;rw[r8,z]
 rw[if_pos (px I z M),X,bu,bw];refine (tO (h.ext (y.trans N))).mono ?_;rintro _ ae _ ⟨Y,rfl⟩;have B:=(y.trans N).trans Y;refine dm (λw'=>eE w ab ad A R n (bh n.k s a).1 w') ?_ λau O=>?_
 .intro w' Z;refine⟨?_,Z⟩;rw[p];split
  .rfl
  .rename_i r;rw[Y7.1 r]
 rw[bi,ah];refine⟨λr=>?_,λr=>O _ ?_⟩
 .obtain⟨C,hm⟩:=jZ (λh=>h r);rw[dq (cs:=#[.func (.func ni) #[] #[],.func (.func nh) #[] #[]]) Ψ];have P:=gC (v:=a.v.toNat) I z;refine (EG (t:=t) (F1:=ni) (F2:=nh) (tup:=λg=>cL n.k g a.c) (un:=λg=>cA n.k g a.c) (h.ext B) (E.ext B) G H L V hu z M (λtl af=>?_) ⟨mT P ⟨C.1,hm⟩,λ{w A s t} K=>tP K P C (.inr hm)⟩).mono ?_
  .have Q:=lu (t:=tl) I W;exact⟨mU Q C.1,λ{w A s t} K=>q6 K Q C⟩
  .rintro _ ag _ aa;refine O _ ?_;rw[p,if_neg (λh=>h r)];exact aa.before B
 .rw[p,if_pos r];exact eE.same h E G H B
end
def gU (s:aq) (i:Int):Option bl:=match (if 0<=i then s.vars[i.toNat]? else ν) with
 |some x=>if x.gone=0 then σ x else ν
 |none=>ν
theorem xn {s:aq} {i:Int} {x:bl} (h:gU s i=σ x):0<=i/\s.vars[i.toNat]? =σ x/\x.gone=0:=by
 unfold gU at h;by_cases a:0<=i
 .rw[if_pos a] at h;cases e:s.vars[i.toNat]? with
  |none=>rw[e] at h;cases h
  |some y=>
   rw[e] at h;simp only at h;split at h
   .rename_i f;cases h;exact⟨a,rfl,f⟩
   .cases h
 .rw[if_neg a] at h;cases h
theorem EI {g:Int->Int} {un L:Λ} (h:L[j]? =σ v):dh g un (L.take (j+1))=(dh g un (L.take j)).set v.toNat (g ((dh g un (L.take j)).getD v.toNat 0)):=by
 unfold dh;rw[u9,h,o8,List.foldl_append];rfl
theorem EJ {i:Nat} {v:Int}:∀ (L M:Λ) (s:aq),fY s i v (L++M)=fY (fY s i v L) i v M
 |[],_,_=>rfl
 |w::L,M,s=>by
  rw[List.cons_append,fY,fY];exact EJ L M _
theorem PS {s:aq} {i:Nat} {w:Int} {L:Λ} (h:L[j]? =σ w):fY s i v (L.take (j+1))=if w≠v then e2 (fY s i v (L.take j)) i w.toNat else fY s i v (L.take j):=by
 rw[u9,h,o8,EJ];rfl
def j8 (m u:Int):Int:=if m<0\/u<m then u else m
theorem EK:∀ (l:Λ) (m:Int),0<=m->(∀c∈l,0<=c)->l.foldl j8 m=l.foldl min m
 |[],_,_,_=>rfl
 |c::l,m,hm,a=>by
  have f:=a c (.head _);have e:j8 m c=min m c:=by unfold j8;split<;>omega
  rw[List.foldl_cons,List.foldl_cons,e];exact EK l _ Ω λc h=>a c (.tail _ h)
theorem PT {x:bl} (h:∀v∈ax x,0<=x.un.getD v.toNat 0):((ax x).map λv=>x.un.getD v.toNat 0).foldl j8 (-1)=fL x:=by
 unfold fL;have a:∀c∈(ax x).map (λv=>x.un.getD v.toNat 0),0<=c:=λc e=>by
  obtain⟨v,f,rfl⟩:=l7.1 e;exact h v f
 generalize (ax x).map (λv=>x.un.getD v.toNat 0)=l at a;cases l with
 |nil=>rfl
 |cons c l=>exact EK l c (a c (.head _)) λc h=>a c (.tail _ h)
section
variable {w:x3} {ab ad:Nat} {A R:af} {n:aS} {s:aq} {t:aC} {a:fc}
theorem EL {i:Int} (h:bQ w ab ad A R n s t):ai x7 Gp [Γ ab,Δ i] w λr w'=>Ext w w'/\r=Δ (if (gU s i).isSome=true then 0 else 1):=by
 have p:=h.2.2.2.1;have O:=p.vars;refine aw func53 ?_;rw[dp dO.u];simp only[Z7,aW];refine aT (λr J=>r= .bool (!(gU s i).isSome)/\Ext w J) ?_ ?_
 .rintro _ J ⟨rfl,C⟩;rw[b0];exact⟨λq=>⟨C,by rw[if_neg (by simpa using q)]⟩,λq=>⟨C,by rw[if_pos (by simpa using q)]⟩⟩
 intro au E;refine (wU (i:=i) h).mono ?_;rintro _ w2 _ ⟨rfl,y⟩;rw[b0];refine⟨λa=>E _ _ ⟨?_,y⟩,λa=>?_⟩
 .rw[T0,decide_eq_true_eq] at a;have K:gU s i=ν:=by
   unfold gU;rw[if_pos a.1];have B:=a.2;unfold lq at B;cases f:s.vars[i.toNat]? with
   |none=>rfl
   |some x=>
    rw[f] at B;simp only;rw[if_neg λh=>by simp[h] at B]
  rw[K];rfl
 refine (kC (i:=i) (h.ext y)).mono ?_;rintro _ P _ ⟨⟨b,m,rfl,G⟩,L⟩;refine (AF (b:=b) (n:=m)).mono ?_;rintro _ Q _ ⟨rfl,M⟩;rw[bi];refine E _ _ ⟨?_,(y.trans L).trans M⟩;congr 1;by_cases j:0<=i/\i<n.sizes.length
 .obtain⟨x,f⟩:=aE (l:=s.vars) (i:=i.toNat) Ω;obtain⟨z,H⟩:=aE (l:=n.sizes) (i:=i.toNat) Ω;have S:=p.e1.2.2 z (x5 H);have U:=(p.var _ x z f H).1;have hm:=(G.2.2 x j.1 f).1;have N:x.gone=0:=by
   rw[decide_eq_true j.1,T3] at a;unfold lq at a;rw[f] at a;simpa using a
  have e:gU s i=σ x:=by
   unfold gU;rw[if_pos j.1,f];simp only;rw[if_pos N]
  rw[e,decide_eq_false Ω];rfl
 .obtain⟨rfl,rfl⟩:=G.2.1 j;have e:gU s i=ν:=by
   unfold gU;by_cases I:0<=i
   .rw[if_pos I,Z4 Ω]
   .rw[if_neg I]
  rw[e];rfl
theorem EM {u:Nat} {x:bl} {F1 F2:Q0} {g z:Int->Int} (h:bQ w ab ad A R n s t) (az:Laid w) (aZ:¬A 0) (a1:en t []) (a:s.vars[u]? =σ x)
  (h1:∀v∈ax x,(0<=g (x.un.getD v.toNat 0)/\g (x.un.getD v.toNat 0)<=n.k)/\ ∀ {w:x3} {A:af} {s:aq} {t:aC},bQ w ab ad A R n s t->ai x7 F1 [Γ ab,Δ (x.un.getD v.toNat 0),Δ c] w λr w'=>r=Δ (g (x.un.getD v.toNat 0))/\Ext w w')
  (aA:(0<=z s.zero/\z s.zero<=n.k)/\ ∀ {w:x3} {A:af} {s':aq} {t:aC},bQ w ab ad A R n s' t->ai x7 F2 [Γ ab,Δ s.zero,Δ c] w λr w'=>r=Δ (z s.zero)/\Ext w w'):
  ai x7 Gq [Γ ab,Δ (u:Int),Δ c,.func (.func F1) #[] #[],.func (.func F2) #[] #[]] w λ_ w'=>eE w ab ad A R n (fp s u x g z) w':=by
 have a2:=h.2.2.2.1;have W:=(x4.1 a).1;refine jg func54 ?_;refine bn λg1 J bB aD f=>?_;refine bn λa6 w2 bC X B=>?_;refine bn λa7 bD bE I C=>?_;refine bn λa8 p bF K L=>?_;have f:aa p g1 dO [Γ ab]:=((aa.ext f X).ext I).ext K;have B:aa p a6 ag [Δ (u:Int)]:=(aa.ext B I).ext K;have C:aa p a7 ak [Δ c]:=aa.ext C K;have L:aa p a8 IE [.func (.func F1) #[] #[]]:=L;have M:=((aD.trans X).trans I).trans K;have bG:=aD.size;have bH:=X.size;have z3:=I.size;have bI:=M.size;have N:=f.lt;have aE:=B.lt;have aF:=C.lt;have ba:=L.lt;rw[aB (v:=Γ ab) Ψ (f.Qz rfl),aB (v:=Δ (u:Int)) Ψ (B.Qz rfl)];refine (kC (i:=(u:Int)) (h.ext M)).mono ?_;rintro _ bJ _ ⟨⟨b,bb,rfl,aG⟩,aH⟩;refine (nJ (b:=b) (n:=bb)).mono ?_;rintro _ O _ ⟨bc,aJ,rfl,bK,aK⟩;have aL:=l2 aG Ω (show s.vars[(u:Int).toNat]? =σ x by rw[r8];exact a);have E:=aH.trans bc;have z5:=aH.size;have z46:=E.size;have bL:=aK.lt;have aM:=mP x;have bd:ep s u x (dh g x.un ((ax x).take 0))=s:=by
  unfold ep;show {s with vars:=s.vars.set u x}=s;have:s.vars.set u x=s.vars:=by
   apply Y6;intro i;by_cases e:u=i
   .subst e;rw[j9 W,a]
   .rw[Y0 e]
  rw[this]
 refine lE.old ⟨_,false,kh,#[Γ aJ],_,_,_,_,λj w'=>gE w ab ad A R n w.heap.size (λr=>O.heap.size<=r) (ep s u x (dh g x.un ((ax x).take j))) w'/\ae (λr=>r<w.heap.size\/O.heap.size<=r) O w',λ_ _ _=>False,rfl,(nI (g:=aJ) aG.1).s,?_,
  λ_ _ a h=>⟨h.1.ext a,h.2.ext a⟩,λ_ _ _ a h=>⟨h.1.ext a,h.2.trans (a.U _)⟩,λ_ _ _ _ _ h=>h,⟨aK,az.ext (M.trans E)⟩,?_,?_,?_,λ_ _ h=>h.elim,λ_ _ _ h=>h.elim⟩
 .rintro _ _ _ _ ⟨_,_,_,_,rfl⟩;rfl
 .refine⟨?_,ae.refl _ _⟩;rw[bd];exact gE.start h az aZ a1 (M.trans E) (o4 _)
 .rintro _ j _ be ⟨bf,bM⟩ ⟨bN,rfl,v,bg,bh⟩ ⟨P,G⟩;cases bh;intro bO Q _ _;have Y:(ax x)[j]? =σ (v:Int):=by rw[<-aL,x8,bg];rfl
  have aN:=x5 Y;have aV:∀ {H:x3} {g:Nat} {e:r9} {cs:List x1},Ext be H->w.heap.size<=g->g<p.heap.size->aa p g e cs->aa H g e cs:=λa aO aP Z=>((Z.ext E).U G Ω).ext a;obtain⟨bP,bR,ac,aQ,ah⟩:=P.open;have aR:fX n (u:Int) (v:Int):=px a2 a aN;have bi:∀y∈ax x,0<=y/\y<x.un.length:=λy aj=>(gS.1 aj).1;have al:=pn (g:=g) ((ax x).take j) x.un (v:Int) (aM.sublist (List.take_sublist _ _)) (λy aj=>bi y (T9 aj)) Ω;rw[if_neg (xg aM Y)] at al;have bj:hp (ep s u x (dh g x.un ((ax x).take j))) (u:Int).toNat (v:Int).toNat=x.un.getD (v:Int).toNat 0:=by
   unfold hp ep;rw[r8,j9 W];exact al
  rw[aB (v:=Γ ab) Ψ ((aV Q Ω N f).Qz rfl),aB (v:=Δ (u:Int)) Ψ ((aV Q Ω aE B).Qz rfl)];refine (mM (i:=(u:Int)) (v:=(v:Int)) (ac.ext Q)).mono ?_;rintro _ bS _ ⟨rfl,bk⟩;rw[if_pos aR,bj,bu,bw];intro bm bo _ _;have q:=(Q.trans bk).trans bo;rw[aB (v:=Γ ab) Ψ ((aV q Ω N f).Qz rfl),aB (v:=Δ (u:Int)) Ψ ((aV q Ω aE B).Qz rfl),
   aB (v:=.func (.func F1) #[] #[]) Ψ ((aV q Ω ba L).Qz rfl),aB (v:=Γ ab) Ψ ((aV q Ω N f).Qz rfl),aB (v:=Δ c) Ψ ((aV q Ω aF C).Qz rfl)]
  show ai x7 F1 [Γ ab,Δ (x.un.getD (v:Int).toNat 0),Δ c] bm _;obtain⟨bp,bq⟩:=h1 v aN;refine (bq (ac.ext q)).mono ?_;rintro _ bT _ ⟨rfl,aS⟩;have am:=q.trans aS;refine⟨.inl aS,(DO (i:=(u:Int)) (v:=(v:Int)) (ac.ext am) (.inl aQ.1)).mono ?_⟩;rintro r bU _ ⟨_,_,an⟩;obtain⟨_,ao,aI,br,bt,ap,S⟩:=an aR bp;have e:jW (ep s u x (dh g x.un ((ax x).take j))) (u:Int).toNat (v:Int).toNat (g (x.un.getD (v:Int).toNat 0))=ep s u x (dh g x.un ((ax x).take (j+1))):=by
   rw[EI Y,al];unfold jW ep;rw[r8,j9 W];simp only[List.set_set]
  rw[e] at S;have bV:=G.size;obtain⟨aT,aU,bW⟩:=ah (D':=λr=>O.heap.size<=r) (jT am ao) ((Grow.ext am).trans ap) S aQ.set (λr h=>h) λr aO aP=>Ω
  exact⟨⟨bf.U aU Ω,aT.2.1.1⟩,⟨aT,G.trans aU⟩,λh=>by cases h⟩
 .rintro k bx rfl ⟨P,G⟩;rw[o9 (by rw[<-aL,u7];exact o4 _)] at P;obtain⟨dk,bX,au,aW,ah⟩:=P.open;have aV:∀ {H:x3} {g:Nat} {e:r9} {cs:List x1},Ext bx H->w.heap.size<=g->g<p.heap.size->aa p g e cs->aa H g e cs:=λa aO aP Z=>((Z.ext E).U G Ω).ext a;intro bY V _ _;have av:=aV V Ω N f;rw[aB (v:=Γ ab) Ψ (av.Qz rfl),aB (v:=Γ ab) Ψ (av.Qz rfl),aB (v:=Γ ab) Ψ (av.Qz rfl),aB (v:=Δ c) Ψ ((aV V Ω aF C).Qz rfl)];refine (qV (au.ext V)).mono ?_;rintro _ bz _ ⟨rfl,aw⟩;have aX:=V.trans aw;refine⟨.inl aw,?_⟩;show ai x7 F2 [Γ ab,Δ s.zero,Δ c] bz _;refine (aA.2 (au.ext aX)).mono ?_;rintro _ bZ _ ⟨rfl,aY⟩;have ay:=aX.trans aY;refine⟨.inl (aw.trans aY),(Oy (au.ext ay) (.inl aW.1)).mono ?_⟩;rintro r b0 _ ⟨_,an⟩;obtain⟨_,ao,aI,br,bt,ap,S⟩:=an aA.1;intro b1 bA _;exact (ah (D':=λ_=>True) (jT ay ao) ((Grow.ext ay).trans ap) S aW.set (λ_ _=>trivial) λ_ _ _=>trivial).1.done bA
end
section
variable {w:x3} {ab ad am:Nat} {A R:af} {A9:Nat->af} {aH:af} {n:aS} {s u:aq} {t:aC} {h:List aC} {cs:List x1} {a:fc}
theorem PU (hk:a.kind<2):bh n.k u a=match dl u a.i a.pos a.v with
  |none=>(u,1)
  |some (f,v,x)=>if c6 n.k a.c (if a.kind=1 then x.un.getD a.v.toNat 0 else iw n.k u f a.pos.toNat a.v)≠0 then (u,c6 n.k a.c (if a.kind=1 then x.un.getD a.v.toNat 0 else iw n.k u f a.pos.toNat a.v))
   else (er u a.i.toNat f a.pos.toNat v.toNat x a.v (λg=>if a.kind=0 then cA n.k g a.c else cL n.k g a.c) λg=>if a.kind=0 then cL n.k g a.c else cA n.k g a.c,0):=by
 unfold bh;by_cases e:a.kind=0
 .rw[if_pos e];simp only[e];cases dl u a.i a.pos a.v<;>rfl
 .have h1:a.kind=1:=Ω
  rw[if_neg e,if_pos h1];simp only[h1];cases dl u a.i a.pos a.v<;>rfl
theorem getD_some {l:Λ} {i:Nat} (h:i<l.length):l[i]? =σ (l.getD i 0):=by
 rw[u4,x6 h];rfl
theorem PV (p:ck w ab ad am A R A9 aH n s u t h cs) (G:br n.k n.sizes u) (bP:dD u) (hk:a.kind<2):ai x7 uT [Γ am,Δ (a.kind:Int),Δ a.i,Δ a.pos,Δ a.v,Δ a.c] w λr w'=>r=Δ (bh n.k u a).2/\dI w ab ad am A R A9 aH n s t h (bh n.k u a).1 w':=by
 have C:=PU (n:=n) (u:=u) hk;have c0:=G.vars;have bQ:=G.fV;refine aw func40 ?_;have bR:cs[0]? =σ (Δ n.k):=by obtain⟨_,_,_,_,_,_,rfl,_⟩:=p.pp;rfl
 rw[aO aG.p 0 p.box bR,aQ,ah];refine⟨λ_=>?_,λh=>Ω⟩;rw[bW];refine p.look.load λeH bT=>?_;refine (Ez bT G bP).mono ?_;rintro _ J _ ⟨aA,rfl⟩;cases aV:dl u a.i a.pos a.v with
 |none=>
  rw[aV] at C;simp only;rw[bu,bw,bF,V0,bO];exact⟨by rw[C],by rw[C];exact dI.same p aA⟩
 |some q=>
 obtain⟨f,N,x⟩:=q;rw[aV] at C;simp only;rw[bu,bw,bF,Y5,aW];obtain⟨j,pos,N,bU,bV,bY,Q,c3,hu,M,bZ,aY⟩:=uc aV;have aC:=x5 Q;simp only[bU,bV,bY,r8] at C ⊢;have b1:=(x4.1 Q).1;have bm:=(x4.1 M).1;have b2:=(x4.1 hu).1;obtain⟨b4,c4⟩:=js G aC;have b5:=Eh G aC aY;have b6:=(gS.1 bZ).1;obtain⟨v,S⟩:=U5 b6.1;have bn:=gC (v:=a.v.toNat) G M;have aD:=p.ext aA;have bo:∀ {w2:x3} {dY:aq} {bp:List x1} {bq:Nat->af} {f2:b3},ck w2 ab ad am A R bq aH n s dY t h bp->dY.funs[j]? =σ f2-> ∃W cap X aZ y,bp[6]? =σ (.slice (σ ⟨W,0,ν⟩) dY.funs.length cap)/\j<dY.funs.length/\w2.cell? ⟨W,0+j*4+0+0,ν⟩=σ X/\w2.cell? ⟨W,0+j*4+0+2,ν⟩=σ y/\aF .i64 w2 X f2.sc/\aF .i64 w2 y f2.cs/\
   ∀ {w':x3} {m:Nat} {c:Int} {K:Unit->x3->Prop},Ext w2 w'->m<f2.cs.length->(∀bt,dI w2 ab ad am A R bq aH n s t h (dH dY j f2 (f2.cs.set m c)) bt->K () bt)->V x7 (c8 an y (Δ (m:Int))) w' λa=>av x7 (o5 ak a (Δ c)) w' K:=λb7 aI=>by
  obtain⟨W,cap,X,aZ,y,c1,c2,b8,b9,Y⟩:=Py b7 aI;exact⟨W,cap,X,aZ,y,c1,(x4.1 aI).1,by rw[W0];exact c2 0 _ rfl,by rw[W0];exact c2 2 _ rfl,b8,b9,Y⟩
 obtain⟨W,c5,X,aZ,c7,cb,cc,cd,_,ce,_,_⟩:=bo aD Q;rw[aO aG.p 6 aD.box cb,fz dP.u cT.i cc λ_=>rfl,aP cT.p rfl,aP aU.p rfl,aB (v:=X) (o:=0+j*4+0+0) Ψ cd,be al.u ag.i Ψ ce hu];generalize bx:(if a.kind=1 then x.un.getD a.v.toNat 0 else iw n.k u f pos a.v)=most at C;refine aT (λr w2=>r=Δ most/\Ext w w2) ?_ λau bz=>?_
 rotate_left
 .rw[bi,ah];refine⟨λh1=>?_,λh1=>bz _ _ ⟨by rw[<-bx,if_neg Ω],aA⟩⟩;have h1:a.kind=1:=Ω
  obtain⟨a1,bA,y,a2,a6,aJ,_⟩:=xm aD M;rw[aO aG.p 5 aD.box a2,fz dn.u an.i bm λ_=>rfl,aB (v:=y) (o:=0+N*1) Ψ (by rw[W0,T5];exact a6),S,be an.u ak.i Ψ aJ (getD_some Ω)];refine bz _ _ ⟨?_,aA⟩;rw[<-bx,if_pos h1,S,r8]
 rintro _ w2 ⟨rfl,cg⟩;refine zJ.mono ?_;rintro _ c9 _ ⟨rfl,ch⟩;have Z:=cg.trans ch;have bB:cv a.c n.k↔0<=a.c/\a.c<=n.k:=⟨λh=>h.2,λaI=>⟨bQ,aI⟩⟩;rw[bF,b0];refine⟨λaa=>?_,λaa=>?_⟩
 .have cj:¬cv a.c n.k:=by simpa using aa
  have E:c6 n.k a.c most=3:=by unfold c6;rw[if_pos λh=>cj (bB.2 h)]
  rw[if_pos (by rw[E];decide),E] at C;exact⟨by rw[C],by rw[C];exact dI.same p Z⟩
 have bC:=bB.1 (show cv a.c n.k by simpa using aa);rw[bS,ah];refine⟨λcl=>?_,λcm=>?_⟩
 .have E:c6 n.k a.c most=7:=by unfold c6;rw[if_neg (λh=>h bC),if_pos cl]
  rw[if_pos (by rw[E];decide),E] at C;exact⟨by rw[C],by rw[C];exact dI.same p Z⟩
 have E:c6 n.k a.c most=0:=by unfold c6;rw[if_neg (λh=>h bC),if_neg cm]
 rw[if_neg (λh=>h E)] at C;have cn:=p.ext Z;rw[bW];refine cn.look.load λda cp=>?_;refine (Ey cp G Q b2 aY).mono ?_;rintro aL a7 _ ⟨cq,a8,cr⟩;have bD:=Z.trans cq;rw[aX al.u a8];have bE:(lv u f pos a.v).length=(bX u f.sc pos a.v).length:=by unfold lv;rw[u7]
 rw[bE];obtain⟨tup,bb⟩:∃tup:Int->Int,tup=λg=>if a.kind=0 then cA n.k g a.c else cL n.k g a.c:=⟨_,rfl⟩;obtain⟨un,bc⟩:∃un:Int->Int,un=λg=>if a.kind=0 then cL n.k g a.c else cA n.k g a.c:=⟨_,rfl⟩;rw[<-bb,<-bc] at C;have ct:=p.olds.ext bD;have db:=p.box.lt;have dc:=Z.size;have cu:∀ {w':x3},ae (λr=>(∃q,A9 q r/\r<w.heap.size)\/r=am) a7 w'->aF .i64 w' aL (lv u f pos a.v):=λcw=>hV a8 cw λr E b n c e aa=>by
  have:=cr r ⟨b,n,c,e,aa⟩;rcases E with⟨q,E⟩|E
  .have:=E.2;omega
  .omega
 refine ci.range (bX u f.sc pos a.v).length (λq w'=>dI a7 ab ad am A R (λq r=>A9 q r/\r<w.heap.size) aH n s t h (dH u j f (cZ tup ((bX u f.sc pos a.v).take q) f.ac f.cs)) w') (by rw[<-bE];exact a8.le) ?_ ?_ ?_
 .rw[List.take_zero,EF G Q];exact dI.same ct (Ext.refl _)
 .rintro q aj cz cB aK cC;obtain⟨tl,bd⟩:=aE (l:=bX u f.sc pos a.v) cB;obtain⟨m,hm⟩:=q4 G aC aY (x5 bd);have cD:(lv u f pos a.v)[q]? =σ (m:Int):=by
   unfold lv;rw[x8,bd];unfold oe;rw[Z6,hm];rfl
  obtain⟨bG,bJ⟩:=Ei (g:=tup) G Q b5 bd hm;have cE:=(x4.1 (mz b4 hm)).1;have dd:m<f.cs.length:=by rw[r8] at cE;omega
  obtain⟨Y,cF,bK,P,bf⟩:=id aK;obtain⟨bI,bL⟩:∃bI,bI=cZ tup ((bX u f.sc pos a.v).take q) f.ac f.cs:=⟨_,rfl⟩;have de:bI.length=f.cs.length:=by rw[bL,jr _ _ _ _ Ω]
  rw[<-bL] at P bG bJ;have bM:(dH u j f bI).funs[j]? =σ {f with cs:=bI}:=j9 b1;obtain⟨aN,cG,df,dg,aR,cH,cI,_,bg,_,cJ,cK⟩:=bo P bM;have cM:bI[m]? =σ (ba f.ac f.cs tl):=by
   rw[getD_some Ω,<-bG];unfold ba;rw[hm];simp
  have dh:=lu (t:=tl) G aC;have di:bK[0]? =σ (Δ n.k):=by obtain⟨_,_,_,_,_,_,rfl,_⟩:=P.pp;rfl
  have cN:=cu Y;refine bH Ω ?_;refine dm (λH=>dI a7 ab ad am A R (λq r=>A9 q r/\r<w.heap.size) aH n s t h (dH u j f (cZ tup ((bX u f.sc pos a.v).take (q+1)) f.ac f.cs)) H) (λH O=>by rw[aM];exact cC _ O) λcO cP=>?_;have ao:∀ {I:x3},Ext aj I->V x7 (c8 an aR (Δ (m:Int))) I λa'=>av x7 (o5 ak a' (Δ (tup (ba f.ac f.cs tl)))) I λ(_:Unit) H=>cO H:=λbj=>by
   refine cK bj (by show m<bI.length;omega) λH O=>cP _ (dI.comp Y bf ?_);have cQ:dH (dH u j f bI) j {f with cs:=bI} (bI.set m (tup (ba f.ac f.cs tl)))=jX (dH u j f bI) j m (tup (ba f.ac f.cs tl)):=by unfold jX;rw[bM];rfl
   rw[cQ,bJ] at O;exact O
  have row:∀ {z:x3} {K:x1->x1->x1->x1->x1->x1->Prop},Ext aj z->K (Γ am) (.pointer (σ ⟨am,0+6,ν⟩)) (.slice (σ ⟨aN,0,ν⟩) (dH u j f bI).funs.length cG) (.pointer (σ ⟨aN,0+j*4,ν⟩)) (.pointer (σ ⟨aN,0+j*4+0,ν⟩)) (.pointer (σ ⟨aN,0+j*4+0+2,ν⟩))->
    V x7 (bN (Γ am)) z λap=>V x7 (u6 aG ap 6) z λax=>V x7 (u5 dP ax) z λay=>V x7 (c8 dP ay (Δ (j:Int))) z λaz=>V x7 (u6 cT az 0) z λaS=>V x7 (u6 aU aS 2) z λcR=>K ap ax ay az aS cR:=λM bk=>by
   rw[aO aG.p 6 (P.box.ext M) cH,fz dP.u cT.i cI λ_=>rfl,aP cT.p rfl,aP aU.p rfl];exact bk
  rw[be al.u ag.i Ψ cN cD];refine row (Ext.refl _) ?_;rw[aB (v:=aR) (o:=0+j*4+0+2) Ψ bg,be an.u ak.i Ψ cJ cM,bi,ah];refine⟨λbl=>?_,λbl=>?_⟩
  .intro z B _ _;refine row B ?_;rw[aB (v:=aR) (o:=0+j*4+0+2) Ψ (iE B bg)];refine (tV Ω Ω).mono ?_;rintro _ I _ ⟨rfl,L⟩;refine⟨.inl L,?_⟩;have:=ao (B.trans L);rw[bb] at this;simp only[if_pos (show a.kind=0 by omega)] at this;exact this
  .intro z B _ _;refine row B ?_;rw[aB (v:=aR) (o:=0+j*4+0+2) Ψ (iE B bg)];refine (oW Ω Ω).mono ?_;rintro _ I _ ⟨rfl,L⟩;refine⟨.inl L,?_⟩;have:=ao (B.trans L);rw[bb] at this;simp only[if_neg (show ¬a.kind=0 by omega)] at this;exact this
 .rintro aj cz aK;rw[o7] at aK;refine ca Ω ?_;obtain⟨Y,cF,bK,P,bf⟩:=id aK;have cS:(dH u j f (cZ tup (bX u f.sc pos a.v) f.ac f.cs)).vars[N]? =σ x:=M;obtain⟨a1,bA,y,a2,a6,aJ,cU⟩:=xm P cS;refine dm (λH=>dI w ab ad am A R A9 aH n s t h (er u j f pos N x a.v tup un) H) (λH O=>⟨by rw[C],by rw[C];exact O⟩) λcV cW=>?_;have cX:N<(dH u j f (cZ tup (bX u f.sc pos a.v) f.ac f.cs)).vars.length:=bm;have row:∀ {z:x3} {K:x1->x1->x1->x1->x1->Prop},Ext aj z->K (Γ am) (.pointer (σ ⟨am,0+5,ν⟩)) (.slice (σ ⟨a1,0,ν⟩) (dH u j f (cZ tup (bX u f.sc pos a.v) f.ac f.cs)).vars.length bA) (.pointer (σ ⟨a1,0+N*1,ν⟩)) y->
    V x7 (bN (Γ am)) z λap=>V x7 (u6 aG ap 5) z λax=>V x7 (u5 dn ax) z λay=>V x7 (c8 dn ay (Δ (N:Int))) z λaz=>V x7 (u5 an az) z λaS=>K ap ax ay az aS:=λM bk=>by
   rw[aO aG.p 5 (P.box.ext M) a2,fz dn.u an.i cX λ_=>rfl,aB (v:=y) (o:=0+N*1) Ψ (by rw[W0,T5];exact iE M a6)];exact bk
  have ao:∀ {I:x3},Ext aj I->V x7 (c8 an y (Δ (v:Int))) I λa'=>av x7 (o5 ak a' (Δ (un (x.un.getD v 0)))) I λ(_:Unit) H=>cV H:=λbj=>by
   refine cU bj Ω λH O=>cW _ ?_;have cY:=dI.comp Y bf O.EA;have:=dI.comp (A9:=A9) (w:=w) (bD.U _) (λq r E=>.inl ⟨q,E.1⟩) cY;unfold er;rw[show a.v.toNat=v by omega];exact this
  rw[bi,ah];refine⟨λbl=>?_,λbl=>?_⟩
  .intro z B _ _;refine row B (row B ?_);rw[S,be an.u ak.i Ψ (aJ.ext B) (getD_some Ω)];rw[S,r8] at bn;refine (oW Ω Ω).mono ?_;rintro _ I _ ⟨rfl,L⟩;refine⟨.inl L,?_⟩;have:=ao (B.trans L);rw[bc] at this;simp only[if_pos (show a.kind=0 by omega)] at this;exact this
  .intro z B _ _;refine row B (row B ?_);rw[S,be an.u ak.i Ψ (aJ.ext B) (getD_some Ω)];rw[S,r8] at bn;refine (tV Ω Ω).mono ?_;rintro _ I _ ⟨rfl,L⟩;refine⟨.inl L,?_⟩;have:=ao (B.trans L);rw[bc] at this;simp only[if_neg (show ¬a.kind=0 by omega)] at this;exact this
end
section
variable {w:x3} {ab ad:Nat} {A R:af} {n:aS} {s:aq} {t:aC} {a:fc}
theorem eE.step {J w2:x3} {aI:af} {s':aq} {bp:aC} (h:bQ w ab ad A R n s t) (j:Laid w) (f:¬A 0) (a:Ext w J) (p:ae (eN J) J w2) (e:Grow A J aI w2) (q:bQ w2 ab ad aI R n s' bp) (r:en bp []):eE w ab ad A R n s' w2:=by
 refine⟨jT a p,jh e.1 f (j.ext a),aI,bp,(Grow.ext a).trans e,q,r,λx=>(e.2.1 0 x).elim f λy=>?_⟩;obtain⟨z,B,C,E,⟨h1,_⟩,_⟩:=h.1;have:=h.lt (.inl h1);have:=a.size;omega
theorem xo (hk:a.kind=2):bh n.k s a=match gU s a.i with
  |none=>(s,1)
  |some x=>if c6 n.k a.c (fL x)≠0 then (s,c6 n.k a.c (fL x)) else (fp s a.i.toNat x (λg=>cA n.k g a.c) λg=>cL n.k g a.c,0):=by
 unfold bh gU;rw[if_neg Ω,if_neg Ω,if_pos hk];cases (if 0<=a.i then s.vars[a.i.toNat]? else ν) with
 |none=>rfl
 |some x=>
  simp only;by_cases e:x.gone=0
  .rw[if_neg Ω,if_pos e]
  .rw[if_pos e,if_neg e]
theorem xp (hk:a.kind=3):bh n.k s a=match gU s a.i with
  |none=>(s,1)
  |some x=>if c6 n.k a.c (if ax x=[] then-1 else s.zero)≠0 then (s,c6 n.k a.c (if ax x=[] then-1 else s.zero)) else (fp s a.i.toNat x (λg=>cL n.k g a.c) λg=>cA n.k g a.c,0):=by
 unfold bh gU;rw[if_neg Ω,if_neg Ω,if_neg Ω,if_pos hk];cases (if 0<=a.i then s.vars[a.i.toNat]? else ν) with
 |none=>rfl
 |some x=>
  simp only;by_cases e:x.gone=0
  .rw[if_neg Ω,if_pos e]
  .rw[if_pos e,if_neg e]
theorem PW (hk:a.kind=2) (h:bQ w ab ad A R n s t) (M:Laid w) (Z:¬A 0) (ac:en t []):ai x7 FX [Γ ab,Δ a.i,Δ a.c] w (og w ab ad A R n s a):=by
 have E:=h.2.2.2.1;have f:=xo (n:=n) (s:=s) hk;refine jg func15 ?_;refine bn λg1 J bF aC G=>?_;refine bn λaf w2 bG aj H=>?_;have G:aa w2 g1 dO [Γ ab]:=aa.ext G aj;have H:aa w2 af ag [Δ a.i]:=H;have al:=aC.trans aj;have bH:=aC.size;have bI:=aj.size;have bJ:=G.lt;have bK:=H.lt;rw[aB (v:=Γ ab) Ψ (G.Qz rfl),aB (v:=Δ a.i) Ψ (H.Qz rfl)];refine (EL (i:=a.i) (h.ext al)).mono ?_;rintro _ bL _ ⟨am,rfl⟩;have aX:=al.trans am;have z3:=am.size;cases B:gU s a.i with
 |none=>
  rw[B] at f;rw[if_neg Ξ,bE,ah];refine⟨λ_=>?_,λh=>absurd Φ h⟩;intro aY aZ _;exact⟨by rw[f],by rw[f];exact eE.same h M Z ac (aX.trans aZ)⟩
 |some x=>
 rw[B] at f;simp only at f;obtain⟨aD,e,bM⟩:=xn B;obtain⟨u,hu⟩:=U5 aD;rw[hu,r8] at e;rw[hu,r8] at f;rw[if_pos (by rfl),bE,ah];refine⟨λh=>absurd rfl h,λ_=>?_⟩;refine bt ak.i λN bN bO aE aF=>?_;refine bo ak.i rfl rfl aF (by simp[x1.cells]) λO an bP P=>?_;have P:aa O N ak [Δ (-1)]:=P;have z5:=aE.size;have bR:=aF.lt;have ao:=am.trans aE;have ap:aa O g1 dO [Γ ab]:=(G.ext ao).U an Ω;have aq:aa O af ag [Δ a.i]:=(H.ext ao).U an Ω;have Q:Ext w O:=(al.trans ao).then an (by rintro r aG rfl;omega);rw[aB (v:=Γ ab) Ψ (ap.Qz rfl),aB (v:=Δ a.i) Ψ (aq.Qz rfl)];refine (kC (i:=a.i) (h.ext Q)).mono ?_;rintro _ bS _ ⟨⟨b,a1,rfl,aH⟩,aJ⟩;refine (nJ (b:=b) (n:=a1)).mono ?_;rintro _ a2 _ ⟨a6,aK,rfl,bT,aL⟩;have aM:=l2 aH aD (show s.vars[a.i.toNat]? =σ x by rw[hu,r8];exact e);have p:=aJ.trans a6;have bU:=aJ.size;have bV:=aL.lt;have bW:=P.lt;have aN:∀j (v:Nat),(ax x)[j]? =σ (v:Int)->(((ax x).take (j+1)).map λv=>x.un.getD v.toNat 0).foldl j8 (-1)=j8 ((((ax x).take j).map λv=>x.un.getD v.toNat 0).foldl j8 (-1)) (x.un.getD v 0):=λj v aO=>by
  rw[u9,aO,o8,j6,List.foldl_append];rfl
 refine lE.old ⟨_,false,kh,#[Γ aK],_,_,_,_,λj w'=>ae (λr=>r=N) a2 w'/\aa w' N ak [Δ ((((ax x).take j).map λv=>x.un.getD v.toNat 0).foldl j8 (-1))],λ_ _ _=>False,rfl,(nI (g:=aK) aH.1).s,?_,
  λ_ _ e h=>⟨h.1.ext e,h.2.ext e⟩,λ_ _ _ e h=>⟨h.1.trans (e.U _),h.2.ext e⟩,λ_ _ _ _ _ h=>h,⟨aL,M.ext (Q.trans p)⟩,⟨ae.refl _ _,P.ext p⟩,?_,?_,λ_ _ h=>h.elim,λ_ _ _ h=>h.elim⟩
 .rintro _ _ _ _ ⟨_,_,_,_,rfl⟩;rfl
 .rintro _ j _ a7 ⟨aP,aR⟩ ⟨aO,rfl,v,a8,ba⟩ ⟨y,S⟩;cases ba;intro bb aS _ _;have av:(ax x)[j]? =σ (v:Int):=by rw[<-aM,x8,a8];rfl
  have bc:=px E e (x5 av);have aw:=y.trans (aS.U _);have bd:Ext w bb:=(Q.trans p).then aw (by rintro r aG rfl;omega);rw[aB (v:=Γ ab) Ψ (((ap.ext p).U aw Ω).Qz rfl),aB (v:=Δ a.i) Ψ (((aq.ext p).U aw Ω).Qz rfl)];refine (mM (i:=a.i) (v:=(v:Int)) (h.ext bd)).mono ?_;rintro _ be _ ⟨rfl,bf⟩;have bg:hp s a.i.toNat (v:Int).toNat=x.un.getD v 0:=by
   unfold hp;rw[hu,r8,e];rfl
  rw[if_pos (by rw[hu];exact bc),bg,bu,bw];have I:=aS.trans bf;have K:=S.ext I;refine aT (λr bj=>(r= .bool (decide ((((ax x).take j).map λv=>x.un.getD v.toNat 0).foldl j8 (-1)<0\/x.un.getD v 0<(((ax x).take j).map λv=>x.un.getD v.toNat 0).foldl j8 (-1))))/\bj=be) ?_ λau L=>?_
  .rintro _ _ ⟨rfl,rfl⟩;rw[ah];refine⟨λV=>?_,λW=>?_⟩
   .refine bo ak.i rfl rfl K Ξ λbk bl bX bm=>?_;have q:ae (λr=>r=N) a7 bk:=(I.U _).trans bl;refine⟨⟨aP.U q Ω,jh q Ω aR⟩,⟨y.trans q,?_⟩,λh=>by cases h⟩;rw[aN j v av];unfold j8 at V ⊢;rw[if_pos V];exact bm
   .refine⟨⟨aP.ext I,aR.ext I⟩,⟨y.trans (I.U _),?_⟩,λh=>by cases h⟩;rw[aN j v av];unfold j8 at W K ⊢;rw[if_neg W];exact K
  rw[aB (v:=Δ _) Ψ (K.Qz rfl),aQ,ah];refine⟨λV=>L _ _ ⟨by rw[decide_eq_true (Or.inl V)],rfl⟩,λW=>?_⟩;rw[aB (v:=Δ _) Ψ (K.Qz rfl),aQ];refine L _ _ ⟨?_,rfl⟩;congr 1;exact decide_eq_decide.2 ⟨.inr,λh=>h.resolve_left W⟩
 .rintro k ay rfl ⟨y,S⟩;rw[o9 (by rw[<-aM,u7];exact o4 _),PT λv _=>(gC E e).1] at S;have aU:Ext w ay:=(Q.trans p).then y (by rintro r aG rfl;omega);have aV:aa ay g1 dO [Γ ab]:=(ap.ext p).U y Ω;have bq:aa ay af ag [Δ a.i]:=(aq.ext p).U y Ω;rw[aB (v:=Γ ab) Ψ (aV.Qz rfl),aB (v:=Δ (fL x)) Ψ (S.Qz rfl)];refine (tO (h.ext aU)).mono ?_;rintro _ bY _ ⟨az,rfl⟩;have X:=aU.trans az;refine dm (λw'=>eE w ab ad A R n (bh n.k s a).1 w') ?_ λau L=>?_
  .intro w' br bZ Y _;obtain⟨bx,bz,aI,bp,bA,bB,bC⟩:=br;refine⟨?_,bx.trans (Y.U _),bz.ext Y,aI,bp,bA.trans (Grow.ext Y),bB.ext Y,bC⟩;rw[f];split
   .rfl
   .rename_i C;rw[Y7.1 C]
  rw[bi,ah];refine⟨λC=>?_,λC=>L _ ?_⟩
  .obtain⟨q,hm⟩:=jZ (λh=>h C);rw[aB (v:=Γ ab) Ψ ((aV.ext az).Qz rfl),aB (v:=Δ a.i) Ψ ((bq.ext az).Qz rfl),hu];refine (EM (t:=t) (u:=u) (F1:=nh) (F2:=ni) (g:=λg=>cA n.k g a.c) (z:=λg=>cL n.k g a.c) (h.ext X) (M.ext X) Z ac e (λv B=>?_) ⟨mU E.zero q.1,λ{w A s' t} aA=>q6 aA E.zero q⟩).mono ?_
   .have aW:=gC (v:=v.toNat) E e;exact⟨mT aW ⟨q.1,tI B hm⟩,λ{w A s t} aA=>tP aA aW q (.inr (tI B hm))⟩
   .rintro _ aY _ bD;refine L _ ?_;rw[f,if_neg (λh=>h C)];exact bD.before X
  .rw[f,if_pos C];exact eE.same h M Z ac X
theorem PX {b:Nat} {i:Int} {x:bl} (p:tu s n i b m) (hi:0<=i) (q:s.vars[i.toNat]? =σ x):b=0↔ax x=[]:=by
 have a:=l2 p hi q;constructor
 .rintro rfl;rw[<-a];have:gq 0 m=[]:=List.eq_nil_iff_forall_not_mem.2 λv e=>by
   have:=(vt.1 e).2;simp at this
  rw[this];rfl
 .intro he;rw[he] at a;have e:=List.map_eq_nil_iff.1 a;refine Nat.eq_of_testBit_eq λj=>?_;rw[Nat.zero_testBit];cases f:b.testBit j with
  |false=>rfl
  |true=>
   have r:j<m:=by
    rcases Nat.lt_or_ge j m with h|h
    .exact h
    .have:=Nat.testBit_lt_two_pow (x:=b) (i:=j) (Q2 p.1.2 (S3 Ω h));rw[this] at f;cases f
   have:j∈gq b m:=vt.2 ⟨r,f⟩;rw[e] at this;cases this
theorem PY (hk:a.kind=3) (h:bQ w ab ad A R n s t) (G:Laid w) (H:¬A 0) (I:en t []):ai x7 FY [Γ ab,Δ a.i,Δ a.c] w (og w ab ad A R n s a):=by
 have K:=h.2.2.2.1;have f:=xp (n:=n) (s:=s) hk;refine aw func16 ?_;refine (EL (i:=a.i) h).mono ?_;rintro _ J _ ⟨L,rfl⟩;cases y:gU s a.i with
 |none=>
  rw[y] at f;rw[if_neg Ξ,bE,ah];exact⟨λ_=>⟨by rw[f],by rw[f];exact eE.same h G H I L⟩,λh=>absurd Φ h⟩
 |some x=>
 rw[y] at f;simp only at f;obtain⟨N,B,ag⟩:=xn y;rw[if_pos (by rfl),bE,ah];refine⟨λh=>absurd rfl h,λ_=>?_⟩;refine (qV (h.ext L)).mono ?_;rintro _ w2 _ ⟨rfl,X⟩;have O:=L.trans X;refine aT (λr w'=>r=Δ (if ax x=[] then-1 else s.zero)/\Ext w w') ?_ λau p=>?_
 .rintro _ aj ⟨rfl,P⟩;refine (tO (h.ext P)).mono ?_;rintro _ ak _ ⟨Y,rfl⟩;have C:=P.trans Y;refine dm (λw'=>eE w ab ad A R n (bh n.k s a).1 w') ?_ λau p=>?_
  .intro w' Z;refine⟨?_,Z⟩;rw[f];generalize (if ax x=[] then (-1:Int) else s.zero)=al;split
   .rfl
   .rename_i j;rw[Y7.1 j]
  rw[bi,ah];refine⟨λj=>?_,λj=>p _ ?_⟩
  .obtain⟨E,hm⟩:=jZ (λh=>h j);have Q:a.c<=s.zero:=by
    split at hm
    .omega
    .exact hm
   obtain⟨u,hu⟩:=U5 N;rw[hu,r8] at B;rw[hu];refine (EM (t:=t) (u:=u) (F1:=ni) (F2:=nh) (g:=λg=>cL n.k g a.c) (z:=λg=>cA n.k g a.c) (h.ext C) (G.ext C) H I B (λv y=>?_) ⟨mT K.zero ⟨E.1,Q⟩,λ{w A s' t} M=>tP M K.zero E (.inr Q)⟩).mono ?_
   .have S:=gC (v:=v.toNat) K B;exact⟨mU S E.1,λ{w A s t} M=>q6 M S E⟩
   .rintro _ am _ aa;refine p _ ?_;rw[f,if_neg (λh=>h j),hu,r8];exact aa.before C
  .rw[f,if_pos j];exact eE.same h G H I C
 refine (kC (i:=a.i) (h.ext O)).mono ?_;rintro _ an _ ⟨⟨b,ac,rfl,T⟩,ae⟩;refine (hx (b:=b) (n:=ac) T.1).mono ?_;rintro _ ao _ ⟨⟨q,rfl,U⟩,af⟩;have V:=(O.trans ae).trans af;have W:=PX T N B;rw[bi,ah];refine⟨λh=>p _ _ ⟨by rw[if_pos (W.1 (U.1 h))],V⟩,λh=>p _ _ ⟨by rw[if_neg λe=>h (U.2 (W.2 e))],V⟩⟩
theorem PZ (hk:a.kind=4) (h:bQ w ab ad A R n s t) (j:Laid w) (p:¬A 0) (f:en t []):ai x7 FZ [Γ ab,Δ a.i,Δ a.v] w (og w ab ad A R n s a):=by
 have q:=h.2.2.2.1;have e:bh n.k s a=match eg s a.i a.v with
  |none=>(s,1)
  |some x=>if cL n.k s.zero (x.un.getD a.v.toNat 0)<n.k then (s,7) else (e2 s a.i.toNat a.v.toNat,0):=by
  unfold bh;rw[if_neg Ω,if_neg Ω,if_neg Ω,if_neg Ω,if_pos hk];cases eg s a.i a.v<;>rfl
 refine aw func17 ?_;refine (xh h).mono ?_;rintro _ J _ ⟨z,rfl⟩;cases B:eg s a.i a.v with
 |none=>
  rw[B] at e;rw[if_neg Ξ,bE,ah];exact⟨λ_=>⟨by rw[e],by rw[e];exact eE.same h j p f z⟩,λh=>absurd Φ h⟩
 |some x=>
 rw[B] at e;simp only at e;obtain⟨Y,C,Z,L⟩:=h5 B;rw[if_pos (by rfl),bE,ah];refine⟨λh=>absurd rfl h,λ_=>?_⟩;have G:fX n a.i a.v:=by
  have:=px q C L;rwa [show ((a.i.toNat:Nat):Int)=a.i by omega] at this
 refine (mM (i:=a.i) (v:=a.v) (h.ext z)).mono ?_;rintro _ w2 _ ⟨rfl,M⟩;have N:hp s a.i.toNat a.v.toNat=x.un.getD a.v.toNat 0:=by
  unfold hp;rw[C]
 rw[if_pos G,N,bu,bw];have H:=z.trans M;refine (qV (h.ext H)).mono ?_;rintro _ aa _ ⟨rfl,O⟩;have I:=H.trans O;refine (q6 (h.ext I) q.zero (gC q C)).mono ?_;rintro _ ac _ ⟨rfl,P⟩;have K:=I.trans P;refine (n8 (h.ext K)).mono ?_;rintro _ ae _ ⟨rfl,Q⟩;have E:=K.trans Q;rw[aQ,ah];refine⟨λS=>?_,λT=>?_⟩
 .rw[if_pos S] at e;exact⟨by rw[e],by rw[e];exact eE.same h j p f E⟩
 .rw[if_neg T] at e;refine (DK (i:=a.i) (v:=a.v) (h.ext E) (.inl f.1)).mono ?_;rintro r af _ ⟨_,U⟩;obtain⟨rfl,V,aI,y,W,X⟩:=U G;refine⟨by rw[e],?_⟩;rw[e];exact eE.step h j p E V W X f.set
theorem P0 (hk:5<=a.kind) (h:bQ w ab ad A R n s t) (P:Laid w) (V:¬A 0) (W:en t []):ai x7 F0 [Γ ab,Δ a.i,Δ a.v] w (og w ab ad A R n s a):=by
 have au:=h.2.2.2.1;have q:bh n.k s a=match eg s a.i a.v with
  |none=>(s,1)
  |some x=>(fY s a.i.toNat a.v (ax x),0):=by
  unfold bh;rw[if_neg Ω,if_neg Ω,if_neg Ω,if_neg Ω,if_neg Ω];cases eg s a.i a.v<;>rfl
 refine jg func18 ?_;refine bn λg1 J aX X z=>?_;refine bn λav w2 aY Q B=>?_;refine bn λaw C aZ K E=>?_;have z:aa C g1 dO [Γ ab]:=(aa.ext z Q).ext K;have B:aa C av ag [Δ a.i]:=aa.ext B K;have E:aa C aw ag [Δ a.v]:=E;have L:=(X.trans Q).trans K;have a1:=X.size;have a2:=Q.size;have z3:=K.size;have ay:=z.lt;have az:=B.lt;have aA:=E.lt;rw[aB (v:=Γ ab) Ψ (z.Qz rfl),aB (v:=Δ a.i) Ψ (B.Qz rfl),aB (v:=Δ a.v) Ψ (E.Qz rfl)];refine (xh (h.ext L)).mono ?_;rintro _ a6 _ ⟨G,rfl⟩;have Y:=L.trans G;have z4:=G.size;cases S:eg s a.i a.v with
 |none=>
  rw[S] at q;rw[if_neg Ξ,bE,ah];refine⟨λ_=>?_,λh=>absurd Φ h⟩;intro a7 aC _;exact⟨by rw[q],by rw[q];exact eE.same h P V W (Y.trans aC)⟩
 |some x=>
 rw[S] at q;simp only at q;obtain⟨aD,f,a8,ba⟩:=h5 S;rw[if_pos (by rfl),bE,ah];refine⟨λh=>absurd rfl h,λ_=>?_⟩;rw[aB (v:=Γ ab) Ψ ((z.ext G).Qz rfl),aB (v:=Δ a.i) Ψ ((B.ext G).Qz rfl)];refine (kC (i:=a.i) (h.ext Y)).mono ?_;rintro _ bb _ ⟨⟨b,aE,rfl,Z⟩,ac⟩;refine (nJ (b:=b) (n:=aE)).mono ?_;rintro _ M _ ⟨aF,af,rfl,bc,aj⟩;have ak:=l2 Z aD f;have N:=(G.trans ac).trans aF;have bd:=ac.size;have be:=N.size;have bf:=aj.lt;refine lE.old ⟨_,false,kh,#[Γ af],_,_,_,_,λj w'=>gE w ab ad A R n w.heap.size (λr=>M.heap.size<=r) (fY s a.i.toNat a.v ((ax x).take j)) w'/\ae (λr=>r<w.heap.size\/M.heap.size<=r) M w',λ_ _ _=>False,rfl,(nI (g:=af) Z.1).s,?_,
  λ_ _ f h=>⟨h.1.ext f,h.2.ext f⟩,λ_ _ _ f h=>⟨h.1.ext f,h.2.trans (f.U _)⟩,λ_ _ _ _ _ h=>h,⟨aj,P.ext (L.trans N)⟩,⟨gE.start h P V W (L.trans N) (o4 _),ae.refl _ _⟩,?_,?_,λ_ _ h=>h.elim,λ_ _ _ h=>h.elim⟩
 .rintro _ _ _ _ ⟨_,_,_,_,rfl⟩;rfl
 .rintro _ j _ bg ⟨al,aG⟩ ⟨bi,rfl,v,aH,aJ⟩ ⟨H,I⟩;cases aJ;intro aK p _ _;have am:(ax x)[j]? =σ (v:Int):=by rw[<-ak,x8,aH];rfl
  have aL:fX n a.i (v:Int):=by
   have:=px au f (x5 am);rwa [show ((a.i.toNat:Nat):Int)=a.i by omega] at this
  have aV:∀ {g:Nat} {e:r9} {cs:List x1},w.heap.size<=g->g<C.heap.size->aa C g e cs->aa aK g e cs:=λaM aN aO=>((aO.ext N).U I Ω).ext p;have O:=PS (s:=s) (i:=a.i.toNat) (v:=a.v) am;obtain⟨bj,bk,aP,an,aQ⟩:=H.open;rw[aB (v:=Δ a.v) Ψ ((aV Ω aA E).Qz rfl),bE,ah];refine⟨λaR=>?_,λhe=>?_⟩
  .rw[if_pos aR] at O;rw[aB (v:=Γ ab) Ψ ((aV Ω ay z).Qz rfl),aB (v:=Δ a.i) Ψ ((aV Ω az B).Qz rfl)];refine (DK (i:=a.i) (v:=(v:Int)) (aP.ext p) (.inl an.1)).mono ?_;rintro r bl _ ⟨_,aS⟩;obtain⟨rfl,aT,aI,y,aU,ao⟩:=aS aL;rw[<-O] at ao;have bm:=I.size;obtain⟨ap,aq,bo⟩:=aQ (D':=λr=>M.heap.size<=r) (jT p aT) ((Grow.ext p).trans aU) ao an.set (λr h=>h) λr aM aN=>Ω
   exact⟨⟨al.U aq Ω,ap.2.1.1⟩,⟨ap,I.trans aq⟩,λh=>by cases h⟩
  .rw[if_neg he] at O;exact⟨⟨al.ext p,aG.ext p⟩,⟨by rw[O];exact H.ext p,I.trans (p.U _)⟩,λh=>by cases h⟩
 .rintro k bp rfl ⟨H,I⟩;rw[o9 (by rw[<-ak,u7];exact o4 _)] at H;intro bq aW _;exact⟨by rw[q],by rw[q];exact H.done aW⟩
end
theorem P1 {p:x1} {l:Λ} (h:aF .i64 w p l) (O:l.length<=1000000):ai x7 G2 [p,Δ v] w λr w'=>Ext w w'/\(∃g,ap .i64 ag w' g r (l.filter λy=>!decide (y=v)))/\ ∀q,leads r q->w.heap.size<=q:=by
 refine aw func110 ?_;rw[aX al.u h];refine bY.range l.length (λi out f=>Ext w f/\(∃g,ap .i64 ag f g out ((l.take i).filter λy=>!decide (y=v)))/\ ∀r,leads out r->w.heap.size<=r) h.le ⟨Ext.refl _,⟨0,ap.nil _ _ _ _⟩,λr C=>by obtain⟨_,_,_,e,_⟩:=C;cases e⟩ ?_ ?_
 .rintro q out f E G ⟨a,⟨g,hm⟩,j⟩ H;obtain⟨y,s⟩:=aE (l:=l) G;have x:(l.take (q+1)).filter (λy=>!decide (y=v))=(l.take q).filter (λy=>!decide (y=v))++(if y≠v then[y] else[]):=by
   rw[u9,s,o8,List.filter_append];congr 1;by_cases ay:y=v<;>simp[ay]
  refine bH Ω ?_;refine aT (λz A=>Ext w A/\(∃g,ap .i64 ag A g z ((l.take (q+1)).filter λy=>!decide (y=v)))/\ ∀r,leads z r->w.heap.size<=r) (λ_ _ I=>by rw[aM];exact H _ _ I) λau B=>?_;rw[be al.u ag.i Ψ (h.ext a) s,bE,ah];refine⟨λJ=>?_,λhe=>B _ _ ⟨a,⟨g,by rw[x,if_neg he,W7];exact hm⟩,j⟩⟩;refine Ek (w0:=w) a hm j ?_ λP w' K L M N=>B _ _ ⟨L,⟨K,by rw[x,if_pos J];exact M⟩,N⟩;have h1:=List.length_filter_le (λy=>!decide (y=v)) (l.take q);rw[j5] at h1;omega
 .rintro out f E ⟨a,hm,j⟩;rw[o7] at hm;refine ca Ω ?_;exact⟨a,hm,j⟩
theorem xq {i:Nat} {v:Int}:∀ (L:Λ) (s:aq) (x:bl),s.vars[i]? =σ x->(∀y∈L,0<=y)-> ∃m,fY s i v L={s with vars:=s.vars.set i {x with mask:=m}}/\ax {x with mask:=m}=(ax x).filter λy=>!(decide (y∈L)&& !decide (y=v))
 |[],s,x,f,_=>by
  refine⟨x.mask,?_,(List.filter_eq_self.2 λy _=>Ξ).symm⟩;have:s.vars.set i x=s.vars:=by
   apply Y6;intro q;by_cases e:i=q
   .subst e;rw[j9 (x4.1 f).1,f]
   .rw[Y0 e]
  show s={s with vars:=s.vars.set i x};rw[this]
 |w::L,s,x,f,j=>by
  have hw:=j w (.head _);have z:=(x4.1 f).1;rw[fY];by_cases e:w≠v
  .rw[if_pos e];have r:e2 s i w.toNat={s with vars:=s.vars.set i {x with mask:=((x.mask.toNat ||| 2 ^ w.toNat:Nat):Int)}}:=by unfold e2;rw[f]
   obtain⟨m,h1,p⟩:=xq L (e2 s i w.toNat) {x with mask:=((x.mask.toNat ||| 2 ^ w.toNat:Nat):Int)} (by rw[r];exact j9 z) λy a=>j y (.tail _ a);refine⟨m,?_,?_⟩
   .rw[h1,r];simp only[List.set_set]
   .rw[p,D3 hw,List.filter_filter];refine List.filter_congr λy _=>?_;by_cases a:y=w
    .subst a;simp[e]
    .simp[a]
  .rw[if_neg e];obtain⟨m,h1,p⟩:=xq L s x f λy a=>j y (.tail _ a);refine⟨m,h1,?_⟩;rw[p];have e:=Y7.1 e;refine List.filter_congr λy _=>?_;by_cases a:y=v
   .simp[a]
   .have:y≠w:=λh=>a (h.trans e);simp[a,this]
theorem filter_one {l:Λ} (j:l.Nodup) (f:v∈l):l.filter (λy=>decide (y=v))=[v]:=by
 induction l with
 |nil=>cases f
 |cons a l p=>
  have h:=List.nodup_cons.1 j;by_cases e:a=v
  .subst e;rw[List.filter_cons_of_pos Ξ,List.filter_eq_nil_iff.2 λx q=>by simp;intro r;exact h.1 (r▸q)]
  .rw[List.filter_cons_of_neg (by simpa using e)];exact p h.2 ((V1.1 f).resolve_left (S8 e))
def jv (u:aq) (a:fc):Option bl:=if 3<a.kind then eg u a.i a.v else gU u a.i
section
variable {w:x3} {ab ad am:Nat} {A R:af} {A9:Nat->af} {aH:af} {n:aS} {s u:aq} {t:aC} {h:List aC} {cs:List x1} {a:fc}
theorem EN {x:bl} (h:jv u a=σ x):0<=a.i/\u.vars[a.i.toNat]? =σ x/\x.gone=0/\(3<a.kind->a.v∈ax x):=by
 unfold jv at h;split at h
 .obtain⟨h1,e,f,j⟩:=h5 h;exact⟨h1,e,f,λ_=>j⟩
 .rename_i hk;obtain⟨h1,e,f⟩:=xn h;exact⟨h1,e,f,λh=>absurd h hk⟩
theorem P2 (h:¬(0<=a.i/\a.i<u.vars.length)):jv u a=ν:=by
 cases he:jv u a with
 |none=>rfl
 |some x=>
  obtain⟨h1,e,_⟩:=EN he;exact absurd ⟨h1,by have:=(x4.1 e).1;omega⟩ h
theorem P3 {x:bl} (e:0<=a.i) (f:u.vars[a.i.toNat]? =σ x):jv u a=if x.gone=0/\(3<a.kind->a.v∈ax x) then σ x else ν:=by
 unfold jv;by_cases hk:3<a.kind
 .rw[if_pos hk];unfold eg;rw[if_pos e,f];simp only[hk,true_implies]
 .rw[if_neg hk];unfold gU;rw[if_pos e,f];simp only[hk,false_implies,and_true]
theorem P4 (hk:2<=a.kind/\a.kind<=5) (h:jv u a=ν):bh n.k u a=(u,1):=by
 unfold jv at h;by_cases e:3<a.kind
 .rw[if_pos e] at h;unfold bh;rw[if_neg Ω,if_neg Ω,if_neg Ω,if_neg Ω,h];split<;>rfl
 .rw[if_neg e] at h;by_cases f:a.kind=2
  .rw[xo f,h]
  .rw[xp Ω,h]
theorem EO {x:bl} (q:0<=c):fL x<c↔ax x=[]\/ ∃v∈ax x,x.un.getD v.toNat 0<c:=by
 unfold fL;constructor
 .intro h;cases e:ax x with
  |nil=>exact .inl rfl
  |cons b l=>
   refine .inr ?_;rw[e] at h;simp only[V7] at h;by_cases f:∀v∈b::l,c<=x.un.getD v.toNat 0
   .have:=(mS (l.map λv=>x.un.getD v.toNat 0) (x.un.getD b.toNat 0) c).2 ⟨f b (.head _),λy j=>by obtain⟨v,a,rfl⟩:=l7.1 j;exact f v (.tail _ a)⟩;omega
   .simp only[Classical.not_forall] at f;obtain⟨v,a,r⟩:=f;exact⟨v,a,Ω⟩
 .rintro (h|⟨v,a,s⟩)
  .rw[h];show (-1:Int)<c;omega
  .cases e:ax x with
   |nil=>rw[e] at a;cases a
   |cons b l=>
    rw[e] at a;simp only[V7];rcases Int.lt_or_le ((l.map λv=>x.un.getD v.toNat 0).foldl min (x.un.getD b.toNat 0)) c with ay|ay
    .exact ay
    .obtain⟨w,p⟩:=(mS _ _ _).1 ay;rcases V1.1 a with rfl|a
     .omega
     .have:=p _ (l7.2 ⟨v,a,rfl⟩);omega
def xr (n:aS) (u:aq) (x:bl) (a:fc):Prop:=ax x=[]\/(a.kind=3/\u.zero<a.c)\/(a.kind=2/\ ∃v∈ax x,x.un.getD v.toNat 0<a.c)
theorem P5 {x:bl} (hk:a.kind=2\/a.kind=3) (h:jv u a=σ x):(¬(0<=a.c/\a.c<=n.k)->bh n.k u a=(u,3))/\((0<=a.c/\a.c<=n.k)->xr n u x a->bh n.k u a=(u,7))/\
  ((0<=a.c/\a.c<=n.k)->¬xr n u x a->bh n.k u a=(fp u a.i.toNat x (λg=>if a.kind=2 then cA n.k g a.c else cL n.k g a.c) (λg=>if a.kind=2 then cL n.k g a.c else cA n.k g a.c),0)/\(a.kind=2-> ∀v∈ax x,a.c<=x.un.getD v.toNat 0)/\(a.kind=3->a.c<=u.zero)):=by
 have r:gU u a.i=σ x:=by unfold jv at h;rwa [if_neg Ω] at h
 rcases hk with hk|hk
 .have e:=xo (n:=n) (s:=u) hk;rw[r] at e;simp only at e;simp only[hk];refine⟨λf=>?_,λf hi=>?_,λf hi=>?_⟩
  .have j:∀m,c6 n.k a.c m=3:=λm=>by unfold c6;rw[if_pos f]
   rw[j,if_pos Φ] at e;exact e
  .have p:fL x<a.c:=(EO f.1).2 (hi.elim .inl λh=>h.elim (λh=>Ω) λh=>.inr h.2);have j:∀m,m<a.c->c6 n.k a.c m=7:=λm hm=>by unfold c6;rw[if_neg (λh=>h f),if_pos hm]
   rw[j _ p,if_pos Φ] at e;exact e
  .have p:¬fL x<a.c:=λh=>hi (((EO f.1).1 h).elim .inl λh=>.inr (.inr ⟨hk,h⟩));have j:c6 n.k a.c (fL x)=0:=by unfold c6;rw[if_neg (λh=>h f),if_neg p]
   rw[j,if_neg Φ] at e;refine⟨by rw[e];simp,λ_ v r=>?_,λh=>absurd h Φ⟩;rcases Int.lt_or_le (x.un.getD v.toNat 0) a.c with ay|ay
   .exact absurd (.inr (.inr ⟨hk,v,r,ay⟩)) hi
   .exact ay
 .have e:=xp (n:=n) (s:=u) hk;rw[r] at e;simp only at e;simp only[hk];refine⟨λf=>?_,λf hi=>?_,λf hi=>?_⟩
  .have j:∀m,c6 n.k a.c m=3:=λm=>by unfold c6;rw[if_pos f]
   rw[j,if_pos Φ] at e;exact e
  .have p:(if ax x=[] then-1 else u.zero)<a.c:=by
    by_cases q:ax x=[]
    .rw[if_pos q];omega
    .rw[if_neg q];rcases hi with hi|hi|hi
     .exact absurd hi q
     .exact hi.2
     .omega
   have j:∀m,m<a.c->c6 n.k a.c m=7:=λm hm=>by unfold c6;rw[if_neg (λh=>h f),if_pos hm]
   rw[j _ p,if_pos Φ] at e;exact e
  .have q:¬ax x=[]:=λh=>hi (.inl h);have w:¬u.zero<a.c:=λh=>hi (.inr (.inl ⟨hk,h⟩));have j:c6 n.k a.c u.zero=0:=by unfold c6;rw[if_neg (λh=>h f),if_neg w]
   rw[if_neg q,j,if_neg Φ] at e;exact⟨by rw[e];simp,λh=>absurd h Φ,λ_=>Ω⟩
end
section
variable {w:x3} {ab ad am:Nat} {A R:af} {A9:Nat->af} {aH:af} {n:aS} {s u:aq} {t:aC} {h:List aC} {cs:List x1} {a:fc}
theorem P6 (p:ck w ab ad am A R A9 aH n s u t h cs) (ap:br n.k n.sizes u) (hk:2<=a.kind/\a.kind<=5):ai x7 uT [Γ am,Δ (a.kind:Int),Δ a.i,Δ a.pos,Δ a.v,Δ a.c] w λr w'=>r=Δ (bh n.k u a).2/\dI w ab ad am A R A9 aH n s t h (bh n.k u a).1 w':=by
 have cr:=ap.vars;have ct:=ap.fV;refine aw func40 ?_;have bL:cs[0]? =σ (Δ n.k):=by obtain⟨_,_,_,_,_,_,rfl,_⟩:=p.pp;rfl
 rw[aO aG.p 0 p.box bL,aQ,ah];refine⟨λh=>Ω,λ_=>?_⟩;refine aT (λr w'=>r= .bool (!(jv u a).isSome)/\Ext w w') ?_ λau a6=>?_
 rotate_left
 .rw[bW];refine p.look.load λeH cw=>?_;refine (D0 (i:=a.i) cw).mono ?_;rintro _ J _ ⟨rfl,Y⟩;rw[bF,b0];refine⟨λP=>a6 _ _ ⟨by rw[P2 (λh=>by rw[cr] at h;rw[decide_eq_true h] at P;cases P)];rfl,Y⟩,λP=>?_⟩;have a7:0<=a.i/\a.i<n.sizes.length:=by simpa using P
  obtain⟨x,I⟩:=aE (l:=u.vars) (i:=a.i.toNat) Ω;have bo:=P3 a7.1 I;obtain⟨szv,cz,dq,aU,dr,bp,bM,_,_,cB,cC,ds,dt,du⟩:=(p.look).ext Y;rw[aO aG.p 4 bM rfl];refine gl (α:=Bool) (a:=decide (x.gone≠0)) (i:=a.i.toNat) rfl Ω hs.u ey.i Ψ cC (by rw[x8,I];rfl) λbP bq=>?_;have bq:[bP]=[x1.bool (decide (x.gone≠0))]:=bq;obtain rfl:bP=x1.bool (decide (x.gone≠0)):=by simpa using bq
  rw[ah];refine⟨λQ=>a6 _ _ ⟨by rw[bo,if_neg λh=>Q h.1];rfl,Y⟩,λQ=>?_⟩;have Q:=Y7.1 Q;rw[bS,ah];refine⟨λbt=>?_,λbt=>a6 _ _ ⟨by rw[bo,if_pos ⟨Q,λh=>absurd h Ω⟩];rfl,Y⟩⟩;rw[aO aG.p 3 bM rfl];refine gl (α:=Λ) (a:=ax x) (i:=a.i.toNat) rfl Ω cu.u al.i Ψ cB (by rw[x8,I];rfl) λdv cD=>?_;refine (tw (cN cD)).mono ?_;rintro _ w2 _ ⟨rfl,L⟩;rw[bF];refine a6 _ _ ⟨?_,Y.trans L⟩;rw[bo];by_cases H:a.v∈ax x
  .rw[if_pos ⟨Q,λ_=>H⟩,decide_eq_true H];rfl
  .rw[if_neg λh=>H (h.2 Ω),decide_eq_false H];rfl
 rintro _ J ⟨rfl,Y⟩;cases hm:jv u a with
 |none=>
  have f:=P4 (n:=n) hk hm;rw[R4,V0,bO];exact⟨by rw[f],by rw[f];exact dI.same p Y⟩
 |some x=>
 rw[R3,Y5,aW];obtain⟨cE,I,dw,cF⟩:=EN hm;obtain⟨B,aJ⟩:=U5 cE;rw[aJ,r8] at I;have bu:=(x4.1 I).1;have G:∀y∈ax x,0<=y/\y<x.un.length:=λy O=>(gS.1 O).1;simp only[aJ];have bQ:∀v:Nat,0<=x.un.getD v 0/\x.un.getD v 0<=n.k:=λv=>gC ap I;have N:=p.ext Y;have dx:cs[0]? =σ (Δ n.k):=bL;have bw:∀ {w2:x3} {dY:aq} {bR:List x1} {bx:Nat->af} {aK:bl},ck w2 ab ad am A R bx aH n s dY t h bR->dY.vars[B]? =σ aK-> ∃aU az y,aF .i64 w2 y aK.un/\(∀ {j:x3} {K:x1->x1->x1->x1->x1->Prop},Ext w2 j->K (Γ am) (.pointer (σ ⟨am,0+5,ν⟩)) aU (.pointer (σ ⟨az,0+B*1,ν⟩)) y->
    V x7 (bN (Γ am)) j λaA=>V x7 (u6 aG aA 5) j λaC=>V x7 (u5 dn aC) j λaL=>V x7 (c8 dn aL (Δ (B:Int))) j λa8=>V x7 (u5 an a8) j λcG=>K aA aC aL a8 cG)/\
   ∀ {w':x3} {v:Nat} {c:Int} {K:Unit->x3->Prop},Ext w2 w'->v<aK.un.length->(∀bT,jt w2 ab ad am A R bx aH n s t h (ep dY B aK (aK.un.set v c)) bT->K () bT)->V x7 (c8 an y (Δ (v:Int))) w' λa=>av x7 (o5 ak a (Δ c)) w' K:=λ{w2 dY bR bx aK} bV C=>by
  obtain⟨az,cH,y,cI,cJ,ac,bz⟩:=xm bV C;have cK:=(x4.1 C).1;refine⟨.slice (σ ⟨az,0,ν⟩) dY.vars.length cH,az,y,ac,λ{j K} aD aV=>?_,bz⟩;rw[aO aG.p 5 (bV.box.ext aD) cI,fz dn.u an.i cK λ_=>rfl,aB (v:=y) (o:=0+B*1) Ψ (by rw[W0,T5];exact iE aD cJ)];exact aV
 obtain⟨cM,cO,ba,bX,cP,aj,cQ,bZ⟩:=PA N I;have b1:∀ {j:x3} {K:x1->x1->x1->Prop},Ext J j->K (Γ am) (.pointer (σ ⟨am,0+3,ν⟩)) (.slice (σ ⟨cM,0,ν⟩) u.vars.length cO)->
   V x7 (bN (Γ am)) j λaA=>V x7 (u6 aG aA 3) j λaC=>V x7 (u5 cu aC) j λaL=>K aA aC aL:=λaD aV=>by
  rw[aO aG.p 3 (N.box.ext aD) bX];exact aV
 have pq:∀ {j:x3} {K:x1->Prop},Ext J j->K ba->
   V x7 (bN (Γ am)) j λaA=>V x7 (u6 aG aA 3) j λaC=>V x7 (u5 cu aC) j λaL=>V x7 (c8 cu aL (Δ (B:Int))) j λa8=>V x7 (u5 al a8) j K:=λaD aV=>by
  rw[aO aG.p 3 (N.box.ext aD) bX,fz cu.u al.i bu λ_=>rfl,aB (v:=ba) (o:=0+B*1) Ψ (by rw[W0,T5];exact iE aD cP)];exact aV
 have low:∀ {u':aq} {w':x3},dI J ab ad am A R A9 aH n s t h u' w'->dI w ab ad am A R A9 aH n s t h u' w':=λbb=>dI.comp (Y.U _) (λq r G=>.inl ⟨q,G⟩) bb;refine aT (λ_ w'=>dI w ab ad am A R A9 aH n s t h (bh n.k u a).1 w'/\(bh n.k u a).2=0) (λ_ w' bb=>⟨by rw[bb.2],bb.1⟩) λcR bA=>?_;refine aT (λr w'=>r= .bool (decide (a.kind=2\/a.kind=3))/\J=w') ?_ λdy b2=>?_
 rotate_left
 .rw[bi,ah];refine⟨λC=>b2 _ _ ⟨?_,rfl⟩,λC=>?_⟩
  .congr 1;exact decide_eq_decide.2 ⟨λ_=>.inl Ω,λ_=>C⟩
  .rw[bi];refine b2 _ _ ⟨?_,rfl⟩;congr 1;exact decide_eq_decide.2 ⟨λh=>.inr Ω,λh=>Ω⟩
 rintro _ _ ⟨rfl,rfl⟩;rw[ah];refine⟨λcS=>?_,λdz=>?_⟩
 .
  obtain⟨cT,bc,bB⟩:=P5 (n:=n) cS hm;refine zJ.mono ?_;rintro _ w2 _ ⟨rfl,L⟩;have dA:=L;have b3:cv a.c n.k↔0<=a.c/\a.c<=n.k:=⟨λh=>h.2,λC=>⟨ct,C⟩⟩;rw[bF,b0];refine⟨λP=>?_,λP=>?_⟩
  .have f:=cT λh=>absurd (b3.2 h) (by simpa using P);exact⟨by rw[f],by rw[f];exact low (dI.same N L)⟩
  have a7:=b3.1 (show cv a.c n.k by simpa using P);have bc:=bc a7;have bB:=bB a7;refine aT (λr w'=>Ext J w'/\ ∃b,r= .bool b/\(b=true↔ax x=[]\/(a.kind=3/\u.zero<a.c))) ?_ λdC bC=>?_
  rotate_left
  .refine pq L ?_;rw[aX al.u (aj.ext L),bi,ah];refine⟨λhe=>bC _ _ ⟨L,true,rfl,⟨λ_=>.inl (Z0 Ω),λ_=>rfl⟩⟩,λbd=>?_⟩;have bd:ax x≠[]:=λh=>bd (by rw[h];rfl);rw[bi,ah];refine⟨λbt=>?_,λbt=>bC _ _ ⟨L,false,rfl,⟨(λh=>by cases h),λh=>h.elim (λh=>absurd h bd) λh=>Ω⟩⟩⟩;have bD:cs[2]? =σ (Δ u.zero):=by obtain⟨_,_,_,_,_,_,rfl,_⟩:=p.pp;rfl
   rw[aO aG.p 2 (N.box.ext L) bD,bS];exact bC _ _ ⟨L,_,rfl,by rw[decide_eq_true_eq];exact⟨λh=>.inr ⟨Ω,h⟩,λh=>h.elim (λh=>absurd h bd) λh=>h.2⟩⟩
  rintro _ cU ⟨aN,b,rfl,b4⟩;rw[b0];refine⟨λcV=>?_,λb5=>?_⟩
  .have f:=bc ((b4.1 cV).elim .inl λh=>.inr (.inl h));exact⟨by rw[f],by rw[f];exact low (dI.same N aN)⟩
  have b6:¬(ax x=[]\/(a.kind=3/\u.zero<a.c)):=λh=>by rw[b4.2 h] at b5;cases b5
  refine pq aN ?_;rw[aX al.u (aj.ext aN)];refine bY.range (ax x).length (λq _ w'=>Ext J w'/\(a.kind=2-> ∀v∈(ax x).take q,a.c<=x.un.getD v.toNat 0)) aj.le ⟨aN,λ_ v H=>by simp at H⟩ ?_ ?_
  .rintro q b7 aI cW bE ⟨M,bf⟩ cX;obtain⟨v,H⟩:=aE (l:=ax x) bE;have ao:=x5 H;have bg:=G v ao;obtain⟨E,rfl⟩:=U5 bg.1;refine bH Ω ?_;rw[be al.u ag.i Ψ (aj.ext M) H];refine aT (λr w'=>aI=w'/\r= .bool (decide (a.kind=2/\x.un.getD E 0<a.c))) ?_ λdD b8=>?_
   .rintro _ _ ⟨rfl,rfl⟩;rw[ah];refine⟨λaY=>?_,λbG=>?_⟩
    .have f:=bc (.inr (.inr ⟨aY.1,_,ao,aY.2⟩));exact⟨by rw[f],by rw[f];exact low (dI.same N M)⟩
    .rw[aM];refine cX _ _ ⟨M,λC y O=>?_⟩;rw[u9,H,o8,l9,n9] at O;rcases O with O|rfl
     .exact bf C y O
     .rcases Int.lt_or_le (x.un.getD E 0) a.c with ay|ay
      .exact absurd ⟨C,ay⟩ bG
      .exact ay
   rw[bi,ah];refine⟨λC=>?_,λC=>b8 _ _ ⟨rfl,by rw[decide_eq_false λh=>C Ω]⟩⟩;obtain⟨aU,az,y,ac,look,_⟩:=bw (N.ext M) I;refine look (Ext.refl _) ?_;rw[be an.u ak.i Ψ ac (getD_some (i:=E) Ω),bS];refine b8 _ _ ⟨rfl,?_⟩;congr 1;exact decide_eq_decide.2 ⟨λh=>⟨Ω,h⟩,λh=>h.2⟩
  rintro b7 aI cW ⟨M,bf⟩;rw[o7] at bf;have cY:¬xr n u x a:=λhi=>hi.elim (λh=>b6 (.inl h)) λh=>h.elim (λh=>b6 (.inr h)) λ⟨C,v,H,aY⟩=>by have:=bf C v H;omega
  obtain⟨f,dE,dF⟩:=bB cY;rw[aJ,r8] at f;refine ca Ω ?_;refine pq M ?_;rw[aX al.u (aj.ext M)];obtain⟨g,Q⟩:∃g:Int->Int,g=λg=>if a.kind=2 then cA n.k g a.c else cL n.k g a.c:=⟨_,rfl⟩;obtain⟨z,bI⟩:∃z:Int->Int,z=λg=>if a.kind=2 then cL n.k g a.c else cA n.k g a.c:=⟨_,rfl⟩;rw[<-Q,<-bI] at f;have cZ:=N.ext M;have c0:=aj.ext M;have b9:=mP x;obtain⟨cb,dG⟩:∃cb,ba=cb:=⟨_,rfl⟩;have c3:ep u B x (dh g x.un ((ax x).take 0))=u:=by
   unfold ep;show {u with vars:=u.vars.set B x}=u;have:u.vars.set B x=u.vars:=by
    apply Y6;intro i;by_cases e:B=i
    .subst e;rw[j9 bu,I]
    .rw[Y0 e]
   rw[this]
  have c4:∀ {w':x3},ae (A9 2) aI w'->aF .i64 w' ba (ax x):=λc5=>hV c0 c5 λr G b n c e P=>N.gL.1 0 2 r Φ (cQ r ⟨b,n,c,e,P⟩) G;refine ci.range (ax x).length (λq w'=>jt aI ab ad am A R A9 aH n s t h (ep u B x (dh g x.un ((ax x).take q))) w') aj.le (by rw[c3];exact jt.same cZ (Ext.refl _)) ?_ ?_
  .rintro q bj c6 bE aR c7;obtain⟨bk,cc,cd,aS,bJ,c9⟩:=id aR;obtain⟨v,H⟩:=aE (l:=ax x) bE;have ao:=x5 H;have bg:=G v ao;obtain⟨E,rfl⟩:=U5 bg.1;have bm:(ep u B x (dh g x.un ((ax x).take q))).vars[B]? =σ {x with un:=dh g x.un ((ax x).take q)}:=j9 bu;have dH:(dh g x.un ((ax x).take q)).length=x.un.length:=kF _ _;have bK:=pn (g:=g) ((ax x).take q) x.un (E:Int) (b9.sublist (List.take_sublist _ _)) (λy O=>G y (T9 O)) Ω;rw[if_neg (xg b9 H),r8] at bK;have da:=bQ E;obtain⟨aU,az,y,ac,look,bz⟩:=bw aS bm;refine bH Ω ?_;refine dm (λS=>jt aI ab ad am A R A9 aH n s t h (ep u B x (dh g x.un ((ax x).take (q+1)))) S) (λS W=>by rw[aM];exact c7 _ W) λdb dc=>?_;have aZ:∀ {X:x3},Ext bj X->V x7 (c8 an y (Δ (E:Int))) X λa'=>av x7 (o5 ak a' (Δ (g (x.un.getD E 0)))) X λ(_:Unit) S=>db S:=λbn=>by
    refine bz bn (by show E<(dh g x.un ((ax x).take q)).length;omega) λS W=>dc _ (jt.comp bk bJ c9 ?_);have e:ep (ep u B x (dh g x.un ((ax x).take q))) B {x with un:=dh g x.un ((ax x).take q)} ((dh g x.un ((ax x).take q)).set E (g (x.un.getD E 0)))=ep u B x (dh g x.un ((ax x).take (q+1))):=by
     rw[EI H,r8,bK];unfold ep;simp only[List.set_set]
    rw[e] at W;exact W
   have ce:(dh g x.un ((ax x).take q))[E]? =σ (x.un.getD E 0):=by rw[getD_some Ω,bK]
   rw[be al.u ag.i Ψ (c4 bk) H,bi,ah];refine⟨λC=>?_,λC=>?_⟩
   .intro j Z _ _;refine look Z (look Z ?_);rw[be an.u ak.i Ψ (ac.ext Z) ce];refine (tV Ω Ω).mono ?_;rintro _ X _ ⟨rfl,aa⟩;refine⟨.inl aa,?_⟩;have:=aZ (Z.trans aa);rw[Q] at this;simp only[if_pos (show a.kind=2 by omega)] at this;exact this
   .intro j Z _ _;refine look Z (look Z ?_);rw[be an.u ak.i Ψ (ac.ext Z) ce];refine (oW Ω Ω).mono ?_;rintro _ X _ ⟨rfl,aa⟩;refine⟨.inl aa,?_⟩;have:=aZ (Z.trans aa);rw[Q] at this;simp only[if_neg (show ¬a.kind=2 by omega)] at this;exact this
  .rintro bj c6 aR;rw[o7] at aR;refine ca Ω ?_;have aR:=aR.EA;obtain⟨bk,cc,cd,aS,bJ⟩:=id aR;have cg:cd[2]? =σ (Δ u.zero):=by obtain⟨_,_,_,_,_,_,rfl,_⟩:=aS.pp;rfl
   have dd:=ap.zero;have aZ:∀ {X:x3},Ext bj X->av x7 (o5 ak (.pointer (σ ⟨am,0+2,ν⟩)) (Δ (z u.zero))) X λ(_:Unit) S=>cR b7 S:=λbn=>by
    refine Pz (aS.ext bn) λS W=>bA _ _ ⟨?_,by rw[f]⟩;rw[f];have ch:=dI.comp (A9:=cc) (bn.U _) (λq r G=>.inl ⟨q,G⟩) W;have a1:=dI.comp bk bJ ch;exact low (dI.comp (M.U _) (λq r G=>.inl ⟨q,G⟩) a1)
   rw[bi,ah];refine⟨λC=>?_,λC=>?_⟩
   .rw[aO aG.p 2 aS.box cg];refine (oW Ω Ω).mono ?_;rintro _ X _ ⟨rfl,aa⟩;rw[bW,aP aG.p rfl];have:=aZ aa;rw[bI] at this;simp only[if_pos (show a.kind=2 by omega)] at this;exact this
   .rw[aO aG.p 2 aS.box cg];refine (tV Ω Ω).mono ?_;rintro _ X _ ⟨rfl,aa⟩;rw[bW,aP aG.p rfl];have:=aZ aa;rw[bI] at this;simp only[if_neg (show ¬a.kind=2 by omega)] at this;exact this
 .
  have cj:3<a.kind:=Ω
  have ao:=cF cj;obtain⟨E,bp⟩:=U5 (G _ ao).1;have bg:=(G _ ao).2;have cl:eg u a.i a.v=σ x:=by unfold jv at hm;rwa [if_pos cj] at hm
  rw[bi,ah];refine⟨λa1=>?_,λa1=>?_⟩
  .have a1:a.kind=4:=Ω
   have f:bh n.k u a=if cL n.k u.zero (x.un.getD a.v.toNat 0)<n.k then (u,7) else (e2 u a.i.toNat a.v.toNat,0):=by
    unfold bh;rw[if_neg Ω,if_neg Ω,if_neg Ω,if_neg Ω,if_pos a1,cl]
   have dd:=ap.zero;have da:=bQ E;intro w2 L _ _;have bD:cs[2]? =σ (Δ u.zero):=by obtain⟨_,_,_,_,_,_,rfl,_⟩:=p.pp;rfl
   obtain⟨aU,az,y,ac,look,_⟩:=bw (N.ext L) I;rw[aO aG.p 2 (N.box.ext L) bD];refine look (Ext.refl _) ?_;rw[bp,be an.u ak.i Ψ ac (getD_some (i:=E) Ω)];refine (oW Ω Ω).mono ?_;rintro _ cU _ ⟨rfl,aN⟩;have cm:=L.trans aN;rw[bp,r8] at f;unfold cL at f;rw[aQ,ah];refine⟨λaY=>?_,λbG=>?_⟩
   .rw[if_pos aY] at f;exact⟨by rw[f],by rw[f];exact low (dI.same N cm)⟩
   .rw[if_neg bG] at f;intro aI M _ _;have a2:=cm.trans M;refine b1 a2 ?_;refine pq a2 ?_;have dJ:=tQ x;have de:=ap.e1.2.2;refine (P1 (v:=(E:Int)) (aj.ext a2) (by
     obtain⟨cn,cp⟩:=aE (l:=n.sizes) (i:=B) Ω;have h1:=(ap.var B x cn I cp).1;have C:=de cn (x5 cp);omega)).mono ?_
    rintro cz bj _ ⟨bm,⟨gz,df⟩,dg⟩;refine⟨.inl bm,?_⟩;have di:=a2.trans bm;have dK:=a2.size;refine bZ (m:=((x.mask.toNat ||| 2 ^ E:Nat):Int)) di (gz:=gz) (by rw[show E=(E:Int).toNat from rfl,D3 Ω];exact df) (λr G=>by have:=dg r G;omega) λS W=>bA _ _ ⟨?_,by rw[f]⟩;rw[f,aJ,r8];unfold e2;rw[I];exact low W
  .have ch:a.kind=5:=Ω
   obtain⟨m,dj,dk⟩:=xq (i:=a.i.toNat) (v:=a.v) (ax x) u x (by rw[aJ,r8];exact I) λy O=>(G y O).1;have f:bh n.k u a=(fY u a.i.toNat a.v (ax x),0):=by
    unfold bh;rw[if_neg Ω,if_neg Ω,if_neg Ω,if_neg Ω,if_neg Ω,cl]
   have dl:ax {x with mask:=m}=[a.v]:=by
    rw[dk,<-filter_one (mP x) ao];refine List.filter_congr λy O=>?_;rw[decide_eq_true O,T3,Bool.not_not]
   rw[bi,ah];refine⟨λ_=>?_,λh=>Ω⟩;refine b1 (Ext.refl _) ?_;refine ej (k:=.i64) al.u ag.i rfl λv4 dp aI dL M cq=>?_;refine bZ (m:=m) M (gz:=dp) (by rw[dl];exact cq) (λr G=>by have:=bU cq G;omega) λS W=>bA _ _ ⟨?_,by rw[f]⟩;rw[f,dj,aJ,r8];exact low W
end
theorem xt {p:x1} (aC:aF .u8 w p pl) (V:Bytes pl) (a1:eX w):ai x7 yO [p] w (Ov w (pl.take 300)):=by
 refine aw func9 ?_;refine bt aG.i λz J bM af Y=>?_;have Y:aa J z aG z12:=Y;rw[aX cP.u (aC.ext af),kU];refine Ja (i:=min pl.length 300) Ω cP.u cC.i (aC.ext af) Ω λbN aj=>?_;have a2:pl.take (min pl.length 300)=pl.take 300:=by
  by_cases h:pl.length<=300
  .rw[Nat.min_eq_left h,o7,o9 h]
  .rw[Nat.min_eq_right Ω]
 rw[a2] at aj;have Z:Bytes (pl.take 300):=λb a=>V b (T9 a);have a6:(pl.take 300).length<=300:=by rw[j5];omega
 generalize pl.take 300=q at aj Z a6;refine (Oq aj Ω).mono ?_;rintro bP w2 _ ⟨ak,bR,al⟩;have aD:=af.trans ak;refine (L1 al.ls Z Ω (a1.ext aD)).mono ?_;rintro bS bU _ ⟨W,B⟩;have aE:=aD.trans W;cases E:fh q with
 |none=>
  rw[E] at B;obtain⟨n,e,rfl,he⟩:=B;rw[hR,hS,hT];refine (Dj (al.ext W).ls Z Ω).mono ?_;rintro a7 am _ ⟨M,a8,ba,an,_⟩;obtain rfl:=an E;rw[hR,hS,hT];refine aT (λv X=>v= .bool true/\Ext am X) ?_ ?_
  .rintro _ X ⟨rfl,H⟩;rw[bO,dq (cs:=#[Δ 0,.slice ν 0 0,Δ 0,.slice ν 0 0,.slice ν 0 0,.slice ν 0 0,.slice ν 0 0,.slice ν 0 0]) Ψ];obtain⟨_,_,s,C⟩:=DM;refine bT (vs:=z12) aG.i rfl rfl (by intro u hu;simp[z12] at hu;rcases hu with rfl|rfl|rfl|rfl<;>rfl) ((((Y.ext ak).ext W).ext M).ext H) λbV bb bW bc=>?_;rw[fB aG.p aG.i rfl bc.range];refine⟨((aE.trans M).trans H).then bb λr B he=>by have he:r=z:=he;omega,_,_,false,rfl,⟨rfl,(DM).elim λ_ h=>by obtain⟨_,_,h⟩:=h;exact λu hu=>by simp[z12] at hu;rcases hu with rfl|rfl|rfl|rfl<;>rfl⟩,.inl ⟨rfl,rfl⟩,λf aI=>?_⟩;rw[E] at aI;cases aI
  .intro au K;rw[bE,ah];exact⟨λ_=>K _ _ ⟨rfl,Ext.refl _⟩,λh=>absurd he h⟩
 |some f=>
  rw[E] at B;obtain⟨bX,n,rfl,bd⟩:=B;obtain⟨N,be,O,bf,bg⟩:=On Ω E;have P:=B7 O;have ac:=wY O;rw[hR,hS,hT];refine (Dj (al.ext W).ls Z Ω).mono ?_;rintro a7 am _ ⟨M,a8,ba,_,an⟩;obtain⟨bY,rfl,bh⟩:=an f E;rw[hR,hS,hT];refine aT (λv X=>v= .bool false/\Ext am X) ?_ ?_
  rotate_left
  .intro au K;rw[bE,ah];refine⟨λh=>absurd rfl h,λ_=>?_⟩;rw[dp va.u];exact K _ _ ⟨rfl,Ext.refl _⟩
  rintro _ X ⟨rfl,H⟩;rw[aW];have aJ:=(aE.trans M).trans H;refine (M7 ((bd.ext M).ext H) O be ⟨bf,bg⟩).mono ?_;rintro bZ bj _ ⟨ao,bk⟩;have ae:=aJ.trans ao;have Q:=((((Y.ext ak).ext W).ext M).ext H).ext ao;have aK:=(bh.ext H).ext ao;have b0:=ae.size;have b1:w.heap.size<=z:=Ω
  have b2:=Q.lt;rcases bk with⟨bl,e,he,rfl⟩|⟨b3,rfl,bm⟩
  .rw[bu,bw];refine Oo.mono ?_;rintro _ aL _ ⟨rfl,j⟩;refine iB (λap t4 x=>ap= .pointer ν/\t4= .bool false/\Ext w x/\ ∃cs:List x1,aa x z aG cs/\cs.length=8/\ ∀u∈cs,u.oneCell'=true) ?_ ?_
   .rintro _ _ x ⟨rfl,rfl,aq,cs,av,s,C⟩;rw[fB aG.p aG.i s av.range];exact⟨aq,_,cs,false,rfl,⟨s,C⟩,.inl ⟨rfl,rfl⟩,λb4 aM bn=>absurd bn (by rw[E] at aM;cases aM;exact bl)⟩
   .intro au K;have bo:=j.size;refine (Dt (aK.ext j) O).mono ?_;rintro bp ax _ ⟨y,ay⟩;refine (Dz (R:=λr=>w.heap.size<=r/\ ∃c,aa ax r ag c) (λr h=>h.2.elim λc a=>a.lt) (λr c V a=>⟨Ω,c,a⟩) ay P.1 ac).mono ?_;rintro bq br _ ⟨G,A9,cs,rfl,S,az⟩;obtain⟨s,C⟩:=S.len;rw[bi,ah];refine⟨λh=>absurd h he,λ_=>?_⟩;refine bT (vs:=cs) aG.i s rfl C (((Q.ext j).ext y).ext G) λbx L aN aA=>?_;exact K _ _ _ ⟨rfl,rfl,(((ae.trans j).trans y).trans G).then L λr B he=>by have he:r=z:=he;omega,cs,aA,s,C⟩
  .rw[bu,bw];obtain⟨b5,bz,aO,bA⟩:=bm;have z5:=aJ.size;refine (Nv (R0:=λr=>w.heap.size<=r/\r<bj.heap.size) bz aO (λr o h I=>⟨by have:=bA r o h I;omega,(j0.1 (aO.aV r o h I)).1⟩) (λr h=>h.2) P.1 ac).mono ?_;rintro _ aL _ ⟨j,ab,ad,A,R,t,rfl,bB,aP,aQ,aR,bC⟩;have aS:bQ aL ab ad A R (df f) (dj (df f)) t:=⟨bB,aP,Ou P.1 ac aP aQ,Nh P.1,P.1⟩;refine iB (λap t4 x=>ap=Γ ab/\t4= .bool true/\Ext w x/\ ∃cs:List x1,aa x z aG cs/\cs.length=8/\(∀u∈cs,u.oneCell'=true)/\ ∃R' A9 aH,bQ x ab ad A R' (df f) (dj (df f)) t/\hn true A9 aH x cs (df f).k (df f).sizes (dj (df f))/\(∀q r,A9 q r->¬A r/\¬R' r/\w.heap.size<=r)/\(∀r,aH r->¬eN x r/\r<x.heap.size/\w.heap.size<=r)/\ ∀r,R' r->w.heap.size<=r) ?_ ?_
   .rintro _ _ x ⟨rfl,rfl,aq,cs,av,s,C,R',A9,aH,bD,S,bF,bG⟩;rw[fB aG.p aG.i s av.range];exact⟨aq,_,cs,true,rfl,⟨s,C⟩,.inr ⟨rfl,f,E,ab,ad,A,R',t,N,A9,aH,O,rfl,bD,aQ,λr B=>by have:=aR r B;omega,S,bF,bG⟩,λ_ _ _=>rfl⟩
   .intro au K;have bo:=j.size;refine (Dt (aK.ext j) O).mono ?_;rintro bp ax _ ⟨y,ay⟩;refine (Dz (R:=λr=>w.heap.size<=r/\ ∃c,aa ax r ag c) (λr h=>h.2.elim λc a=>a.lt) (λr c V a=>⟨Ω,c,a⟩) ay P.1 ac).mono ?_;rintro bq br _ ⟨G,A9,cs,rfl,S,az⟩;obtain⟨s,C⟩:=S.len;rw[bi,ah];refine⟨λ_=>?_,λh=>absurd rfl h⟩;rw[zu dO.u];have aU:=((Q.ext j).ext y).ext G;have bH:=((ae.trans j).trans y).trans G;refine bT (vs:=cs) aG.i s rfl C aU λbx L aN aA=>?_;have aY:=(aS.ext y).ext G;obtain⟨R',aZ,bI⟩:=aY.1.put aU L λh=>by have:=aR z h;omega
    have b6:=((ae.trans j).trans y).size;have b7:=G.size;obtain⟨_,_,_,_,⟨_,_,bJ,bK⟩,_⟩:=(aS.ext y).1;have b8:=Q.lt;have b9:=(j.trans y).size;have bL:=S.U L λr B h he=>by
     have he:r=z:=he;rcases h with⟨q,h⟩|⟨_,c,a⟩
     .have:=az q r h;omega
     .subst he;exact absurd (eu a (((Q.ext j).ext y))) Φ
    refine K _ _ _ ⟨rfl,rfl,bH.then L λr B he=>by have he:r=z:=he;omega,cs,aA,s,C,R',A9,_,⟨bI,aY.2⟩,bL,λq r h=>?_,λr h=>?_,λr h=>?_⟩
    .have ca:=az q r h;refine⟨λaB=>by have:=bK r aB;omega,λaB=>by have:=bJ r (aZ r aB).1;omega,Ω⟩
    .obtain⟨V,c,a⟩:=h;have cb:=a.lt;have aN:=L.size;refine⟨Om ((a.ext G).U L λhe=>?_) Φ,Ω,V⟩;have he:r=z:=he;subst he;exact absurd (eu a (((Q.ext j).ext y))) Φ
    .rcases bC r (aZ r h).1 with h|h
     .exact h.1
     .omega
abbrev lx:Type:=jH .u8×Int×Int×Int×Int×Bool
structure dk where
 d:Int
 i:Int
 pos:Int
 v:Int
 c:Int
 jw:Bool
def dk.ok (a:dk):Prop:=(0<=a.d/\a.d<256)/\(-9223372036854775808<=a.c/\a.c<9223372036854775808)
def dk.kind (a:dk):Nat:=(a.d % 6).toNat
def dk.bD (a:dk):List x1:=[.int .u8 a.d,Δ a.i,Δ a.pos,Δ a.v,Δ a.c,.bool a.jw]
def l4 (x:lx):dk:=⟨x.1.val,x.2.1,x.2.2.1,x.2.2.2.1,x.2.2.2.2.1,x.2.2.2.2.2⟩
theorem EP {R:af} {cs:List x1} {x:lx} (h:Seen R w cs x):cs=(l4 x).bD:=by
 obtain⟨c1,_,_,_,rfl,_,_,_,a,c2,_,_,_,rfl,_,_,_,e,r,_,_,_,rfl,_,_,_,f,s,_,_,_,rfl,_,_,_,j,y,z,_,_,rfl,_,_,_,p,q⟩:=h;have a:c1=[.int .u8 x.1]:=a;have e:c2=[Δ x.2.1]:=e;have f:r=[Δ x.2.2.1]:=f;have j:s=[Δ x.2.2.2.1]:=j;have p:y=[Δ x.2.2.2.2.1]:=p;have q:z=[.bool x.2.2.2.2.2]:=q;subst a e f j p q;rfl
theorem EQ {x:lx} (h:(o6.u8.min<=x.1.val/\x.1.val<=o6.u8.max)/\(X7.min<=x.2.1/\x.2.1<=X7.max)/\(X7.min<=x.2.2.1/\x.2.2.1<=X7.max)/\(X7.min<=x.2.2.2.1/\x.2.2.2.1<=X7.max)/\(X7.min<=x.2.2.2.2.1/\x.2.2.2.2.1<=X7.max)/\True):(l4 x).ok:=by
 have e:o6.u8.min=0:=Φ
 have f:o6.u8.max=255:=Φ
 have j:X7.min= -9223372036854775808:=Φ
 have p:X7.max=9223372036854775807:=Φ
 rw[e,f,j,p] at h;obtain⟨h1,q,r,s,a,_⟩:=h;exact⟨⟨h1.1,by have:=h1.2;show x.1.val<256;omega⟩,⟨a.1,by have:=a.2;show x.2.2.2.2.1<_;omega⟩⟩
theorem dk.one (a:dk):∀u∈a.bD,u.oneCell'=true:=by
 intro u hu;unfold dk.bD at hu;simp only[V1,List.not_mem_nil,or_false] at hu;rcases hu with rfl|rfl|rfl|rfl|rfl|rfl<;>rfl
theorem dk.ER (a:dk):a.kind<6:=by
 unfold dk.kind;have:=Int.emod_lt_of_pos a.d (show (0:Int)<6 by decide);omega
def ix (k:Int) (s:aq) (a:dk):Int:=
 if a.kind<2 then match dl s a.i a.pos a.v with
  |none=>0
  |some (f,_,x)=>if a.kind=1 then x.un.getD a.v.toNat 0 else iw k s f a.pos.toNat a.v
 else if a.kind=2 then match (if 0<=a.i then s.vars[a.i.toNat]? else ν) with
  |none=>s.zero
  |some x=>if ax x=[] then s.zero else ((ax x).map λv=>x.un.getD v.toNat 0).foldl min k
 else s.zero
def l5 (k:Int) (s:aq) (a:dk):Int:=
 if a.jw=false then a.c else if (a.c.emod 18446744073709551616) % (ix k s a+2) % 3=0 then ix k s a else (a.c.emod 18446744073709551616) % (ix k s a+2)
def fq (k:Int) (s:aq) (a:dk):fc:=⟨a.kind,a.i,a.pos,a.v,l5 k s a⟩
theorem xu {k:Int}:∀ (l:Λ) (z:Int),(∀c∈l,0<=c/\c<=k)->0<=z/\z<=k->0<=l.foldl min z/\l.foldl min z<=k
 |[],z,_,h=>h
 |c::l,z,a,h=>by
  have e:=a c (.head _);exact xu l _ (λc h=>a c (.tail _ h)) Ω
section
variable {w:x3} {eH:x1} {k:Int} {sizes:Λ} {s:aq} {a:dk}
theorem P7 (e:br k sizes s):0<=ix k s a/\ix k s a<=k:=by
 have hk:=e.fV;unfold ix;split
 .cases p:dl s a.i a.pos a.v with
  |none=>exact⟨Int.le_refl _,show (0:Int)<=k by omega⟩
  |some q=>
   obtain⟨f,u,x⟩:=q;obtain⟨_,_,r,_,_,w⟩:=i7 p;obtain⟨_,y,_,_⟩:=h5 w;simp only;split
   .exact gC e y
   .refine xu _ _ (λc j=>?_) ⟨Ω,Int.le_refl _⟩;obtain⟨tl,_,rfl⟩:=l7.1 j;exact lu e (x5 r)
 .split
  .split
   .exact e.zero
   .rename_i x h;have h:s.vars[a.i.toNat]? =σ x:=by split at h;exact h;cases h
    split
    .exact e.zero
    .refine xu _ _ (λc j=>?_) ⟨Ω,Int.le_refl _⟩;obtain⟨v,_,rfl⟩:=l7.1 j;exact gC e h
  .exact e.zero
theorem ud {w:x3} {d:Int} {K:x1->Prop} (h:0<=d):V x7 (aJ .rem cC false true (.int .u8 d) (.int .u8 6)) w K=K (.int .u8 (((d % 6).toNat:Nat):Int)):=by
 rw[nq Φ,Int.tmod_eq_emod_of_nonneg h];have:=Int.emod_nonneg d (show (6:Int)≠0 by decide);rw[Int.toNat_of_nonneg this]
theorem ES (h:ho w eH k sizes s) (P:br k sizes s) (aN:dD s) (aO:a.ok):ai x7 F6 [eH,.agg a.bD.toArray] w λr w'=>r=Δ (l5 k s a)/\Ext w w':=by
 have bA:=P.vars;have bB:=P.fV;have bC:=P7 (a:=a) P;obtain⟨ao,bE⟩:=aO;refine aw func28 ?_;refine bn λg1 J bG ap aQ=>?_;have aR:=h.box ap aQ;refine bn λaS w2 bI aq e=>?_;have e:aa w2 aS aZ [.int .u8 a.d,Δ a.i,Δ a.pos,Δ a.v,Δ a.c,.bool a.jw]:=e;have R:=aR.ext aq;have S:=ap.trans aq;rw[az aZ.p 5 e rfl,bF];cases av:a.jw with
 |false=>
  rw[V0,bO,az aZ.p 4 e rfl];exact⟨by unfold l5;rw[if_pos av],S⟩
 |true=>
 rw[Y5,aW];obtain⟨szv,bJ,bK,bL,bM,bN,C,bP,_,ay,bQ,aA,aV,bR⟩:=id R;rw[az aG.p 2 C rfl];refine aT (λr w'=>r=Δ (ix k s a)/\Ext w2 w') ?_ λau G=>?_
 .rintro _ bT ⟨rfl,U⟩;generalize aY:ix k s a=most at*;rw[az aZ.p 4 (e.ext U) rfl,e3 ak.u fv.u,aM,wrap_i64 Ω Ω,e3 ak.u fv.u,wrap_u64 (x:=most+2) Ω Ω];have V:U8.wrap a.c=a.c.emod 18446744073709551616:=rfl;rw[V];have aC:=Int.emod_nonneg a.c (show (18446744073709551616:Int)≠0 by decide);have a1:=Int.emod_lt_of_pos a.c (show (0:Int)<18446744073709551616 by decide);obtain⟨c,W⟩:∃c,a.c.emod 18446744073709551616=c:=⟨_,rfl⟩;have a2:a.c % 18446744073709551616=c:=W;rw[a2] at aC a1;rw[W,nq Ω,Int.tmod_eq_emod_of_nonneg aC];have a6:=Int.emod_nonneg c (show most+2≠0 by omega);have bU:=Int.emod_lt_of_pos c (show 0<most+2 by omega);have aD:l5 k s a=if c % (most+2) % 3=0 then most else c % (most+2):=by unfold l5;rw[av,aY,W];rfl
  rw[nq Φ,Int.tmod_eq_emod_of_nonneg a6,bi,ah];refine⟨λz=>⟨by rw[aD,if_pos z],S.trans U⟩,λz=>?_⟩;rw[e3 fv.u ak.u,wrap_i64 Ω Ω];exact⟨by rw[aD,if_neg z],S.trans U⟩
 rw[az aZ.p 0 e rfl,ud ao.1];have bV:=a.ER;have aF:(a.d % 6).toNat=a.kind:=rfl;rw[aF];refine aT (λr w'=>r= .bool (decide (a.kind<2))/\w2=w') ?_ λbW aH=>?_
 rotate_left
 .rw[bi,ah];refine⟨λz=>aH _ _ ⟨by rw[decide_eq_true z,decide_eq_true Ω],rfl⟩,λz=>?_⟩;rw[bi];refine aH _ _ ⟨?_,rfl⟩;congr 1;exact decide_eq_decide.2 ⟨λh=>Ω,λh=>Ω⟩
 rintro _ _ ⟨rfl,rfl⟩;rw[ah];refine⟨λI=>?_,λI=>?_⟩
 .refine R.load λu hu=>?_;rw[az aZ.p 1 e rfl,az aZ.p 2 e rfl,az aZ.p 3 e rfl];refine (Ez hu P aN).mono ?_;rintro _ bX _ ⟨X,rfl⟩;cases Y:dl s a.i a.pos a.v with
  |none=>
   simp only;rw[bu,bw];refine aT (λr w'=>r= .bool false/\Ext w2 w') ?_ λa7 Z=>?_
   .rintro _ a8 ⟨rfl,Q⟩;rw[aW];exact G _ _ ⟨by unfold ix;rw[if_pos I,Y],Q⟩
   .rw[aW];exact Z _ _ ⟨rfl,X⟩
  |some q=>
  obtain⟨f,K,x⟩:=q;simp only;rw[bu,bw];obtain⟨j,pos,K,ba,bb,ab,bc,bZ,bf,y,L,b0⟩:=uc Y;have A:ix k s a=if a.kind=1 then x.un.getD a.v.toNat 0 else iw k s f a.pos.toNat a.v:=by unfold ix;rw[if_pos I,Y]
  refine aT (λr w'=>r= .bool (decide (a.kind=1))/\Ext w2 w') ?_ λa7 Z=>?_
  rotate_left
  .rw[bO,az aZ.p 0 (e.ext X) rfl,ud ao.1,aF,bi];refine Z _ _ ⟨?_,X⟩;congr 1;exact decide_eq_decide.2 ⟨λh=>Ω,λh=>Ω⟩
  rintro _ a8 ⟨rfl,Q⟩;rw[ah];refine⟨λh1=>?_,λh1=>G _ _ ⟨by rw[A,if_neg h1],Q⟩⟩;intro b1 bg _ _;have H:=Q.trans bg;have ac:=(gS.1 L).1;obtain⟨ad,aI⟩:=U5 ac.1;have B:=e.ext H;simp only[ba,bb,aI] at B;rw[az aG.p 5 (C.ext H) rfl,az aG.p 6 (C.ext H) rfl,az aZ.p 1 B rfl];refine ib (i:=j) rfl dP.u cT.i (bd aV H) (by rw[x8,bc];rfl) λb o cs bh V=>?_;obtain⟨bj,b2,v3,rfl,bk,b3,b4⟩:=mR V;rw[aP cT.p rfl,aP aU.p rfl,aB (v:=bj) Ψ (bh 0 _ rfl),az aZ.p 2 B rfl,be al.u ag.i Ψ (cN bk) bf];refine gl (α:=Λ) (a:=x.un) (i:=K) rfl rfl dn.u an.i Ψ (bd aA H) (by rw[x8,y];rfl) λaJ M=>?_;rw[az aZ.p 3 B rfl,be an.u ak.i Ψ (cN M) (getD_some (i:=ad) Ω)];exact G _ _ ⟨by rw[A,if_pos h1,aI,r8],H⟩
 .rw[bi,ah];refine⟨λae=>?_,λae=>G _ _ ⟨by unfold ix;rw[if_neg I,if_neg Ω],Ext.refl _⟩⟩;have ae:a.kind=2:=Ω
  have A:ix k s a=match (if 0<=a.i then s.vars[a.i.toNat]? else ν) with
   |none=>s.zero
   |some x=>if ax x=[] then s.zero else ((ax x).map λv=>x.un.getD v.toNat 0).foldl min k:=by
   unfold ix;rw[if_neg I,if_pos ae]
  refine aT (λr w'=>Ext w2 w'/\((r= .bool false/\ix k s a=s.zero)\/(r= .bool true/\ ∃x,0<=a.i/\s.vars[a.i.toNat]? =σ x/\ax x≠[]))) ?_ λb5 aK=>?_
  .rintro _ bl ⟨E,⟨rfl,bm⟩|⟨rfl,x,aL,y,bo⟩⟩
   .rw[aW];exact G _ _ ⟨by rw[bm],E⟩
   .rw[bO];rw[if_pos aL,y] at A;simp only at A;rw[if_neg bo] at A;obtain⟨K,ab⟩:=U5 aL;rw[ab,r8] at y;have B:=e;simp only[ab] at B;rw[az aG.p 0 (C.ext E) rfl,az aG.p 3 (C.ext E) rfl,az aZ.p 1 (B.ext E) rfl];refine gl (α:=Λ) (a:=ax x) (i:=K) rfl rfl cu.u al.i Ψ (bd ay E) (by rw[x8,y];rfl) λaJ M=>?_;have af:=cN M;rw[aX al.u af];refine bY.range (ax x).length (λq r w'=>Ext bl w'/\r=Δ ((((ax x).take q).map λv=>x.un.getD v.toNat 0).foldl min k)) af.le ⟨Ext.refl _,rfl⟩ ?_ ?_
    .rintro q _ bp bq bt ⟨N,rfl⟩ bx;obtain⟨v,L⟩:=aE (l:=ax x) bt;have ac:=(gS.1 (x5 L)).1;obtain⟨ad,rfl⟩:=U5 ac.1;have aj:=E.trans N;refine bH Ω ?_;rw[be al.u ag.i Ψ (af.ext N) L,az aG.p 5 (C.ext aj) rfl,az aZ.p 1 (B.ext aj) rfl];refine gl (α:=Λ) (a:=x.un) (i:=K) rfl rfl dn.u an.i Ψ (bd aA aj) (by rw[x8,y];rfl) λb6 bz=>?_;rw[be an.u ak.i Ψ (cN bz) (getD_some (i:=ad) Ω),kU,aM];refine bx _ _ ⟨N,?_⟩;rw[u9,L,o8,j6,List.foldl_append];rfl
    .rintro _ bp bq ⟨N,rfl⟩;rw[o7];refine ca Ω ?_;exact G _ _ ⟨by rw[A],E.trans N⟩
  refine R.load λu hu=>?_;rw[az aZ.p 1 e rfl];refine (D0 (i:=a.i) hu).mono ?_;rintro _ b7 _ ⟨rfl,O⟩;rw[ah];refine⟨λam=>?_,λam=>aK _ _ ⟨O,.inl ⟨rfl,?_⟩⟩⟩
  .obtain⟨x,y⟩:=aE (l:=s.vars) (i:=a.i.toNat) Ω;rw[az aG.p 3 (C.ext O) rfl,az aZ.p 1 (e.ext O) rfl];refine gl (α:=Λ) (a:=ax x) (i:=a.i.toNat) rfl Ω cu.u al.i Ψ (bd ay O) (by rw[x8,y];rfl) λaJ M=>?_;rw[aX al.u (cN M),bS];refine aK _ _ ⟨O,?_⟩;by_cases he:ax x=[]
   .refine .inl ⟨by rw[he];rfl,?_⟩;rw[A,if_pos am.1,y];simp only;rw[if_pos he]
   .refine .inr ⟨?_,x,am.1,y,he⟩;congr 1;have:=List.length_pos_iff.2 he;exact decide_eq_true Ω
  .rw[A];by_cases z:0<=a.i
   .rw[if_pos z,Z4 Ω]
   .rw[if_neg z]
end
def xv (T:Nat) (acc:List ch) (s:aA):Prop:=∃M,(∀x∈acc,x.lines.length<=M)/\(∀q∈s.shared,q.2.length<=M)/\3*acc.length+M+s.toks.length<=T
theorem P8 {sizes:Λ} {s s':aA} {l:List (Λ×Int)} {M:Nat} (x:∀q∈s.shared,q.2.length<=M) (h:dB sizes s=σ (l,s')):
  s'.shared=s.shared/\ ∃f,M<=f/\l.length<=f/\f+s'.toks.length+1<=M+s.toks.length:=by
 unfold dB at h;cases j:bc (-ao) ao s with
 |none=>rw[j] at h;cases h
 |some q=>
  obtain⟨n,e⟩:=q;rw[j] at h;simp only at h;have h1:=de j;obtain⟨A,B,p⟩:=h1.eqs;have C:=h1.1;split at h
  .cases I:e.shared[(-n-1).toNat]? with
   |none=>rw[I] at h;cases h
   |some q=>
    obtain⟨z,l'⟩:=q;rw[I] at h;simp only at h;split at h
    .simp only[Y3,T2] at h;obtain⟨rfl,rfl⟩:=h;have hm:=x5 I;rw[p] at hm;exact⟨p,M,o4 _,x _ hm,Ω⟩
    .cases h
  .have:=iN (λacc t=>t.shared=s.shared/\t.toks.length+acc.length<=e.toks.length) (λacc t a bp ⟨r,y⟩ g=>by
    obtain⟨E,F,G,w⟩:=nN g;obtain⟨f1,f2,f3⟩:=w.eqs;exact⟨by rw[f3,r],by have:=w.1;simp only[p8,U3];omega⟩) n.toNat [] (a6 (decide (16384<min (e.told+n) ao)) {e with told:=min (e.told+n) ao}) l s' ⟨p,by simp[a6]⟩ h
   obtain⟨⟨r,y⟩,_⟩:=this;exact⟨r,M+l.length,Ω,Ω,Ω⟩
theorem P9 {all:Λ} {T:Nat} {acc:List ch} {s s':aA} {f:ch} (J:xv T acc s) (h:cY all s=σ (f,s')):xv T (acc++[f]) s':=by
 obtain⟨M,K,B,N⟩:=J;unfold cY at h;cases y:bc (-ao) ao s with
 |none=>rw[y] at h;cases h
 |some q=>
 obtain⟨a,L⟩:=q;rw[y] at h;simp only at h;have t0:=de y;cases h1:eR all.length a.natAbs L with
 |none=>rw[h1] at h;cases h
 |some q=>
 obtain⟨sc,r⟩:=q;rw[h1] at h;simp only at h;obtain⟨C,_⟩:=sy h1;generalize sc.map (λv=>all.getD v.toNat 0)=sizes at h;cases z:bc 0 ao (a6 (decide (6<a.natAbs)||dr sizes) r) with
 |none=>rw[z] at h;cases h
 |some q=>
 obtain⟨other,A⟩:=q;rw[z] at h;simp only at h;have E:=de z;have F:A.shared=s.shared:=by rw[E.eqs.2.2];show r.shared=_;rw[C.eqs.2.2,t0.eqs.2.2]
 have O:A.toks.length+2<=s.toks.length:=by
  have:=t0.1;have:=C.1;have w:=E.1;have:(a6 (decide (6<a.natAbs)||dr sizes) r).toks.length=r.toks.length:=rfl;omega
 cases w:dB sizes A with
 |none=>rw[w] at h;cases h
 |some q=>
 obtain⟨lines,j⟩:=q;rw[w] at h;simp only[Y3,T2] at h;obtain⟨rfl,rfl⟩:=h;obtain⟨g1,G,P,H,Q⟩:=P8 (M:=M) (by rw[F];exact B) w;have I:∀q∈j.shared,q.2.length<=G:=λq e=>by rw[g1,F] at e;have:=B q e;omega
 refine⟨G,λx p=>?_,λq e=>?_,?_⟩
 .rcases l9.1 p with p|p
  .have:=K x p;omega
  .rw[n9.1 p];exact H
 .split at e
  .rcases l9.1 e with e|e
   .exact I q e
   .rw[n9.1 e];exact H
  .exact I q e
 .have:(if a<0 then {j with shared:=j.shared++[(sizes,lines)]} else j).toks=j.toks:=by split<;>rfl
  rw[this,p8,U3];omega
theorem ET {M:Nat}:∀ (l:List ch),(∀x∈l,x.lines.length<=M)->ip l<=l.length*M
 |[],_=>by simp[ip]
 |x::l,h=>by
  have h1:=ET l λy a=>h y (.tail _ a);have e:=h x (.head _);unfold ip at h1 ⊢;rw[V7,List.sum_cons,b8,U4,Nat.one_mul];omega
theorem Qa {q:Λ} {f:bZ} (X:q.length<=300) (h:fh q=σ f):ip f.funs<=16384/\f.funs.length<=100:=by
 have Y:=oL q.length q (o4 _);unfold fh at h;rw[if_neg Ω] at h;cases e:gY ⟨(lex q).1,0,false,[]⟩ with
 |none=>rw[e] at h;cases h
 |some p=>
 obtain⟨Z,s'⟩:=p;rw[e] at h;simp only at h;split at h
 rotate_left
 .cases h
 cases h;have r:(⟨(lex q).1,0,false,[]⟩:aA).toks.length<=300:=by show (lex q).1.length<=300;omega
 have H:(⟨(lex q).1,0,false,[]⟩:aA).shared=[]:=rfl;generalize (⟨(lex q).1,0,false,[]⟩:aA)=s at e r H;unfold gY at e;cases w:dK s with
 |none=>rw[w] at e;cases e
 |some p=>
 obtain⟨name,s0⟩:=p;rw[w] at e;simp only at e;obtain⟨J,w2⟩:=qe w;have a0:s0.toks.length<=300/\s0.shared=[]:=⟨by rw[J] at r;simp at r;omega,by rw[w2];exact H⟩;have num:∀ {lo hi n:Int} {b:Bool} {s t:aA},(s.toks.length<=300/\s.shared=[])->bc lo hi (a6 b s)=σ (n,t)->t.toks.length<=300/\t.shared=[]:=λ{lo hi n b s t} N O=>by
  have:=de O;have h1:(a6 b s).toks.length=t.toks.length+1:=this.1;have j:s.toks.length=t.toks.length+1:=h1;exact⟨Ω,by rw[this.eqs.2.2];exact N.2⟩
 cases h1:bc 1 ao (a6 (decide (64<name.length)) s0) with
 |none=>rw[h1] at e;cases e
 |some p=>
 obtain⟨n,P⟩:=p;rw[h1] at e;simp only at e;have Q:=num a0 h1;cases j:bc 1 ao (a6 (decide (64<n)) P) with
 |none=>rw[j] at e;cases e
 |some p=>
 obtain⟨most,R⟩:=p;rw[j] at e;simp only at e;have S:=num Q j;cases x:bc 0 ao R with
 |none=>rw[x] at e;cases e
 |some p=>
 obtain⟨y,A⟩:=p;rw[x] at e;simp only at e;have a3:A.toks.length<=300/\A.shared=[]:=by
  have:=de x;exact⟨by have:=this.1;omega,by rw[this.eqs.2.2];exact S.2⟩
 cases B:bc 1 ao (a6 (decide (256<y)) A) with
 |none=>rw[B] at e;cases e
 |some p=>
 obtain⟨k,I⟩:=p;rw[B] at e;simp only at e;have a4:=num a3 B;cases C:cK (e5 most) n.toNat [] (a6 (decide (2147483648<k)) I) with
 |none=>rw[C] at e;cases e
 |some p=>
 obtain⟨sizes,E⟩:=p;rw[C] at e;simp only at e;have K:=iN (f:=e5 most) (λ(acc:Λ) t=>t.toks.length<=300/\t.shared=[]) (λacc t a bp g1 g=>by
  unfold e5 at g;cases F:bc 1 most t with
  |none=>rw[F] at g;cases g
  |some p=>
   obtain⟨z,L⟩:=p;rw[F] at g;simp only[Y3,T2] at g;obtain⟨rfl,rfl⟩:=g;have:=de F;exact⟨by show L.toks.length<=300;have:=this.1;omega,by show L.shared=[];rw[this.eqs.2.2];exact g1.2⟩) n.toNat [] (a6 (decide (2147483648<k)) I) sizes E a4 C
 cases G:cK (λ_ s=>cY sizes s) y.toNat [] E with
 |none=>rw[G] at e;cases e
 |some p=>
 obtain⟨funs,T⟩:=p;rw[G] at e;simp only[Y3,T2] at e;obtain⟨rfl,rfl⟩:=e;obtain⟨⟨M,U,_,aa⟩,_⟩:=iN (xv 300) (λacc t a bp V g=>P9 V g) y.toNat [] E funs T ⟨0,Ξ,by rw[K.1.2];simp,by have:=K.1.1;simp;omega⟩ G;have ab:=ET funs U;show ip funs<=16384/\funs.length<=100;refine⟨?_,Ω⟩;have W:∀k<101,k*(300-3*k)<=16384:=Φ
 have ac:=Nat.mul_le_mul_left funs.length (show M<=300-3*funs.length by omega);have:=W funs.length Ω;omega
theorem Qb {q:Λ} {f:bZ} (a:q.length<=300) (h:fh q=σ f):ip f.funs<=16384:=(Qa a h).1
def oh (A R:af) (A9:Nat->af) (aH:af) (am:Nat) (r:Nat):Prop:=A r\/R r\/(∃q,A9 q r)\/aH r\/r=am
section
variable {P:af} {gX w w':x3} {ab ad am iy iz Ra:Nat} {A R aI R':af} {A9 cI:Nat->af} {aH jY:af} {n:aS} {s s':aq} {t bp:aC} {h h':List aC} {cs bI:List x1} {m cm:Nat}
variable {Z gF:af}
end
structure fd (s s':aq):Prop where
 vars:s'.vars.length=s.vars.length
 var:∀ (i:Nat) x y,s.vars[i]? =σ x->s'.vars[i]? =σ y->y.gone=x.gone/\y.un.length=x.un.length
 funs:s'.funs.length=s.funs.length
 fn:∀ (j:Nat) f g,s.funs[j]? =σ f->s'.funs[j]? =σ g->g.sc=f.sc/\g.ac=f.ac/\g.live=f.live/\g.cs.length=f.cs.length
 ce:s'.ce=s.ce
theorem fd.rfl {s:aq}:fd s s:=⟨Eq.refl _,λ_ _ _ h1 a=>by rw[h1] at a;cases a;exact⟨Eq.refl _,Eq.refl _⟩,Eq.refl _,λ_ _ _ h1 a=>by rw[h1] at a;cases a;exact⟨Eq.refl _,Eq.refl _,Eq.refl _,Eq.refl _⟩,Eq.refl _⟩
theorem fd.trans {a b c:aq} (h:fd a b) (k:fd b c):fd a c:=by
 refine⟨k.vars.trans h.vars,λi x z p A=>?_,k.funs.trans h.funs,λj f q r B=>?_,k.ce.trans h.ce⟩
 .have C:=(x4.1 p).1;have E:=h.vars;obtain⟨y,s⟩:=aE (l:=b.vars) (i:=i) Ω;have h1:=h.var i x y p s;have e:=k.var i y z s A;exact⟨e.1.trans h1.1,e.2.trans h1.2⟩
 .have C:=(x4.1 r).1;have E:=h.funs;obtain⟨g,w⟩:=aE (l:=b.funs) (i:=j) Ω;have h1:=h.fn j f g r w;have e:=k.fn j g q w B;exact⟨e.1.trans h1.1,e.2.1.trans h1.2.1,e.2.2.1.trans h1.2.2.1,e.2.2.2.trans h1.2.2.2⟩
section
variable {k:Int} {sizes:Λ} {s:aq}
theorem xw {i:Nat} {x y:bl} (r:s.vars[i]? =σ x) (w:y.gone=x.gone) (z:y.un.length=x.un.length):fd s {s with vars:=s.vars.set i y}:=by
 refine⟨Z5,λj a b q h=>?_,rfl,λj f g h1 p=>?_,rfl⟩
 .have h:(s.vars.set i y)[j]? =σ b:=h;by_cases e:i=j
  .subst e;rw[j9 (x4.1 r).1] at h;rw[r] at q;cases q;cases h;exact⟨w,z⟩
  .rw[Y0 e,q] at h;cases h;exact⟨rfl,rfl⟩
 .have p:s.funs[j]? =σ g:=p;rw[h1] at p;cases p;exact⟨rfl,rfl,rfl,rfl⟩
theorem Qc {f g:b3} (w:s.funs[j]? =σ f) (h:g.sc=f.sc/\g.ac=f.ac/\g.live=f.live/\g.cs.length=f.cs.length):fd s {s with funs:=s.funs.set j g}:=by
 refine⟨rfl,λi a b r p=>?_,Z5,λq a b r p=>?_,rfl⟩
 .have p:s.vars[i]? =σ b:=p;rw[r] at p;cases p;exact⟨rfl,rfl⟩
 .have p:(s.funs.set j g)[q]? =σ b:=p;by_cases e:j=q
  .subst e;rw[j9 (x4.1 w).1] at p;rw[w] at r;cases r;cases p;exact h
  .rw[Y0 e,r] at p;cases p;exact⟨rfl,rfl,rfl,rfl⟩
theorem Qd:fd s {s with zero:=c}:=⟨rfl,λ_ _ _ h1 a=>by have a:s.vars[_]? =σ _:=a;rw[h1] at a;cases a;exact⟨rfl,rfl⟩,rfl,λ_ _ _ h1 a=>by have a:s.funs[_]? =σ _:=a;rw[h1] at a;cases a;exact⟨rfl,rfl,rfl,rfl⟩,rfl⟩
theorem EU {i:Nat}:fd s (e2 s i v.toNat):=by
 cases a:s.vars[i]? with
 |none=>unfold e2;rw[a];exact .rfl
 |some x=>rw[mQ a];exact xw a rfl rfl
theorem xx {i:Nat} {v:Int}:∀ (L:Λ) (s:aq),fd s (fY s i v L)
 |[],_=>.rfl
 |w::L,s=>by
  unfold fY;split
  .exact EU.trans (xx L _)
  .exact xx L s
theorem EV {u:Nat} {x:bl} {g z:Int->Int} (a:s.vars[u]? =σ x):fd s (fp s u x g z):=
 (xw (y:={x with un:=dh g x.un (ax x)}) a rfl (kF _ _)).trans Qd
theorem EW {u:Nat} {f:b3} {x:bl} {t un:Int->Int} (e:br k sizes s) (a:s.funs[j]? =σ f) (h:s.vars[u]? =σ x):fd s (er s j f pos u x v t un):=by
 obtain⟨_,p⟩:=js e (x5 a);have h1:fd s (dH s j f (cZ t (bX s f.sc pos v) f.ac f.cs)):=Qc a ⟨rfl,rfl,rfl,jr _ _ _ _ Ω⟩;exact h1.trans (xw (s:=dH s j f (cZ t (bX s f.sc pos v) f.ac f.cs)) (y:={x with un:=x.un.set v.toNat (un (x.un.getD v.toNat 0))}) h rfl Z5)
theorem Qe {m:fc} (w:br k sizes s):fd s (bh k s m).1:=by
 by_cases he:(bh k s m).2=0
 .generalize a:bh k s m=r at he ⊢;unfold bh at a;split at a
  .split at a
   .subst a;exact .rfl
   .rename_i f u x e;obtain⟨_,_,j,_,_,p⟩:=i7 e;obtain⟨_,q,_,_⟩:=h5 p;split at a
    .subst a;exact .rfl
    .subst a;simp only;exact EW w j q
  split at a
  .split at a
   .subst a;exact .rfl
   .rename_i f u x e;obtain⟨_,_,j,_,_,p⟩:=i7 e;obtain⟨_,q,_,_⟩:=h5 p;split at a
    .subst a;exact .rfl
    .subst a;simp only;exact EW w j q
  have key:∀ {x:bl},(if 0<=m.i then s.vars[m.i.toNat]? else ν)=σ x->s.vars[m.i.toNat]? =σ x:=λh=>by
   split at h
   .exact h
   .cases h
  split at a
  .split at a
   .subst a;exact .rfl
   .rename_i x e;split at a
    .subst a;exact .rfl
    .split at a
     .subst a;exact .rfl
     .subst a;simp only;exact EV (key e)
  split at a
  .split at a
   .subst a;exact .rfl
   .rename_i x e;generalize (if ax x=[] then-1 else s.zero)=y at a;split at a
    .subst a;exact .rfl
    .split at a
     .subst a;exact .rfl
     .subst a;simp only;exact EV (key e)
  split at a
  .split at a
   .subst a;exact .rfl
   .split at a
    .subst a;exact .rfl
    .subst a;exact EU
  .split at a
   .subst a;exact .rfl
   .subst a;exact xx _ _
 .rw[Eg he];exact .rfl
end
theorem xy (h:Laid w):0<w.heap.size:=by
 rcases Q3 w.heap.size with e|e
 .have a:=h 0 _ rfl;unfold x3.cell? at a;rw[Array.getElem?_eq_none Ω] at a;cases a
 .exact e
def ea (Z aH:af) (w:x3) (ab ad am:Nat) (n:aS) (s:aq):Prop:=∃A R A9 t cs,ck w ab ad am A R A9 aH n s s t [] cs/\(Laid w/\¬Z 0)/\(dD s/\fd (dj n) s/\n.funs.length<=256)/\(∀r,Z r↔oh A R A9 aH am r)/\ ∀q r,A9 q r->r<w.heap.size
def kH (n:aS) (s:aq) (a:dk):aq:=(bh n.k s (fq n.k s a)).1
section
variable {Z aH S:af} {w w' J:x3} {ab ad am:Nat} {A R:af} {A9:Nat->af} {n:aS} {s u:aq} {t:aC} {cs:List x1} {a:dk}
theorem ea.ext (h:ea Z aH w ab ad am n s) (a:Ext w w'):ea Z aH w' ab ad am n s:=by
 obtain⟨A,R,A9,t,cs,p,⟨e,f⟩,j,x,y⟩:=h;exact⟨A,R,A9,t,cs,p.ext a,⟨e.ext a,f⟩,j,x,λq r z=>by have:=y q r z;have:=a.size;omega⟩
theorem ea.lt (h:ea Z aH w ab ad am n s):∀r,Z r->r<w.heap.size:=by
 obtain⟨A,R,A9,t,cs,p,_,_,e,f⟩:=h;intro r a;rcases (e r).1 a with a|a|⟨q,a⟩|a|a
 .exact tF p.eO r (.inl a)
 .exact tF p.eO r (.inr a)
 .exact f q r a
 .exact (p.read r a).2.1
 .subst a;exact p.box.lt
theorem ea.side (h:ea Z aH w ab ad am n s) (e:ae S w w') (y:∀r,Z r->¬S r) (z:¬S 0):ea Z aH w' ab ad am n s:=by
 obtain⟨A,R,A9,t,cs,p,⟨B,C⟩,E,j,F⟩:=h;refine⟨A,R,A9,t,cs,p.side e λr _ f=>?_,⟨jh e z B,C⟩,E,j,λq r f=>by have:=F q r f;have:=e.size;omega⟩;have a:∀ {x:Prop},(x->oh A R A9 aH am r)->¬x:=λG h=>y r ((j r).2 (G h)) f;exact⟨a .inl,a λh=>.inr (.inl h),λq=>a λh=>.inr (.inr (.inl ⟨q,h⟩)),a λh=>.inr (.inr (.inr (.inl h))),a λh=>.inr (.inr (.inr (.inr h)))⟩
theorem ea.ok (h:ea Z aH w ab ad am n s):br n.k n.sizes s/\dD s/\fd (dj n) s/\n.funs.length<=256:=by
 obtain⟨A,R,A9,t,cs,p,_,a,_⟩:=h;exact⟨p.eO.2.2.2.1,a⟩
theorem ea.look (h:ea Z aH w ab ad am n s):l3 w am n.k n.sizes s:=by
 obtain⟨A,R,A9,t,cs,p,_⟩:=h;exact p.look
theorem ea.eO (h:ea Z aH w ab ad am n s):∃A R t,bQ w ab ad A R n s t/\Laid w/\¬A 0/\en t []:=by
 obtain⟨A,R,A9,t,cs,p,a,_,e,_⟩:=h;exact⟨A,R,t,p.eO,a.1,λh=>a.2 ((e 0).2 (.inl h)),p.iZ⟩
theorem ea.step {J w2:x3} (p:ck w ab ad am A R A9 aH n s u t [] cs) (f:∀r,Z r↔oh A R A9 aH am r) {u':aq} (E:dD u'/\fd (dj n) u'/\n.funs.length<=256) (F:¬Z 0)
  (G:dI w ab ad am A R A9 aH n s t [] u' J) (j:Ext J w') (hm:eE w' ab ad A R n u' w2):ae (λr=>Z r/\¬aH r) w w2/\ ∃gF,(∀r,gF r->Z r\/w.heap.size<=r)/\ea gF aH w2 ab ad am n u':=by
 obtain⟨c1,cI,bI,H,I⟩:=G;obtain⟨x,K,aI,bp,y,L,M,S⟩:=hm;have V:=c1.size;have W:=j.size;have z3:=x.size;have z:=H.ext j;have N:=z.prog x y L M (λ_ h=>.inl h) (λ_ _ _ h=>h) z.box.lt;have O:=p.Pj;have P:ae (λr=>Z r/\¬aH r) w w2:=(((c1.mono (T:=λr=>Z r/\¬aH r) λr _ h=>⟨(f r).2 (h.elim (λh=>.inr (.inr (.inl h))) λh=>.inr (.inr (.inr (.inr h)))),h.elim (λ⟨q,h⟩=>O q r h) λh h'=>(p.read r h').2.2 h⟩)).trans (j.U _)).trans
  ((D1 y.1 x).mono λr _ h=>⟨(f r).2 (.inl h.1),λh'=>(z.read r h').1 h.2⟩)
 have X:=p.box.lt;have e:∀ {r:Nat} {B:Prop},(B->oh A R A9 aH am r)->B->Z r\/w.heap.size<=r:=λQ h=>.inl ((f _).2 (Q h));have C:∀r,oh aI R (λq r=>cI q r/\r<w'.heap.size) aH am r->Z r\/w.heap.size<=r:=by
  intro r a;rcases a with a|a|⟨q,a,_⟩|a|a
  .exact (y.2.1 r a).elim (e .inl) λh=>.inr Ω
  .exact e (λh=>.inr (.inl h)) a
  .exact (I q r a).elim (e λh=>.inr (.inr (.inl h))) .inr
  .exact e (λh=>.inr (.inr (.inr (.inl h)))) a
  .exact e (λh=>.inr (.inr (.inr (.inr h)))) a
 exact⟨P,λr=>oh aI R (λq r=>cI q r/\r<w'.heap.size) aH am r,C,aI,R,_,bp,bI,N,⟨K,λh=>(C 0 h).elim F λh=>Ω⟩,E,λr=>Iff.rfl,λq r a=>by have:=a.2;omega⟩
theorem Qf (h:dD s/\fd (dj n) s/\n.funs.length<=256) (a:br n.k n.sizes s) (m:fc):dD (bh n.k s m).1/\fd (dj n) (bh n.k s m).1/\n.funs.length<=256:=
 ⟨(OW a h.1).2.1,h.2.1.trans (Qe a),h.2.2⟩
theorem Qg {m:fc} (p:ck w ab ad am A R A9 aH n s u t [] cs) (a:br n.k n.sizes u) (e:dD u) (hk:m.kind<=5):ai x7 uT [Γ am,Δ (m.kind:Int),Δ m.i,Δ m.pos,Δ m.v,Δ m.c] w λr w'=>r=Δ (bh n.k u m).2/\dI w ab ad am A R A9 aH n s t [] (bh n.k u m).1 w':=by
 by_cases h:m.kind<2
 .exact PV p a e h
 .exact P6 p a ⟨Ω,hk⟩
theorem EX {B:Nat} {w2 e:x3} {am:Nat} {j:x1} {cs:List x1} {f:bZ} (w:tx B w2 j cs f) (x:Ext w2 e) (y:aa e am aG cs) (z:w2.heap.size<=am) (K:B<=w2.heap.size) (L:0<B) (C:Laid e):
  ∃ab ad Z aH,j=Γ ab/\ea Z aH e ab ad am (df f) (dj (df f))/\ ∀r,Z r->B<=r:=by
 obtain⟨ab,ad,A,R,A9,aH,t,rfl,p,_,E,F,_,_,G,_,H,I⟩:=Pg w x y z;have J:=p.olds;have s:∀r,oh A R (λq r=>A9 q r/\r<e.heap.size) aH am r->B<=r:=by
  intro r a;rcases a with a|a|⟨q,a,_⟩|a|a
  .exact E r a
  .exact I r a
  .exact F q r a
  .exact H r a
  .omega
 exact⟨ab,ad,_,aH,rfl,⟨A,R,_,t,cs,J,⟨C,λh=>by have:=s 0 h;omega⟩,⟨Pf _,fd.rfl,G⟩,λr=>Iff.rfl,λq r a=>a.2⟩,s⟩
end
def kI:Λ:=[116,32,50,32,50,32,49,32,57,32,49,32,50,32,50,32,48,32,49,32,48,32,50,32,48,32,48,32,51,32,48,32,49,32,53]
def hK:bZ:=⟨[116],9,[1,2],[⟨[0,1],[1,2],0,[([0,0],3),([0,1],5)]⟩]⟩
theorem Qh:fh kI=σ hK:=by
 have h:(match fh kI with
  |some f=>decide (f.name=hK.name/\f.k=hK.k/\f.sizes=hK.sizes)&&decide (f.funs.map (λx=>(x.scope,x.sizes,x.other,x.lines))=hK.funs.map λx=>(x.scope,x.sizes,x.other,x.lines))
  |none=>false)=true:=by decide+kernel
 cases p:fh kI with
 |none=>rw[p] at h;cases h
 |some f=>
  rw[p] at h;simp only[T0,decide_eq_true_eq] at h;obtain⟨⟨h1,q,r⟩,e⟩:=h;obtain⟨nm,k,w,j⟩:=f;simp only at h1 q r e;subst h1;subst q;subst r;have:j=hK.funs:=by
   have s:j.length=1:=by have:=congrArg T7 e;simpa[hK] using this
   match j,s with
   |[x],_=>
    obtain⟨a,b,c,d⟩:=x;simp[hK] at e;obtain⟨rfl,rfl,rfl,rfl⟩:=e;rfl
  subst this;rfl
theorem Qi:ip hK.funs<=16384:=by decide+kernel
def xz:fc:=⟨0,0,0,0,3⟩
def oi:aq:=(bh (df hK).k (dj (df hK)) xz).1
theorem Qj:(bh (df hK).k (dj (df hK)) xz).2=0:=by decide+kernel
theorem Qk:(gB oi 0 [0,0]).isSome=true/\kD oi 0 [0,0]=0/\(gB oi 0 [0,1]).isSome=true/\kD oi 0 [0,1]=2/\hp oi 0 0=3:=by decide+kernel
theorem Ql:fX (df hK) 0 0:=by decide+kernel
theorem Qm (U:eX w) (G:Laid w):ai x7 yN [] w λv w'=>v= .bool true/\Ext w w':=by
 refine aw func8 ?_;refine jG (k:=1) (cs:=(ints .u8 kI).toArray) cP.u cC.i Ω Ψ λg J aX e q=>?_;have H:ap .u8 cC J g (.slice (σ ⟨g,0,ν⟩) 35 35) kI:=ap.of (n:=35) (bV.full (by simpa using q) (by simp[kI]) (by simp[maxLen]));refine Pe q λs I K=>?_;have e:Ext w s:=e.put I Ω;have V:aF .u8 s (.slice (σ ⟨g,0,ν⟩) 35 35) kI:=by
  obtain⟨W,b,o,base,cap,X,Y,Z,aa,ac⟩:=H.ls;cases X;cases aa (by simp[kI]);exact⟨W,g,0,_,35,rfl,Y,Z,λ_=>rfl,K _ _ ac⟩
 clear H q K I;refine (xt V (by intro b ae;simp[kI] at ae;omega) (U.ext e)).mono ?_;rintro _ w2 _ ⟨af,aj,cs,ok,rfl,⟨ak,an⟩,ao,aq⟩;have L:fh (kI.take 300)=σ hK:=by
  rw[o9 Φ];exact Qh
 have av:ok=true:=aq hK L Qi;subst av;obtain⟨f,M,ab,ad,A,R,t,N,A9,aH,aY,rfl,ax,ay,O,_⟩:∃f,fh (kI.take 300)=σ f/\tx s.heap.size w2 aj cs f:=by
  rcases ao with⟨h,_⟩|⟨_,h⟩
  .cases h
  .exact h
 rw[L] at M;cases M;have P:=e.trans af;rw[hR,hS,hT];refine bt aG.i λam aZ a1 az aA=>?_;refine bT (vs:=cs) aG.i ak rfl an aA λaB aC a2 a6=>?_;have x:Ext w2 aB:=az.put aC Ω;have aD:=ax.ext x;refine aT (λv y=>v= .bool false/\Ext w y/\ ∃aI bp,bQ y ab ad aI R (df hK) oi bp) ?_ ?_
 rotate_left
 .intro au z;rw[bF,Y5,aW];refine (EH (a:=xz) rfl aD (G.ext (P.trans x)) (λh=>by have:=O 0 h;have:=xy (G.ext e);omega) ay.2.2.1).mono ?_;rintro _ a7 _ ⟨rfl,a8,ba,aI,bp,aE,aJ,_⟩;rw[Qj,bE];refine z _ _ ⟨by congr 1,?_,aI,_,aJ⟩;exact (P.trans x).then aE.1 λr bb h=>by have:=O r h;have:=e.size;omega
 rintro _ y ⟨rfl,aK,aI,bp,B⟩;rw[aW];obtain⟨aL,aM,aN,aO,aP⟩:=Qk;refine pY (l:=[0,0]) al.u ag.i Ω rfl Ψ λbc bd be bf p aQ=>?_;refine (pm (j:=0) (B.ext p) aQ.ls).mono ?_;rintro _ bg _ ⟨rfl,C⟩;rw[if_pos aL,aM,bu,bw];refine pY (l:=[0,1]) al.u ag.i Ω rfl Ψ λbh bj bk bl E aR=>?_;refine (pm (j:=0) (((B.ext p).ext C).ext E) aR.ls).mono ?_;rintro _ bm _ ⟨rfl,Q⟩;rw[if_pos aN,aO,bu,bw];refine (mM (i:=0) (v:=0) ((((B.ext p).ext C).ext E).ext Q)).mono ?_;rintro _ S _ ⟨rfl,aS⟩;have aU:hp oi (0:Int).toNat (0:Int).toNat=3:=aP;rw[if_pos Ql,aU,bu,bw];have aV:=((((aK.trans p).trans C).trans E).trans Q).trans aS;refine aT (λv S=>v= .bool true/\Ext w S) (λ_ _ h=>h) λau z=>?_;rw[bi,ah];refine⟨λ_=>?_,λh=>absurd rfl h⟩;rw[bi,ah];refine⟨λ_=>?_,λh=>absurd rfl h⟩;rw[bi];exact z _ _ ⟨rfl,aV⟩
def rh (s:aq):Prop:=∀f∈s.funs,f.live≠0
theorem Qn (n:aS):rh (dj n):=by
 intro f a;unfold dj at a;obtain⟨g,_,rfl⟩:=l7.1 a;exact (by decide:(1:Int)≠0)
theorem Qo {a b:aq} (h:fd a b) (k:rh a):rh b:=by
 intro g q;obtain⟨j,e⟩:=List.getElem?_of_mem q;have r:=(x4.1 e).1;obtain⟨f,p⟩:=aE (l:=a.funs) (i:=j) (by have:=h.funs;omega);rw[(h.fn j f g p e).2.2.1];exact k f (x5 p)
section
variable {w:x3} {ab ad:Nat} {A R:af} {n:aS} {s:aq} {t:aC} {eH:x1}
theorem Qp (h:bQ w ab ad A R n s t) (a6:ho w eH n.k n.sizes s) (bb:Laid w) (b3:s.funs.length<=100000) (bc:rh s):ai x7 yQ [Γ ab,eH] w λv w'=>v= .bool true/\Ext w w':=by
 have H:=h.2.2.2.1;have b4:=H.vars;have one:∀ {w:x3} {α:Type} [aj α] {m:Bool} {S R:af} {c:List x1} {l:List α},aj.rep m S R w c l-> ∃v,c=[v]:=λh=>by obtain⟨v,C,_⟩:=h;exact⟨v,C⟩
 refine aw func11 ?_;refine bn λg1 J b5 I bf=>?_;obtain⟨szv,b6,b7,b8,b9,cb,K,ap,_,bg,cc,bh,aI,cd⟩:=a6.box I bf;have h1:=h.ext I;intro w2 aq _ _;rw[az aG.p 2 (K.ext aq) rfl];refine (qV (h1.ext aq)).mono ?_;rintro _ X _ ⟨rfl,B⟩;have au:=aq.trans B;refine⟨.inl B,?_⟩;rw[bE,ah];refine⟨λbi=>absurd rfl bi,λ_=>?_⟩;rw[az aG.p 1 (K.ext au) rfl,aX al.u (ap.ext au)];refine bY.range n.sizes.length (λi _ X=>Ext J X) ap.le au ?_ ?_
 .rintro i t4 X bj hi B bk;obtain⟨z,Y⟩:=aE (l:=n.sizes) hi;obtain⟨x,M⟩:=aE (l:=s.vars) (i:=i) Ω;obtain⟨ce,cg,_⟩:=H.var i x z M Y;have ch:=H.e1.2.2 z (x5 Y);have bl:z=(x.un.length:Int):=Ω
  refine bH Ω ?_;rw[be al.u ag.i Ψ (ap.ext B) Y];intro N E _ _;have Z:=B.trans E;rw[az aG.p 3 (K.ext Z) rfl];refine ib (α:=Λ) (a:=ax x) rfl cu.u al.i (bd bg Z) (by rw[x8,M];rfl) λb o cs bm r=>?_;obtain⟨bo,rfl⟩:=one r;rw[aB (v:=bo) Ψ (by have:=bm 0 _ rfl;simpa using this)];refine (kC (i:=(i:Int)) (h1.ext Z)).mono ?_;rintro _ ci _ ⟨⟨cj,ck,rfl,aJ⟩,O⟩;refine⟨.inl O,?_⟩;refine nJ.mono ?_;rintro _ aa _ ⟨ae,a7,rfl,cl,av⟩;refine⟨.inl (O.trans ae),?_⟩;have aL:=l2 aJ Ω (by rw[r8];exact M);have P:=(Z.trans O).trans ae;have bp:=bb.ext (I.trans P);have cm:=I.size;refine (vZ (L:=ax x) (nI (g:=a7) aJ.1) (λk vs w hk=>by
    obtain⟨v,C,rfl⟩:=hk;exact⟨v,by rw[<-aL,x8,C];rfl,rfl⟩) (λa b r aN=>⟨aN.1.U r λh=>by have:=av.lt;have h:aa.heap.size<=a7:=h;omega,jh r (λh=>by have h:aa.heap.size<=0:=h;have:=av.lt;omega) aN.2⟩) ⟨av,bp⟩ (by rw[<-aL,u7]) (by have:=tQ x;omega)).mono ?_
  rintro _ G _ ⟨e,cn,_,bq⟩;refine⟨.inl ((O.trans ae).trans e),?_⟩;have br:=P.trans e;refine (zN bq.ls (cN (bd (gK r) ((O.trans ae).trans e)))).mono ?_;rintro _ Q _ ⟨rfl,y⟩;rw[decide_eq_true rfl,bF,Y5,aW,bl];refine bY.range x.un.length (λv _ G=>Ext J G) Ω (br.trans y) ?_ ?_
  .rintro v ay G bx C e bz;obtain⟨c,r⟩:=aE (l:=x.un) C;refine bH Ω ?_;refine (mM (i:=(i:Int)) (v:=(v:Int)) (h1.ext e)).mono ?_;rintro _ Q _ ⟨rfl,y⟩;have bA:fX n i v:=⟨Ω,Ω,Ω,by rw[r8,u4,Y,V8];omega⟩;have bB:hp s (i:Int).toNat (v:Int).toNat=c:=by
    rw[r8,r8];unfold hp;rw[M];simp[u4,r]
   rw[if_pos bA,bB,bu,bw];refine aT (λv w'=>v= .bool false/\Ext J w') ?_ λcp bC=>?_
   .rintro _ aO ⟨rfl,am⟩;rw[aW,aM];exact bz _ _ am
   .have V:=e.trans y;rw[bE,ah];refine⟨λh=>absurd rfl h,λ_=>?_⟩;rw[az aG.p 5 (K.ext V) rfl];refine gl (α:=Λ) (a:=x.un) rfl rfl dn.u an.i Ψ (bd bh V) (by rw[x8,M];rfl) λcq bD=>?_;rw[be an.u ak.i Ψ (cN bD) r,bE];exact bC _ _ ⟨by congr 1;exact decide_eq_false Ω,V⟩
  .rintro ay G bx e;refine ca Ω ?_;rw[aM];exact bk _ _ e
 .rintro t4 X bj B;refine ca Ω ?_;rw[az aG.p 6 (K.ext B) rfl,fC dP.u (bd aI B),u7];refine bY.range s.funs.length (λj _ N=>Ext J N) Ω B ?_ ?_
  .rintro j ay N bG bI E bJ;obtain⟨f,W⟩:=aE (l:=s.funs) bI;have bK:=bc f (x5 W);obtain⟨ao,aA,_⟩:=H.funs f (x5 W);refine bH Ω ?_;refine jI (α:=hl) (a:=fW f) cT.p rfl dP.u cT.i (bd aI E) (by rw[x8,W];rfl) λcs bL=>?_;obtain⟨aD,aQ,aY,rfl,bM,aR,aS⟩:=mR bL;refine bt cT.i λga cr ct bN bO=>?_;refine bT (vs:=[aD,aQ,aY,.bool (decide (f.live≠0))]) cT.i rfl rfl (Ev bM aR aS) bO λaa bR cw aV=>?_;have aC:Ext N aa:=bN.put bR Ω;have P:=E.trans aC;have aF:dv f.ac:=by rw[aA];exact la H.e1.2.2 λv C=>⟨(ao.scope.1 v C).1,ao.vars v C⟩
   have bS:b2 f.ac:=⟨by rw[aA];unfold bP;rw[u7];exact ao.scope.2,aF⟩;have cz:=hU aF;have cA:f.cs.length=(aK f.ac).toNat:=by rw[aA];exact ao.len
   rw[aP cT.p rfl,aP aU.p rfl,aB (v:=aQ) Ψ (aV.cell (o:=0+0+1) rfl)];refine (sn f.ac (cN (bd aR aC)) bS).mono ?_;rintro cB G _ ⟨e,aH⟩;rw[fC cu.u aH];refine bY.range (a8 f.ac).length (λq _ Q=>Ext G Q) (nx aH) (Ext.refl _) ?_ ?_
   .rintro q t5 Q bU bV y bW;obtain⟨tl,aZ⟩:=aE (l:=(a8 f.ac)) bV;obtain⟨c,r⟩:=aE (l:=f.cs) (i:=q) Ω;refine bH Ω ?_;refine gl (α:=Λ) (a:=tl) rfl rfl cu.u al.i Ψ (bd aH y) aZ λu hu=>?_;have V:=(P.trans e).trans y;refine (pm (j:=j) (h1.ext V) (cN (gK hu))).mono ?_;rintro _ aO _ ⟨rfl,am⟩;have a1:=(e.trans y).trans am;have a2:=hW aF aZ;have bX:(gB s j tl).isSome=true:=by unfold gB;rw[W];simp only;rw[if_pos bK,a2];rfl
    have bZ:kD s j tl=c:=by unfold kD ba;rw[W];simp only;rw[a2];simp[u4,r]
    rw[if_pos bX,bZ,bu,bw];refine aT (λv w'=>v= .bool false/\Ext aO w') ?_ λcC b0=>?_
    .rintro _ cD ⟨rfl,b1⟩;rw[aW,aM];exact bW _ _ ((y.trans am).trans b1)
    rw[bE,ah];refine⟨λh=>absurd rfl h,λ_=>?_⟩;rw[aP cT.p rfl,aP aU.p rfl,aB (v:=aY) Ψ ((aV.ext a1).cell (o:=0+0+2) rfl),be an.u ak.i Ψ (cN (bd aS (aC.trans a1))) r,bE];exact b0 _ _ ⟨by congr 1;exact decide_eq_false Ω,Ext.refl _⟩
   .rintro t5 Q bU y;refine ca Ω ?_;rw[aM];exact bJ _ _ ((P.trans e).trans y)
  .rintro ay N bG E;refine ca Ω ?_;exact⟨rfl,I.trans E⟩
end
section
variable {Z aH:af} {w:x3} {ab ad am:Nat} {n:aS} {s:aq} {a:dk}
def Qq (Z aH:af) (w:x3) (ab ad am:Nat) (n:aS) (s':aq) (v:x1) (w':x3):Prop:=v= .bool true/\ae (λr=>Z r/\¬aH r) w w'/\ ∃gF,(∀r,gF r->Z r\/w.heap.size<=r)/\ea gF aH w' ab ad am n s'
theorem ri (h:ea Z aH w ab ad am n s) (L:a.ok):ai x7 yP [Γ ab,Γ am,.agg a.bD.toArray] w (Qq Z aH w ab ad am n (kH n s a)):=by
 obtain⟨A,R,A9,t,cs,p,⟨af,E⟩,G,H,aj⟩:=id h;have I:=p.eO.2.2.2.1;have aB:=a.ER;have M:=L.1;refine aw func10 ?_;refine bn λga J aC N K=>?_;have K:aa J ga aZ a.bD:=K;intro w2 O _ _;have P:=N.trans O;have Q:=K.ext O;rw[bW];refine (p.ext P).look.load λeH al=>?_;rw[bx aZ.p aZ.i rfl Q.range];refine (ES al I G.1 L).mono ?_;rintro _ aD _ ⟨rfl,S⟩;rw[aP aZ.p rfl];have an:=P.trans S;have aE:=N.size;refine bo (o:=0+4) ak.i rfl rfl (Q.ext S) (by simp[dk.bD]) λV ao aF x=>?_;have x:aa V ga aZ [.int .u8 a.d,Δ a.i,Δ a.pos,Δ a.v,Δ (l5 n.k s a),.bool a.jw]:=x;have C:Ext w V:=an.put ao Ω;have W:(a.d % 6).toNat=a.kind:=rfl;rw[az aZ.p 0 x rfl,ud M.1,W,e3 cC.u ag.u,wrap_i64 Ω Ω,az aZ.p 1 x rfl,az aZ.p 2 x rfl,az aZ.p 3 x rfl,az aZ.p 4 x rfl];have ap:=Qf G I (fq n.k s a);have X:=p.ext C;have aG:(fq n.k s a).kind=a.kind:=rfl;refine (Qg (m:=fq n.k s a) X I G.1 Ω).mono ?_;rintro _ Y _ ⟨rfl,ac⟩;obtain⟨ae,aI,aJ,j,aK⟩:=id ac;have aq:∀r,(∃q,A9 q r)\/r=am->r<w.heap.size:=λr e=>e.elim (λ⟨q,h⟩=>aj q r h) λh=>by rw[h];exact p.box.lt
 have f:=x.U ae λe=>by have:=aq ga e;omega
 have y:Laid Y:=jh ae (λh=>E ((H 0).2 (h.elim (λh=>.inr (.inr (.inl h))) λh=>.inr (.inr (.inr (.inr h)))))) (af.ext C);have z:¬A 0:=λh=>E ((H 0).2 (.inl h));have z4:=C.size;refine aT (og Y ab ad A R n s (fq n.k s a)) ?_ λau B=>?_
 .rintro _ aL ⟨rfl,av⟩;obtain⟨ax,gF,ay,aA⟩:=ea.step X H ap E ac (Ext.refl _) av;rw[bi,decide_eq_true rfl];exact⟨rfl,(C.U _).trans ax,gF,λr e=>(ay r e).imp id λh=>Ω,aA⟩
 rw[az aZ.p 0 f rfl,ud M.1,W,bi,ah];refine⟨λhk=>?_,λaM=>?_⟩
 .rw[az aZ.p 1 f rfl,az aZ.p 2 f rfl,az aZ.p 3 f rfl,az aZ.p 4 f rfl];exact (EH (a:=fq n.k s a) Ω j.eO y z j.iZ).mono λr w' _ e=>B _ _ e
 rw[bi,ah];refine⟨λhk=>?_,λaN=>?_⟩
 .rw[az aZ.p 1 f rfl,az aZ.p 2 f rfl,az aZ.p 3 f rfl,az aZ.p 4 f rfl];exact (PR (a:=fq n.k s a) Ω j.eO y z j.iZ).mono λr w' _ e=>B _ _ e
 rw[bi,ah];refine⟨λhk=>?_,λaO=>?_⟩
 .rw[az aZ.p 1 f rfl,az aZ.p 4 f rfl];exact (PW (a:=fq n.k s a) Ω j.eO y z j.iZ).mono λr w' _ e=>B _ _ e
 rw[bi,ah];refine⟨λhk=>?_,λaQ=>?_⟩
 .rw[az aZ.p 1 f rfl,az aZ.p 4 f rfl];exact (PY (a:=fq n.k s a) Ω j.eO y z j.iZ).mono λr w' _ e=>B _ _ e
 rw[bi,ah];refine⟨λhk=>?_,λaR=>?_⟩
 .rw[az aZ.p 1 f rfl,az aZ.p 3 f rfl];exact (PZ (a:=fq n.k s a) Ω j.eO y z j.iZ).mono λr w' _ e=>B _ _ e
 .rw[az aZ.p 1 f rfl,az aZ.p 3 f rfl];exact (P0 (a:=fq n.k s a) Ω j.eO y z j.iZ).mono λr w' _ e=>B _ _ e
end
theorem Qr {p:x1} {B:x3->Prop} {K:x1->x1->x1->x3->Prop} (C:aF .u8 w p pl) (E:∀b∈pl,0<=b/\b<256) (s:eX w) (e:Laid w) (G:∀g w',Ext w w'->K (.pointer ν) (Γ g) (.bool false) w')
  (H:∀f ab ad am Z aH w',fh (pl.take 300)=σ f->Ext w w'->ea Z aH w' ab ad am (df f) (dj (df f))->(∀r,Z r->w.heap.size<=r)->K (Γ ab) (Γ am) (.bool true) w'):
  ai x7 yN [] w λI J=>
 V x7 (Op.unary .not I) J λL=>
 Split L (B J)
  (ai x7 yO [p] J λh w2=>
 V x7 (Z8 h 0) w2 λM=>
 V x7 (Z8 h 1) w2 λN=>
 V x7 (Z8 h 2) w2 λO=>
 av x7 (S0 aG true (.tuple #[])) w2 λx y=>
 av x7 (o5 aG x N) y λ(_:Unit) j=>K M x O j):=by
 refine (Qm s e).mono ?_;rintro _ J _ ⟨rfl,a⟩;rw[bF,Y5,aW];refine (xt (C.ext a) E (s.ext a)).mono ?_;rintro _ w2 _ ⟨z,ah,cs,ok,rfl,⟨P,Q⟩,R,_⟩;rw[hR,hS,hT];have S:=a.trans z;refine bt aG.i λam y aj U W=>?_;refine bT (vs:=cs) aG.i P rfl Q W λj X ak Y=>?_;have A:Ext w2 j:=U.put X Ω;have q:=S.trans A;rcases R with⟨rfl,rfl⟩|⟨rfl,f,aa,ac⟩
 .exact G _ _ q
 have al:=a.size;obtain⟨ab,ad,Z,aH,rfl,ae,af⟩:=EX ac A Y Ω z.size (xy (e.ext a)) (e.ext q);exact H f ab ad am Z aH _ aa q ae λr ag=>by have:=af r ag;omega
section
variable {w0 w w':x3} {ab ad am:Nat} {n:aS} {s:aq} {Z aH:af}
theorem Qs {e:x1} {L:List lx} {i:Nat} {x:lx} (j:Seen ek w [e] L) (q:L[i]? =σ x) (r:∀g w',Ext w w'->w.heap.size<=g->aa w' g aZ (l4 x).bD->K (Γ g) w'):
  V x7 (c8 pQ e (Δ (i:Int))) w λs=>
  V x7 (u5 aZ s) w λy=>
  av x7 (S0 aZ true (.tuple #[])) w λa f=>
  av x7 (o5 aZ a y) f λ(_:Unit) h=>K a h:=by
 refine jI (α:=lx) aZ.p rfl pQ.u aZ.i j q λcs z=>?_;obtain rfl:=EP z;refine bt aZ.i λgy f F A B=>?_;refine bT (vs:=(l4 x).bD) aZ.i rfl rfl (dk.one _) B λh C G E=>?_;exact r _ _ (A.put C Ω) Ω E
end
theorem ea.live {Z aH:af} {ad am:Nat} {n:aS} {s:aq} (h:ea Z aH w ab ad am n s):rh s/\s.funs.length<=256:=by
 obtain⟨_,_,a,e⟩:=h.ok;refine⟨Qo a (Qn n),?_⟩;rw[a.funs];unfold dj;rw[u7];exact e
theorem ea.EY {Z aH:af} {ad am:Nat} {n:aS} {s:aq} (h:ea Z aH w ab ad am n s) (a:∀w',Ext w w'->K (.bool true) w'):
  V x7 (u5 aG (Γ am)) w λe=>ai x7 yQ [Γ ab,e] w K:=by
 obtain⟨A,R,t,f,j,_⟩:=h.eO;obtain⟨p,r⟩:=h.live;refine h.look.load λu hu=>?_;refine (Qp f hu j Ω p).mono ?_;rintro _ w' _ ⟨rfl,q⟩;exact a _ q
theorem Qt {n:aS} {s:aq} {i:Nat} {x:bl} (h:fd (dj n) s) (e:s.vars[i]? =σ x):x.gone=0:=by
 obtain⟨y,a⟩:=aE (l:=(dj n).vars) (i:=i) (by have:=(x4.1 e).1;have:=h.vars;omega);rw[(h.var i y x a e).1];unfold dj at a;simp only[x8,X3] at a;obtain⟨u,_,rfl⟩:=a;rfl
section
variable {w:x3} {n:aS} {ab ad am:Nat}
end
def py (fo gw:Nat) (aH:af) (w:x3) (fk:Nat) (n:aS) (s:aq):Prop:=(∃cs a,aa w fk aG cs/\hn true a aH w cs n.k n.sizes s/\ ∀q r,a q r->fo<=r/\r<gw)/\fo<=fk/\fk<gw
section
variable {fo gw fk:Nat} {aH S Z:af} {w w':x3} {Rb:x1} {n:aS} {s:aq} {ab ad am:Nat}
theorem py.U (h:py fo gw aH w fk n s) (e:ae S w w') (f:∀r,S r->¬aH r/\(r<fo\/gw<=r)):py fo gw aH w' fk n s:=by
 obtain⟨⟨cs,p,x,y,j⟩,z⟩:=h;refine⟨⟨cs,p,x.U e λh=>by have:=(f fk h).2;omega,y.U e λr _ a h=>?_,j⟩,z⟩;have I:=f r h;rcases a with⟨q,a⟩|a
 .have:=j q r a;omega
 .exact I.1 a
theorem py.look (h:py fo gw aH w fk n s):l3 w fk n.k n.sizes s:=by
 obtain⟨⟨cs,f,a,e,j⟩,_⟩:=h;exact ho.box e.Dy (Ext.refl _) a
theorem EZ (h:fd (dj n) s):ra s:=λx a=>by
 obtain⟨i,hi⟩:=List.getElem?_of_mem a;exact .inl (Qt h hi)
theorem ea.facts (h:ea Z aH w ab ad am n s):ai x7 yR [Γ ab] w λv w'=>Ext w w'/\ ∃g,ap .i64 ak w' g v (mV s)/\ ∀r,leads v r->w.heap.size<=r:=by
 obtain⟨_,_,a,_⟩:=h.ok;obtain⟨A,R,t,f,j,_⟩:=h.eO;have he:s.ce=[]:=a.ce;exact Po f j (λe h=>by rw[he] at h;cases h) (by have:=h.live.2;omega) (by rw[he];exact X8 _)
end
theorem Qu {R:af} {a:Array x1} {y:lx} (h:Seen R w a.toList y):x1.agg a= .agg (l4 y).bD.toArray:=by rw[<-EP h,Array.toArray_toList]
theorem Qv {n:aS} {s:aq} {a fi se:dk} {one:Int} (j:br n.k n.sizes s) (hk:a.kind<4) (e:a.jw=false) (h1:0<=one/\one<=a.c) (p:fi={a with c:=one}) (I:se={a with c:=a.c-one}) (q:kH n s a≠s):kH n (kH n s fi) se=kH n s a:=by
 have he:(bh n.k s (fq n.k s a)).2=0:=by
  by_cases h:(bh n.k s (fq n.k s a)).2=0
  .exact h
  .exact absurd (Eg h) q
 have gV:∀ (u:aq) (b:dk),b.jw=false->l5 n.k u b=b.c:=λu b r=>by unfold l5;rw[if_pos r]
 have f:fq n.k s a={fq n.k s a with c:=one+(a.c-one)}:=by
  unfold fq;rw[gV _ _ e,show one+(a.c-one)=a.c by omega]
 have w:fq n.k s fi={fq n.k s a with c:=one}:=by
  subst p;unfold fq;rw[gV _ _ (show ({a with c:=one}:dk).jw=false from e)];rfl
 have x:∀u,fq n.k u se={fq n.k s a with c:=a.c-one}:=λu=>by
  subst I;unfold fq;rw[gV _ _ (show ({a with c:=a.c-one}:dk).jw=false from e)];rfl
 rw[f] at he;have h:=(Pa (m:=fq n.k s a) (c1:=one) (c2:=a.c-one) j hk h1.1 Ω he).2;unfold kH;rw[x,w,h,<-f]
def jx (w0 w:x3) (ab ad am iy iz gy:Nat) (n:aS) (s s':aq):Prop:=Ext w0 w/\ ∃Z aH gF jY,ea Z aH w ab ad am n s/\ea gF jY w iy iz gy n s'/\(∀r,Z r->¬gF r)/\ ∀r,Z r\/gF r->w0.heap.size<=r
section
variable {w0 w w':x3} {ab ad am iy iz gy:Nat} {n:aS} {s s':aq} {a:dk}
theorem jx.symm (h:jx w0 w ab ad am iy iz gy n s s'):jx w0 w iy iz gy ab ad am n s' s:=by
 obtain⟨a,Z,aH,gF,jY,h1,e,f,j⟩:=h;exact⟨a,gF,jY,Z,aH,e,h1,λr h k=>f r k h,λr h=>j r h.symm⟩
theorem jx.ext (h:jx w0 w ab ad am iy iz gy n s s') (a:Ext w w'):jx w0 w' ab ad am iy iz gy n s s':=by
 obtain⟨e,Z,aH,gF,jY,h1,f,j,p⟩:=h;exact⟨e.trans a,Z,aH,gF,jY,h1.ext a,f.ext a,j,p⟩
theorem jx.do (G:0<w0.heap.size) (h:jx w0 w ab ad am iy iz gy n s s') (A:a.ok):ai x7 yP [Γ ab,Γ am,.agg a.bD.toArray] w λv w'=>v= .bool true/\jx w0 w' ab ad am iy iz gy n (kH n s a) s':=by
 obtain⟨f,Z,aH,gF,jY,h1,j,p,e⟩:=h;have B:=j.lt;refine (ri h1 A).mono ?_;rintro v J _ ⟨rfl,q,C,x,E⟩;have z:=f.size;refine⟨rfl,f.then q λr y h=>by have:=e r (.inl h.1);omega,C,aH,gF,jY,E,j.side q (λr y h=>p r h.1 y) (λh=>by have:=e 0 (.inl h.1);omega),λr h k=>(x r h).elim (λh=>p r h k) λh=>by have:=B r k;omega,λr h=>h.elim (λh=>(x r h).elim (λh=>e r (.inl h)) λh=>Ω) λh=>e r (.inr h)⟩
theorem ea.copy {Z aH:af} (h:ea Z aH w ab ad am n s) (z:∀fk w',Ext w w'->py w.heap.size w'.heap.size aH w' fk n s->K (Γ fk) w'):
  V x7 (u5 aG (Γ am)) w λB=>
  ai x7 yS [B] w λC E=>
  av x7 (S0 aG true (.tuple #[])) E λbefore G=>
  av x7 (o5 aG before C) G λ(_:Unit) H=>K before H:=by
 obtain⟨I,_,L,_⟩:=h.ok;have S:=h.live.2;have he:s.ce=[]:=L.ce;obtain⟨A,R,A9,t,cs,p,_⟩:=id h;obtain⟨M,W⟩:=bz.len p.doc;rw[bx aG.p aG.i M p.box.range];refine (OO p.doc (λr a=>(p.read r a).2.1) I Ω (by rw[he];exact X8 _)).mono ?_;rintro _ J _ ⟨j,X,bI,rfl,x,N⟩;obtain⟨O,P⟩:=bz.len x;have Y:=j.size;refine bt aG.i λfk w2 aa e y=>?_;have ac:=y.lt;refine bT (vs:=bI) aG.i O rfl P y λae f ag Q=>?_;have ah:=e.size;have z3:=f.size;refine z _ _ (j.trans (e.put f Ω)) ⟨⟨bI,_,Q,bz.U (bz.ext (bz.old x) e) f λr a h h'=>?_,λq r a=>⟨N q r a.1,by have:=a.2;omega⟩⟩,Ω,Ω⟩;have h':r=fk:=h';rcases h with⟨q,_,aj⟩|h
 .omega
 .have:=(p.read r h).2.1;omega
theorem twins {K:x1->x1->x3->Prop} {a:Nat} {vs:List x1} (R:aa w a aZ vs) (B:vs.length=6) (S:∀u∈vs,u.oneCell'=true) (ak:∀e gs w',Ext w w'->e≠gs->w.heap.size<=e->w.heap.size<=gs->aa w' e aZ vs->aa w' gs aZ vs->K (Γ e) (Γ gs) w'):
  cr (α:=x1->x1->x3->Prop) (λ(first I:x1) (al:x3)=>K first I al) λW=>
 ei w λf=>
 V x7 (u5 aZ (Γ a)) f λz=>
 V x7 (u5 aZ (Γ a)) f λr=>
 (av x7 (S0 aZ true (.tuple #[])) f λX C=>
  (Ext f C\/b4 x7 (u5 aZ (Γ a)) r C/\b4 x7 (u5 aZ (Γ a)) z C/\True)/\
 av x7 (S0 aZ true (.tuple #[])) C λY E=>
  (Ext f E\/b4 x7 (u5 aZ (Γ a)) r E/\b4 x7 (u5 aZ (Γ a)) z E/\True)/\
  av x7 (o5 aZ X z) E λ(_:Unit) L=>
   (Ext f L\/b4 x7 (u5 aZ (Γ a)) r L/\True)/\
  av x7 (o5 aZ Y r) L λ(_:Unit) am=>
   W X Y am)/\
 (av x7 (S0 aZ true (.tuple #[])) f λZ F=>
  (Ext f F\/b4 x7 (u5 aZ (Γ a)) r F/\b4 x7 (u5 aZ (Γ a)) z F/\True)/\
 av x7 (S0 aZ true (.tuple #[])) F λab G=>
  (Ext f G\/b4 x7 (u5 aZ (Γ a)) r G/\b4 x7 (u5 aZ (Γ a)) z G/\True)/\
  av x7 (o5 aZ ab z) G λ(_:Unit) M=>
   (Ext f M\/b4 x7 (u5 aZ (Γ a)) r M/\True)/\
  av x7 (o5 aZ Z r) M λ(_:Unit) an=>
   W ab Z an):=by
 refine iB (λfirst I w'=>Ext w w'/\ ∃e gs,first=Γ e/\I=Γ gs/\e≠gs/\w.heap.size<=e/\w.heap.size<=gs/\aa w' e aZ vs/\aa w' gs aZ vs) ?_ λau ac=>?_
 .rintro _ _ w' ⟨ao,e,gs,rfl,rfl,h1,ad,ap,aq,aw⟩;exact ak _ _ _ ao h1 ad ap aq aw
 intro J H _ _;have aH:=H.size;rw[bx aZ.p aZ.i B (R.ext H).range,bx aZ.p aZ.i B (R.ext H).range];have ae:∀ {w2 x:x3} {g1 s:Nat} {c1 c2:List x1},Ext J x->J.heap.size<=g1->J.heap.size<=s->g1≠s->aa x g1 aZ c1->aa x s aZ c2->c1.length=6->c2.length=6->(∀w',Ext w w'->aa w' g1 aZ vs->aa w' s aZ vs->au (Γ g1) (Γ s) w')->
   av x7 (o5 aZ (Γ g1) (.agg vs.toArray)) x λ(_:Unit) A=>(Ext J A\/b4 x7 (u5 aZ (Γ a)) (.agg vs.toArray) A/\True)/\av x7 (o5 aZ (Γ s) (.agg vs.toArray)) A λ(_:Unit) af=>au (Γ g1) (Γ s) af:=λ{w2 x g1 s c1 c2} j h1 ad ag ax y ay az aA=>by
  refine bT (vs:=vs) aZ.i B (by rw[ay]) S ax λA ah aI aB=>?_;have ai:Ext J A:=j.put ah Ω;refine⟨.inl ai,?_⟩;refine bT (vs:=vs) aZ.i B (by rw[az]) S (y.U ah λh=>ag (Eq.symm h)) λaf aj aJ aC=>?_;exact aA _ (H.trans (ai.put aj Ω)) (aB.U aj ag) aC
 refine⟨?_,?_⟩
 .refine bt aZ.i λe w2 aD q y=>?_;refine⟨.inl q,?_⟩;have aE:=y.lt;refine bt aZ.i λgs x aF j N=>?_;refine⟨.inl (q.trans j),?_⟩;have aG:=q.size;exact ae (w2:=w2) (q.trans j) Ω Ω Ω (y.ext j) N rfl rfl λw' O P Q=>ac _ _ _ ⟨O,e,gs,rfl,rfl,Ω,Ω,Ω,P,Q⟩
 .refine bt aZ.i λgs w2 aF q y=>?_;refine⟨.inl q,?_⟩;have aE:=y.lt;refine bt aZ.i λe x aD j N=>?_;refine⟨.inl (q.trans j),?_⟩;have aG:=q.size;exact ae (w2:=w2) (q.trans j) Ω Ω Ω N (y.ext j) rfl rfl λw' O P Q=>ac _ _ _ ⟨O,e,gs,rfl,rfl,Ω,Ω,Ω,P,Q⟩
end
theorem Qw {p bf:x1} {L:List lx} {a:dk} {part:Int} {Q:x1->x3->Prop} (S:∀w',Ext w w'->Q (.bool true) w') (bg:aF .u8 w p pl) (bh:∀b∈pl,0<=b/\b<256) (C:Seen ek w [bf] L) (b9:∀x∈L,(l4 x).ok) (cb:a.ok) (cc:0<=part/\part<65536) (bi:eX w) (an:Laid w):
  ai x7 yM [p,bf,.agg a.bD.toArray,.int .u16 part] w Q:=by
 have dW:=xy an;obtain⟨cd,ce⟩:=id cb;refine aw func7 ?_;refine bn λga J dX y W=>?_;have W:aa J ga aZ [.int .u8 a.d,Δ a.i,Δ a.pos,Δ a.v,Δ a.c,.bool a.jw]:=W;have dZ:=W.lt;have eb:=y.size;refine Qr (bg.ext y) bh (bi.ext y) (an.ext y) ?_ ?_
 .intro g w' bj;rw[bF,V0,bO,dp dO.u];exact S _ (y.trans bj)
 intro f ab ad am Z aH ec ao ap bk cg;rw[bF,Y5,aW];have aq:=y.trans ap;refine (xt (bg.ext aq) bh (bi.ext aq)).mono ?_;rintro _ av _ ⟨ax,ed,bI,ee,rfl,⟨ch,cj⟩,ck,cl⟩;rw[hR,hS,hT];refine bt aG.i λgy ay ef cm cn=>?_;refine bT (vs:=bI) aG.i ch rfl cj cn λbl cp eg cq=>?_;have bm:Ext av bl:=cm.put cp Ω;have aA:=ax.trans bm;have cr:=cl f ao (Qb (by rw[j5];omega) ao);rcases ck with⟨h,_⟩|⟨_,ct,cu,cw⟩
 .rw[cr] at h;cases h
 obtain rfl:f=ct:=c7 (ao.symm.trans cu);have z5:=ap.size;have eh:=ax.size;have cz:=bk.lt;obtain⟨iy,iz,gF,jY,rfl,cA,bp⟩:=EX cw bm cq Ω ax.size Ω (an.ext (aq.trans aA));have bq:jx J bl ab ad am iy iz gy (df f) (dj (df f)) (dj (df f)):=⟨ap.trans aA,Z,aH,gF,jY,bk.ext aA,cA,λr h k=>by have:=cz r h;have:=bp r k;omega,λr h=>h.elim (cg r) λh=>by have:=bp r h;omega⟩;generalize df f=n at*;have br:=bd C y;rw[fC pQ.u (bd br bq.1)];refine ci.range L.length (λi av=>∃s,jx J av ab ad am iy iz gy n s s) (nx C) ⟨_,bq⟩ ?_ ?_
 .rintro i aB cB hi ⟨s,z⟩ aC;obtain⟨x,bu⟩:=aE (l:=L) hi;have bw:=b9 x (x5 bu);refine bH Ω ?_;refine dm (λay=>∃s,jx J ay ab ad am iy iz gy n s s) (λay cD=>by rw[aM];exact aC _ cD) λau M=>?_;refine Qs (bd br z.1) bu λfk ei E ej bz=>?_;rw[aQ,ah];refine⟨λ_=>?_,λ_=>M _ ⟨s,z.ext E⟩⟩;rw[bx aZ.p aZ.i rfl bz.range];obtain⟨em,X,aD,aI,aK,en,eo,ep,er⟩:=z.ext E;have es:∀r,X r->r<aB.heap.size\/aB.heap.size<=r:=λr _=>Ω
  obtain⟨bA,et,cE,cF,cG,Y,ac,N,A⟩:=id z;have cH:=Y.lt;refine (ri (Y.ext E) bw).mono ?_;rintro v bB _ ⟨_,aL,cI,bC,cJ⟩;have cK:=bz.U aL λh=>by have:=cH fk h.1;omega
  have cL:=ac.lt;have z12:=E.size;have cM:Ext J bB:=(bA.trans E).then aL λr e h=>by have:=A r (.inl h.1);omega
  have cN:jx J bB ab ad am iy iz gy n (kH n s (l4 x)) s:=⟨cM,cI,cE,cF,cG,cJ,(ac.ext E).side aL (λr e h=>N r h.1 e) (λh=>by have:=A 0 (.inl h.1);omega),λr h k=>(bC r h).elim (λh=>N r h k) λh=>by have:=cL r k;omega,λr h=>h.elim (λh=>(bC r h).elim (λh=>A r (.inl h)) λh=>by have:=bA.size;omega) λh=>A r (.inr h)⟩;rw[bx aZ.p aZ.i rfl cK.range];exact (cN.symm.do Ω bw).mono λv eu _ C=>M _ ⟨_,C.2.symm⟩
 rintro aB cB ⟨s,z⟩;refine ca Ω ?_;have bE:=W.ext z.1;have cO:∀ {w:x3} {d:Int} {K:x1->Prop},0<=d->V x7 (aJ .rem cC false true (.int .u8 d) (.int .u8 4)) w K=K (.int .u8 (d % 4)):=λC=>by
  rw[nq Φ,Int.tmod_eq_emod_of_nonneg C]
 rw[az aZ.p 0 bE rfl,cO cd.1,aP aZ.p rfl];refine bo (o:=0+0) cC.i rfl rfl bE Ξ λbG aN ev ae=>?_;have ew:=Int.emod_lt_of_pos a.d (show (0:Int)<4 by decide);have bJ:=Int.emod_nonneg a.d (show (4:Int)≠0 by decide);obtain⟨a0,bK⟩:∃a0:dk,a0=⟨a.d % 4,a.i,a.pos,a.v,a.c,a.jw⟩:=⟨_,rfl⟩;have cP:a0.ok:=by rw[bK];exact⟨⟨bJ,by show a.d % 4<256;omega⟩,ce⟩
 have ae:aa bG ga aZ [.int .u8 (a.d % 4),Δ a.i,Δ a.pos,Δ a.v,Δ a.c,.bool a.jw]:=ae;have cQ:(x1.agg #[V5 .u8 (a.d % 4),Δ a.i,Δ a.pos,Δ a.v,Δ a.c,.bool a.jw])= .agg a0.bD.toArray:=by rw[bK];rfl
 obtain⟨cR,bL,ey,aO,ez,Y,ac,N,A⟩:=id z;have bM:∀r,bL r\/aO r->r≠ga:=λr h he=>by have:=A r h;omega
 have q:=Y.side aN (λr e h=>bM r (.inl e) h) (λh=>by have h:0=ga:=h;omega);have G:=ac.side aN (λr e h=>bM r (.inr e) h) (λh=>by have h:0=ga:=h;omega);have cS:Ext w bG:=(y.trans cR).then aN λr e h=>by have h:r=ga:=h;omega
 obtain⟨af,cT,cV,_⟩:=q.ok;have eA:=q.live.2;have eB:=af.fV;refine q.look.load λdC cW=>?_;rw[bx aZ.p aZ.i rfl ae.range];have bN:=ES cW af cT cP;rw[<-cQ] at bN;refine bN.mono ?_;rintro _ aR _ ⟨rfl,ag⟩;obtain⟨c,cX⟩:∃c,l5 n.k s a0=c:=⟨_,rfl⟩;rw[cX];have q:=q.ext ag;have G:=G.ext ag;have aj:=ae.ext ag;have bP:=cS.trans ag;refine aT (λr w'=>aR=w'/\ ∃b,r= .bool b/\(b=false->1<=c/\c<n.k)) ?_ λau M=>?_
 rotate_left
 .rw[aQ,ah];refine⟨λ_=>M _ _ ⟨rfl,true,rfl,λh=>by cases h⟩,λh1=>?_⟩;obtain⟨_,_,_,_,_,_,cY,_⟩:=q.look;rw[az aG.p 0 cY rfl,cU];exact M _ _ ⟨rfl,_,rfl,λh=>by have:=of_decide_eq_false h;omega⟩
 rintro _ _ ⟨rfl,b,rfl,cZ⟩;rw[b0];refine⟨λ_=>S _ bP,λc0=>?_⟩;obtain⟨eC,eD⟩:=cZ c0;obtain⟨one,c3⟩:∃one,one=1+part % c:=⟨_,rfl⟩;have eE:=Int.emod_nonneg part (show c≠0 by omega);have eF:=Int.emod_lt_of_pos part (show 0<c by omega);rw[e3 u2.u ak.u,wrap_i64 Ω Ω,nq Ω,Int.tmod_eq_emod_of_nonneg cc.1,aM,wrap_i64 Ω Ω,<-c3,az aZ.p 0 aj rfl,az aZ.p 1 aj rfl,az aZ.p 2 aj rfl,az aZ.p 3 aj rfl,dq (cs:=#[.int .u8 (a.d % 4),Δ a.i,Δ a.pos,Δ a.v,Δ c,.bool false]) Ψ];obtain⟨j,B⟩:∃b:dk,b=⟨a.d % 4,a.i,a.pos,a.v,c,false⟩:=⟨_,rfl⟩;have c4:(x1.agg #[V5 .u8 (a.d % 4),Δ a.i,Δ a.pos,Δ a.v,Δ c,.bool false])= .agg j.bD.toArray:=by rw[B];rfl
 rw[c4];have aS:∀x:Int,0<=x/\x<=c->({j with c:=x}:dk).ok:=λx bj=>by rw[B];exact⟨⟨bJ,by show a.d % 4<256;omega⟩,by show-9223372036854775808<=x/\x<9223372036854775808;omega⟩
 refine bt aZ.i λaU eH eI c5 c6=>?_;refine bT (vs:=j.bD) aZ.i rfl rfl (dk.one _) c6 λc8 c9 eJ aV=>?_;have bQ:Ext aR c8:=c5.put c9 Ω;have eK:=bQ.size;refine twins aV rfl (dk.one _) λaX gs eL bR bS eM eN bU bV=>?_;have eO:=bU.lt;have eP:=bV.lt;have eQ:=aV.lt;rw[dR,wrap_i64 Ω Ω,aP aZ.p rfl];refine bo (o:=0+4) ak.i rfl rfl bU (by simp[dk.bD]) λeR aY eS da=>?_;rw[aP aZ.p rfl];refine bo (o:=0+4) ak.i rfl rfl (bV.U aY λh=>bS (Eq.symm h)) (by simp[dk.bD]) λal a1 eU a2=>?_;have db:aa al aX aZ ({j with c:=one}:dk).bD:=da.U a1 bS;have a2:aa al gs aZ ({j with c:=c-one}:dk).bD:=a2;have a6:Ext aR al:=((bQ.trans bR).put aY Ω).put a1 Ω;have dc:aa al aU aZ j.bD:=((aV.ext bR).U aY λh=>by have h:aU=aX:=h;omega).U a1 λh=>by have h:aU=gs:=h;omega
 have a7:=q.lt;have bW:=G.lt;refine (q.ext a6).copy λfk eV O dd=>?_;have a8:=a6.trans O;have q:=q.ext a8;have G:=G.ext a8;have eW:=a6.size;have z25:=O.size;have de:=bP.trans a8;rw[bx aZ.p aZ.i rfl (dc.ext O).range];refine (ri q (by have:=aS c Ω;rw[B] at this ⊢;exact this)).mono ?_;rintro _ dg _ ⟨rfl,H,ba,dh,P⟩;have R:∀r,bL r\/aO r->w.heap.size<=r:=λr h=>by have:=A r h;omega
 have di:Ext w dg:=de.then H λr e h=>by have:=R r (.inl h.1);omega
 have dl:=dd.U H λr h=>⟨h.2,.inl (by have:=a7 r h.1;omega)⟩;have dn:=G.side H (λr e h=>N r h.1 e) (λh=>by have:=R 0 (.inl h.1);omega);have dr:=(db.ext O).U H λh=>by have:=a7 aX h.1;omega
 have ds:=(a2.ext O).U H λh=>by have:=a7 gs h.1;omega
 obtain⟨dt,eY,du,_⟩:=P.ok;have eZ:=P.live.2;rw[bF,Y5,aW];refine P.look.load λdY dv=>?_;refine dl.look.load λe0 dw=>?_;refine (Pt dv dw dt af (EZ du) (EZ cV) ⟨Ω,Ω⟩).mono ?_;rintro _ e1 _ ⟨rfl,I⟩;have bb:=di.trans I;rw[ah];refine⟨λ_=>S _ bb,λdx=>?_⟩;have dy:kH n s j≠s:=λh=>dx (by rw[h]);have aC:j.kind<4:=by
  rw[B];unfold dk.kind;show (a.d % 4 % 6).toNat<4;omega
 have dz:=Qv (fi:={j with c:=one}) (se:={j with c:=c-one}) (one:=one) af aC (by rw[B]) (by rw[B];show 0<=one/\one<=c;omega) rfl (by rw[B]) dy;have dA:=P.ext I;have dD:=dn.ext I;have e2:=H.size;refine aT (λr w'=>r= .bool false/\Ext w w'/\ ∃X aD aI aK,ea X aD w' ab ad am n (kH n s j)/\ea aI aK w' iy iz gy n (kH n s j)) ?_ λe4 dE=>?_
 .rintro _ e5 ⟨rfl,dF,X,aD,aI,aK,bX,bY⟩;rw[aW];refine aT (λr w'=>r= .bool true/\Ext w w') (λ_ w' h=>by rw[h.1];exact S _ h.2) λe6 dG=>?_;refine bX.facts.mono ?_;rintro e7 e8 _ ⟨bZ,g1,dH,_⟩;refine (bY.ext bZ).facts.mono ?_;rintro e9 fa _ ⟨b1,fb,dI,_⟩;refine (zO (dH.ext b1).ls dI.ls).mono ?_;rintro _ fc _ ⟨rfl,dJ⟩;have bc:=(bZ.trans b1).trans dJ;rw[decide_eq_true rfl,bO];refine (bX.ext bc).EY λfd b2=>?_;rw[bO];refine (bY.ext (bc.trans b2)).EY λfe dK=>?_;exact dG _ _ ⟨rfl,((dF.trans bc).trans b2).trans dK⟩
 rw[bx aZ.p aZ.i rfl (dr.ext I).range];refine (ri dD (aS one Ω)).mono ?_;rintro _ dL _ ⟨rfl,be,b3,b4,dM⟩;have ff:=I.size;have dN:=(ds.ext I).U be λh=>by have:=bW gs h.1;omega
 have dP:=P.lt;have b5:∀r,ba r->¬aO r:=λr h k=>(dh r h).elim (λh=>N r h k) λh=>by have:=bW r k;omega
 have dQ:=dA.side be (λr e h=>b5 r e h.1) (λh=>by have:=R 0 (.inr h.1);omega);have dS:Ext w dL:=bb.then be λr e h=>by have:=R r (.inr h.1);omega
 rw[bF,Y5,aW,bx aZ.p aZ.i rfl dN.range];refine (ri dM (aS (c-one) Ω)).mono ?_;rintro _ fg _ ⟨rfl,b6,dT,fh,b7⟩;rw[dz] at b7;have dU:∀r,ba r->¬b3 r:=λr h k=>(b4 r k).elim (λk=>b5 r h k) λk=>by have:=dP r h;omega
 have b8:∀r,b3 r->w.heap.size<=r:=λr h=>(b4 r h).elim (λh=>R r (.inr h)) λh=>by have:=bb.size;omega
 have dV:=dQ.side b6 (λr e h=>dU r e h.1) (λh=>by have:=b8 0 h.1;omega);rw[bF,Y5];exact dE _ _ ⟨rfl,dS.then b6 λr e h=>by have:=b8 r h.1;omega,ba,_,dT,_,dV,b7⟩
theorem Qx {p a:x1} {L:List lx} {e:Array x1} {y:lx} {part:Int} (f:aF .u8 w p pl) (h:∀b∈pl,0<=b/\b<256) (j:Seen ek w [a] L) (q:∀x∈L,(l4 x).ok) (r:Seen ek w e.toList y) (s:(l4 y).ok) (z:0<=part/\part<65536) (A:eX w) (B:Laid w):
  ai x7 yM [p,a,.agg e,.int .u16 part] w λv w'=>v= .bool true/\Ext w w':=by
 rw[Qu r];exact Qw (λw' C=>⟨rfl,C⟩) f h j q s z A B
end Go.Proofs.YtjjhhcfgfdepdaaGreatDoor
