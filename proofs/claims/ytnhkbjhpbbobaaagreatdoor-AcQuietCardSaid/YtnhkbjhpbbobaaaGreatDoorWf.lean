/- own texts, made small by a tool (wip/ holds them as they were written): no statement of the seat. -/
import Derived.Test.YtnhkbjhpbbobaaaGreatDoorWe
set_option linter.unusedVariables false
set_option linter.unusedSimpArgs false
set_option linter.unnecessarySimpa false
open Array renaming getElem?_eq_some_iff→j9
open Bool renaming false→rs,true→ro,not_true→X1,not_false→W7,or_eq_false_iff→U4,and_eq_true→T1,true_and→S0
open Decidable renaming not_not→X5
open Go renaming Value→x1,World→x4,TypeId→p9,IntKind→o7
open Go.Builtin renaming len_→V7
open Go.Instr renaming loadAt→u5,fieldAt→u7,storeAt→n9,indexAt→Z0,alloc→P7
open Go.IntKind renaming i64→W6,u64→T7
open Go.Proofs.Tryz renaming prog→x8
open Int renaming toNat_natCast→u6,eq_ofNat_of_zero_le→V3,le_refl→S8
open List renaming getElem?_eq_some_iff→x5,mem_of_getElem?→x6,getElem?_eq_getElem→x7,getElem?_map→v8,getD_eq_getElem?_getD→u4,length_map→u9,take_add_one→r8,length_append→r9,replicate→o4,length_set→o5,take_length→o6,length_take→o8,getElem?_set_self→l9,mem_map→j0,mem_append→j4,take_of_length_le→j5,mem_singleton→j6,eq_nil_of_length_eq_zero→c9,length_cons→Z4,map_append→Z5,getElem?_append_right→Z7,getElem?_set_ne→Z9,getElem?_append_left→Y2,getElem?_eq_none→Y4,getElem?_set→Y6,ext_getElem?→X3,mem_iff_getElem?→X6,drop_eq_getElem_cons→X8,append_assoc→X9,range→W3,append_nil→W5,flatMap_cons→W9,mem_cons→V4,length_eq_one_iff→V6,foldl_cons→V8,length_singleton→U2,mem_of_mem_take→U3,map_set→T2,map_cons→T3,set_append_right→T4,mem_range→T6,mem_filter→S1,map_map→S5,length→R6,foldl_append→Q0,sum_cons→Q2,length_nil→Q7,length_filter_le→Q8
open Nat renaming le_refl→p8,mul_le_mul_right→Y5,le_trans→Y9,zero_le→X7,zero_add→W0,sub_self→W8,add_mul→U7,mul_one→T5,lt_of_lt_of_le→S3,pow_le_pow_right→S4,min_eq_left→Q6,eq_zero_or_pos→P8
open Option renaming toList_some→o9,isNone_some→Z3,map_some→Y3,map_eq_some_iff→X0,getD_some→V9,isSome_some→S9,isSome_none→Q5
open Option.some renaming inj→Z6
open Prod.mk renaming injEq→S7
set_option maxHeartbeats 16000000
open Option renaming some→σ,none→ν
variable{U aa w:x4}{l pl:Λ}{k v:Int}{j pos:Nat}{O:List Nat}{a:x1}
namespace Go.Proofs.YtnhkbjhpbbobaaaGreatDoor
open Go Go.Vc Go.RowKit Go.Proofs Go.Proofs.Tryz
set_option maxRecDepth 100000
section
variable{ao:List aw}{w:x4}{ad ae:Nat}{A R:ah}{n:aI}{s:am}{t:aw}{a:fI}
theorem cM.step{aK:ah}{s':am}{bn:aw}(h:bt w ad ae A R n s t)(j:Laid w)(f:¬A 0)(a:Ext w U)(p:af (er U) U aa)(e:Grow A U aK aa)(q:bt aa ad ae aK R n s' bn)(r:dN ao bn):cM ao w ad ae A R n s' aa:=by
 refine⟨jp a p,iu e.1 f (j.W a),aK,bn,(Grow.W a).F e,q,r,λx=>(e.2.1 0 x).elim f λy=>?_⟩;obtain⟨z,B,C,E,⟨h1,_⟩,_⟩:=h.1;have:=h.lt (.inl h1);have:=a.size;omega
theorem y9(hk:a.kind=2):bg n.k s a=match io s a.i with
  |none=>(s,1)
  |some x=>if dd n.k a.c (jb x)≠0 then(s,dd n.k a.c (jb x))else(iC s a.i.toNat x (λg=>cU n.k g a.c) λg=>cm n.k g a.c,0):=by
 unfold bg io;rw[m5 Ω,m5 Ω,m3 hk];cases (if 0<=a.i then s.d6[a.i.toNat]? else ν)with
 |none=>rfl
 |some x=>
  simp only;by_cases e:x.gone=0
  .rw[m5 Ω,m3 e]
  .rw[m3 e,m5 e]
theorem za(hk:a.kind=3):bg n.k s a=match io s a.i with
  |none=>(s,1)
  |some x=>if dd n.k a.c (if aC x=[]then-1 else s.zero)≠0 then(s,dd n.k a.c (if aC x=[]then-1 else s.zero))else(iC s a.i.toNat x (λg=>cm n.k g a.c) λg=>cU n.k g a.c,0):=by
 unfold bg io;rw[m5 Ω,m5 Ω,m5 Ω,m3 hk];cases (if 0<=a.i then s.d6[a.i.toNat]? else ν)with
 |none=>rfl
 |some x=>
  simp only;by_cases e:x.gone=0
  .rw[m5 Ω,m3 e]
  .rw[m3 e,m5 e]
theorem Gl(hk:a.kind=2)(h:bt w ad ae A R n s t)(M:Laid w)(Y:¬A 0)(Z:dN ao t):al x8 IE [Γ ad,Δ a.i,Δ a.c] w (pU ao w ad ae A R n s a):=by
 have E:=h.2.2.2.1;have f:=y9 (n:=n) (s:=s) hk;refine iK func77 ?_;refine bo λg1 U bD az G=>?_;refine bo λaA aa bE ab H=>?_;have G:=ag.W G ab;have H:=H;have ac:=az.F ab;have bG:=az.size;have bH:=ab.size;have bI:=G.lt;have bJ:=H.lt;rw[aD Ψ (G.cell rfl),aD Ψ (H.cell rfl)];refine(Gj (h.W ac)).Y ?_;rintro _ bK _ ⟨ah,rfl⟩;have a1:=ac.F ah;have z3:=ah.size;cases B:io s a.i with
 |none=>
  rw[B]at f;rw[m5 Ξ,bF,ak];refine⟨λ_=>?_,λh=>m6 Φ h⟩;intro a2 a6 _;exact⟨by rw[f],by rw[f];exact cM.same h M Y Z (a1.F a6)⟩
 |some x=>
 rw[B]at f;simp only at f;obtain⟨aB,e,bL⟩:=y8 B;obtain⟨u,hu⟩:=V3 aB;rw[hu,u6]at e;rw[hu,u6]at f;rw[m3 (by rfl),bF,ak];refine⟨λh=>m6 rfl h,λ_=>?_⟩;refine bB au.i λaE bM bN aF aG=>?_;refine bq au.i rfl rfl aG (by simp[x1.cells]) λaH ai bO N=>?_;have N:=N;have z5:=aF.size;have bP:=aG.lt;have am:=ah.F aF;have an:ag aH g1 dx [Γ ad]:=(G.W am).V ai Ω;have ap:ag aH aA aj [Δ a.i]:=(H.W am).V ai Ω;have O:=(ac.F am).then ai (by rintro r aI rfl;omega);rw[aD Ψ (an.cell rfl),aD Ψ (ap.cell rfl)];refine(jP (i:=a.i) (h.W O)).Y ?_;rintro _ bQ _ ⟨⟨b,bR,rfl,aJ⟩,aL⟩;refine(ns).Y ?_;rintro _ a7 _ ⟨a8,aM,rfl,bS,aN⟩;have aO:=ln aJ aB (show s.d6[a.i.toNat]?=σ x by rw[hu,u6];exact e);have p:=aL.F a8;have bT:=aL.size;have bU:=aN.lt;have bV:=N.lt;have aP:∀j (v:Nat),(aC x)[j]?=σ (v:Int)->(((aC x).take (j+1)).map λv=>x.un.getD v.toNat 0).foldl lx (-1)=lx ((((aC x).take j).map λv=>x.un.getD v.toNat 0).foldl lx (-1)) (x.un.getD v 0):=λj v aQ=>by
  rw[r8,aQ,o9,Z5,Q0];rfl
 refine kX.old ⟨_,rs,jX,#[Γ aM],_,_,_,_,λj I=>af (λr=>r=aE) a7 I/\ag I aE au [Δ ((((aC x).take j).map λv=>x.un.getD v.toNat 0).foldl lx (-1))],λ_ _ _=>False,rfl,(nr (g:=aM) aJ.1).s,?_,
  λ_ _ e h=>⟨h.1.W e,h.2.W e⟩,λ_ _ _ e h=>⟨h.1.F (e.V _),h.2.W e⟩,λ_ _ _ _ _ h=>h,⟨aN,M.W (O.F p)⟩,⟨af.refl _ _,N.W p⟩,?_,?_,λ_ _ h=>h.elim,λ_ _ _ h=>h.elim⟩
 .rintro _ _ _ _ ⟨_,_,_,_,rfl⟩;rfl
 .rintro _ j _ bW ⟨aS,aT⟩ ⟨aQ,rfl,v,ba,bb⟩ ⟨y,P⟩;cases bb;intro bX aU _ _;have aq:(aC x)[j]?=σ (v:Int):=by rw[<-aO,v8,ba];rfl
  have bc:=pT E e (x6 aq);have av:=y.F (aU.V _);have bd:=(O.F p).then av (by rintro r aI rfl;omega);rw[aD Ψ (((an.W p).V av Ω).cell rfl),aD Ψ (((ap.W p).V av Ω).cell rfl)];refine(pJ (h.W bd)).Y ?_;rintro _ be _ ⟨rfl,bf⟩;have bh:fj s a.i.toNat (v:Int).toNat=x.un.getD v 0:=by
   unfold fj;rw[hu,u6,e];rfl
  rw[m3 (by rw[hu];exact bc),bh,bu,bw];have J:=aU.F bf;have K:=P.W J;refine aV (λr bi=>(r= .bool (decide ((((aC x).take j).map λv=>x.un.getD v.toNat 0).foldl lx (-1)<0\/x.un.getD v 0<(((aC x).take j).map λv=>x.un.getD v.toNat 0).foldl lx (-1))))/\bi=be) ?_ λay L=>?_
  .rintro _ _ ⟨rfl,rfl⟩;rw[ak];refine⟨λQ=>?_,λS=>?_⟩
   .refine bq au.i rfl rfl K Ξ λbY bj bZ bl=>?_;have q:=(J.V _).F bj;refine⟨⟨aS.V q Ω,iu q Ω aT⟩,⟨y.F q,?_⟩,λh=>by cases h⟩;rw[aP j v aq];unfold lx at Q ⊢;rw[m3 Q];exact bl
   .refine⟨⟨aS.W J,aT.W J⟩,⟨y.F (J.V _),?_⟩,λh=>by cases h⟩;rw[aP j v aq];unfold lx at S K ⊢;rw[m5 S];exact K
  rw[aD Ψ (K.cell rfl),aR,ak];refine⟨λQ=>L _ _ ⟨by rw[m7 (Or.inl Q)],rfl⟩,λS=>?_⟩;rw[aD Ψ (K.cell rfl),aR];refine L _ _ ⟨?_,rfl⟩;congr 1;exact decide_eq_decide.2 ⟨.inr,λh=>h.resolve_left S⟩
 .rintro k aW rfl ⟨y,P⟩;rw[j5 (by rw[<-aO,u9];exact p8 _),SB λv _=>(il E e).1]at P;have aX:=(O.F p).then y (by rintro r aI rfl;omega);have aY:ag aW g1 dx [Γ ad]:=(an.W p).V y Ω;have bm:ag aW aA aj [Δ a.i]:=(ap.W p).V y Ω;rw[aD Ψ (aY.cell rfl),aD Ψ (P.cell rfl)];refine(vu (h.W aX)).Y ?_;rintro _ b0 _ ⟨aw,rfl⟩;have W:=aX.F aw;refine cW (λI=>cM ao w ad ae A R n (bg n.k s a).1 I) ?_ λay L=>?_
  .intro I bp b1 X _;obtain⟨br,bs,aK,bn,bx,bz,bA⟩:=bp;refine⟨?_,br.F (X.V _),bs.W X,aK,bn,bx.F (Grow.W X),bz.W X,bA⟩;rw[f];split
   .rfl
   .rename_i C;rw[X5.1 C]
  rw[bk,ak];refine⟨λC=>?_,λC=>L _ ?_⟩
  .obtain⟨q,hm⟩:=lr (λh=>h C);rw[aD Ψ ((aY.W aw).cell rfl),aD Ψ ((bm.W aw).Qz rfl),hu];refine(Gk (t:=t) (u:=u) (F1:=oW) (F2:=oX) (g:=λg=>cU n.k g a.c) (z:=λg=>cm n.k g a.c) (h.W W) (M.W W) Y Z e (λv B=>?_) ⟨oB E.zero q.1,λ{w A s' t}ax=>sN ax E.zero q⟩).Y ?_
   .have aZ:=il (v:=v.toNat) E e;exact⟨oA aZ ⟨q.1,yT B hm⟩,λ{w A s t}ax=>vv ax aZ q (.inr (yT B hm))⟩
   .rintro _ a2 _ bC;refine L _ ?_;rw[f,m5 (λh=>h C)];exact bC.before W
  .rw[f,m3 C];exact cM.same h M Y Z W
theorem SE{b m:Nat}{i:Int}{x:bz}(p:vf s n i b m)(hi:0<=i)(q:s.d6[i.toNat]?=σ x):b=0↔aC x=[]:=by
 have a:=ln p hi q;constructor
 .rintro rfl;rw[<-a];have:gj 0 m=[]:=List.eq_nil_iff_forall_not_mem.2 λv e=>by
   have:=(xd.1 e).2;simp at this
  rw[this];rfl
 .intro he;rw[he]at a;have e:=List.map_eq_nil_iff.1 a;refine Nat.eq_of_testBit_eq λj=>?_;rw[Nat.zero_testBit];cases f:b.testBit j with
  |false=>rfl
  |true=>
   have r:j<m:=by
    rcases Nat.lt_or_ge j m with h|h
    .exact h
    .have:=Nat.testBit_lt_two_pow (S3 p.1.2 (S4 Ω h));rw[this]at f;cases f
   have:j∈gj b m:=xd.2 ⟨r,f⟩;rw[e]at this;cases this
theorem SF(hk:a.kind=3)(h:bt w ad ae A R n s t)(G:Laid w)(H:¬A 0)(J:dN ao t):al x8 IF [Γ ad,Δ a.i,Δ a.c] w (pU ao w ad ae A R n s a):=by
 have K:=h.2.2.2.1;have f:=za (n:=n) (s:=s) hk;refine aB func78 ?_;refine(Gj h).Y ?_;rintro _ U _ ⟨L,rfl⟩;cases y:io s a.i with
 |none=>
  rw[y]at f;rw[m5 Ξ,bF,ak];exact⟨λ_=>⟨by rw[f],by rw[f];exact cM.same h G H J L⟩,λh=>m6 Φ h⟩
 |some x=>
 rw[y]at f;simp only at f;obtain⟨N,B,ah⟩:=y8 y;rw[m3 (by rfl),bF,ak];refine⟨λh=>m6 rfl h,λ_=>?_⟩;refine(sz (h.W L)).Y ?_;rintro _ aa _ ⟨rfl,Y⟩;have O:=L.F Y;refine aV (λr I=>r=Δ (if aC x=[]then-1 else s.zero)/\Ext w I) ?_ λay p=>?_
 .rintro _ ai ⟨rfl,P⟩;refine(vu (h.W P)).Y ?_;rintro _ aj _ ⟨Z,rfl⟩;have C:=P.F Z;refine cW (λI=>cM ao w ad ae A R n (bg n.k s a).1 I) ?_ λay p=>?_
  .intro I ab;refine⟨?_,ab⟩;rw[f];generalize (if aC x=[]then(-1:Int)else s.zero)=am;split
   .rfl
   .rename_i j;rw[X5.1 j]
  rw[bk,ak];refine⟨λj=>?_,λj=>p _ ?_⟩
  .obtain⟨E,hm⟩:=lr (λh=>h j);have Q:a.c<=s.zero:=by
    split at hm
    .omega
    .exact hm
   obtain⟨u,hu⟩:=V3 N;rw[hu,u6]at B;rw[hu];refine(Gk (t:=t) (u:=u) (F1:=oX) (F2:=oW) (g:=λg=>cm n.k g a.c) (z:=λg=>cU n.k g a.c) (h.W C) (G.W C) H J B (λv y=>?_) ⟨oA K.zero ⟨E.1,Q⟩,λ{w A s' t}M=>vv M K.zero E (.inr Q)⟩).Y ?_
   .have S:=il (v:=v.toNat) K B;exact⟨oB S E.1,λ{w A s t}M=>sN M S E⟩
   .rintro _ an _ ac;refine p _ ?_;rw[f,m5 (λh=>h j),hu,u6];exact ac.before C
  .rw[f,m3 j];exact cM.same h G H J C
 refine(jP (i:=a.i) (h.W O)).Y ?_;rintro _ ap _ ⟨⟨b,aq,rfl,T⟩,af⟩;refine(jj T.1).Y ?_;rintro _ au _ ⟨⟨q,rfl,V⟩,ag⟩;have W:=(O.F af).F ag;have X:=SE T N B;rw[bk,ak];refine⟨λh=>p _ _ ⟨by rw[m3 (X.1 (V.1 h))],W⟩,λh=>p _ _ ⟨by rw[m5 λe=>h (V.2 (X.2 e))],W⟩⟩
theorem Gm(hk:a.kind=4)(h:bt w ad ae A R n s t)(j:Laid w)(p:¬A 0)(f:dN ao t):al x8 IG [Γ ad,Δ a.i,Δ a.v] w (pU ao w ad ae A R n s a):=by
 have q:=h.2.2.2.1;have e:bg n.k s a=match dv s a.i a.v with
  |none=>(s,1)
  |some x=>if cm n.k s.zero (x.un.getD a.v.toNat 0)<n.k then(s,7)else(dL s a.i.toNat a.v.toNat,0):=by
  unfold bg;rw[m5 Ω,m5 Ω,m5 Ω,m5 Ω,m3 hk]<;>cases dv s a.i a.v<;>rfl
 refine aB func79 ?_;refine(y1 h).Y ?_;rintro _ U _ ⟨z,rfl⟩;cases B:dv s a.i a.v with
 |none=>
  rw[B]at e;rw[m5 Ξ,bF,ak];exact⟨λ_=>⟨by rw[e],by rw[e];exact cM.same h j p f z⟩,λh=>m6 Φ h⟩
 |some x=>
 rw[B]at e;simp only at e;obtain⟨Y,C,Z,K⟩:=jS B;rw[m3 (by rfl),bF,ak];refine⟨λh=>m6 rfl h,λ_=>?_⟩;have G:et n a.i a.v:=by
  have:=pT q C K;rwa [show((a.i.toNat:Nat):Int)=a.i by omega]at this
 refine(pJ (h.W z)).Y ?_;rintro _ aa _ ⟨rfl,L⟩;have M:fj s a.i.toNat a.v.toNat=x.un.getD a.v.toNat 0:=by
  unfold fj;rw[C]
 rw[m3 G,M,bu,bw];have H:=z.F L;refine(sz (h.W H)).Y ?_;rintro _ ab _ ⟨rfl,N⟩;have I:=H.F N;refine(sN (h.W I) q.zero (il q C)).Y ?_;rintro _ ac _ ⟨rfl,O⟩;have J:=I.F O;refine(ou (h.W J)).Y ?_;rintro _ af _ ⟨rfl,P⟩;have E:=J.F P;rw[aR,ak];refine⟨λQ=>?_,λS=>?_⟩
 .rw[m3 Q]at e;exact⟨by rw[e],by rw[e];exact cM.same h j p f E⟩
 .rw[m5 S]at e;refine(yx (h.W E) f.room).Y ?_;rintro r ag _ ⟨_,T⟩;obtain⟨rfl,V,aK,y,W,X⟩:=T G;refine⟨by rw[e],?_⟩;rw[e];exact cM.step h j p E V W X f.set
theorem SG(hk:5<=a.kind)(h:bt w ad ae A R n s t)(N:Laid w)(W:¬A 0)(X:dN ao t):al x8 IH [Γ ad,Δ a.i,Δ a.v] w (pU ao w ad ae A R n s a):=by
 have aw:=h.2.2.2.1;have q:bg n.k s a=match dv s a.i a.v with
  |none=>(s,1)
  |some x=>(gw s a.i.toNat a.v (aC x),0):=by
  unfold bg;rw[m5 Ω,m5 Ω,m5 Ω,m5 Ω,m5 Ω]<;>cases dv s a.i a.v<;>rfl
 refine iK func80 ?_;refine bo λg1 U aW Y z=>?_;refine bo λaX aa aY O B=>?_;refine bo λa1 P a2 J C=>?_;have z:ag P g1 dx [Γ ad]:=(ag.W z O).W J;have B:=ag.W B J;have C:=C;have K:=(Y.F O).F J;have a6:=Y.size;have a7:=O.size;have z3:=J.size;have ax:=z.lt;have ay:=B.lt;have az:=C.lt;rw[aD Ψ (z.cell rfl),aD Ψ (B.cell rfl),aD Ψ (C.cell rfl)];refine(y1 (h.W K)).Y ?_;rintro _ a8 _ ⟨E,rfl⟩;have Z:=K.F E;have z4:=E.size;cases Q:dv s a.i a.v with
 |none=>
  rw[Q]at q;rw[m5 Ξ,bF,ak];refine⟨λ_=>?_,λh=>m6 Φ h⟩;intro ba aA _;exact⟨by rw[q],by rw[q];exact cM.same h N W X (Z.F aA)⟩
 |some x=>
 rw[Q]at q;simp only at q;obtain⟨aB,f,bb,bc⟩:=jS Q;rw[m3 (by rfl),bF,ak];refine⟨λh=>m6 rfl h,λ_=>?_⟩;rw[aD Ψ ((z.W E).cell rfl),aD Ψ ((B.W E).Qz rfl)];refine(jP (i:=a.i) (h.W Z)).Y ?_;rintro _ bd _ ⟨⟨b,aE,rfl,ab⟩,ac⟩;refine(ns (b:=b) (n:=aE)).Y ?_;rintro _ S _ ⟨aF,ah,rfl,be,ai⟩;have aj:=ln ab aB f;have L:=(E.F ac).F aF;have bf:=ac.size;have bh:=L.size;have bi:=ai.lt;refine kX.old ⟨_,rs,jX,#[Γ ah],_,_,_,_,λj I=>dO ao w ad ae A R n w.heap.size (λr=>S.heap.size<=r) (gw s a.i.toNat a.v ((aC x).take j)) I/\af (λr=>r<w.heap.size\/S.heap.size<=r) S I,λ_ _ _=>False,rfl,(nr (g:=ah) ab.1).s,?_,
  λ_ _ f h=>⟨h.1.W f,h.2.W f⟩,λ_ _ _ f h=>⟨h.1.W f,h.2.F (f.V _)⟩,λ_ _ _ _ _ h=>h,⟨ai,N.W (K.F L)⟩,⟨dO.start h N W X (K.F L) (p8 _),af.refl _ _⟩,?_,?_,λ_ _ h=>h.elim,λ_ _ _ h=>h.elim⟩
 .rintro _ _ _ _ ⟨_,_,_,_,rfl⟩;rfl
 .rintro _ j _ bj ⟨am,aG⟩ ⟨bk,rfl,v,aH,aI⟩ ⟨G,H⟩;cases aI;intro aJ p _ _;have an:(aC x)[j]?=σ (v:Int):=by rw[<-aj,v8,aH];rfl
  have aL:et n a.i (v:Int):=by
   have:=pT aw f (x6 an);rwa [show((a.i.toNat:Nat):Int)=a.i by omega]at this
  have aZ:∀{g:Nat}{e:p9}{cs:List x1},w.heap.size<=g->g<P.heap.size->ag P g e cs->ag aJ g e cs:=λaM aN aO=>((aO.W L).V H Ω).W p;have M:=SA (s:=s) (i:=a.i.toNat) (v:=a.v) an;obtain⟨bl,bm,aP,ap,aQ⟩:=G.open;rw[aD Ψ ((aZ Ω az C).cell rfl),bF,ak];refine⟨λaR=>?_,λhe=>?_⟩
  .rw[m3 aR]at M;rw[aD Ψ ((aZ Ω ax z).cell rfl),aD Ψ ((aZ Ω ay B).cell rfl)];refine(yx (aP.W p) ap.room).Y ?_;rintro r bn _ ⟨_,aS⟩;obtain⟨rfl,aT,aK,y,aU,aq⟩:=aS aL;rw[<-M]at aq;have bp:=H.size;obtain⟨au,av,bq⟩:=aQ (jp p aT) ((Grow.W p).F aU) aq ap.set (λr h=>h) λr aM aN=>Ω
   exact⟨⟨am.V av Ω,au.2.1.1⟩,⟨au,H.F av⟩,λh=>by cases h⟩
  .rw[m5 he]at M;exact⟨⟨am.W p,aG.W p⟩,⟨by rw[M];exact G.W p,H.F (p.V _)⟩,λh=>by cases h⟩
 .rintro k br rfl ⟨G,H⟩;rw[j5 (by rw[<-aj,u9];exact p8 _)]at G;intro bs aV _;exact⟨by rw[q],by rw[q];exact G.done aV⟩
end
theorem SH{cL:x1}(h:aM .i64 w cL l)(O:l.length<=1000000):al x8 Jk [cL,Δ v] w λr I=>Ext w I/\(∃g,aA .i64 aj I g r (l.filter λy=>!decide (y=v)))/\∀q,lc r q->w.heap.size<=q:=by
 refine aB func145 ?_;rw[aY aq.u h];refine cb.range l.length (λi out f=>Ext w f/\(∃g,aA .i64 aj f g out ((l.take i).filter λy=>!decide (y=v)))/\∀r,lc out r->w.heap.size<=r) h.le ⟨Ext.refl _,⟨0,aA.nil _ _ _ _⟩,λr B=>by obtain⟨_,_,_,e,_⟩:=B;cases e⟩ ?_ ?_
 .rintro q out f C E ⟨a,⟨g,hm⟩,j⟩ G;obtain⟨y,p⟩:=aF (l:=l) E;have s:(l.take (q+1)).filter (λy=>!decide (y=v))=(l.take q).filter (λy=>!decide (y=v))++(if y≠v then[y]else[]):=by
   rw[r8,p,o9,List.filter_append];congr 1;by_cases ao:y=v<;>simp[ao]
  refine bI Ω ?_;refine aV (λx z=>Ext w z/\(∃g,aA .i64 aj z g x ((l.take (q+1)).filter λy=>!decide (y=v)))/\∀r,lc x r->w.heap.size<=r) (λ_ _ H=>by rw[aO];exact G _ _ H) λay A=>?_;rw[bi aq.u aj.i Ψ (h.W a) p,bF,ak];refine⟨λJ=>?_,λhe=>A _ _ ⟨a,⟨g,by rw[s,m5 he,W5];exact hm⟩,j⟩⟩;refine F3 a hm j ?_ λP I K L M N=>A _ _ ⟨L,⟨K,by rw[s,m3 J];exact M⟩,N⟩;have h1:=Q8 (λy=>!decide (y=v)) (l.take q);rw[o8]at h1;omega
 .rintro out f C ⟨a,hm,j⟩;rw[o6]at hm;refine cc Ω ?_;exact⟨a,hm,j⟩
theorem zb{i:Nat}{v:Int}:∀(L:Λ)(s:am)(x:bz),s.d6[i]?=σ x->(∀y∈L,0<=y)->∃m,gw s i v L={s with d6:=s.d6.set i {x with mask:=m}}/\aC {x with mask:=m}=(aC x).filter λy=>!(decide (y∈L)&& !decide (y=v))
 |[],s,x,f,_=>by
  refine⟨x.mask,?_,(List.filter_eq_self.2 λy _=>Ξ).symm⟩;have:s.d6.set i x=s.d6:=by
   apply X3;intro q;by_cases e:i=q
   .subst e;rw[l9 (x5.1 f).1,f]
   .rw[Z9 e]
  show s={s with d6:=s.d6.set i x};rw[this]
 |w::L,s,x,f,j=>by
  have hw:=j w (.head _);have z:=(x5.1 f).1;rw[gw];by_cases e:w≠v
  .rw[m3 e];have r:dL s i w.toNat={s with d6:=s.d6.set i {x with mask:=((x.mask.toNat ||| 2 ^ w.toNat:Nat):Int)}}:=by unfold dL;rw[f]
   obtain⟨m,h1,p⟩:=zb L (dL s i w.toNat) {x with mask:=((x.mask.toNat ||| 2 ^ w.toNat:Nat):Int)} (by rw[r];exact l9 z) λy a=>j y (.tail _ a);refine⟨m,?_,?_⟩
   .rw[h1,r];simp only[List.set_set]
   .rw[p,yR hw,List.filter_filter];refine List.filter_congr λy _=>?_;by_cases a:y=w
    .subst a;simp[e]
    .simp[a]
  .rw[m5 e];obtain⟨m,h1,p⟩:=zb L s x f λy a=>j y (.tail _ a);refine⟨m,h1,?_⟩;rw[p];have e:=X5.1 e;refine List.filter_congr λy _=>?_;by_cases a:y=v
   .simp[a]
   .have:y≠w:=λh=>a (h.F e);simp[a,this]
theorem filter_one(j:l.Nodup)(f:v∈l):l.filter (λy=>decide (y=v))=[v]:=by
 induction l with
 |nil=>cases f
 |cons a l p=>
  have h:=List.nodup_cons.1 j;by_cases e:a=v
  .subst e;rw[List.filter_cons_of_pos Ξ,List.filter_eq_nil_iff.2 λx q=>by simp;intro r;exact h.1 (r▸q)]
  .rw[List.filter_cons_of_neg (by simpa using e)];exact p h.2 ((V4.1 f).resolve_left (Ne.symm e))
def kQ(u:am)(a:fI):Option bz:=if 3<a.kind then dv u a.i a.v else io u a.i
section
variable{w:x4}{ad ae an:Nat}{A R:ah}{A9:Nat->ah}{aE:ah}{n:aI}{s u:am}{t:aw}{h:List aw}{cs:List x1}{a:fI}
theorem Gn{x:bz}(h:kQ u a=σ x):0<=a.i/\u.d6[a.i.toNat]?=σ x/\x.gone=0/\(3<a.kind->a.v∈aC x):=by
 unfold kQ at h;split at h
 .obtain⟨h1,e,f,j⟩:=jS h;exact⟨h1,e,f,λ_=>j⟩
 .rename_i hk;obtain⟨h1,e,f⟩:=y8 h;exact⟨h1,e,f,λh=>m6 h hk⟩
theorem SI(h:¬(0<=a.i/\a.i<u.d6.length)):kQ u a=ν:=by
 cases he:kQ u a with
 |none=>rfl
 |some x=>
  obtain⟨h1,e,_⟩:=Gn he;exact m6 ⟨h1,by have:=(x5.1 e).1;omega⟩ h
theorem SJ{x:bz}(e:0<=a.i)(f:u.d6[a.i.toNat]?=σ x):kQ u a=if x.gone=0/\(3<a.kind->a.v∈aC x)then σ x else ν:=by
 unfold kQ;by_cases hk:3<a.kind
 .rw[m3 hk];unfold dv;rw[m3 e,f];simp only[hk,true_implies]
 .rw[m5 hk];unfold io;rw[m3 e,f];simp only[hk,false_implies,and_true]
theorem SK(hk:2<=a.kind/\a.kind<=5)(h:kQ u a=ν):bg n.k u a=(u,1):=by
 unfold kQ at h;by_cases e:3<a.kind
 .rw[m3 e]at h;unfold bg;rw[m5 Ω,m5 Ω,m5 Ω,m5 Ω,h];split<;>rfl
 .rw[m5 e]at h;by_cases f:a.kind=2
  .rw[y9 f,h]
  .rw[za Ω,h]
theorem Gp{x:bz}{c:Int}(q:0<=c):jb x<c↔aC x=[]\/∃v∈aC x,x.un.getD v.toNat 0<c:=by
 unfold jb;constructor
 .intro h;cases e:aC x with
  |nil=>exact .inl rfl
  |cons b l=>
   refine .inr ?_;rw[e]at h;simp only[T3]at h;by_cases f:∀v∈b::l,c<=x.un.getD v.toNat 0
   .have:=(oz (l.map λv=>x.un.getD v.toNat 0) (x.un.getD b.toNat 0) c).2 ⟨f b (.head _),λy j=>by obtain⟨v,a,rfl⟩:=j0.1 j;exact f v (.tail _ a)⟩;omega
   .simp only[Classical.not_forall]at f;obtain⟨v,a,r⟩:=f;exact⟨v,a,Ω⟩
 .rintro (h|⟨v,a,s⟩)
  .rw[h];show(-1:Int)<c;omega
  .cases e:aC x with
   |nil=>rw[e]at a;cases a
   |cons b l=>
    rw[e]at a;simp only[T3];rcases Int.lt_or_le ((l.map λv=>x.un.getD v.toNat 0).foldl min (x.un.getD b.toNat 0)) c with ao|ao
    .exact ao
    .obtain⟨w,p⟩:=(oz _ _ _).1 ao;rcases V4.1 a with rfl|a
     .omega
     .have:=p _ (j0.2 ⟨v,a,rfl⟩);omega
def zc(n:aI)(u:am)(x:bz)(a:fI):Prop:=aC x=[]\/(a.kind=3/\u.zero<a.c)\/(a.kind=2/\∃v∈aC x,x.un.getD v.toNat 0<a.c)
theorem SL{x:bz}(hk:a.kind=2\/a.kind=3)(h:kQ u a=σ x):(¬(0<=a.c/\a.c<=n.k)->bg n.k u a=(u,3))/\((0<=a.c/\a.c<=n.k)->zc n u x a->bg n.k u a=(u,7))/\
  ((0<=a.c/\a.c<=n.k)->¬zc n u x a->bg n.k u a=(iC u a.i.toNat x (λg=>if a.kind=2 then cU n.k g a.c else cm n.k g a.c) (λg=>if a.kind=2 then cm n.k g a.c else cU n.k g a.c),0)/\(a.kind=2->∀v∈aC x,a.c<=x.un.getD v.toNat 0)/\(a.kind=3->a.c<=u.zero)):=by
 have r:io u a.i=σ x:=by unfold kQ at h;rwa [m5 Ω]at h
 rcases hk with hk|hk
 .have e:=y9 (n:=n) (s:=u) hk;rw[r]at e;simp only at e;simp only[hk];refine⟨λf=>?_,λf hi=>?_,λf hi=>?_⟩
  .have j:∀m,dd n.k a.c m=3:=λm=>by unfold dd;rw[m3 f]
   rw[j,m3 Φ]at e;exact e
  .have p:=(Gp f.1).2 (hi.elim .inl λh=>h.elim (λh=>Ω) λh=>.inr h.2);have j:∀m,m<a.c->dd n.k a.c m=7:=λm hm=>by unfold dd;rw[m5 (λh=>h f),m3 hm]
   rw[j _ p,m3 Φ]at e;exact e
  .have p:¬jb x<a.c:=λh=>hi (((Gp f.1).1 h).elim .inl λh=>.inr (.inr ⟨hk,h⟩));have j:dd n.k a.c (jb x)=0:=by unfold dd;rw[m5 (λh=>h f),m5 p]
   rw[j,m5 Φ]at e;refine⟨by rw[e];simp,λ_ v r=>?_,λh=>m6 h Φ⟩;rcases Int.lt_or_le (x.un.getD v.toNat 0) a.c with ao|ao
   .exact m6 (.inr (.inr ⟨hk,v,r,ao⟩)) hi
   .exact ao
 .have e:=za (n:=n) (s:=u) hk;rw[r]at e;simp only at e;simp only[hk];refine⟨λf=>?_,λf hi=>?_,λf hi=>?_⟩
  .have j:∀m,dd n.k a.c m=3:=λm=>by unfold dd;rw[m3 f]
   rw[j,m3 Φ]at e;exact e
  .have p:(if aC x=[]then-1 else u.zero)<a.c:=by
    by_cases q:aC x=[]
    .rw[m3 q];omega
    .rw[m5 q];rcases hi with hi|hi|hi
     .exact m6 hi q
     .exact hi.2
     .omega
   have j:∀m,m<a.c->dd n.k a.c m=7:=λm hm=>by unfold dd;rw[m5 (λh=>h f),m3 hm]
   rw[j _ p,m3 Φ]at e;exact e
  .have q:¬aC x=[]:=λh=>hi (.inl h);have w:¬u.zero<a.c:=λh=>hi (.inr (.inl ⟨hk,h⟩));have j:dd n.k a.c u.zero=0:=by unfold dd;rw[m5 (λh=>h f),m5 w]
   rw[m5 q,j,m5 Φ]at e;exact⟨by rw[e];simp,λh=>m6 h Φ,λ_=>Ω⟩
end
section
variable{w:x4}{ad ae an:Nat}{A R:ah}{A9:Nat->ah}{aE:ah}{n:aI}{s u:am}{t:aw}{h:List aw}{cs:List x1}{a:fI}
theorem SM(p:cf w ad ae an A R A9 aE n s u t h cs)(av:bd n.k n.co u)(hk:2<=a.kind/\a.kind<=5):al x8 wE [Γ an,Δ (a.kind:Int),Δ a.i,Δ a.pos,Δ a.v,Δ a.c] w λr I=>r=Δ (bg n.k u a).2/\dw w ad ae an A R A9 aE n s t h (bg n.k u a).1 I:=by
 have cr:=av.d6;have ct:=av.ft;refine aB func74 ?_;have bP:cs[0]?=σ (Δ n.k):=by obtain⟨_,_,_,_,_,_,rfl,_⟩:=p.pP;rfl
 rw[aG a6.p 0 p.box bP,aR,ak];refine⟨λh=>Ω,λ_=>?_⟩;refine aV (λr I=>r= .bool (!(kQ u a).isSome)/\Ext w I) ?_ λay a8=>?_
 rotate_left
 .rw[bL];refine p.look.load λdD cu=>?_;refine(Rq cu).Y ?_;rintro _ U _ ⟨rfl,Y⟩;rw[bC,bY];refine⟨λP=>a8 _ _ ⟨by rw[SI (λh=>by rw[cr]at h;rw[m7 h]at P;cases P)];rfl,Y⟩,λP=>?_⟩;have ba:0<=a.i/\a.i<n.co.length:=by simpa using P
  obtain⟨x,J⟩:=aF (l:=u.d6) (i:=a.i.toNat) Ω;have bp:=SJ ba.1 J;obtain⟨d9,cw,dj,aU,dk,bq,bQ,_,_,cz,cA,dl,dm,dp⟩:=(p.look).W Y;rw[aG a6.p 4 bQ rfl];refine jx (i:=a.i.toNat) rfl Ω kY.u ed.i Ψ cA (by rw[v8,J];rfl) λbS br=>?_;have br:[bS]=[x1.bool (decide (x.gone≠0))]:=br;obtain rfl:bS=x1.bool (decide (x.gone≠0)):=by simpa using br
  rw[ak];refine⟨λQ=>a8 _ _ ⟨by rw[bp,m5 λh=>Q h.1];rfl,Y⟩,λQ=>?_⟩;have Q:=X5.1 Q;rw[bO,ak];refine⟨λbs=>?_,λbs=>a8 _ _ ⟨by rw[bp,m3 ⟨Q,λh=>m6 h Ω⟩];rfl,Y⟩⟩;rw[aG a6.p 3 bQ rfl];refine jx (a:=aC x) (i:=a.i.toNat) rfl Ω dn.u aq.i Ψ cz (by rw[v8,J];rfl) λdq cB=>?_;refine(yy (dQ cB)).Y ?_;rintro _ aa _ ⟨rfl,L⟩;rw[bC];refine a8 _ _ ⟨?_,Y.F L⟩;rw[bp];by_cases H:a.v∈aC x
  .rw[m3 ⟨Q,λ_=>H⟩,m7 H];rfl
  .rw[m5 λh=>H (h.2 Ω),ms H];rfl
 rintro _ U ⟨rfl,Y⟩;cases hm:kQ u a with
 |none=>
  have f:=SK (n:=n) hk hm;rw[Q5,W7,bH];exact⟨by rw[f],by rw[f];exact dw.same p Y⟩
 |some x=>
 rw[S9,X1,aX];obtain⟨cD,J,dr,cE⟩:=Gn hm;obtain⟨C,aK⟩:=V3 cD;rw[aK,u6]at J;have bt:=(x5.1 J).1;have E:∀y∈aC x,0<=y/\y<x.un.length:=λy O=>(eZ.1 O).1;simp only[aK];have bT:∀v:Nat,0<=x.un.getD v 0/\x.un.getD v 0<=n.k:=λv=>il av J;have N:=p.W Y;have ds:=bP;have bu:∀{aa:x4}{fh:am}{bU:List x1}{bw:Nat->ah}{aL:bz},cf aa ad ae an A R bw aE n s fh t h bU->fh.d6[C]?=σ aL->∃aU aw y,aM .i64 aa y aL.un/\(∀{j:x4}{K:x1->x1->x1->x1->x1->Prop},Ext aa j->K (Γ an) (.pointer (σ ⟨an,0+5,ν⟩)) aU (.pointer (σ ⟨aw,0+C*1,ν⟩)) y->
    ab x8 (bR (Γ an)) j λaz=>ab x8 (u7 a6 az 5) j λaA=>ab x8 (u5 ev aA) j λaN=>ab x8 (Z0 ev aN (Δ (C:Int))) j λbb=>ab x8 (u5 ax bb) j λcF=>K az aA aN bb cF)/\
   ∀{I:x4}{v:Nat}{c:Int}{K:Unit->x4->Prop},Ext aa I->v<aL.un.length->(∀bW,kO aa ad ae an A R bw aE n s t h (eY fh C aL (aL.un.set v c)) bW->K () bW)->ab x8 (Z0 ax y (Δ (v:Int))) I λa=>aH x8 (n9 au a (Δ c)) I K:=λ{aa fh bU bw aL}bX B=>by
  obtain⟨aw,cG,y,cH,cI,ag,bx⟩:=y6 bX B;have cJ:=(x5.1 B).1;refine⟨.slice (σ ⟨aw,0,ν⟩) fh.d6.length cG,aw,y,ag,λ{j K}aI aW=>?_,bx⟩;rw[aG a6.p 5 (bX.box.W aI) cH,fd ev.u ax.i cJ λ_=>rfl,aD Ψ (by rw[W0,T5];exact j2 aI cI)];exact aW
 obtain⟨cK,cL,bA,b0,cM,ai,cN,b1⟩:=Si N J;have b2:∀{j:x4}{K:x1->x1->x1->Prop},Ext U j->K (Γ an) (.pointer (σ ⟨an,0+3,ν⟩)) (.slice (σ ⟨cK,0,ν⟩) u.d6.length cL)->
   ab x8 (bR (Γ an)) j λaz=>ab x8 (u7 a6 az 3) j λaA=>ab x8 (u5 dn aA) j λaN=>K az aA aN:=λaI aW=>by
  rw[aG a6.p 3 (N.box.W aI) b0];exact aW
 have pQ:∀{j:x4}{K:x1->Prop},Ext U j->K bA->
   ab x8 (bR (Γ an)) j λaz=>ab x8 (u7 a6 az 3) j λaA=>ab x8 (u5 dn aA) j λaN=>ab x8 (Z0 dn aN (Δ (C:Int))) j λbb=>ab x8 (u5 aq bb) j K:=λaI aW=>by
  rw[aG a6.p 3 (N.box.W aI) b0,fd dn.u aq.i bt λ_=>rfl,aD Ψ (by rw[W0,T5];exact j2 aI cM)];exact aW
 have low:∀{u':am}{I:x4},dw U ad ae an A R A9 aE n s t h u' I->dw w ad ae an A R A9 aE n s t h u' I:=λbc=>dw.comp (Y.V _) (λq r E=>.inl ⟨q,E⟩) bc;refine aV (λ_ I=>dw w ad ae an A R A9 aE n s t h (bg n.k u a).1 I/\(bg n.k u a).2=0) (λ_ I bc=>⟨by rw[bc.2],bc.1⟩) λcO bB=>?_;refine aV (λr I=>r= .bool (decide (a.kind=2\/a.kind=3))/\U=I) ?_ λdt b3=>?_
 rotate_left
 .rw[bk,ak];refine⟨λB=>b3 _ _ ⟨?_,rfl⟩,λB=>?_⟩
  .congr 1;exact decide_eq_decide.2 ⟨λ_=>.inl Ω,λ_=>B⟩
  .rw[bk];refine b3 _ _ ⟨?_,rfl⟩;congr 1;exact decide_eq_decide.2 ⟨λh=>.inr Ω,λh=>Ω⟩
 rintro _ _ ⟨rfl,rfl⟩;rw[ak];refine⟨λcP=>?_,λdu=>?_⟩
 .
  obtain⟨cQ,be,bD⟩:=SL cP hm;refine Bv.Y ?_;rintro _ aa _ ⟨rfl,L⟩;have dx:=L;have b4:cC a.c n.k↔0<=a.c/\a.c<=n.k:=⟨λh=>h.2,λB=>⟨ct,B⟩⟩;rw[bC,bY];refine⟨λP=>?_,λP=>?_⟩
  .have f:=cQ λh=>m6 (b4.2 h) (by simpa using P);exact⟨by rw[f],by rw[f];exact low (dw.same N L)⟩
  have ba:=b4.1 (show cC a.c n.k by simpa using P);have be:=be ba;have bD:=bD ba;refine aV (λr I=>Ext U I/\∃b,r= .bool b/\(b=ro↔aC x=[]\/(a.kind=3/\u.zero<a.c))) ?_ λdy bE=>?_
  rotate_left
  .refine pQ L ?_;rw[aY aq.u (ai.W L),bk,ak];refine⟨λhe=>bE _ _ ⟨L,ro,rfl,⟨λ_=>.inl (c9 Ω),λ_=>rfl⟩⟩,λbf=>?_⟩;have bf:aC x≠[]:=λh=>bf (by rw[h];rfl);rw[bk,ak];refine⟨λbs=>?_,λbs=>bE _ _ ⟨L,rs,rfl,⟨(λh=>by cases h),λh=>h.elim (λh=>m6 h bf) λh=>Ω⟩⟩⟩;have bF:cs[2]?=σ (Δ u.zero):=by obtain⟨_,_,_,_,_,_,rfl,_⟩:=p.pP;rfl
   rw[aG a6.p 2 (N.box.W L) bF,bO];exact bE _ _ ⟨L,_,rfl,by rw[ne];exact⟨λh=>.inr ⟨Ω,h⟩,λh=>h.elim (λh=>m6 h bf) λh=>h.2⟩⟩
  rintro _ cR ⟨aP,b,rfl,b5⟩;rw[bY];refine⟨λcS=>?_,λb6=>?_⟩
  .have f:=be ((b5.1 cS).elim .inl λh=>.inr (.inl h));exact⟨by rw[f],by rw[f];exact low (dw.same N aP)⟩
  have b7:¬(aC x=[]\/(a.kind=3/\u.zero<a.c)):=λh=>by rw[b5.2 h]at b6;cases b6
  refine pQ aP ?_;rw[aY aq.u (ai.W aP)];refine cb.range (aC x).length (λq _ I=>Ext U I/\(a.kind=2->∀v∈(aC x).take q,a.c<=x.un.getD v.toNat 0)) ai.le ⟨aP,λ_ v H=>by simp at H⟩ ?_ ?_
  .rintro q b8 aJ cT bG ⟨M,bh⟩ cV;obtain⟨v,H⟩:=aF (l:=aC x) bG;have ap:=x6 H;have bj:=E v ap;obtain⟨G,rfl⟩:=V3 bj.1;refine bI Ω ?_;rw[bi aq.u aj.i Ψ (ai.W M) H];refine aV (λr I=>aJ=I/\r= .bool (decide (a.kind=2/\x.un.getD G 0<a.c))) ?_ λdz b9=>?_
   .rintro _ _ ⟨rfl,rfl⟩;rw[ak];refine⟨λaZ=>?_,λbJ=>?_⟩
    .have f:=be (.inr (.inr ⟨aZ.1,_,ap,aZ.2⟩));exact⟨by rw[f],by rw[f];exact low (dw.same N M)⟩
    .rw[aO];refine cV _ _ ⟨M,λB y O=>?_⟩;rw[r8,H,o9,j4,j6]at O;rcases O with O|rfl
     .exact bh B y O
     .rcases Int.lt_or_le (x.un.getD G 0) a.c with ao|ao
      .exact m6 ⟨B,ao⟩ bJ
      .exact ao
   rw[bk,ak];refine⟨λB=>?_,λB=>b9 _ _ ⟨rfl,by rw[ms λh=>B Ω]⟩⟩;obtain⟨aU,aw,y,ag,look,_⟩:=bu (N.W M) J;refine look (Ext.refl _) ?_;rw[bi ax.u au.i Ψ ag (getD_some (i:=G) Ω),bO];refine b9 _ _ ⟨rfl,?_⟩;congr 1;exact decide_eq_decide.2 ⟨λh=>⟨Ω,h⟩,λh=>h.2⟩
  rintro b8 aJ cT ⟨M,bh⟩;rw[o6]at bh;have cX:¬zc n u x a:=λhi=>hi.elim (λh=>b7 (.inl h)) λh=>h.elim (λh=>b7 (.inr h)) λ⟨B,v,H,aZ⟩=>by have:=bh B v H;omega
  obtain⟨f,dA,dC⟩:=bD cX;rw[aK,u6]at f;refine cc Ω ?_;refine pQ M ?_;rw[aY aq.u (ai.W M)];obtain⟨g,Q⟩:∃g:Int->Int,g=λg=>if a.kind=2 then cU n.k g a.c else cm n.k g a.c:=⟨_,rfl⟩;obtain⟨z,bK⟩:∃z:Int->Int,z=λg=>if a.kind=2 then cm n.k g a.c else cU n.k g a.c:=⟨_,rfl⟩;rw[<-Q,<-bK]at f;have cY:=N.W M;have cZ:=ai.W M;have ca:=sJ x;obtain⟨cd,dE⟩:∃cd,bA=cd:=⟨_,rfl⟩;have c0:eY u C x (ec g x.un ((aC x).take 0))=u:=by
   unfold eY;show{u with d6:=u.d6.set C x}=u;have:u.d6.set C x=u.d6:=by
    apply X3;intro i;by_cases e:C=i
    .subst e;rw[l9 bt,J]
    .rw[Z9 e]
   rw[this]
  have c1:∀{I:x4},af (A9 2) aJ I->aM .i64 I bA (aC x):=λc2=>jk cZ c2 λr E b n c e P=>N.gX.1 0 2 r Φ (cN r ⟨b,n,c,e,P⟩) E;refine bZ.range (aC x).length (λq I=>kO aJ ad ae an A R A9 aE n s t h (eY u C x (ec g x.un ((aC x).take q))) I) ai.le (by rw[c0];exact kO.same cY (Ext.refl _)) ?_ ?_
  .rintro q bl c3 bG aQ c4;obtain⟨bm,c5,ce,aS,bM,c6⟩:=id aQ;obtain⟨v,H⟩:=aF (l:=aC x) bG;have ap:=x6 H;have bj:=E v ap;obtain⟨G,rfl⟩:=V3 bj.1;have bn:(eY u C x (ec g x.un ((aC x).take q))).d6[C]?=σ {x with un:=ec g x.un ((aC x).take q)}:=l9 bt;have dF:(ec g x.un ((aC x).take q)).length=x.un.length:=sI _ _;have bN:=vn (g:=g) ((aC x).take q) x.un (G:Int) (ca.sublist (List.take_sublist _ _)) (λy O=>E y (U3 O)) Ω;rw[m5 (y0 ca H),u6]at bN;have c7:=bT G;obtain⟨aU,aw,y,ag,look,bx⟩:=bu aS bn;refine bI Ω ?_;refine cW (λS=>kO aJ ad ae an A R A9 aE n s t h (eY u C x (ec g x.un ((aC x).take (q+1)))) S) (λS W=>by rw[aO];exact c4 _ W) λc8 da=>?_;have a1:∀{X:x4},Ext bl X->ab x8 (Z0 ax y (Δ (G:Int))) X λa'=>aH x8 (n9 au a' (Δ (g (x.un.getD G 0)))) X λ(_:Unit)S=>c8 S:=λbo=>by
    refine bx bo (by show G<(ec g x.un ((aC x).take q)).length;omega) λS W=>da _ (kO.comp bm bM c6 ?_);have e:eY (eY u C x (ec g x.un ((aC x).take q))) C {x with un:=ec g x.un ((aC x).take q)} ((ec g x.un ((aC x).take q)).set G (g (x.un.getD G 0)))=eY u C x (ec g x.un ((aC x).take (q+1))):=by
     rw[Gg H,u6,bN];unfold eY;simp only[List.set_set]
    rw[e]at W;exact W
   have cg:(ec g x.un ((aC x).take q))[G]?=σ (x.un.getD G 0):=by rw[getD_some Ω,bN]
   rw[bi aq.u aj.i Ψ (c1 bm) H,bk,ak];refine⟨λB=>?_,λB=>?_⟩
   .intro j Z _ _;refine look Z (look Z ?_);rw[bi ax.u au.i Ψ (ag.W Z) cg];refine(vy Ω Ω).Y ?_;rintro _ X _ ⟨rfl,ac⟩;refine⟨.inl ac,?_⟩;have:=a1 (Z.F ac);rw[Q]at this;simp only[m3 (show a.kind=2 by omega)]at this;exact this
   .intro j Z _ _;refine look Z (look Z ?_);rw[bi ax.u au.i Ψ (ag.W Z) cg];refine(pu Ω Ω).Y ?_;rintro _ X _ ⟨rfl,ac⟩;refine⟨.inl ac,?_⟩;have:=a1 (Z.F ac);rw[Q]at this;simp only[m5 (show¬a.kind=2 by omega)]at this;exact this
  .rintro bl c3 aQ;rw[o6]at aQ;refine cc Ω ?_;have aQ:=aQ.F6;obtain⟨bm,c5,ce,aS,bM⟩:=id aQ;have ch:ce[2]?=σ (Δ u.zero):=by obtain⟨_,_,_,_,_,_,rfl,_⟩:=aS.pP;rfl
   have db:=av.zero;have a1:∀{X:x4},Ext bl X->aH x8 (n9 au (.pointer (σ ⟨an,0+2,ν⟩)) (Δ (z u.zero))) X λ(_:Unit)S=>cO b8 S:=λbo=>by
    refine Sh (aS.W bo) λS W=>bB _ _ ⟨?_,by rw[f]⟩;rw[f];have ci:=dw.comp (bo.V _) (λq r E=>.inl ⟨q,E⟩) W;have a2:=dw.comp bm bM ci;exact low (dw.comp (M.V _) (λq r E=>.inl ⟨q,E⟩) a2)
   rw[bk,ak];refine⟨λB=>?_,λB=>?_⟩
   .rw[aG a6.p 2 aS.box ch];refine(pu Ω Ω).Y ?_;rintro _ X _ ⟨rfl,ac⟩;rw[bL,aT a6.p rfl];have:=a1 ac;rw[bK]at this;simp only[m3 (show a.kind=2 by omega)]at this;exact this
   .rw[aG a6.p 2 aS.box ch];refine(vy Ω Ω).Y ?_;rintro _ X _ ⟨rfl,ac⟩;rw[bL,aT a6.p rfl];have:=a1 ac;rw[bK]at this;simp only[m5 (show¬a.kind=2 by omega)]at this;exact this
 .
  have cj:3<a.kind:=Ω
  have ap:=cE cj;obtain⟨G,bq⟩:=V3 (E _ ap).1;have bj:=(E _ ap).2;have ck:dv u a.i a.v=σ x:=by unfold kQ at hm;rwa [m3 cj]at hm
  rw[bk,ak];refine⟨λa2=>?_,λa2=>?_⟩
  .have a2:a.kind=4:=Ω
   have f:bg n.k u a=if cm n.k u.zero (x.un.getD a.v.toNat 0)<n.k then(u,7)else(dL u a.i.toNat a.v.toNat,0):=by
    unfold bg;rw[m5 Ω,m5 Ω,m5 Ω,m5 Ω,m3 a2,ck]
   have db:=av.zero;have c7:=bT G;intro aa L _ _;have bF:cs[2]?=σ (Δ u.zero):=by obtain⟨_,_,_,_,_,_,rfl,_⟩:=p.pP;rfl
   obtain⟨aU,aw,y,ag,look,_⟩:=bu (N.W L) J;rw[aG a6.p 2 (N.box.W L) bF];refine look (Ext.refl _) ?_;rw[bq,bi ax.u au.i Ψ ag (getD_some Ω)];refine(pu Ω Ω).Y ?_;rintro _ cR _ ⟨rfl,aP⟩;have cl:=L.F aP;rw[bq,u6]at f;unfold cm at f;rw[aR,ak];refine⟨λaZ=>?_,λbJ=>?_⟩
   .rw[m3 aZ]at f;exact⟨by rw[f],by rw[f];exact low (dw.same N cl)⟩
   .rw[m5 bJ]at f;intro aJ M _ _;have a7:=cl.F M;refine b2 a7 ?_;refine pQ a7 ?_;have dG:=qV x;have dc:=av.eD.2.2;refine(SH (ai.W a7) (by
     obtain⟨cn,cp⟩:=aF (l:=n.co) (i:=C) Ω;have h1:=(av.var C x cn J cp).1;have B:=dc cn (x6 cp);omega)).Y ?_
    rintro cw bl _ ⟨bn,⟨gz,dd⟩,de⟩;refine⟨.inl bn,?_⟩;have df:=a7.F bn;have dH:=a7.size;refine b1 (m:=((x.mask.toNat ||| 2 ^ G:Nat):Int)) df (gz:=gz) (by rw[show G=(G:Int).toNat from rfl,yR Ω];exact dd) (λr E=>by have:=de r E;omega) λS W=>bB _ _ ⟨?_,by rw[f]⟩;rw[f,aK,u6];unfold dL;rw[J];exact low W
  .have ci:a.kind=5:=Ω
   obtain⟨m,dg,dh⟩:=zb (i:=a.i.toNat) (v:=a.v) (aC x) u x (by rw[aK,u6];exact J) λy O=>(E y O).1;have f:bg n.k u a=(gw u a.i.toNat a.v (aC x),0):=by
    unfold bg;rw[m5 Ω,m5 Ω,m5 Ω,m5 Ω,m5 Ω,ck]
   have di:aC {x with mask:=m}=[a.v]:=by
    rw[dh,<-filter_one (sJ x) ap];refine List.filter_congr λy O=>?_;rw[m7 O,S0,Bool.not_not]
   rw[bk,ak];refine⟨λ_=>?_,λh=>Ω⟩;refine b2 (Ext.refl _) ?_;refine eB aq.u aj.i rfl λv4 dI aJ dJ M cq=>?_;refine b1 M (by rw[di];exact cq) (λr E=>by have:=bV cq E;omega) λS W=>bB _ _ ⟨?_,by rw[f]⟩;rw[f,dg,aK,u6];exact low W
end
def ip(A R:ah)(A9:Nat->ah)(aE:ah)(an:Nat)(r:Nat):Prop:=A r\/R r\/(∃q,A9 q r)\/aE r\/r=an
section
variable{P:ah}{fo w I:x4}{ad ae an Vl Vm Vn:Nat}{A R aK R':ah}{A9 cq:Nat->ah}{aE yS:ah}{n:aI}{s s':am}{t bn:aw}{h aW:List aw}{cs cd:List x1}{m bP:Nat}
variable{Z iE:ah}
end
theorem sU(h:Laid w):0<w.heap.size:=by
 rcases P8 w.heap.size with e|e
 .have a:=h 0 _ rfl;unfold x4.cell? at a;rw[Array.getElem?_eq_none Ω]at a;cases a
 .exact e
def fk(Z aE:ah)(w:x4)(ad ae an:Nat)(n:aI)(s:am):Prop:=∃A R A9 t cs,cf w ad ae an A R A9 aE n s s t [] cs/\(Laid w/\¬Z 0)/\(b2 s/\dB (dh n) s/\n.d7.length<=256)/\(∀r,Z r↔ip A R A9 aE an r)/\∀q r,A9 q r->r<w.heap.size
section
variable{Z aE S:ah}{w I U:x4}{ad ae an:Nat}{A R:ah}{A9:Nat->ah}{n:aI}{s u:am}{t:aw}{cs:List x1}
theorem fk.W(h:fk Z aE w ad ae an n s)(a:Ext w I):fk Z aE I ad ae an n s:=by
 obtain⟨A,R,A9,t,cs,p,⟨e,f⟩,j,x,y⟩:=h;exact⟨A,R,A9,t,cs,p.W a,⟨e.W a,f⟩,j,x,λq r z=>by have:=y q r z;have:=a.size;omega⟩
theorem fk.side(h:fk Z aE w ad ae an n s)(e:af S w I)(x:∀r,Z r->¬S r)(y:¬S 0):fk Z aE I ad ae an n s:=by
 obtain⟨A,R,A9,t,cs,p,⟨z,B⟩,C,j,E⟩:=h;refine⟨A,R,A9,t,cs,p.side e λr _ f=>?_,⟨iu e y z,B⟩,C,j,λq r f=>by have:=E q r f;have:=e.size;omega⟩;have a:∀{X:Prop},(X->ip A R A9 aE an r)->¬X:=λF h=>x r ((j r).2 (F h)) f;exact⟨a .inl,a λh=>.inr (.inl h),λq=>a λh=>.inr (.inr (.inl ⟨q,h⟩)),a λh=>.inr (.inr (.inr (.inl h))),a λh=>.inr (.inr (.inr (.inr h)))⟩
theorem fk.ok(h:fk Z aE w ad ae an n s):bd n.k n.co s/\b2 s/\dB (dh n) s/\n.d7.length<=256:=by
 obtain⟨A,R,A9,t,cs,p,_,a,_⟩:=h;exact⟨p.eE.2.2.2.1,a⟩
theorem fk.look(h:fk Z aE w ad ae an n s):nE w an n.k n.co s:=by
 obtain⟨A,R,A9,t,cs,p,_⟩:=h;exact p.look
theorem fk.step{U:x4}(p:cf w ad ae an A R A9 aE n s u t [] cs)(f:∀r,Z r↔ip A R A9 aE an r){u':am}(E:b2 u'/\dB (dh n) u'/\n.d7.length<=256)(F:¬Z 0)(G:dw w ad ae an A R A9 aE n s t [] u' U)(j:Ext U I)(hm:cM [] I ad ae A R n u' aa):af (λr=>Z r/\¬aE r) w aa/\∃iE,(∀r,iE r->Z r\/w.heap.size<=r)/\fk iE aE aa ad ae an n u':=by
 obtain⟨B,cq,cd,H,J⟩:=G;obtain⟨x,K,aK,bn,y,L,M,S⟩:=hm;have W:=B.size;have Y:=j.size;have z3:=x.size;have z:=H.W j;have N:=z.prog x y L M.1 (λ_ h=>.inl h) (λ_ _ _ h=>h) z.box.lt;have O:=p.F0;have P:af (λr=>Z r/\¬aE r) w aa:=(((B.Y (T:=λr=>Z r/\¬aE r) λr _ h=>⟨(f r).2 (h.elim (λh=>.inr (.inr (.inl h))) λh=>.inr (.inr (.inr (.inr h)))),h.elim (λ⟨q,h⟩=>O q r h) λh aW=>(p.read r aW).2.2 h⟩)).F (j.V _)).F
  ((sK y.1 x).Y λr _ h=>⟨(f r).2 (.inl h.1),λaW=>(z.read r aW).1 h.2⟩)
 have ab:=p.box.lt;have e:∀{r:Nat}{X:Prop},(X->ip A R A9 aE an r)->X->Z r\/w.heap.size<=r:=λQ h=>.inl ((f _).2 (Q h));have C:∀r,ip aK R (λq r=>cq q r/\r<I.heap.size) aE an r->Z r\/w.heap.size<=r:=by
  intro r a;rcases a with a|a|⟨q,a,_⟩|a|a
  .exact (y.2.1 r a).elim (e .inl) λh=>.inr Ω
  .exact e (λh=>.inr (.inl h)) a
  .exact (J q r a).elim (e λh=>.inr (.inr (.inl h))) .inr
  .exact e (λh=>.inr (.inr (.inr (.inl h)))) a
  .exact e (λh=>.inr (.inr (.inr (.inr h)))) a
 exact⟨P,λr=>ip aK R (λq r=>cq q r/\r<I.heap.size) aE an r,C,aK,R,_,bn,cd,N,⟨K,λh=>(C 0 h).elim F λh=>Ω⟩,E,λr=>Iff.rfl,λq r a=>by have:=a.2;omega⟩
theorem SN(h:b2 s/\dB (dh n) s/\n.d7.length<=256)(a:bd n.k n.co s)(m:fI):b2 (bg n.k s m).1/\dB (dh n) (bg n.k s m).1/\n.d7.length<=256:=
 ⟨(yU a h.1).2.1,h.2.1.F (yZ a),h.2.2⟩
theorem SO{m:fI}(p:cf w ad ae an A R A9 aE n s u t [] cs)(a:bd n.k n.co u)(e:b2 u)(hk:m.kind<=5):al x8 wE [Γ an,Δ (m.kind:Int),Δ m.i,Δ m.pos,Δ m.v,Δ m.c] w λr I=>r=Δ (bg n.k u m).2/\dw w ad ae an A R A9 aE n s t [] (bg n.k u m).1 I:=by
 by_cases h:m.kind<2
 .exact SD p a e h
 .exact SM p a ⟨Ω,hk⟩
theorem SP{B:Nat}{e:x4}{an:Nat}{j:x1}{cs:List x1}{f:b5}(w:vt B aa j cs f)(x:Ext aa e)(y:ag e an a6 cs)(z:aa.heap.size<=an)(K:B<=aa.heap.size)(L:0<B)(C:Laid e):
  ∃ad ae Z aE,j=Γ ad/\fk Z aE e ad ae an (cP f) (dh (cP f))/\∀r,Z r->B<=r:=by
 obtain⟨ad,ae,A,R,A9,aE,t,rfl,p,_,E,F,_,_,G,_,H,I⟩:=RQ w x y z;have J:=p.olds;have s:∀r,ip A R (λq r=>A9 q r/\r<e.heap.size) aE an r->B<=r:=by
  intro r a;rcases a with a|a|⟨q,a,_⟩|a|a
  .exact E r a
  .exact I r a
  .exact F q r a
  .exact H r a
  .omega
 exact⟨ad,ae,_,aE,rfl,⟨A,R,_,t,cs,J,⟨C,λh=>by have:=s 0 h;omega⟩,⟨FZ _,dB.rfl,G⟩,λr=>Iff.rfl,λq r a=>a.2⟩,s⟩
end
section
variable{ao:List aw}{w U aa:x4}{ad ae an:Nat}{A R S Z aE:ah}{n:aI}{s s0 s1:am}{cs:List x1}
theorem cM.open(h:cM ao w ad ae A R n s1 U):∃a e,bt U ad ae a R n s1 e/\Laid U/\¬a 0/\dN ao e/\∀{f:am}{aa:x4},cM ao U ad ae a R n f aa->cM ao w ad ae A R n f aa:=by
 obtain⟨h1,j,a,e,p,q,r,s⟩:=h;refine⟨a,e,q,j,s,r,λ{f aa}k=>?_⟩;obtain⟨x,y,z,B,C,E,F,G⟩:=k;exact⟨u3 h1 x,y,z,B,p.F C,E,F,G⟩
theorem cM.W(h:cM ao w ad ae A R n s1 U)(a:Ext U aa):cM ao w ad ae A R n s1 aa:=by
 obtain⟨p,q,h1,e,f,j,k⟩:=h.open;exact k (.same h1 e f j a)
def fw(ao:List aw)(Z aE:ah)(w:x4)(ad ae an:Nat)(n:aI)(s s0:am)(cs:List x1):Prop:=∃A R A9 t,cf w ad ae an A R A9 aE n s s0 t ao cs/\(Laid w/\¬Z 0/\qY t)/\(∀r,Z r↔ip A R A9 aE an r)/\∀q r,A9 q r->r<w.heap.size
theorem fw.lt(h:fw ao Z aE w ad ae an n s s0 cs):∀r,Z r->r<w.heap.size:=by
 obtain⟨A,R,A9,t,p,_,e,f⟩:=h;intro r a;rcases(e r).1 a with a|a|⟨q,a⟩|a|a
 .exact sL p.eE r (.inl a)
 .exact sL p.eE r (.inr a)
 .exact f q r a
 .exact (p.read r a).2.1
 .subst a;exact p.box.lt
theorem fw.W(h:fw ao Z aE w ad ae an n s s0 cs)(a:Ext w U):fw ao Z aE U ad ae an n s s0 cs:=by
 obtain⟨A,R,A9,t,p,⟨e,f⟩,j,x⟩:=h;exact⟨A,R,A9,t,p.W a,⟨e.W a,f⟩,j,λq r y=>by have:=x q r y;have:=a.size;omega⟩
theorem fw.side(h:fw ao Z aE w ad ae an n s s0 cs)(e:af S w U)(x:∀r,Z r->¬S r)(y:¬S 0):fw ao Z aE U ad ae an n s s0 cs:=by
 obtain⟨A,R,A9,t,p,⟨z,B⟩,j,C⟩:=h;refine⟨A,R,A9,t,p.side e λr _ f=>?_,⟨iu e y z,B⟩,j,λq r f=>by have:=C q r f;have:=e.size;omega⟩;have a:∀{X:Prop},(X->ip A R A9 aE an r)->¬X:=λE h=>x r ((j r).2 (E h)) f;exact⟨a .inl,a λh=>.inr (.inl h),λq=>a λh=>.inr (.inr (.inl ⟨q,h⟩)),a λh=>.inr (.inr (.inr (.inl h))),a λh=>.inr (.inr (.inr (.inr h)))⟩
theorem fw.ok(h:fw ao Z aE w ad ae an n s s0 cs):bd n.k n.co s/\ja w (.agg cs.toArray) n.k n.co s0:=by
 obtain⟨A,R,A9,t,p,_⟩:=h;exact⟨p.eE.2.2.2.1,p.doc.yN⟩
theorem fw.go(h:fw ao Z aE w ad ae an n s s0 cs):∃A R t,bt w ad ae A R n s t/\Laid w/\¬A 0/\dN ao t/\∀{U aa:x4}{s1:am},Ext w U->cM ao U ad ae A R n s1 aa->af (λr=>Z r/\¬aE r) w aa/\∃iE,(∀r,iE r->Z r\/w.heap.size<=r)/\fw ao iE aE aa ad ae an n s1 s0 cs:=by
 obtain⟨A,R,A9,t,p,⟨F,B,a⟩,f,K⟩:=h;refine⟨A,R,t,p.eE,F,λh=>B ((f 0).2 (.inl h)),⟨p.fF,a⟩,λ{U aa s1}j hm=>?_⟩;obtain⟨x,G,aK,bn,y,H,C,L⟩:=hm;have M:=j.size;have z3:=x.size;have z:=p.W j;have I:=z.prog x y H C.1 (λ_ h=>.inl h) (λ_ _ _ h=>h) z.box.lt;have e:∀{r:Nat}{X:Prop},(X->ip A R A9 aE an r)->X->Z r\/w.heap.size<=r:=λJ h=>.inl ((f _).2 (J h));have E:∀r,ip aK R (λq r=>A9 q r/\r<U.heap.size) aE an r->Z r\/w.heap.size<=r:=by
  intro r a;rcases a with a|a|⟨q,a,_⟩|a|a
  .exact (y.2.1 r a).elim (e .inl) λh=>.inr Ω
  .exact e (λh=>.inr (.inl h)) a
  .exact e (λh=>.inr (.inr (.inl ⟨q,h⟩))) a
  .exact e (λh=>.inr (.inr (.inr (.inl h)))) a
  .exact e (λh=>.inr (.inr (.inr (.inr h)))) a
 exact⟨(j.V _).F ((sK y.1 x).Y λr _ h=>⟨(f r).2 (.inl h.1),λaW=>(z.read r aW).1 h.2⟩),λr=>ip aK R (λq r=>A9 q r/\r<U.heap.size) aE an r,E,aK,R,_,bn,I,⟨G,λh=>(E 0 h).elim B λh=>by have:=p.box.lt;omega,C.2⟩,λr=>Iff.rfl,λq r a=>by have:=a.2;omega⟩
theorem fk.cL(h:fk Z aE w ad ae an n s):∃cs,fw [] Z aE w ad ae an n s s cs/\ag w an a6 cs:=by
 obtain⟨A,R,A9,t,cs,p,⟨a,e⟩,q,f,j⟩:=h;exact⟨cs,⟨A,R,A9,t,p,⟨a,e,p.fF.m.2⟩,f,j⟩,p.box⟩
end
theorem SQ{f g:Int->Int}:∀{l:Λ},(∀v∈l,f v=g v)->dz k l f=dz k l g:=by
 intro l;unfold dz;generalize (k,(-1:Int))=p;induction l generalizing p with
 |nil=>intro _;rfl
 |cons v l a=>
  intro h;rw[V8,V8,show eX f p v=eX g p v by unfold eX;rw[h v (.head _)]];exact a _ λu hu=>h u (.tail _ hu)
theorem SR{f:Int->Int}:∀(l:Λ)(p:Int×Int),(∀v∈l,0<=v)->(p.2= -1\/0<=p.2)->((l.foldl (eX f) p).2= -1\/0<=(l.foldl (eX f) p).2)/\(k=k):=by
 intro l;induction l with
 |nil=>intro p _ h;exact⟨h,rfl⟩
 |cons v l e=>
  intro p a h;refine e _ (λu hu=>a u (.tail _ hu)) ?_;unfold eX;split
  .exact .inr (a v (.head _))
  .exact h
section
variable{w:x4}{dD:x1}{k:Int}{co:Λ}{s:am}
theorem SS{f:Int->Int}{q:Nat}(a:l[q]?=σ v):dz k (l.take (q+1)) f=eX f (dz k (l.take q) f) v:=by
 unfold dz;rw[r8,a,o9,Q0];rfl
theorem SU{f:Int->Int}(a:∀v∈l,0<=v):(dz k l f).2= -1\/0<=(dz k l f).2:=(SR (k:=k) l (k,-1) a (.inl rfl)).1
theorem SV{i:Nat}{x:bz}(h:ja w dD k co s)(an:bd k co s)(G:s.d6[i]?=σ x):
  al x8 HY [dD,Δ (i:Int)] w λr I=>Ext w I/\r= .tuple #[Δ (dz k (aC x) λv=>x.un.getD v.toNat 0).1,Δ (dz k (aC x) λv=>x.un.getD v.toNat 0).2]:=by
 have ao:=qV x;refine aB func12 ?_;refine bo λg1 U ap H P=>?_;obtain⟨d9,av,aw,az,aA,aD,C,aE,_,Q,aG,R,aH,aI⟩:=h.box H P;rw[aL a6.p 0 C rfl,aL a6.p 3 C rfl];refine jx (α:=Λ) (a:=aC x) (i:=i) rfl rfl dn.u aq.i Ψ Q (by rw[v8,G];rfl) λaJ S=>?_;have E:=dQ S;rw[aY aq.u E];obtain⟨f,J⟩:∃f:Int->Int,f=λv=>x.un.getD v.toNat 0:=⟨_,rfl⟩;rw[<-J];refine lG.range (aC x).length (λq b a aa=>Ext U aa/\b=Δ (dz k ((aC x).take q) f).1/\a=Δ (dz k ((aC x).take q) f).2) E.le ⟨Ext.refl _,rfl,rfl⟩ ?_ ?_
 .rintro q _ _ aa V W ⟨j,rfl,rfl⟩ X;obtain⟨v,z⟩:=aF (l:=aC x) W;have Y:=(eZ.1 (x6 z)).1;obtain⟨y,rfl⟩:=V3 Y.1;have A:=SS (k:=k) (f:=f) z;have aK:=SU (k:=k) (f:=f) (l:=(aC x).take q) λv z=>(eZ.1 (U3 z)).1.1;have Z:f (y:Int)=x.un.getD y 0:=by rw[J];rfl
  refine bI Ω ?_;refine jv (λb a I=>Ext U I/\b=Δ (dz k ((aC x).take (q+1)) f).1/\a=Δ (dz k ((aC x).take (q+1)) f).2) (λb a I ac=>by rw[aO];exact X _ _ _ ac) λay L=>?_;rw[bi aq.u aj.i Ψ (E.W j) z];have M:∀{K:x1->Prop}{e:x4},Ext U e->K (Δ (f (y:Int)))->ab x8 (u7 a6 (Γ g1) 5) e λad=>ab x8 (u5 ev ad) e λae=>ab x8 (Z0 ev ae (Δ (i:Int))) e λt39=>ab x8 (u5 ax t39) e λaf=>ab x8 (Z0 ax af (Δ (y:Int))) e λag=>ab x8 (u5 au ag) e K:=λ{K e}N ah=>by
   rw[aL a6.p 5 (C.W N) rfl];refine jx (a:=x.un) (i:=i) rfl rfl ev.u ax.i Ψ (bS R N) (by rw[v8,G];rfl) λaM ai=>?_;rw[bi ax.u au.i Ψ (dQ ai) (getD_some (i:=y) Ω),<-Z];exact ah
  refine aV (λr I=>aa=I/\r= .bool (decide ((dz k ((aC x).take q) f).2= -1\/f (y:Int)<(dz k ((aC x).take q) f).1))) ?_ λaN O=>?_
  .rintro _ _ ⟨rfl,rfl⟩;unfold eX at A;rw[ak];refine⟨λB=>M j (L _ _ _ ⟨j,?_,?_⟩),λB=>L _ _ _ ⟨j,?_,?_⟩⟩
   .rw[A,m3 B]
   .rw[A,m3 B]
   .rw[A,m5 B]
   .rw[A,m5 B]
  .rw[aR,ak];refine⟨λam=>O _ _ ⟨rfl,by rw[m7 (.inl Ω)]⟩,λam=>?_⟩;refine M j ?_;rw[aR];refine O _ _ ⟨rfl,?_⟩;congr 1;exact decide_eq_decide.2 ⟨.inr,λh=>h.resolve_left λh=>Ω⟩
 .rintro _ _ aa V ⟨j,rfl,rfl⟩;rw[o6];exact cc Ω ⟨H.F j,rfl⟩
theorem SX{y:x1}{f:ch}{K:x1->x4->Prop}(C:Seen eT w [y] (s.d7.map km))(E:s.d7[j]?=σ f)(F:∀g e h v3 I,Ext w I->ag I g a8 [e,h,v3]->aM .i64 I e f.sc->aM .i64 I h f.ai->aM .i64 I v3 f.cs->K (Γ g) I):
  ab x8 (Z0 fm y (Δ (j:Int))) w λG=>ab x8 (u7 ew G 0) w λH=>ab x8 (u5 a8 H) w λJ=>aH x8 (P7 a8 ro (.tuple #[])) w λf aa=>aH x8 (n9 a8 f J) aa λ(_:Unit)z=>K f z:=by
 refine mp (i:=j) rfl fm.u ew.i C (by rw[v8,E];rfl) λb o cs x L=>?_;obtain⟨e,h,v3,rfl,h1,A,B⟩:=oy L;rw[aT ew.p rfl,bA (cs:=[e,h,v3]) a8.p a8.i rfl (λq u a=>by
  have:q<3:=(x5.1 a).1
  match q,this,a with
  |0,_,a=>cases a;exact x 0 _ rfl
  |1,_,a=>cases a;exact x 1 _ rfl
  |2,_,a=>cases a;exact x 2 _ rfl)]
 refine bB a8.i λR aa S M N=>?_;have O:∀u∈[e,h,v3],u.oneCell'=ro:=λu hu=>by
  simp only[V4,List.not_mem_nil,or_false]at hu;rcases hu with rfl|rfl|rfl
  .exact gY h1
  .exact gY A
  .exact gY B
 refine b4 (vs:=[e,h,v3]) a8.i rfl rfl O N λz P U Q=>?_;have r:=M.put P Ω;exact F _ _ _ _ _ r Q ((dQ h1).W r) ((dQ A).W r) ((dQ B).W r)
theorem SY{of:Λ->Int}{l:List (Λ)}{q:Nat}{t:Λ}(a:l[q]?=σ t):fJ k of (l.take (q+1))=simpStep of (fJ k of (l.take q)) t:=by
 unfold fJ;rw[r8,a,o9,Q0];rfl
def q0(w:x4)(v:x1)(o:Option (Λ)):Prop:=match o with
 |none=>v= .slice ν 0 0
 |some tl=>tl≠[]/\aM .i64 w v tl
theorem q0.nil{v:x1}{o:Option (Λ)}(h:q0 w v o):∃a n c,v= .slice a n c/\a.isNone=decide (o=ν):=by
 cases o with
 |none=>exact⟨ν,0,0,h,Ξ⟩
 |some tl=>
  obtain⟨h1,_,b,o,base,cap,rfl,_,_,e,_⟩:=h;exact⟨_,_,_,rfl,by rw[e (List.length_pos_iff.2 h1)];simp⟩
end
theorem SZ{f g:Λ->Int}:∀{l:List (Λ)},(∀t∈l,f t=g t)->fJ k f l=fJ k g l:=by
 intro l;unfold fJ;generalize (k,(ν:Option (Λ)))=p;induction l generalizing p with
 |nil=>intro _;rfl
 |cons v l a=>
  intro h;rw[V8,V8,show simpStep f p v=simpStep g p v by unfold simpStep;rw[h v (.head _)]];exact a _ λu hu=>h u (.tail _ hu)
theorem Ta{ai cs t:Λ}{m:Nat}(hi:cz ai t 0=σ (m:Int)):br ai cs t=cs.getD m 0:=by
 unfold br;rw[hi];rfl
theorem Tb{ai t:Λ}{m:Nat}(hi:cz ai t 0=σ (m:Int)):nH ai t=m:=by
 unfold nH;rw[hi];rfl
section
variable{w:x4}{dD:x1}{k:Int}{co:Λ}{s:am}
theorem Tc{f:ch}(h:ja w dD k co s)(B:bd k co s)(E:s.d7[j]?=σ f)(aw:pos<f.sc.length)(Q:∀u,f.sc[pos]?=σ u->v∈bb s u):
  al x8 IP [dD,Δ (j:Int),Δ (pos:Int),Δ v] w λr I=>Ext w I/\∃G,r= .tuple #[Δ (fJ k (br f.ai f.cs) (bX s f.sc pos v)).1,G]/\q0 I G (fJ k (br f.ai f.cs) (bX s f.sc pos v)).2:=by
 have H:=x6 E;obtain⟨R,S,_⟩:=B.d7 f H;have J:=(lq B H).1;have V:f.ai.length=f.sc.length:=by rw[S];simp[b1]
 have aW:=jy J;have aX:f.cs.length=(aQ f.ai).toNat:=by rw[S];exact R.len
 refine aB func90 ?_;refine bo λg1 U aZ W az=>?_;have X:=h.box W az;obtain⟨d9,a1,a2,a7,G,ba,Y,bc,_,be,bf,bg,aA,bh⟩:=id X;rw[aL a6.p 6 Y rfl];refine SX aA E λbj bk bl v3 bm K Z s1 aC aD=>?_;rw[aL a6.p 0 (Y.W K) rfl,aL a8.p 1 Z rfl];refine(xb f.ai aC ⟨by rw[V];exact R.scope.2,J⟩).Y ?_;rintro bn bp _ ⟨aa,aE⟩;have aG:=K.F aa;refine(X.W aG).load λbq aH=>?_;refine(y5 aH B E aw Q).Y ?_;rintro cL ab _ ⟨ac,L,_⟩;have M:=aa.F ac;have aI:=K.F M;have ad:(kp s f pos v).length=(bX s f.sc pos v).length:=by unfold kp;rw[u9]
 rw[aY aq.u L,ad];obtain⟨of,ae⟩:∃of,of=br f.ai f.cs:=⟨_,rfl⟩;rw[<-ae];refine lG.range (bX s f.sc pos v).length (λq b a x=>Ext ab x/\b=Δ (fJ k of ((bX s f.sc pos v).take q)).1/\q0 x a (fJ k of ((bX s f.sc pos v).take q)).2) (by rw[<-ad];exact L.le) ⟨Ext.refl _,rfl,rfl⟩ ?_ ?_
 .rintro q _ af x aJ aK ⟨e,rfl,y⟩ aM;obtain⟨tl,N⟩:=aF (l:=bX s f.sc pos v) aK;have aN:=x6 N;obtain⟨m,hm⟩:=qT B H Q aN;have z:=SY (k:=k) (of:=of) N;have C:=nu J hm;rw[u6]at C;have ag:m<f.cs.length:=by have:=(x5.1 C).1;omega
  have ah:of tl=f.cs.getD m 0:=by rw[ae];exact Ta hm
  have aP:tl≠[]:=λhe=>by
   have:=tN C;rw[he,V,Q7]at this;omega
  have aS:(kp s f pos v)[q]?=σ (m:Int):=by unfold kp;rw[v8,N,Y3,Tb hm]
  refine bI Ω ?_;refine jv (λb a I=>Ext ab I/\b=Δ (fJ k of ((bX s f.sc pos v).take (q+1))).1/\q0 I a (fJ k of ((bX s f.sc pos v).take (q+1))).2) (λb a I aT=>by rw[aO];exact aM _ _ _ aT) λay am=>?_;rw[bi aq.u aj.i Ψ (L.W e) aS];have an:=Z.W (M.F e);have ao:=aD.W (M.F e);refine aV (λr I=>x=I/\r= .bool (decide ((fJ k of ((bX s f.sc pos v).take q)).2=ν\/of tl<(fJ k of ((bX s f.sc pos v).take q)).1))) ?_ λbs ap=>?_
  .rintro _ _ ⟨rfl,rfl⟩;unfold simpStep at z;rw[ak];refine⟨λA=>?_,λA=>am _ _ _ ⟨e,by rw[z,m5 A],by rw[z,m5 A];exact y⟩⟩;intro bt O _ _;have av:=e.F O;rw[aL a8.p 2 (an.W O) rfl,bi ax.u au.i Ψ (ao.W O) (getD_some ag),<-ah];refine jx rfl rfl dn.u aq.i Ψ (bS aE (ac.F av)) C λu hu=>?_;exact am _ _ _ ⟨av,by rw[z,m3 A],by rw[z,m3 A];exact⟨aP,dQ (ky hu)⟩⟩
  .obtain⟨bu,fn,bw,rfl,aU⟩:=y.nil;rw[qh aq.u,aU,ak];refine⟨λP=>ap _ _ ⟨rfl,by rw[m7 (.inl P)]⟩,λP=>?_⟩;rw[aL a8.p 2 an rfl,bi ax.u au.i Ψ ao (getD_some ag),<-ah,aR];refine ap _ _ ⟨rfl,?_⟩;congr 1;exact decide_eq_decide.2 ⟨.inr,λh=>h.resolve_left P⟩
 .rintro _ af x aJ ⟨e,rfl,y⟩;rw[o6]at y ⊢;exact cc Ω ⟨(W.F aI).F e,af,rfl,y⟩
end
abbrev mQ:Type:=np .u8×Int×Int×Int×Int
structure gd where
 d:Int
 i:Int
 pos:Int
 v:Int
 c:Int
def gd.ok(a:gd):Prop:=0<=a.d/\a.d<256
def gd.kind(a:gd):Nat:=(a.d % 7).toNat
def gd.bM(a:gd):List x1:=[.int .u8 a.d,Δ a.i,Δ a.pos,Δ a.v,Δ a.c]
def oG(x:mQ):gd:=⟨x.1.val,x.2.1,x.2.2.1,x.2.2.2.1,x.2.2.2.2⟩
theorem Td{R:ah}{cs:List x1}{x:mQ}(h:Seen R w cs x):cs=(oG x).bM:=by
 obtain⟨q,_,_,_,rfl,_,_,_,a,r,_,_,_,rfl,_,_,_,e,s,_,_,_,rfl,_,_,_,f,y,z,_,_,rfl,_,_,_,j,p⟩:=h;have a:=a;have e:=e;have f:=f;have j:=j;have p:=p;subst a e f j p;rfl
theorem Te{x:mQ}(h:(o7.u8.min<=x.1.val/\x.1.val<=o7.u8.max)/\(W6.min<=x.2.1/\x.2.1<=W6.max)/\(W6.min<=x.2.2.1/\x.2.2.1<=W6.max)/\(W6.min<=x.2.2.2.1/\x.2.2.2.1<=W6.max)/\(W6.min<=x.2.2.2.2/\x.2.2.2.2<=W6.max)):(oG x).ok:=by
 have a:o7.u8.min=0:=Φ
 have e:o7.u8.max=255:=Φ
 rw[a,e]at h;exact⟨h.1.1,by have:=h.1.2;show x.1.val<256;omega⟩
theorem gd.one(a:gd):∀u∈a.bM,u.oneCell'=ro:=by
 intro u hu;unfold gd.bM at hu;simp only[V4,List.not_mem_nil,or_false]at hu;rcases hu with rfl|rfl|rfl|rfl|rfl<;>rfl
theorem gd.Tf(a:gd):a.kind<7:=by
 unfold gd.kind;have:=Int.emod_lt_of_pos a.d (show(0:Int)<7 by decide);omega
def Gq(k:Int)(a:gd):Int:=a.c.emod 18446744073709551616 % (k+1)
def l8(k:Int)(a:gd):fI:=⟨a.kind,a.i,a.pos,a.v,Gq k a⟩
def mR(n:aI)(s:am)(a:gd):am:=if a.kind=6 then(if et n a.i a.v then dL s a.i.toNat a.v.toNat else s)else(bg n.k s (l8 n.k a)).1
theorem zd{d:Int}{K:x1->Prop}(h:0<=d):ab x8 (aN .rem cK rs ro (.int .u8 d) (.int .u8 7)) w K=K (.int .u8 (((d % 7).toNat:Nat):Int)):=by
 rw[tF Φ,Int.tmod_eq_emod_of_nonneg h];have:=Int.emod_nonneg d (show(7:Int)≠0 by decide);rw[Int.toNat_of_nonneg this]
section
variable{w:x4}{ad ae an:Nat}{A R:ah}{A9:Nat->ah}{aE:ah}{n:aI}{s u:am}{t:aw}{h:List aw}{cs:List x1}{a:gd}
theorem Gr(a:bd n.k n.co s){i:Int}(h:et n i v):0<=i/\∃x,s.d6[i.toNat]?=σ x/\0<=v/\v<x.un.length:=by
 obtain⟨x,e,h1,_,f⟩:=h.var a;exact⟨h.1,x,e,h.2.2.1,by have:=h.2.2.2;omega⟩
theorem Tg(f:b2 s/\dB (dh n) s/\n.d7.length<=256)(j:bd n.k n.co s):b2 (mR n s a)/\dB (dh n) (mR n s a)/\n.d7.length<=256:=by
 unfold mR;split
 .split
  .rename_i h;obtain⟨r,x,p,w,_⟩:=Gr j h;have e:=kK (v:=a.v) p;have q:dB s (dL s a.i.toNat a.v.toNat):=yX (v:=a.v);exact⟨by rw[e];exact b2.d6 f.1 p rfl,f.2.1.F q,f.2.2⟩
  .exact f
 .exact SN f j _
theorem Th(p:cf w ad ae an A R A9 aE n s u t h cs){i:Nat}{x:bz}(B:u.d6[i]?=σ x):∃g cap y gy e,cs[3]?=σ (.slice (σ ⟨g,0,ν⟩) u.d6.length cap)/\w.cell? ⟨g,0+i*1,ν⟩=σ y/\aA .i64 e w gy y (aC x)/\(∀r,lc y r->A9 0 r)/\
  ∀{U aa:x4}{m:Int}{z:x1}{K:Unit->x4->Prop},Ext w U->af (λr=>lc y r) U aa->aA .i64 e aa gy z (aC {x with mask:=m})->(∀r,lc z r->lc y r)->(∀I,dw w ad ae an A R A9 aE n s t h {u with d6:=u.d6.set i {x with mask:=m}} I->K () I)->
   aH x8 (n9 aq (.pointer (σ ⟨g,0+i*1,ν⟩)) z) aa K:=by
 have J:=p.olds;have aJ:=(x5.1 B).1;obtain⟨d9,ah,aK,aL,aM,aN,L,_,ai,_,_,_,_,aj⟩:=id J.doc;obtain⟨g,cap,full,ak,c,al,e,C,am,E,M,N,O,ao,ap⟩:=FI ai (by rw[v8,B];rfl) λr _ h=>(aj rfl).2 0 r h;obtain⟨y,rfl⟩:=V6.1 (av.len N);rw[u9]at e;have au:full[i]?=σ y:=by have:=M 0 y rfl;simpa[show av.n (Λ)=1 from rfl]using this
 obtain⟨gy,aw,P,ax⟩:=Bt N;have f:∀r,lc y r->al r:=λr a=>by
  rcases ax with rfl|ay
  .obtain⟨_,_,_,e,_⟩:=a;cases e
  .obtain⟨e,_⟩:=bV P a;rw[e];exact ay
 refine⟨g,cap,y,gy,aw,by rw[L,<-e];rfl,by have:=C.cell au;rw[W0,T5];exact this,P,λr a=>(O r (f r a)).1,λ{U aa m Q K}F G S W az=>?_⟩;have aO:=F.size;have aP:=G.size;have E:i*1+1<=full.length:=E;obtain⟨_,_,_,X⟩:=dr S.ls;have Y:¬lc y g:=λh=>ao (f g h);refine bq (o:=0+i*1) aq.i (by rw[X];rfl) (by rw[X];rfl) ((C.W F).V G Y) Ω λZ ab aQ j=>?_;have j:ag Z g ak (over full (i*1) [Q]):=by
  have e:=FJ (o:=i*1) (q:=0) (x:=Q) M E Ξ;rw[W0]at j;rw[Nat.add_zero]at e;rw[e]at j;exact j
 have aR:g<w.heap.size:=C.lt;have H:af (λr=>lc y r\/r=g) w Z:=((F.V _).F (G.Y λr _ h=>.inl h)).F (ab.Y λr _ h=>.inr h);have aB:=bs S ab λr a he=>by have he:r=g:=he;exact Y (he▸W r a)
 have aD:=ap H (λr _ h=>h.imp (f r) id) j (ox aB) λr a=>.inl (f r (W r a));have ac:∀r,r<w.heap.size->(lc y r\/r=g)->A9 0 r/\r<w.heap.size:=λr a h=>h.elim (λh=>O r (f r h)) λh=>by rw[h];exact am
 obtain⟨cq,aF,aG⟩:=J.pQ (u':={u with d6:=u.d6.set i {x with mask:=m}}) (λq r h=>h.2) (v:=ah) (by rw[L];rfl) H ac (by show bJ _ _ _ _ ((u.d6.set i {x with mask:=m}).map aC);rw[T2];exact aD) rfl (qS B rfl) (qS B rfl) rfl rfl;refine az _ ⟨H.Y λr a h=>.inl ⟨0,(ac r a h).1⟩,cq,cs,aF,λq r a=>?_⟩;rcases aG q r a with⟨aI,h⟩|h
 .exact .inl ⟨aI,h.1⟩
 .exact .inr h
end
section
variable{Z aE:ah}{w I:x4}{ad ae an:Nat}{A R:ah}{A9:Nat->ah}{n:aI}{s s':am}{t:aw}{cs:List x1}{a:gd}
def ly(Z aE:ah)(w:x4)(ad ae an:Nat)(n:aI)(s':am)(I:x4):Prop:=af (λr=>Z r/\¬aE r) w I/\∃iE,(∀r,iE r->Z r\/w.heap.size<=r)/\fk iE aE I ad ae an n s'
theorem fk.Ti{aK:ah}{cq:Nat->ah}{bn:aw}(p:cf w ad ae an A R A9 aE n s s t [] cs)(f:∀r,Z r↔ip A R A9 aE an r)(H:b2 s'/\dB (dh n) s'/\n.d7.length<=256)(x:¬Z 0)(I:Laid w)(y:af (er w) w U)(z:Grow A w aK U)(j:∀q r,cq q r->A9 q r)(J:dw U ad ae an aK R cq aE n s' bn [] s' aa):ly Z aE w ad ae an n s' aa:=by
 obtain⟨B,C,cd,K,L⟩:=J;have O:=y.size;have P:=B.size;have M:=p.F0;have E:af (λr=>Z r/\¬aE r) w aa:=((sK z.1 y).Y (T:=λr=>Z r/\¬aE r) λr _ h=>⟨(f r).2 (.inl h.1),λaW=>(p.read r aW).1 h.2⟩).F
  (B.Y λr _ h=>⟨(f r).2 (h.elim (λ⟨q,h⟩=>.inr (.inr (.inl ⟨q,j q r h⟩))) λh=>.inr (.inr (.inr (.inr h)))),h.elim (λ⟨q,h⟩=>M q r (j q r h)) λh aW=>(p.read r aW).2.2 h⟩)
 have Q:=p.box.lt;have e:∀{r:Nat}{X:Prop},(X->ip A R A9 aE an r)->X->Z r\/w.heap.size<=r:=λN h=>.inl ((f _).2 (N h));have F:∀r,ip aK R (λq r=>C q r/\r<aa.heap.size) aE an r->Z r\/w.heap.size<=r:=by
  intro r a;rcases a with a|a|⟨q,a,_⟩|a|a
  .exact (z.2.1 r a).elim (e .inl) .inr
  .exact e (λh=>.inr (.inl h)) a
  .exact (L q r a).elim (λ⟨G,h⟩=>e (λh=>.inr (.inr (.inl h))) ⟨G,j G r h⟩) λh=>.inr Ω
  .exact e (λh=>.inr (.inr (.inr (.inl h)))) a
  .exact e (λh=>.inr (.inr (.inr (.inr h)))) a
 exact⟨E,λr=>ip aK R (λq r=>C q r/\r<aa.heap.size) aE an r,F,aK,R,_,bn,cd,K.olds,⟨iu E (λh=>x h.1) I,λh=>(F 0 h).elim x λh=>Ω⟩,H,λr=>Iff.rfl,λq r a=>a.2⟩
theorem ly.same(h:fk Z aE w ad ae an n s)(a:Ext w I):ly Z aE w ad ae an n s I:=⟨a.V _,Z,λ_ h=>.inl h,h.W a⟩
theorem ly.before(a:Ext w U)(h:ly Z aE U ad ae an n s I):ly Z aE w ad ae an n s I:=by
 obtain⟨c,iE,e,f⟩:=h;have:=a.size;exact⟨(a.V _).F c,iE,λr j=>(e r j).imp id λh=>Ω,f⟩
end
def q1(s:am):Prop:=∀f∈s.d7,f.live≠0
theorem Tj(n:aI):q1 (dh n):=by
 intro f a;unfold dh at a;obtain⟨g,_,rfl⟩:=j0.1 a;exact(by decide:(1:Int)≠0)
theorem Tk{a b:am}(h:dB a b)(k:q1 a):q1 b:=by
 intro g q;obtain⟨j,e⟩:=List.getElem?_of_mem q;have r:=(x5.1 e).1;obtain⟨f,p⟩:=aF (l:=a.d7) (i:=j) (by have:=h.d7;omega);rw[(h.fn j f g p e).2.2.1];exact k f (x6 p)
section
variable{w:x4}{ad ae:Nat}{A R:ah}{n:aI}{s:am}{t:aw}{dD:x1}
end
def mS(w0 w:x4)(ad ae an:Nat)(n:aI):Prop:=Ext w0 w/\∃s Z aE,fk Z aE w ad ae an n s/\∀r,Z r->w0.heap.size<=r
section
variable{w0 w I:x4}{ad ae an:Nat}{n:aI}{s:am}{Z aE:ah}
theorem mS.W(h:mS w0 w ad ae an n)(a:Ext w I):mS w0 I ad ae an n:=by
 obtain⟨e,s,Z,aE,f,j⟩:=h;exact⟨e.F a,s,Z,aE,f.W a,j⟩
end
theorem fk.live{Z aE:ah}{ad ae an:Nat}{n:aI}{s:am}(h:fk Z aE w ad ae an n s):q1 s/\s.d7.length<=256:=by
 obtain⟨_,_,a,e⟩:=h.ok;refine⟨Tk a (Tj n),?_⟩;rw[a.d7];unfold dh;rw[u9];exact e
section
variable{w:x4}{ad ae:Nat}{A R:ah}{n:aI}{s:am}{t:aw}
theorem ze{i:Nat}{x:bz}(e:bd n.k n.co s)(a:s.d6[i]?=σ x)(f:v∈aC x):cp n s (i:Int) v=x.un.getD v.toNat 0:=by
 unfold cp;rw[m3 (pT e a f),u6];unfold fj;rw[a]
theorem sV{i:Nat}{x:bz}(a:s.d6[i]?=σ x):bb s (i:Int)=aC x:=by
 unfold bb;rw[u6,a]
theorem Tl{i:Nat}{x:bz}(e:bd n.k n.co s)(a:s.d6[i]?=σ x):dA n s (i:Int)=dz n.k (aC x) λv=>x.un.getD v.toNat 0:=by
 unfold dA;rw[sV a];exact SQ λv f=>ze e a f
end
def Gs(w:x4)(pl:Λ)(r:x1)(I:x4):Prop:=Ext w I/\((∃cs:List x1,r= .tuple #[.pointer ν,.agg cs.toArray,.bool rs]/\cs.length=8/\∀u∈cs,u.oneCell'=ro)\/∃f ad ae an Z aE s cs,r= .tuple #[Γ ad,.agg cs.toArray,.bool ro]/\gZ (pl.take 300)=σ f/\(cP f).k<=1000/\
 fk Z aE I ad ae an (cP f) s/\fw [] Z aE I ad ae an (cP f) s s cs/\∀r,Z r->w.heap.size<=r)
section
variable{w:x4}{ad ae:Nat}{A R:ah}{n:aI}{s:am}{t:aw}
theorem Tm{i:Nat}(h:bt w ad ae A R n s t)(f:Laid w)(e:lp n s (i:Int)=ro):al x8 AK [Γ ad,Δ (i:Int)] w λr I=>Ext w I/\r= .tuple #[Δ (dA n s (i:Int)).1,Δ (dA n s (i:Int)).2,Δ 0]:=by
 obtain⟨_,x,a,_⟩:=Fp h.2.2.2.1 e;rw[u6]at a;refine(QX h f).Y ?_;rintro r q _ ⟨j,_,p⟩;refine⟨j,?_⟩;rw[p x e (by rw[u6];exact a)];unfold dA;rw[sV a]
end
theorem Tn{of:Int->Int}:(l=[]/\(dz k l of).2= -1)\/(dz k l of).2∈l:=by
 have key:∀(l:Λ)(p:Int×Int),(l.foldl (eX of) p).2=p.2\/(l.foldl (eX of) p).2∈l:=λl=>by
  induction l with
  |nil=>exact λp=>.inl rfl
  |cons v l a=>
   intro p;rw[V8];rcases a (eX of p v)with h|h
   .rw[h];unfold eX;split
    .exact .inr (.head _)
    .exact .inl rfl
   .exact .inr (.tail _ h)
 cases l with
 |nil=>exact .inl ⟨rfl,rfl⟩
 |cons v l=>
  right;unfold dz;rw[V8];have e:eX of (k,-1) v=(of v,v):=by unfold eX;rw[m3 (.inl rfl)]
  rw[e];rcases key l (of v,v)with h|h
  .rw[h];exact .head _
  .exact .tail _ h
def gB(s:am):Nat:=(s.d6.map λx=>(aC x).length).sum
def eR(k:Int)(s:am):Nat:=gB s+(k-s.zero).toNat
theorem To{l:List Nat}{i x y:Nat}(h:l[i]?=σ x):(l.set i y).sum+x=l.sum+y:=by
 induction l generalizing i with
 |nil=>simp at h
 |cons a l e=>
  cases i with
  |zero=>simp at h;subst h;rw[List.set_cons_zero,Q2,Q2];omega
  |succ i=>rw[List.set_cons_succ,Q2,Q2];have:=e (by simpa using h);omega
theorem Gt{s:am}{i:Nat}{x y:bz}(a:s.d6[i]?=σ x):gB {s with d6:=s.d6.set i y}+(aC x).length=gB s+(aC y).length:=by
 unfold gB;rw[T2];exact To (by rw[v8,a];rfl)
section
variable{n:aI}{s:am}
theorem Tp{x:bz}(hm:0<=x.mask)(h:v∈aC x):(aC {x with mask:=((x.mask.toNat ||| 2 ^ v.toNat:Nat):Int)}).length<(aC x).length:=by
 have a:=(eZ.1 h).1.1;have f:((x.mask.toNat:Nat):Int)=x.mask:=Ω
 have e:aC {x with mask:=((x.mask.toNat ||| 2 ^ v.toNat:Nat):Int)}=(aC x).filter λu=>decide (u≠v):=by
  unfold aC;rw[List.filter_filter];refine List.filter_congr λu hu=>?_;obtain⟨q,_,rfl⟩:=j0.1 hu;simp only;rw[yL a Ω,f];cases dropped x.mask (q:Int)<;>simp
 rw[e];refine Nat.lt_of_le_of_ne (Q8 _ _) λhe=>?_;have:=(List.filter_eq_self).1 (List.filter_sublist.eq_of_length he) v h;simp at this
theorem Tq{i:Int}(f:bd n.k n.co s)(p:b2 s):gx n.k n.co s (bg n.k s (eF i v)).1/\(bg n.k s (eF i v)).1.zero=s.zero/\(∀j u,cp n (bg n.k s (eF i v)).1 j u=cp n s j u)/\
  ((bg n.k s (eF i v)).2≠0->(bg n.k s (eF i v)).1=s/\∀x,dv s i v=σ x->cm n.k s.zero (x.un.getD v.toNat 0)<n.k)/\
  ((bg n.k s (eF i v)).2=0->gB (bg n.k s (eF i v)).1<gB s/\v∉bb (bg n.k s (eF i v)).1 i):=by
 have a:bg n.k s (eF i v)=match dv s i v with
  |none=>(s,1)
  |some x=>if cm n.k s.zero (x.un.getD v.toNat 0)<n.k then(s,7)else(dL s i.toNat v.toNat,0):=by
  unfold bg eF;simp only;rw[m5 Ω,m5 Ω,m5 Ω,m5 Ω,m3 trivial];cases dv s i v<;>rfl
 cases ac:dv s i v with
 |none=>
  rw[ac]at a;rw[a];exact⟨.rfl f p,rfl,λ_ _=>rfl,λ_=>⟨rfl,λx e=>by cases e⟩,λh=>by cases h⟩
 |some x=>
  rw[ac]at a;simp only at a;obtain⟨C,e,E,r⟩:=jS ac;by_cases q:cm n.k s.zero (x.un.getD v.toNat 0)<n.k
  .rw[m3 q]at a;rw[a];exact⟨.rfl f p,rfl,λ_ _=>rfl,λ_=>⟨rfl,λy z=>by cases z;exact q⟩,λh=>by cases h⟩
  .rw[m5 q]at a;have w:=(eZ.1 r).1;have A:(dL s i.toNat v.toNat).zero=s.zero:=by rw[kK e]
   have B:gx n.k n.co s (bg n.k s (eF i v)).1:=FW f p (by show 4<5;omega) (λj u hu=>by rw[a]at hu;exact((FS f e w.1).1 hu).1) (by rw[a];show s.zero<=(dL s i.toNat v.toNat).zero;omega);refine⟨B,by rw[a];exact A,λj u=>by rw[a];exact RH e,λh=>m6 (by rw[a]) h,λ_=>⟨?_,λhm=>?_⟩⟩
   .rw[a];show gB (dL s i.toNat v.toNat)<gB s;rw[kK e];have F:=(x5.1 e).1;have G:=f.d6;have h1:=f.var i.toNat x _ e (x7 Ω);have H:=Tp h1.2.2.1 r;have:=Gt (s:=s) (y:={x with mask:=((x.mask.toNat ||| 2 ^ v.toNat:Nat):Int)}) e;omega
   .rw[a]at hm;exact((FS f e w.1).1 hm).2 rfl rfl
theorem zf{i:Int}:∀(L:Λ)(s:am)(b:Bool),bd n.k n.co s->b2 s->gx n.k n.co s (dm n.k i L (s,b)).1/\(dm n.k i L (s,b)).1.zero=s.zero/\(∀j u,cp n (dm n.k i L (s,b)).1 j u=cp n s j u)/\gB (dm n.k i L (s,b)).1<=gB s/\
  ((dm n.k i L (s,b)).2=rs->b=rs/\(dm n.k i L (s,b)).1=s)/\((dm n.k i L (s,b)).2=ro->b=ro\/gB (dm n.k i L (s,b)).1<gB s)/\
  ∀v∈L,v∈bb (dm n.k i L (s,b)).1 i->0<=i->∀x,s.d6[i.toNat]?=σ x->x.gone=0->cm n.k s.zero (cp n s i v)<n.k
 |[],s,b,f,q=>⟨.rfl f q,rfl,λ_ _=>rfl,p8 _,λh=>⟨h,rfl⟩,λh=>.inl h,λ_ h=>by cases h⟩
 |v::L,s,b,f,q=>by
  obtain⟨p,G,H,r,w⟩:=Tq (i:=i) f q;have e:dm n.k i (v::L) (s,b)=dm n.k i L ((bg n.k s (eF i v)).1,decide ((bg n.k s (eF i v)).2=0)||b):=rfl;obtain⟨A,P,Q,I,R,S,T⟩:=zf L (bg n.k s (eF i v)).1 (decide ((bg n.k s (eF i v)).2=0)||b) p.ok p.jc;rw[e];have J:gB (bg n.k s (eF i v)).1<=gB s:=by
   by_cases h:(bg n.k s (eF i v)).2=0
   .exact Nat.le_of_lt (w h).1
   .rw[(r h).1];exact p8 _
  refine⟨p.F A,P.F G,λj u=>(Q j u).F (H j u),Y9 I J,λh=>?_,λh=>?_,λu hu B C x a K=>?_⟩
  .obtain⟨h1,E⟩:=R h;rw[U4,decide_eq_false_iff_not]at h1;rw[E];exact⟨h1.2,(r h1.1).1⟩
  .rcases S h with h1|h1
   .rw[Bool.or_eq_true,ne]at h1;rcases h1 with h1|h1
    .exact .inr (Nat.lt_of_le_of_lt I (w h1).1)
    .exact .inl h1
   .exact .inr (S3 h1 J)
  .rcases V4.1 hu with rfl|hu
   .by_cases h:(bg n.k s (eF i u)).2=0
    .exact m6 (A.ko i u B) (w h).2
    .have M:u∈aC x:=by
      have h1:=p.ko i u (A.ko i u B);unfold bb at h1;rw[a]at h1;exact h1
     have U:dv s i u=σ x:=by
      unfold dv;rw[m3 C,a];simp only;rw[m3 ⟨K,M⟩]
     have E:=(r h).2 x U;have V:=(x5.1 a).1;have W:=f.d6;obtain⟨z,F⟩:=aF (l:=n.co) (i:=i.toNat) Ω;have aa:=(f.var i.toNat x z a F).1;have ab:=f.eD.2.2 z (x6 F);have X:=(eZ.1 M).1;have Y:et n i u:=⟨C,Ω,X.1,by rw[u4,F,V9];omega⟩;have Z:cp n s i u=x.un.getD u.toNat 0:=by unfold cp fj;rw[m3 Y,a]
     rw[Z];exact E
   .have N:=p.same;have V:=(x5.1 a).1;have W:=N.d6;obtain⟨y,O⟩:=aF (l:=(bg n.k s (eF i v)).1.d6) (i:=i.toNat) Ω;have h1:=N.var i.toNat x y a O;have:=T u hu B C y O (h1.1.F K);rw[G,H]at this;exact this
def lz(n:aI)(s:am)(i:Int):Prop:=du s i.toNat=rs->bb s i≠[]/\(dA n s i).1=0/\∀v∈bb s i,cm n.k s.zero (cp n s i v)<n.k
theorem zg{i:Int}(e:bd n.k n.co s):(dA n s i).2<0↔bb s i=[]:=by
 rcases Tn with⟨h1,a⟩|h
 .unfold dA;rw[a];exact⟨λ_=>h1,λ_=>Φ⟩
 .have h:(dA n s i).2∈bb s i:=h;generalize (dA n s i).2=w at h;have f:0<=w:=by
   unfold bb at h;split at h
   .exact (eZ.1 h).1.1
   .cases h
  refine⟨λa=>Ω,λa=>?_⟩;rw[a]at h;cases h
theorem Tr{i:Int}(f:bd n.k n.co s)(E:b2 s)(B:0<=i)(hi:i<n.co.length)(w:du s i.toNat=rs)(F:bb s i≠[]):
  (bg n.k s (l5 i (dA n s i).1)).2=0/\gx n.k n.co s (bg n.k s (l5 i (dA n s i).1)).1/\gB (bg n.k s (l5 i (dA n s i).1)).1=gB s/\(bg n.k s (l5 i (dA n s i).1)).1.zero=min (s.zero+(dA n s i).1) n.k:=by
 have M:=f.d6;obtain⟨x,h⟩:=aF (l:=s.d6) (i:=i.toNat) Ω;have G:x.gone=0:=by unfold du at w;rw[h]at w;simpa using w
 have C:bb s i=aC x:=by unfold bb;rw[h]
 have H:∀v∈aC x,cp n s i v=x.un.getD v.toNat 0:=λv r=>by
  obtain⟨z,p⟩:=aF (l:=n.co) (i:=i.toNat) Ω;have N:=(f.var i.toNat x z h p).1;have O:=f.eD.2.2 z (x6 p);have A:=(eZ.1 r).1;have I:et n i v:=⟨B,hi,A.1,by rw[u4,p,V9];omega⟩;unfold cp fj;rw[m3 I,h]
 have A:=FR (i:=i) f;have J:=(RF (c:=(dA n s i).1) (RG (i:=i) f)).1 (S8 _);have K:(dA n s i).1<=jb x:=RB (by rw[<-C];exact F) λv r=>by
  have:=J.2 v (by rw[C];exact r);rw[H v r]at this;exact this
 have q:=(RC (k:=n.k) (a:=l5 i (dA n s i).1) B h G).2.1 rfl A K;have L:∀j u,u∈bb (bg n.k s (l5 i (dA n s i).1)).1 j->u∈bb s j:=λj u hu=>by
  rw[q]at hu;have e:bb (iC s i.toNat x (λg=>cU n.k g (dA n s i).1) λg=>cm n.k g (dA n s i).1) j=bb s j:=FM h rfl FP;have hu:u∈bb (iC s i.toNat x (λg=>cU n.k g (dA n s i).1) λg=>cm n.k g (dA n s i).1) j:=hu;rw[e]at hu;exact hu
 have p:(bg n.k s (l5 i (dA n s i).1)).1.zero=min (s.zero+(dA n s i).1) n.k:=by rw[q];rfl
 have P:=f.zero;refine⟨by rw[q],FW f E (by show 2<5;omega) L (by rw[p];omega),?_,p⟩;rw[q];show gB (iC s i.toNat x _ _)=gB s;have:=Gt (s:=s) (y:={x with un:=ec (λg=>cU n.k g (dA n s i).1) x.un (aC x)}) h;rw[FP]at this;exact Nat.add_right_cancel this
theorem Gu{i:Int}{b:Bool}(j:bd n.k n.co s)(L:b2 s)(G:0<=i)(hi:i<n.co.length):gx n.k n.co s (e8 n i (s,b)).1/\eR n.k (e8 n i (s,b)).1<=eR n.k s/\
  ((e8 n i (s,b)).2.2=ro->du s i.toNat=rs/\bb (e8 n i (s,b)).1 i=[])/\((e8 n i (s,b)).2.2=rs->(e8 n i (s,b)).2.1=ro->b=ro\/eR n.k (e8 n i (s,b)).1<eR n.k s)/\
  ((e8 n i (s,b)).2.2=rs->(e8 n i (s,b)).2.1=rs->b=rs/\(e8 n i (s,b)).1=s/\lz n s i):=by
 have W:=j.d6;obtain⟨x,w⟩:=aF (l:=s.d6) (i:=i.toNat) Ω;generalize a:e8 n i (s,b)=r;unfold e8 at a;simp only at a;by_cases z:du s i.toNat=ro
 .rw[m3 z]at a;subst a;exact⟨.rfl j L,p8 _,λh=>(by cases h),λ_ h=>.inl h,λ_ h=>⟨h,rfl,λH=>(by rw[z]at H;cases H)⟩⟩
 rw[m5 z]at a;have A:du s i.toNat=rs:=by simpa using z
 have I:x.gone=0:=by unfold du at A;rw[w]at A;simpa using A
 obtain⟨f,B,Q,R,M,N,C⟩:=zf (n:=n) (i:=i) (bb s i) s rs j L;generalize dm n.k i (bb s i) (s,rs)=q at f B Q R M N C a;have J:eR n.k q.1<=eR n.k s:=by unfold eR;rw[B];omega
 have S:du q.1 i.toNat=rs:=by
  have X:=f.same.d6;obtain⟨y,O⟩:=aF (l:=q.1.d6) (i:=i.toNat) Ω;unfold du;rw[O];simpa[(f.same.var _ x y w O).1]using I
 by_cases E:(dA n q.1 i).2<0
 .rw[m3 E]at a;subst a;exact⟨f,J,λ_=>⟨A,(zg f.ok).1 E⟩,λh=>(by cases h),λh=>(by cases h)⟩
 .have F:bb q.1 i≠[]:=λh=>E ((zg f.ok).2 h);rw[m5 E]at a;by_cases K:0<(dA n q.1 i).1
  .obtain⟨Y,T,U,V⟩:=Tr f.ok f.jc G hi S F;rw[m3 K]at a;have Z:q.1.zero<n.k:=by
    obtain⟨v,p⟩:=List.exists_mem_of_ne_nil _ F;have h1:=C v (f.ko i v p) p G x w I;have H:=(qR (n:=n) (s:=s) (i:=i) (v:=v) j).1;rw[B];unfold cm at h1;omega
   have P:eR n.k (bg n.k q.1 (l5 i (dA n q.1 i).1)).1<eR n.k s:=by
    refine S3 ?_ J;unfold eR;rw[U,V];omega
   subst a;exact⟨f.F T,Nat.le_of_lt P,λh=>(by cases h),λ_ _=>.inr P,λ_ h=>(by cases h)⟩
  .rw[m5 K]at a;subst a;refine⟨f,J,λh=>(by cases h),λ_ h=>?_,λ_ h=>?_⟩
   .have h:(q.2||b)=ro:=h;rw[Bool.or_eq_true]at h;rcases h with h|h
    .refine .inr ?_;have:=(N h).resolve_left Φ;show eR n.k q.1<_;unfold eR;rw[B];omega
    .exact .inl h
   .have h:(q.2||b)=rs:=h;rw[U4]at h;obtain⟨_,e⟩:=M h.1;rw[e]at K F C;have aa:=FR (i:=i) j;exact⟨h.2,e,λ_=>⟨F,Ω,λv p=>C v p p G x w I⟩⟩
theorem Gv:∀(L:List Nat)(s:am)(b:Bool),bd n.k n.co s->b2 s->(∀i∈L,i<n.co.length)->gx n.k n.co s (gR n L (s,b)).1/\eR n.k (gR n L (s,b)).1<=eR n.k s/\
  ((gR n L (s,b)).2.2=ro->(gR n L (s,b)).2.1=rs/\∃i∈L,du s i=rs/\bb (gR n L (s,b)).1 (i:Int)=[])/\((gR n L (s,b)).2.2=rs->(gR n L (s,b)).2.1=ro->b=ro\/eR n.k (gR n L (s,b)).1<eR n.k s)/\
  ((gR n L (s,b)).2.2=rs->(gR n L (s,b)).2.1=rs->b=rs/\(gR n L (s,b)).1=s/\∀i∈L,lz n s (i:Int))
 |[],s,b,w,B,_=>⟨.rfl w B,p8 _,λh=>(by cases h),λ_ h=>.inl h,λ_ h=>⟨h,rfl,λ_ hi=>by cases hi⟩⟩
 |i::L,s,b,w,B,C=>by
  obtain⟨e,z,A,G,H⟩:=Gu (i:=(i:Int)) (b:=b) w B Ω (by have:=C i (.head _);omega);rw[u6]at A;generalize f:gR n (i::L) (s,b)=r;unfold gR at f;generalize e8 n (i:Int) (s,b)=q at e z A G H f;by_cases p:q.2.2=ro
  .rw[m3 p]at f;subst f;exact⟨e,z,λ_=>⟨rfl,i,.head _,(A p).1,(A p).2⟩,λh=>(by cases h),λh=>(by cases h)⟩
  .have I:q.2.2=rs:=by simpa using p
   rw[m5 p]at f;subst f;obtain⟨P,J,Q,R,S⟩:=Gv L q.1 q.2.1 e.ok e.jc λj a=>C j (.tail _ a);refine⟨e.F P,Y9 J z,λh=>?_,λh1 E=>?_,λh1 E=>?_⟩
   .obtain⟨h1,j,a,F,T⟩:=Q h;refine⟨h1,j,.tail _ a,?_,T⟩;have V:=C j (.tail _ a);have W:=w.d6;have X:=e.same.d6;obtain⟨x,K⟩:=aF (l:=s.d6) (i:=j) Ω;obtain⟨y,M⟩:=aF (l:=q.1.d6) (i:=j) Ω;unfold du at F ⊢;rw[M]at F;rw[K];have:=(e.same.var j x y K M).1;simpa[this]using F
   .rcases R h1 E with h|h
    .rcases G I h with h|h
     .exact .inl h
     .exact .inr (Nat.lt_of_le_of_lt J h)
    .exact .inr (S3 h z)
   .obtain⟨U,N,O⟩:=S h1 E;obtain⟨f1,f2,f3⟩:=H I U;rw[f2]at N O;refine⟨f1,?_,λj a=>?_⟩
    .rw[f2];exact N
    .rcases V4.1 a with rfl|a
     .exact f3
     .exact O j a
theorem Gw(j:bd n.k n.co s)(p:b2 s):gx n.k n.co s (fu n s).1/\((fu n s).2.2=ro->(fu n s).2.1=rs/\∃i<n.co.length,du s i=rs/\bb (fu n s).1 (i:Int)=[])/\
  ((fu n s).2.2=rs->(fu n s).2.1=ro->eR n.k (fu n s).1<eR n.k s)/\((fu n s).2.2=rs->(fu n s).2.1=rs->(fu n s).1=s/\∀i<n.co.length,lz n s (i:Int)):=by
 obtain⟨h1,_,q,r,f⟩:=Gv (W3 n.co.length) s rs j p λi hi=>T6.1 hi;unfold fu;refine⟨h1,λh=>?_,λa e=>(r a e).resolve_left Φ,λa e=>⟨(f a e).2.1,λi hi=>(f a e).2.2 i (T6.2 hi)⟩⟩;obtain⟨w,i,hi,x⟩:=q h;exact⟨w,i,T6.1 hi,x⟩
end
section
variable{n:aI}{s:am}
def iq(n:aI)(s:am):Prop:=∀i<n.co.length,lz n s (i:Int)
theorem Gx{i:Int}(a:bd n.k n.co s)(p:0<=i):∀(L:Λ)(b:Bool),(∀v∈L,v∈bb s i/\cm n.k s.zero (cp n s i v)<n.k)->dm n.k i L (s,b)=(s,b)
 |[],_,_=>rfl
 |v::L,b,h=>by
  obtain⟨C,q⟩:=h v (.head _);have e:bg n.k s (eF i v)=(s,7)\/bg n.k s (eF i v)=(s,1):=by
   unfold bg eF;simp only;rw[m5 Ω,m5 Ω,m5 Ω,m5 Ω,m3 trivial];cases ac:dv s i v with
   |none=>exact .inr rfl
   |some x=>
    obtain⟨_,f,_,r⟩:=jS ac;left;simp only;have E:=(x5.1 f).1;have F:=a.d6;obtain⟨z,j⟩:=aF (l:=n.co) (i:=i.toNat) Ω;have G:=(a.var i.toNat x z f j).1;have H:=a.eD.2.2 z (x6 j);have w:=(eZ.1 r).1;have y:et n i v:=⟨p,Ω,w.1,by rw[u4,j,V9];omega⟩;have A:cp n s i v=x.un.getD v.toNat 0:=by unfold cp fj;rw[m3 y,f]
    rw[A]at q;rw[m3 q]
  have B:dm n.k i (v::L) (s,b)=dm n.k i L (s,b):=by
   show dm n.k i L ((bg n.k s (eF i v)).1,decide ((bg n.k s (eF i v)).2=0)||b)=_;rcases e with e|e<;>rw[e]<;>rfl
  rw[B];exact Gx a p L b λu hu=>h u (.tail _ hu)
theorem Gy(f:bd n.k n.co s):∀(L:List Nat),(∀i∈L,lz n s (i:Int))->gR n L (s,rs)=(s,rs,rs)
 |[],_=>rfl
 |i::L,h=>by
  have a:=h i (.head _);have e:e8 n (i:Int) (s,rs)=(s,rs,rs):=by
   unfold e8;by_cases p:du s (i:Int).toNat=ro
   .rw[m3 p]
   .rw[m5 p];obtain⟨h1,w,q⟩:=a (by simpa using p);simp only;rw[Gx f Ω (bb s i) rs λv a=>⟨a,q v a⟩];simp only;rw[m5 (λh=>h1 ((zg f).1 h)),m5 Ω];rfl
  unfold gR;rw[e];simp only;rw[m5 Φ];exact Gy f L λj r=>h j (.tail _ r)
end
theorem Gz:∀{l m:List Nat},l.length=m.length->(∀(i:Nat)x y,l[i]?=σ x->m[i]?=σ y->x<=y)->l.sum<=m.sum/\((∃(i:Nat)(x y:Nat),l[i]?=σ x/\m[i]?=σ y/\x<y)->l.sum<m.sum)
 |[],[],_,_=>⟨p8 _,λ⟨i,x,y,h,_⟩=>by simp at h⟩
 |[],_::_,h,_=>by simp at h
 |_::_,[],h,_=>by simp at h
 |a::l,b::m,h,j=>by
  obtain⟨r,p⟩:=Gz (by simpa using h) λi x y e f=>j (i+1) x y (by simpa using e) (by simpa using f);have s:=j 0 a b rfl rfl;rw[Q2,Q2];refine⟨Ω,λ⟨i,x,y,e,f,q⟩=>?_⟩;cases i with
  |zero=>simp at e f;omega
  |succ i=>
   have:=p ⟨i,x,y,by simpa using e,by simpa using f,q⟩;omega
theorem GA{c:Nat}:∀{l:List Nat},(∀x∈l,x<=c)->l.sum<=l.length*c
 |[],_=>Ξ
 |a::l,h=>by
  have h1:=GA λx e=>h x (.tail _ e);have f:=h a (.head _);rw[Q2,Z4,U7];omega
def lA(M:Nat):List Nat->Nat
 |[]=>0
 |u::us=>(M-u)*(M+1) ^ us.length+lA M us
theorem zh{M:Nat}:∀us:List Nat,lA M us<(M+1) ^ us.length
 |[]=>by simp[lA]
 |u::us=>by
  have a:=zh (M:=M) us;have h:(M-u)*(M+1) ^ us.length<=M*(M+1) ^ us.length:=Y5 _ (Nat.sub_le _ _);unfold lA;rw[Z4,Nat.pow_succ,Nat.mul_comm ((M+1) ^ us.length),U7,Nat.one_mul];omega
theorem GB{M:Nat}:∀(us vs:List Nat)(i:Nat),us.length=vs.length->(∀v∈vs,v<=M)->(∀(j:Nat)u v,j<i->us[j]?=σ u->vs[j]?=σ v->u<=v)->(∃u v,us[i]?=σ u/\vs[i]?=σ v/\u<v)->lA M vs<lA M us
 |[],_,_,_,_,_,⟨_,_,h,_⟩=>by simp at h
 |_::_,[],_,h,_,_,_=>by simp at h
 |a::us,b::vs,i,p,q,r,⟨u,v,hu,f,w⟩=>by
  have p:us.length=vs.length:=by simpa using p
  have key:a<b->lA M (b::vs)<lA M (a::us):=λs=>by
   have y:=q b (.head _);have h1:=zh (M:=M) vs;unfold lA;rw[p];have x:(M-b+1)*(M+1) ^ vs.length<=(M-a)*(M+1) ^ vs.length:=Y5 _ Ω;rw[U7,Nat.one_mul]at x;omega
  cases i with
  |zero=>
   simp at hu f;exact key Ω
  |succ i=>
   have z:=r 0 a b Ω rfl rfl;by_cases s:a<b
   .exact key s
   have e:a=b:=Ω
   have A:=GB us vs i p (λv f=>q v (.tail _ f)) (λj u v B hu f=>r (j+1) u v Ω (by simpa using hu) (by simpa using f)) ⟨u,v,by simpa using hu,by simpa using f,w⟩;unfold lA;rw[e,p];omega
section
variable{n:aI}{s s':am}
def nI(n:aI)(s:am)(i:Nat):Nat:=((bb s (i:Int)).map λv=>(cp n s (i:Int) v).toNat).sum
def mT(n:aI)(s:am):List Nat:=(W3 n.co.length).map (nI n s)
def pV(n:aI):Nat:=32*n.k.toNat
theorem Ts{i:Nat}(a:bd n.k n.co s):nI n s i<=pV n:=by
 unfold nI pV;have h:=GA (c:=n.k.toNat) (l:=(bb s (i:Int)).map λv=>(cp n s (i:Int) v).toNat) λx e=>by
  obtain⟨v,_,rfl⟩:=j0.1 e;have:=(qR (n:=n) (s:=s) (i:=(i:Int)) (v:=v) a).2;omega
 rw[u9]at h;exact Y9 h (Y5 _ (RE a))
theorem GC{i:Nat}(r:bd n.k n.co s)(z:bd n.k n.co s')(w:bb s' (i:Int)=bb s (i:Int))(h:∀v∈bb s (i:Int),cp n s (i:Int) v<=cp n s' (i:Int) v):nI n s i<=nI n s' i/\((∃v∈bb s (i:Int),cp n s (i:Int) v<cp n s' (i:Int) v)->nI n s i<nI n s' i):=by
 unfold nI;rw[w];have q:=Gz (l:=(bb s (i:Int)).map λv=>(cp n s (i:Int) v).toNat) (m:=(bb s (i:Int)).map λv=>(cp n s' (i:Int) v).toNat) (by rw[u9,u9]) λp x y e f=>by
  rw[v8]at e f;obtain⟨v,a,rfl⟩:=X0.1 e;obtain⟨A,j,rfl⟩:=X0.1 f;rw[a]at j;cases j;have:=h v (x6 a);omega
 refine⟨q.1,λ⟨v,a,B⟩=>q.2 ?_⟩;obtain⟨p,ac⟩:=X6.1 a;refine⟨p,(cp n s (i:Int) v).toNat,(cp n s' (i:Int) v).toNat,by rw[v8,ac];rfl,by rw[v8,ac];rfl,?_⟩;have:=(qR (i:=(i:Int)) (v:=v) r).1;omega
open Classical in
noncomputable def fK(n:aI)(s:am):Nat:=(2*eR n.k s+if iq n s then 1 else 0)*(pV n+1) ^ n.co.length+lA (pV n) (mT n s)
theorem GD:lA (pV n) (mT n s)<(pV n+1) ^ n.co.length:=by
 have:=zh (M:=pV n) (mT n s);unfold mT at this ⊢;rw[u9,List.length_range]at this;exact this
theorem GF{a b f e:Nat}(h:a<b)(he:e<f):a*f+e<b*f+j:=by
 have:(a+1)*f<=b*f:=Y5 _ h;rw[U7,Nat.one_mul]at this;omega
theorem Tt(h:eR n.k s'<eR n.k s):fK n s'<fK n s:=by
 unfold fK;refine GF ?_ GD;split<;>split<;>omega
theorem GG(h:eR n.k s'=eR n.k s)(a:iq n s)(e:¬iq n s'):fK n s'<fK n s:=by
 unfold fK;rw[m3 a,m5 e,h];exact GF Ω GD
theorem Tu{i:Nat}(h:eR n.k s'=eR n.k s)(j:iq n s)(p:bd n.k n.co s)(f:bd n.k n.co s')(r:∀q,bb s' q=bb s q)(hi:i<n.co.length)(w:∀q:Nat,q<=i->∀v∈bb s (q:Int),cp n s (q:Int) v<=cp n s' (q:Int) v)(A:∃v∈bb s (i:Int),cp n s (i:Int) v<cp n s' (i:Int) v):fK n s'<fK n s:=by
 by_cases x:iq n s'
 .unfold fK;rw[m3 j,m3 x,h];have a:∀(s:am)(q:Nat),q<n.co.length->(mT n s)[q]?=σ (nI n s q):=λs q y=>by unfold mT;rw[v8,List.getElem?_range y];rfl
  have z:∀s:am,(mT n s).length=n.co.length:=λs=>by unfold mT;rw[u9,List.length_range]
  have:=GB (mT n s) (mT n s') i (by rw[z,z]) (λv e=>by
   obtain⟨q,_,rfl⟩:=j0.1 e;exact Ts f) (λq u v y hu e=>by
   rw[a s q Ω]at hu;rw[a s' q Ω]at e;cases hu;cases e;exact(GC p f (r _) (w q Ω)).1) ⟨_,_,a s i hi,a s' i hi,(GC p f (r _) (w i (p8 _))).2 A⟩
  omega
 .exact GG h j x
end
def projM(j pos v c:Int):fI:=⟨0,j,pos,v,c⟩
def gf(k:Int)(j pos:Nat)(p:am×Bool)(v:Int):am×Bool:=match dl p.1 j pos v with
 |none=>p
 |some (f,_,_)=>if 0<ef k p.1 f pos v then((bg k p.1 (projM j pos v (ef k p.1 f pos v))).1,ro)else p
def pW(k:Int)(j:Nat)(sc:Λ)(p:am×Bool)(pos:Nat):am×Bool:=(bb p.1 (sc.getD pos 0)).foldl (gf k j pos) p
def eG(k:Int)(p:am×Bool)(j:Nat):am×Bool:=match p.1.d7[j]? with
 |some f=>(W3 f.sc.length).foldl (pW k j f.sc) p
 |none=>p
section
variable{n:aI}{s:am}
theorem GH{u:Nat}{f:ch}{x:bz}{i w:Int}{t un:Int->Int}(q:s.d6[u]?=σ x):cp n (fZ s j f pos u x v t un) i w=if i.toNat=u/\w.toNat=v.toNat/\et n i w/\v.toNat<x.un.length then un (x.un.getD v.toNat 0)else cp n s i w:=by
 unfold cp;by_cases a:et n i w
 .rw[m3 a,m3 a];unfold fj;have e:(fZ s j f pos u x v t un).d6=s.d6.set u {x with un:=x.un.set v.toNat (un (x.un.getD v.toNat 0))}:=rfl;rw[e,Y6];by_cases hi:u=i.toNat
  .subst hi;rw[m3 rfl,m3 (x5.1 q).1,q];dsimp only;by_cases hw:w.toNat=v.toNat
   .rw[hw];by_cases p:v.toNat<x.un.length
    .rw[m3 ⟨rfl,rfl,a,p⟩,u4,l9 p];rfl
    .rw[m5 λh=>p h.2.2.2,List.set_eq_of_length_le Ω]
   .rw[m5 λh=>hw h.2.1,u4,Z9 Ω,<-u4]
  .rw[m5 hi,m5 λh=>hi h.1.symm]
 .rw[m5 a,m5 a,m5 λh=>a h.2.2.1]
structure kR(n:aI)(s s':am):Prop where
 ok:bd n.k n.co s'
 jc:b2 s'
 same:dB s s'
 val:∀a,kh s a->fW n.k s' a=fW n.k s a
 ko:∀i,bb s' i=bb s i
 zero:s'.zero=s.zero
 un:∀i u,cp n s i u<=cp n s' i u
theorem kR.rfl(a:bd n.k n.co s)(e:b2 s):kR n s s:=⟨a,e,.rfl,λ_ _=>Eq.refl _,λ_=>Eq.refl _,Eq.refl _,λ_ _=>S8 _⟩
theorem kR.F{a b c:am}(h:kR n a b)(g:kR n b c):kR n a c:=
 ⟨g.ok,g.jc,h.same.F g.same,λx e=>(g.val x (FV h.same e)).F (h.val x e),λi=>(g.ko i).F (h.ko i),g.zero.F h.zero,λi u=>Int.le_trans (h.un i u) (g.un i u)⟩
def oH(n:aI)(s s':am):Prop:=∃i:Nat,i<n.co.length/\∃v∈bb s (i:Int),cp n s (i:Int) v<cp n s' (i:Int) v
theorem oH.then{a b c:am}(h:oH n a b)(g:kR n b c):oH n a c:=by
 obtain⟨i,hi,v,e,f⟩:=h;exact⟨i,hi,v,e,Int.lt_of_lt_of_le f (g.un _ _)⟩
theorem oH.of{a b c:am}(h:kR n a b)(g:oH n b c):oH n a c:=by
 obtain⟨i,hi,v,e,f⟩:=g;exact⟨i,hi,v,by rw[<-h.ko];exact e,Int.lt_of_le_of_lt (h.un _ _) f⟩
def q2(n:aI)(s:am):Prop:=∃i:Nat,i<n.co.length/\du s i=rs/\∃v∈bb s (i:Int),cp n s (i:Int) v=n.k
theorem q2.aZ{s':am}(h:q2 n s)(j:bd n.k n.co s)(hk:kR n s s'):q2 n s':=by
 obtain⟨i,hi,a,v,p,hu⟩:=h;have q:=j.d6;have r:=hk.same.d6;obtain⟨x,e⟩:=aF (l:=s.d6) (i:=i) Ω;obtain⟨y,f⟩:=aF (l:=s'.d6) (i:=i) Ω;refine⟨i,hi,?_,v,by rw[hk.ko];exact p,?_⟩
 .unfold du at a ⊢;rw[e]at a;rw[f];have:=(hk.same.var i x y e f).1;simpa[this]using a
 .have h1:=hk.un i v;have w:=(qR (i:=(i:Int)) (v:=v) hk.ok).2;omega
def mU(k:Int)(s:am)(j pos:Nat)(v:Int):Int:=match dl s j pos v with
 |none=>0
 |some (f,_,_)=>ef k s f pos v
theorem GI{f:ch}(a:bd n.k n.co s)(e:f∈s.d7):0<=ef n.k s f pos v/\ef n.k s f pos v<=n.k:=by
 have hk:=a.ft;exact⟨room_le.2 ⟨Ω,λt _=>(nF a e).1⟩,(room_le.1 (S8 _)).1⟩
theorem Tv{b:Bool}(A:bd n.k n.co s)(H:b2 s):kR n s (gf n.k j pos (s,b) v).1/\((gf n.k j pos (s,b) v).2=ro->b=ro\/oH n s (gf n.k j pos (s,b) v).1\/q2 n (gf n.k j pos (s,b) v).1)/\
  ((gf n.k j pos (s,b) v).2=rs->b=rs/\(gf n.k j pos (s,b) v).1=s/\mU n.k s j pos v=0):=by
 unfold gf mU;simp only;cases ac:dl s (j:Int) (pos:Int) v with
 |none=>exact⟨.rfl A H,λh=>.inl h,λh=>⟨h,rfl,rfl⟩⟩
 |some q=>
  obtain⟨f,u,x⟩:=q;obtain⟨_,_,K,Z,hu,S⟩:=mO ac;obtain⟨aa,p,T,L⟩:=jS S;rw[u6]at K hu;have M:=x6 K;have N:=GI (pos:=pos) (v:=v) A M;simp only;by_cases I:0<ef n.k s f pos v
  .rw[m3 I];have q:=(RA (k:=n.k) (a:=projM j pos v (ef n.k s f pos v)) ac).2.1 rfl N (by show _<=ef n.k s f (pos:Int).toNat v;rw[u6];exact S8 _);unfold projM at q;simp only[u6]at q;have hm:=yU (m:=projM j pos v (ef n.k s f pos v)) A H;have B:=yZ (m:=projM j pos v (ef n.k s f pos v)) A;unfold projM at hm B ⊢;obtain⟨E,F,G⟩:=hm;have U:=(room_le).1 (S8 (ef n.k s f pos v));obtain⟨ab,ad⟩:=lq A M;have ae:=il (v:=v.toNat) A p;have V:=(eZ.1 L).1;generalize af:ef n.k s f pos v=c at q E F G B U N I;obtain⟨r,C⟩:∃r,r=fZ s j f pos u.toNat x v (λg=>cU n.k g c) λg=>cm n.k g c:=⟨_,rfl⟩;rw[<-C]at q;rw[q]at E F G B ⊢;simp only at E F G B ⊢;refine⟨⟨E,F,B,λa W=>?_,λi=>by rw[C];exact FO p i,by rw[C];rfl,λi w=>?_⟩,λ_=>.inr ?_,λh=>(by cases h)⟩
   .have:=G a W;unfold oC at this;rw[m5 Ξ]at this;exact this
   .rw[C,GH p];split
    .rename_i h;obtain⟨h1,X,Y,ag⟩:=h;have e:cp n s i w=x.un.getD v.toNat 0:=by unfold cp fj;rw[m3 Y,h1,p,X]
     rw[e];unfold cm;omega
    .exact S8 _
   .have ah:=(x5.1 p).1;have ai:=A.d6;obtain⟨z,J⟩:=aF (l:=n.co) (i:=u.toNat) Ω;have aj:=(A.var u.toNat x z p J).1;have ak:=A.eD.2.2 z (x6 J);have O:et n (u.toNat:Int) v:=⟨Ω,Ω,V.1,by rw[u6,u4,J,V9];omega⟩;have P:v∈bb s (u.toNat:Int):=by
     unfold bb;rw[u6,p];exact L
    have e:cp n s (u.toNat:Int) v=x.un.getD v.toNat 0:=by unfold cp fj;rw[m3 O,u6,p]
    have Q:cp n r (u.toNat:Int) v=cm n.k (x.un.getD v.toNat 0) c:=by rw[C,GH p,m3 ⟨Ω,rfl,O,Ω⟩]
    by_cases hk:x.un.getD v.toNat 0<n.k
    .refine .inl ⟨u.toNat,Ω,v,P,?_⟩;rw[e,Q];unfold cm;omega
    .refine .inr ⟨u.toNat,Ω,?_,v,?_,?_⟩
     .obtain⟨y,R⟩:=aF (l:=r.d6) (i:=u.toNat) (by have:=B.d6;omega);unfold du;rw[R];have:=(B.var u.toNat x y p R).1;simp[this,T]
     .rw[C,FO p];exact P
     .rw[Q];unfold cm;omega
  .rw[m5 I];exact⟨.rfl A H,λh=>.inl h,λh=>⟨h,rfl,Ω⟩⟩
end
section
variable{n:aI}{s:am}
def nJ(n:aI)(s:am)(b:Bool)(r:am×Bool)(R:Prop):Prop:=kR n s r.1/\(r.2=ro->b=ro\/oH n s r.1\/q2 n r.1)/\(r.2=rs->b=rs/\r.1=s/\R)
theorem nJ.F{b:Bool}{r q:am×Bool}{R:Prop}{R':am->Prop}(h:nJ n s b r R)(g:nJ n r.1 r.2 q (R' r.1)):nJ n s b q (R/\R' s):=by
 obtain⟨h1,j,p⟩:=h;obtain⟨g1,w,x⟩:=g;refine⟨h1.F g1,λa=>?_,λa=>?_⟩
 .rcases w a with h|h|h
  .rcases j h with h|h|h
   .exact .inl h
   .exact .inr (.inl (h.then g1))
   .exact .inr (.inr (h.aZ h1.ok g1))
  .exact .inr (.inl (.of h1 h))
  .exact .inr (.inr h)
 .obtain⟨y,e,f⟩:=x a;obtain⟨f1,f2,f3⟩:=p y;rw[f2]at e f;exact⟨f1,e,f3,f⟩
theorem sW{α:Type}{step:am×Bool->α->am×Bool}{R:α->am->Prop}(h:∀a s b,bd n.k n.co s->b2 s->nJ n s b (step (s,b) a) (R a s)):
  ∀(L:List α)(s:am)(b:Bool),bd n.k n.co s->b2 s->nJ n s b (L.foldl step (s,b)) (∀a∈L,R a s)
 |[],s,b,e,f=>⟨.rfl e f,λh=>.inl h,λh=>⟨h,rfl,λ_ j=>by cases j⟩⟩
 |a::L,s,b,e,f=>by
  have h1:=h a s b e f;have p:=sW h L (step (s,b) a).1 (step (s,b) a).2 h1.1.ok h1.1.jc;obtain⟨q,r,w⟩:=nJ.F (R':=λs=>∀a∈L,R a s) h1 p;refine⟨q,r,λx=>?_⟩;obtain⟨y,z,A,B⟩:=w x;exact⟨y,z,List.forall_mem_cons.2 ⟨A,B⟩⟩
theorem GJ{b:Bool}(a:bd n.k n.co s)(e:b2 s):nJ n s b (eG n.k (s,b) j) (∀f,s.d7[j]?=σ f->∀pos∈W3 f.sc.length,∀v∈bb s (f.sc.getD pos 0),mU n.k s j pos v=0):=by
 unfold eG;simp only;cases x:s.d7[j]? with
 |none=>exact⟨.rfl a e,λh=>.inl h,λh=>⟨h,rfl,λ_ h=>by cases h⟩⟩
 |some f=>
  simp only;have h1:∀(pos:Nat)(s:am)(b:Bool),bd n.k n.co s->b2 s->nJ n s b (pW n.k j f.sc (s,b) pos) (∀v∈bb s (f.sc.getD pos 0),mU n.k s j pos v=0):=λpos s b a e=>
   sW (λv s b a e=>Tv a e) (bb s (f.sc.getD pos 0)) s b a e
  obtain⟨q,r,p⟩:=sW h1 (W3 f.sc.length) s b a e;exact⟨q,r,λh=>⟨(p h).1,(p h).2.1,λg w=>by cases w;exact(p h).2.2⟩⟩
def vE(n:aI)(O:List Nat)(s:am):Prop:=∀j∈O,∀f,s.d7[j]?=σ f->∀pos∈W3 f.sc.length,∀v∈bb s (f.sc.getD pos 0),mU n.k s j pos v=0
def eg(n:aI)(O:List Nat)(s:am):am×Bool×Bool:=if(fu n s).2.2=ro\/(fu n s).2.1=ro then fu n s else((O.foldl (eG n.k) ((fu n s).1,rs)).1,(O.foldl (eG n.k) ((fu n s).1,rs)).2,rs)
theorem Tw{s':am}(h:dB s s')(f:∀i,bb s' i=bb s i):gB s'=gB s:=by
 unfold gB;congr 1;refine X3 λi=>?_;rw[v8,v8];have j:=h.d6;by_cases hi:i<s.d6.length
 .obtain⟨x,a⟩:=aF (l:=s.d6) hi;obtain⟨y,e⟩:=aF (l:=s'.d6) (i:=i) Ω;have:=f (i:Int);unfold bb at this;rw[u6,a,e]at this;rw[a,e,Y3,Y3];exact congrArg (λl=>σ (R6 l)) this
 .rw[Y4 Ω,Y4 Ω]
theorem Tx(a:bd n.k n.co s)(h:q2 n s):¬iq n s:=λe=>by
 obtain⟨i,hi,f,v,j,hu⟩:=h;have:=(e i hi (by rw[u6];exact f)).2.2 v j;rw[hu]at this;unfold cm at this;have:=a.zero.1;omega
theorem kR.Ty{s':am}(h:kR n s s'):gx n.k n.co s s':=⟨h.ok,h.jc,h.same,h.val,λi u hu=>by rw[h.ko]at hu;exact hu,by rw[h.zero];exact S8 _⟩
theorem zi(w:bd n.k n.co s)(z:b2 s):gx n.k n.co s (eg n O s).1/\((eg n O s).2.2=ro->(eg n O s).2.1=rs/\∃i<n.co.length,du s i=rs/\bb (eg n O s).1 (i:Int)=[])/\
  ((eg n O s).2.2=rs->(eg n O s).2.1=ro->fK n (eg n O s).1<fK n s)/\((eg n O s).2.2=rs->(eg n O s).2.1=rs->(eg n O s).1=s/\iq n s/\vE n O s):=by
 obtain⟨h1,E,F,G⟩:=Gw w z;generalize f:eg n O s=r;unfold eg at f;by_cases p:(fu n s).2.2=ro\/(fu n s).2.1=ro
 .rw[m3 p]at f;subst f;refine⟨h1,E,λhe x=>Tt (F he x),λhe x=>?_⟩
  .rw[he,x]at p;simp at p
 .rw[m5 p]at f;have he:(fu n s).2.2=rs:=by simpa using λh=>p (.inl h)
  have x:(fu n s).2.1=rs:=by simpa using λh=>p (.inr h)
  obtain⟨e,y⟩:=G he x;have y:=y;rw[e]at f;obtain⟨a,A,B⟩:=sW (λj s b w z=>GJ w z) O s rs w z;generalize O.foldl (eG n.k) (s,rs)=q at a A B f;subst f;refine⟨a.Ty,λh=>(by cases h),λ_ h=>?_,λ_ h=>?_⟩
  .have C:eR n.k q.1=eR n.k s:=by unfold eR;rw[Tw a.same a.ko,a.zero]
   show fK n q.1<fK n s;rcases(A h).resolve_left Φ with⟨i,hi,v,H,I⟩|J
   .exact Tu C y w a.ok a.ko hi (λq _ v _=>a.un _ _) ⟨v,H,I⟩
   .exact GG C y (Tx a.ok J)
  .obtain⟨_,K,L⟩:=B h;exact⟨K,y,L⟩
def jT(n:aI)(O:List Nat):Nat->am->am×Bool
 |0,s=>(s,rs)
 |f+1,s=>if(eg n O s).2.2=ro then((eg n O s).1,ro)else if(eg n O s).2.1=ro then jT n O f (eg n O s).1 else((eg n O s).1,rs)
theorem GK{s':am}{i:Nat}(h:dB s s')(hi:i<s.d6.length):du s' i=du s i:=by
 have f:=h.d6;obtain⟨x,a⟩:=aF (l:=s.d6) hi;obtain⟨y,e⟩:=aF (l:=s'.d6) (i:=i) Ω;unfold du;rw[a,e];simp only;rw[(h.var i x y a e).1]
theorem vF{α:Type}{step:am×Bool->α->am×Bool}:∀(L:List α),(∀a∈L,step (s,rs) a=(s,rs))->L.foldl step (s,rs)=(s,rs)
 |[],_=>rfl
 |a::L,h=>by
  rw[V8,h a (.head _)];exact vF L λb e=>h b (.tail _ e)
theorem Tz(a:bd n.k n.co s)(h:iq n s)(p:vE n O s):eg n O s=(s,rs,rs):=by
 have e:fu n s=(s,rs,rs):=Gy a _ λi hi=>h i (T6.1 hi);have q:O.foldl (eG n.k) (s,rs)=(s,rs):=by
  refine vF O λj r=>?_;unfold eG;simp only;cases w:s.d7[j]? with
  |none=>rfl
  |some f=>
   simp only;refine vF _ λpos ac=>?_;unfold pW;refine vF _ λv y=>?_;have:=p j r f w pos ac v y;unfold mU at this;unfold gf;simp only;split
   .rfl
   .rename_i g u x z;rw[z]at this;simp only at this;rw[m5 Ω]
 unfold eg;rw[e,q];rfl
end
theorem GL{P:Nat->Prop}:∀m,P m->∃m,P m/\∀k,P k->m<=k:=λm=>by
 induction m using Nat.strongRecOn with
 |ind m a=>
  intro hm;by_cases h:∃k,k<m/\P k
  .obtain⟨k,h1,e⟩:=h;exact a k h1 e
  .exact⟨m,hm,λk hk=>Nat.le_of_not_lt λf=>h ⟨k,f,hk⟩⟩
open Classical in
theorem bZ.sink{B:x1->x4->(x1->x4->Prop)->Prop}(ay:Nat->x4->Prop){m:Nat}(q:ay m w)(J:∀(m:Nat)(a:x1)(I:x4)(k:x1->x4->Prop),ay m I->(∀bP a f,bP<m->ay bP f->k a f)->B a I k):bZ a w B:=by
 have j:∀{w:x4},(∃m,ay m w)->∃m,ay m w/\∀k,ay k w->m<=k:=λ⟨m,h⟩=>GL (P:=λm=>ay m _) m h;refine⟨λ_ w=>∃m,ay m w,λ_ w=>if h:∃m,ay m w then Classical.choose (j h)else 0,⟨m,q⟩,λa I p=>?_⟩;obtain⟨h1,r⟩:=Classical.choose_spec (j p);refine J _ a I _ h1 λbP _ f s e=>⟨⟨bP,e⟩,?_⟩;have x:=(Classical.choose_spec (j ⟨bP,e⟩)).2 bP e;show dite _ _ _<dite _ _ _;rw[dif_pos p,dif_pos ⟨bP,e⟩];omega
theorem GM{k i:Int}:∀(L M:Λ)(p:am×Bool),dm k i (L++M) p=dm k i M (dm k i L p)
 |[],_,_=>rfl
 |v::L,M,p=>by
  rw[List.cons_append,dm,dm];exact GM L M _
theorem TA{i:Int}{L:Λ}{p:am×Bool}(h:L[j]?=σ v):dm k i (L.take (j+1)) p=((bg k (dm k i (L.take j) p).1 (eF i v)).1,decide ((bg k (dm k i (L.take j) p).1 (eF i v)).2=0)||(dm k i (L.take j) p).2):=by
 rw[r8,h,o9,GM];rfl
section
variable{ao:List aw}{w:x4}{ad ae:Nat}{A R:ah}{n:aI}{s:am}{t:aw}
theorem TB{i:Nat}{x:bz}(h:bt w ad ae A R n s t)(ab:Laid w)(aI:¬A 0)(aJ:dN ao t)(z:s.d6[i]?=σ x):al x8 IV [Γ ad,Δ (i:Int)] w λr I=>r= .bool (dm n.k (i:Int) (aC x) (s,rs)).2/\cM ao w ad ae A R n (dm n.k (i:Int) (aC x) (s,rs)).1 I:=by
 refine iK func99 ?_;refine bo λg1 U bf aq C=>?_;refine bo λaL aa bh ah E=>?_;have bi:=ag.lt C;have bj:=ag.lt E;refine bB ed.i λf bl bm aM aN=>?_;refine bq (o:=0) ed.i rfl rfl aN (by show 0<1;omega) λH aO bp O=>?_;have O:ag H f ed [.bool rs]:=O;have P:Ext aa H:=aM.put aO Ω;have C:ag H g1 dx [Γ ad]:=(ag.W C ah).W P;have E:ag H aL aj [Δ (i:Int)]:=ag.W E P;have ai:=(aq.F ah).F P;have br:=aq.size;have bs:=ah.size;have bu:=P.size;have bw:=C.lt;have bx:=E.lt;have bA:=O.lt;have ac:=sU ab;rw[aD (v:=Γ ad) Ψ (C.Qz rfl),aD (v:=Δ (i:Int)) Ψ (E.Qz rfl)];refine(jP (i:=(i:Int)) (h.W ai)).Y ?_;rintro _ bC _ ⟨⟨b,am,rfl,Q⟩,au⟩;refine(ns (b:=b) (n:=am)).Y ?_;rintro _ q _ ⟨aP,J,rfl,bD,av⟩;have aw:=ln Q Ω (show s.d6[(i:Int).toNat]?=σ x by rw[u6];exact z);have L:=au.F aP;have z5:=au.size;have z46:=L.size;have bE:=av.lt;refine kX.old ⟨_,rs,jX,#[Γ J],_,_,_,_,λj I=>dO ao w ad ae A R n w.heap.size (λr=>q.heap.size<=r) (dm n.k (i:Int) ((aC x).take j) (s,rs)).1 I/\af (λr=>r<w.heap.size\/q.heap.size<=r\/r=f) q I/\ag I f ed [.bool (dm n.k (i:Int) ((aC x).take j) (s,rs)).2],λ_ _ _=>False,rfl,(nr (g:=J) Q.1).s,?_,
  λ_ _ z h=>⟨h.1.W z,h.2.W z⟩,λ_ _ _ z h=>⟨h.1.W z,h.2.1.F (z.V _),h.2.2.W z⟩,λ_ _ _ _ _ h=>h,⟨av,ab.W (ai.F L)⟩,⟨dO.start h ab aI aJ (ai.F L) (p8 _),af.refl _ _,O.W L⟩,?_,?_,λ_ _ h=>h.elim,λ_ _ _ h=>h.elim⟩
 .rintro _ _ _ _ ⟨_,_,_,_,rfl⟩;rfl
 .rintro _ j _ bF ⟨ax,aQ⟩ ⟨bG,rfl,v,aR,aS⟩ ⟨S,W,X⟩;cases aS;intro aT M _ _;have aU:(aC x)[j]?=σ (v:Int):=by rw[<-aw,v8,aR];rfl
  have aZ:∀{g:Nat}{e:p9}{cs:List x1},w.heap.size<=g->g<f->ag H g e cs->ag aT g e cs:=λaV aW aX=>((aX.W L).V W Ω).W M;have an:=TA (k:=n.k) (i:=(i:Int)) (p:=(s,rs)) aU;obtain⟨bH,bI,aY,a1,a2,a6⟩:=S.sS;have ay:∀{B:x4}{c:x1}{d:Bool},d=(dm n.k (i:Int) ((aC x).take (j+1)) (s,rs)).2->ag B J b3 [.int .u64 b,Δ am]->Laid B->dO ao w ad ae A R n w.heap.size (λr=>q.heap.size<=r) (dm n.k (i:Int) ((aC x).take (j+1)) (s,rs)).1 B->af (λr=>r<w.heap.size\/q.heap.size<=r\/r=f) q B->ag B f ed [c]->
    ∀{K:Unit->x4->Prop},(∀y,(ag y J b3 [.int .u64 b,Δ am]/\Laid y)/\(dO ao w ad ae A R n w.heap.size (λr=>q.heap.size<=r) (dm n.k (i:Int) ((aC x).take (j+1)) (s,rs)).1 y/\af (λr=>r<w.heap.size\/q.heap.size<=r\/r=f) q y/\ag y f ed [.bool (dm n.k (i:Int) ((aC x).take (j+1)) (s,rs)).2])->K () y)->
    aH x8 (n9 ed (Γ f) (.bool d)) B K:=λ{B c d}Q Y G az aA a7{K}a8=>by
   subst Q;refine bq (o:=0) ed.i rfl rfl a7 Ξ λy Z bJ ba=>?_;have z9:=aA.size;exact a8 _ ⟨⟨Y.V Z λh=>by have h:J=f:=h;omega,iu Z (λh=>by have h:0=f:=h;omega) G⟩,az.own Z λr N=>by have N:r=f:=N;subst N;exact⟨Ω,Ω⟩,aA.F (Z.Y λr _ N=>.inr (.inr N)),ba⟩
  rw[aD (v:=Γ ad) Ψ ((aZ Ω Ω C).Qz rfl),aD (v:=Δ (i:Int)) Ψ ((aZ Ω Ω E).Qz rfl)];have bK:=W.size;refine(Gm (a:=eF (i:Int) (v:Int)) rfl (aY.W M) (aQ.W M) a2 a1).Y ?_;rintro _ aB _ ⟨rfl,bb,aE,aK,bn,bc,aF,bd,bL⟩;rw[<-show(dm n.k (i:Int) ((aC x).take (j+1)) (s,rs)).1=(bg n.k (dm n.k (i:Int) ((aC x).take j) (s,rs)).1 (eF (i:Int) (v:Int))).1 by rw[an]]at aF;obtain⟨Y,G,az⟩:=a6 (D':=λr=>q.heap.size<=r) (jp M bb) ((Grow.W M).F bc) aF bd (λr h=>h) λr aV aW=>Ω
  have ap:ag aB f ed _:=X.V G Ω;rw[bk,ak];have aG:af (λr=>r<w.heap.size\/q.heap.size<=r\/r=f) q aB:=W.F (G.Y λr _ h=>h.imp id .inl);refine⟨λhe=>?_,λhe=>?_⟩
  .have e:(dm n.k (i:Int) ((aC x).take (j+1)) (s,rs)).2=ro:=by rw[an,m7 he,Bool.true_or]
   exact ay e.symm (ax.V G Ω) aE Y aG ap λy h=>⟨h.1,h.2,λh=>by cases h⟩
  .have e:(dm n.k (i:Int) ((aC x).take (j+1)) (s,rs)).2=(dm n.k (i:Int) ((aC x).take j) (s,rs)).2:=by rw[an,ms he,Bool.false_or]
   rw[aD Ψ (ap.Qz rfl)];exact ay e.symm (ax.V G Ω) aE Y aG ap λy h=>⟨h.1,h.2,λh=>by cases h⟩
 .rintro k bM rfl ⟨S,W,X⟩;rw[j5 (by rw[<-aw,u9];exact p8 _)]at S X;rw[aD Ψ (X.Qz rfl)];intro bN be _;exact⟨rfl,S.done be⟩
theorem TC{N i:Nat}(h:i<N):(W3 N).drop i=i::(W3 N).drop (i+1):=by
 rw[X8 (by simpa using h),List.getElem_range]
def GN(ao:List aw)(w:x4)(ad ae:Nat)(A R:ah)(n:aI)(q:am×Bool×Bool)(r:x1)(I:x4):Prop:=r= .tuple #[.bool q.2.1,Δ (if q.2.2=ro then 8 else 0)]/\cM ao w ad ae A R n q.1 I
theorem TD(h:bt w ad ae A R n s t)(ag:Laid w)(ah:¬A 0)(ai:dN ao t)(aj:b2 s):al x8 AH [Γ ad] w (GN ao w ad ae A R n (fu n s)):=by
 have E:=h.2.2.2.1;have aL:=E.d6;have aM:=E.eD.2.1;refine aB func53 ?_;rw[cR dx.u];simp only[Z3,aX];refine(yt h).Y ?_;rintro _ U _ ⟨rfl,am⟩;refine ra.range n.co.length (λi _ _ c aa=>∃s1 b,c= .bool b/\cM ao w ad ae A R n s1 aa/\gx n.k n.co s s1/\fu n s=gR n ((W3 n.co.length).drop i) (s1,b)) Ω ⟨s,rs,rfl,cM.same h ag ah ai am,.rfl E aj,rfl⟩ ?_ ?_
 .rintro i aN t3 _ aa an hi ⟨s1,b,rfl,hm,j,p⟩ ap;refine bI Ω ?_;obtain⟨aP,aQ,V,aq,au,av,aw⟩:=hm.open;have aS:=j.ok.d6;obtain⟨x,W⟩:=aF (l:=s1.d6) (i:=i) Ω;rw[TC hi,gR]at p;have ax:bb s1 (i:Int)=aC x:=sV W;refine BK (λ_ _ r I=>r= .bool (e8 n (i:Int) (s1,b)).2.1/\(e8 n (i:Int) (s1,b)).2.2=rs/\cM ao w ad ae A R n (e8 n (i:Int) (s1,b)).1 I) ?_ λay y=>?_
  .rintro _ _ _ aT ⟨rfl,he,az⟩;rw[aO];refine ap _ _ _ _ ⟨_,_,rfl,az,j.F (Gu (i:=(i:Int)) (b:=b) j.ok j.jc Ω Ω).1,?_⟩;rw[p,m5 (by rw[he];decide)]
  refine(sB (i:=(i:Int)) V).Y ?_;rintro _ aU _ ⟨rfl,B⟩;rw[m7 Ω,S0,u6,bY];refine⟨λC=>?_,λC=>?_⟩
  .have e:e8 n (i:Int) (s1,b)=(s1,b,rs):=by unfold e8;rw[u6,m3 C]
   rw[e]at y;exact y _ _ _ _ ⟨rfl,rfl,hm.W B⟩
  have f:e8 n (i:Int) (s1,b)=(let q:=dm n.k (i:Int) (aC x) (s1,rs);if(dA n q.1 (i:Int)).2<0 then(q.1,rs,ro)else if 0<(dA n q.1 (i:Int)).1 then((bg n.k q.1 (l5 (i:Int) (dA n q.1 (i:Int)).1)).1,ro,rs)else(q.1,q.2||b,rs)):=by
   unfold e8;rw[u6,m5 (by rw[C];decide),ax]
  have ac:=(zf (i:=(i:Int)) (aC x) s1 rs j.ok j.jc).1;simp only at f;generalize aA:dm n.k (i:Int) (aC x) (s1,rs)=q at f ac;refine aV (λr I=>r= .bool (q.2||b)/\cM ao w ad ae A R n q.1 I) ?_ λaW X=>?_
  rotate_left
  .refine (TB (V.W B) (aq.W B) au av W).Y ?_;rintro _ aD _ ⟨rfl,Y⟩;rw[aA]at Y ⊢;have Z:cM ao w ad ae A R n q.1 aD:=by
    obtain⟨G,H,J,K,L,M,N,O⟩:=Y;exact aw ⟨jp B G,H,J,K,(Grow.W B).F L,M,N,O⟩
   rw[bY];exact⟨λh=>X _ _ ⟨by rw[h,Bool.true_or],Z⟩,λh=>X _ _ ⟨by rw[h,Bool.false_or],Z⟩⟩
  rintro _ aY ⟨rfl,P⟩;obtain⟨aZ,t5,ab,af,aE,aG,aH⟩:=P.open;have aI:du q.1 i=rs:=by rw[GK ac.same Ω];exact C
  have aJ:lp n q.1 (i:Int)=ro:=by
   unfold lp;rw[u6,aI,m7 (show(0:Int)<=i/\(i:Int)<n.co.length by omega)];rfl
  refine(Tm ab af aJ).Y ?_;rintro _ a1 _ ⟨z,rfl⟩;rw[fQ,fR,fS,aR,ak];refine⟨λQ=>?_,λQ=>?_⟩
  .rw[m3 Q]at f;rw[f,m3 rfl]at p;rw[p];exact⟨rfl,P.W z⟩
  rw[m5 Q]at f;rw[bO,ak];refine⟨λS=>?_,λS=>?_⟩
  .rw[m3 S]at f;rw[f]at y;refine(Gl (a:=l5 (i:Int) (dA n q.1 (i:Int)).1) rfl (ab.W z) (af.W z) aE aG).Y ?_;rintro _ a2 _ ⟨_,aK⟩;refine y _ _ _ _ ⟨rfl,rfl,?_⟩;obtain⟨G,H,J,K,L,M,N,O⟩:=aK;exact aH ⟨jp z G,H,J,K,(Grow.W z).F L,M,N,O⟩
  .rw[m5 S]at f;rw[f]at y;exact y _ _ _ _ ⟨rfl,rfl,P.W z⟩
 .rintro _ _ _ aa an ⟨s1,b,rfl,hm,j,p⟩;refine cc Ω ?_;rw[List.drop_eq_nil_of_le Ξ,gR]at p;rw[p];exact⟨rfl,hm⟩
end
theorem TE{b n:Nat}(a:mv b n):al x8 AD [kc b n] w λr I=>r=Δ (qZ b:Int)/\Ext w I:=by
 have e:b<4294967296:=by
  have:=a.2;have:(2:Nat) ^ n<=2 ^ 32:=S4 Ω a.1;omega
 refine aB func26 ?_;refine bo λg U q f h=>?_;rw[aL b3.p 0 h rfl];refine(Ge e).Y ?_;rintro _ aa _ ⟨rfl,j⟩;exact⟨rfl,f.F j⟩
section
variable{w:x4}{dD:x1}{n:aI}{s:am}
theorem TF{i:Nat}{x:bz}(f:bd n.k n.co s)(a:s.d6[i]?=σ x):lz n s (i:Int)↔(x.gone=0->aC x≠[]/\(dz n.k (aC x) λv=>x.un.getD v.toNat 0).1=0/\∀v∈aC x,min (s.zero+x.un.getD v.toNat 0) n.k<n.k):=by
 unfold lz;rw[u6,sV a,Tl f a];have q:du s i=decide (x.gone≠0):=by unfold du;rw[a]
 rw[q,decide_eq_false_iff_not];refine⟨λh r=>?_,λh r=>?_⟩
 .obtain⟨h1,j,p⟩:=h Ω;refine⟨h1,j,λv e=>?_⟩;have:=p v e;rw[ze f a e]at this;exact this
 .obtain⟨h1,j,p⟩:=h Ω;refine⟨h1,j,λv e=>?_⟩;rw[ze f a e];exact p v e
theorem TG(h:ja w dD n.k n.co s)(f:bd n.k n.co s):al x8 Ia [dD] w λr I=>Ext w I/\∃b:Bool,r= .bool b/\(b=ro↔iq n s):=by
 have aS:=f.d6;have aT:=f.eD.2.1;have aU:=f.ft;have aX:=f.zero;refine aB func42 ?_;refine bo λg1 U aZ M ag=>?_;have X:=h.box M ag;obtain⟨d9,a1,a2,a7,a8,ba,A,ah,_,Y,ai,am,bb,bc⟩:=id X;rw[aL a6.p 1 A rfl,aY aq.u ah];refine cb.range n.co.length (λi _ aa=>Ext U aa/\∀q,q<i->lz n s ((q:Nat):Int)) Ω ⟨Ext.refl _,λq j=>m6 j (Nat.not_lt_zero _)⟩ ?_ ?_
 rotate_left
 .rintro _ aa an ⟨z,N⟩;exact cc Ω ⟨M.F z,ro,rfl,λ_=>N,λ_=>rfl⟩
 rintro i be aa an hi ⟨z,N⟩ ao;obtain⟨x,y⟩:=aF (l:=s.d6) (i:=i) Ω;have bf:=qV x;have H:=TF f y;refine bI Ω ?_;have ap:lz n s (i:Int)->∀q,q<i+1->lz n s ((q:Nat):Int):=λh q j=>by
  rcases Nat.lt_or_eq_of_le (Nat.le_of_lt_succ j)with aW|rfl
  .exact N q aW
  .exact h
 have no:∀{I:x4},Ext U I->¬lz n s (i:Int)->Ext w I/\∃b:Bool,x1.bool rs= .bool b/\(b=ro↔iq n s):=λav B=>⟨M.F av,rs,rfl,λh=>(by cases h),λh=>m6 (h i hi) B⟩;refine aV (λ_ I=>Ext U I/\lz n s (i:Int)) (λ_ I Z=>by rw[aO];exact ao _ _ ⟨Z.1,ap Z.2⟩) λay ab=>?_;rw[aL a6.p 4 (A.W z) rfl];refine jx (α:=Bool) rfl rfl kY.u ed.i Ψ (bS ai z) (by rw[v8,y];rfl) λaw az=>?_;obtain rfl:aw= .bool (decide (x.gone≠0)):=(List.cons.inj az).1;rw[ak];refine⟨λaA=>ab _ _ ⟨z,H.2 λh=>m6 h aA⟩,λbg=>?_⟩;have ac:x.gone=0:=Ω
 refine(X.W z).load λbh aD=>?_;refine(SV aD f y).Y ?_;rintro _ bj _ ⟨aE,rfl⟩;have J:=z.F aE;rw[bu,bw];have bl:0<=(dz n.k (aC x) λv=>x.un.getD v.toNat 0).1:=(FQ Ω λv _=>il f y).1;refine aV (λr I=>Ext U I/\r= .bool (decide (aC x=[]\/0<(dz n.k (aC x) λv=>x.un.getD v.toNat 0).1))) ?_ λbm ad=>?_
 rotate_left
 .rw[aL a6.p 3 (A.W J) rfl];refine jx rfl rfl dn.u aq.i Ψ (bS Y J) (by rw[v8,y];rfl) λaG O=>?_;rw[aY aq.u (dQ O),bk,ak];refine⟨λP=>ad _ _ ⟨J,by rw[m7 (.inl (c9 Ω))]⟩,λP=>?_⟩;rw[bO];refine ad _ _ ⟨J,?_⟩;congr 1;exact decide_eq_decide.2 ⟨λh=>.inr h,λh=>h.resolve_left λe=>by rw[e]at P;exact P rfl⟩
 rintro _ aH ⟨C,rfl⟩;rw[ak];refine⟨λK=>no C λB=>?_,λK=>?_⟩
 .obtain⟨h1,bn,_⟩:=H.1 B ac;exact K.elim h1 λh=>Ω
 have aI:aC x≠[]:=λe=>K (.inl e);have aJ:(dz n.k (aC x) λv=>x.un.getD v.toNat 0).1=0:=by
  have:¬0<(dz n.k (aC x) λv=>x.un.getD v.toNat 0).1:=λe=>K (.inr e);omega
 rw[aL a6.p 3 (A.W C) rfl];refine jx rfl rfl dn.u aq.i Ψ (bS Y C) (by rw[v8,y];rfl) λaG O=>?_;have Q:=dQ O;rw[aY aq.u Q];refine cb.range (aC x).length (λq _ R=>Ext aH R/\∀v∈(aC x).take q,min (s.zero+x.un.getD v.toNat 0) n.k<n.k) Q.le ⟨Ext.refl _,λv E=>by cases E⟩ ?_ ?_
 rotate_left
 .rintro _ R aK ⟨G,j⟩;rw[o6]at j;exact cc Ω (ab _ _ ⟨C.F G,H.2 λ_=>⟨aI,aJ,j⟩⟩)
 rintro q bp R aK j ⟨G,aM⟩ aN;obtain⟨v,E⟩:=aF (l:=aC x) j;have ae:=x6 E;have aP:=(eZ.1 ae).1;obtain⟨S,rfl⟩:=V3 aP.1;have bq:=il (v:=S) f y;have aQ:=C.F G;refine bI Ω ?_;rw[bi aq.u aj.i Ψ (Q.W G) E];intro br af _ _;have V:=aQ.F af;have L:=A.W V;rw[aL a6.p 2 L rfl,aL a6.p 5 L rfl];refine jx (a:=x.un) (i:=i) rfl rfl ev.u ax.i Ψ (bS am V) (by rw[v8,y];rfl) λbs aR=>?_;rw[bi ax.u au.i Ψ (dQ aR) (getD_some (i:=S) Ω),aL a6.p 0 L rfl,aL a6.p 0 L rfl];refine(pu Ω Ω).Y ?_;rintro _ bt _ ⟨rfl,W⟩;refine⟨.inl W,?_⟩;rw[bk,ak];refine⟨λhe=>no (V.F W) λB=>?_,λhe=>?_⟩
 .have:=(H.1 B ac).2.2 (S:Int) ae;rw[u6]at this;omega
 .rw[aO];refine aN _ _ ⟨(G.F af).F W,λu hu=>?_⟩;rw[r8,E,o9,j4,j6]at hu;rcases hu with hu|rfl
  .exact aM u hu
  .rw[u6];omega
end
structure TH(P:am->Prop)(n:aI)(s:am)(q:am×Bool):Prop where
 aZ:gx n.k n.co s q.1
 emp:q.2=ro->∃i<n.co.length,du q.1 i=rs/\bb q.1 (i:Int)=[]
 GO:q.2=rs->iq n q.1/\P q.1
 quiet:iq n s->P s->q=(s,rs)
section
variable{ao:List aw}{w:x4}{ad ae:Nat}{A R:ah}{n:aI}{s:am}{t:aw}
end
section
variable{w:x4}{dD:x1}{n:aI}{s:am}
end
structure jU(n:Nat)(H:List (Int×Int))(P:Λ):Prop where
 len:P.length=n
 ac:∀(i:Nat)a,H[i]?=σ a->0<=a.2/\a.2<n/\P[a.2.toNat]?=σ (i:Int)
 pl:∀(x:Nat)i,P[x]?=σ i->i= -1\/∃(j:Nat)(a:Int×Int),i=(j:Int)/\H[j]?=σ a/\a.2=(x:Int)
section
variable{n:Nat}{H:List (Int×Int)}{P:Λ}
theorem jU.inj(h:jU n H P){i k:Nat}{a b:Int×Int}(f:H[i]?=σ a)(j:H[k]?=σ b)(e:a.2=b.2):i=k:=by
 have h1:=(h.ac i a f).2.2;have p:=(h.ac k b j).2.2;rw[e,p]at h1;have:=Z6 h1;omega
theorem jU.new(n:Nat):jU n [] (o4 n (-1)):=⟨Ξ,λi a h=>by simp at h,λx i h=>.inl (List.mem_replicate.1 (x6 h)).2⟩
theorem jU.swap(h:jU n H P){i k:Nat}{a b:Int×Int}(r:H[i]?=σ a)(q:H[k]?=σ b):jU n ((H.set i b).set k a) ((P.set b.2.toNat i).set a.2.toNat k):=by
 obtain⟨a0,C,M⟩:=h.ac i a r;obtain⟨E,F,N⟩:=h.ac k b q;have A:=(x5.1 r).1;have B:=(x5.1 q).1;have G:=h.len;refine⟨by rw[o5,o5];exact G,λj c f=>?_,λx v p=>?_⟩
 .rw[Y6]at f;by_cases s:k=j
  .subst s;rw[m3 rfl,m3 (by rw[o5];exact B)]at f;cases f;exact⟨a0,C,by rw[l9 (by rw[o5];omega)]⟩
  .rw[m5 s,Y6]at f;by_cases w:i=j
   .subst w;rw[m3 rfl,m3 A]at f;cases f;refine⟨E,F,?_⟩;have O:a.2≠b.2:=λe=>s (h.inj r q e).symm;rw[Z9 Ω,l9 Ω]
   .rw[m5 w]at f;obtain⟨fo,I,J⟩:=h.ac j c f;have h1:a.2≠c.2:=λe=>w (h.inj r f e);have Q:b.2≠c.2:=λe=>s (h.inj q f e);exact⟨fo,I,by rw[Z9 Ω,Z9 Ω];exact J⟩
 .rw[Y6]at p;by_cases y:a.2.toNat=x
  .rw[m3 y,m3 (by rw[o5];omega)]at p;cases p;exact .inr ⟨k,a,rfl,by rw[l9 (by rw[o5];exact B)],Ω⟩
  .rw[m5 y,Y6]at p;by_cases z:b.2.toNat=x
   .rw[m3 z,m3 Ω]at p;cases p;have K:k≠i:=λe=>by
     subst e;rw[r]at q;cases q;exact y z
    exact .inr ⟨i,b,rfl,by rw[Z9 K,l9 A],Ω⟩
   .rw[m5 z]at p;rcases h.pl x v p with e|⟨j,c,e,f,L⟩
    .exact .inl e
    .refine .inr ⟨j,c,e,?_,L⟩;rw[Z9 λe=>?_,Z9 λe=>?_]
     .exact f
     .subst e;rw[r]at f;cases f;omega
     .subst e;rw[q]at f;cases f;omega
theorem jU.push(h:jU n H P){x:Nat}{p:Int}(q:P[x]?=σ (-1)):jU n (H++[(p,(x:Int))]) (P.set x H.length):=by
 have r:=(x5.1 q).1;have w:=h.len;have z:∀(j:Nat)c,H[j]?=σ c->c.2≠(x:Int):=λj c a e=>by
  have:=(h.ac j c a).2.2;rw[e,u6,q]at this;have:=Z6 this;omega
 refine⟨by rw[o5];exact w,λj c a=>?_,λy v f=>?_⟩
 .by_cases A:j<H.length
  .rw[Y2 A]at a;obtain⟨fo,B,C⟩:=h.ac j c a;have:=z j c a;exact⟨fo,B,by rw[Z9 Ω];exact C⟩
  .rw[Z7 Ω]at a;have E:=(x5.1 a).1;rw[U2]at E;obtain rfl:j=H.length:=Ω
   rw[W8]at a;cases a;exact⟨by simp only;omega,by simp only;omega,by rw[u6,l9 r]⟩
 .rw[Y6]at f;by_cases s:x=y
  .subst s;rw[m3 rfl,m3 r]at f;cases f;exact .inr ⟨H.length,(p,(x:Int)),rfl,by rw[Z7 (p8 _),W8];rfl,rfl⟩
  .rw[m5 s]at f;rcases h.pl y v f with e|⟨j,c,e,a,F⟩
   .exact .inl e
   .exact .inr ⟨j,c,e,by rw[Y2 (x5.1 a).1];exact a,F⟩
theorem jU.drop{a:Int×Int}(h:jU n (H++[a]) P):jU n H (P.set a.2.toNat (-1)):=by
 have w:=h.len;obtain⟨a0,C,E⟩:=h.ac H.length a (by rw[Z7 (p8 _),W8];rfl);refine⟨by rw[o5];exact w,λj c f=>?_,λy v p=>?_⟩
 .have q:=(x5.1 f).1;have r:(H++[a])[j]?=σ c:=by rw[Y2 q];exact f
  obtain⟨fo,x,z⟩:=h.ac j c r;have F:a.2≠c.2:=λe=>by
   have:=h.inj (i:=H.length) (k:=j) (a:=a) (by rw[Z7 (p8 _),W8];rfl) r e;omega
  exact⟨fo,x,by rw[Z9 Ω];exact z⟩
 .rw[Y6]at p;by_cases s:a.2.toNat=y
  .rw[m3 s,m3 Ω]at p;cases p;exact .inl rfl
  .rw[m5 s]at p;rcases h.pl y v p with e|⟨j,c,e,f,A⟩
   .exact .inl e
   .by_cases q:j<H.length
    .rw[Y2 q]at f;exact .inr ⟨j,c,e,f,A⟩
    .rw[Z7 Ω]at f;have B:=(x5.1 f).1;rw[U2]at B;obtain rfl:j=H.length:=Ω
     rw[W8]at f;cases f;omega
theorem GP{i k:Nat}{a b:Int×Int}(e:H[i]?=σ a)(f:H[k]?=σ b):((H.set i b).set k a).Perm H:=by
 obtain⟨hi,rfl⟩:=x5.1 e;obtain⟨hk,rfl⟩:=x5.1 f;exact List.set_set_perm hi hk
def kS(H:List (Int×Int)):Λ:=H.map (·.2)
theorem GQ{a:List (Int×Int)}(h:a.Perm H):(kS a).Perm (kS H):=h.map _
end
def lB(a:Int×Int):List x1:=[Δ a.1,Δ a.2]
def ma(i:Int):List x1:=[Δ i]
theorem zj(a:Int×Int):∀u∈lB a,u.oneCell'=ro:=by intro u hu;simp[lB]at hu;rcases hu with rfl|rfl<;>rfl
def eh(S:ah)(w:x4)(g:Nat)(H:List (Int×Int))(P:Λ):Prop:=
 (jU P.length H P/\H.length<=1000000)/\∃f ba a e,ag w g da [a,e]/\bh lB 2 cr w f a H/\bh ma 1 aj w ba e P/\∀r,r=g\/hp a r\/hp e r->S r
section
variable{S X:ah}{w I:x4}{g:Nat}{H:List (Int×Int)}{P:Λ}
theorem eh.V(h:eh S w g H P)(f:af X w I)(j:∀r,r<w.heap.size->S r->¬X r):eh S I g H P:=by
 obtain⟨s,x,ba,y,z,h1,p,q,e⟩:=h;exact⟨s,x,ba,y,z,h1.V f (j _ h1.lt (e _ (.inl rfl))),p.V f λr a=>j r (by have:=p.lc a;omega) (e r (.inr (.inl a))),q.V f λr a=>j r (by have:=q.lc a;omega) (e r (.inr (.inr a))),e⟩
theorem eh.W(h:eh S w g H P)(a:Ext w I):eh S I g H P:=h.V (a.V λ_=>False) λ_ _ _ h=>h
theorem eh.Y(h:eh S w g H P)(j:∀r,r<w.heap.size->S r->X r):eh X w g H P:=by
 obtain⟨p,q,ba,s,x,h1,e,f,y⟩:=h;refine⟨p,q,ba,s,x,h1,e,f,λr a=>j r ?_ (y r a)⟩;rcases a with rfl|a|a
 .exact h1.lt
 .have:=e.lc a;omega
 .have:=f.lc a;omega
theorem vG{q ba:Nat}{e:x1}(h1:ag w g da [a,e])(f:bh lB 2 cr w q a H)(h:bh ma 1 aj w ba e P):¬hp a g/\¬hp e g/\(∀r,hp a r->¬hp e r)/\∀r,hp e r->¬hp a r:=by
 refine⟨cn f h1 Φ,cn h h1 Φ,λr j=>?_,λr j=>?_⟩
 .obtain⟨rfl,c,p⟩:=eb f j;exact cn h p Φ
 .obtain⟨rfl,c,p⟩:=eb h j;exact cn f p Φ
theorem vH{ba x:Nat}{i:Int}(h:bh ma 1 aj w ba a P)(e:P[x]?=σ i):w.cell? ⟨ba,x*1,ν⟩=σ (Δ i):=h.range e 0 _ rfl
theorem zk{a b:Int×Int}:al x8 Kf [.agg (lB a).toArray,.agg (lB b).toArray] w λr I=>(∃c,r= .bool c)/\Ext w I:=by
 refine aB func221 ?_;refine bo λg1 U z x e=>?_;refine bo λy aa A s f=>?_;have j:=x.F s;have e:ag aa g1 cr (lB a):=ag.W e s;have f:ag aa y cr (lB b):=f;refine aV (λr I=>(∃c,r= .bool c)/\Ext w I) (λ_ _ h=>h) λay q=>?_;rw[aL cr.p 0 e rfl,aL cr.p 0 f rfl,aR,ak];refine⟨λ_=>q _ _ ⟨⟨_,rfl⟩,j⟩,λ_=>?_⟩;rw[aL cr.p 0 e rfl,aL cr.p 0 f rfl,bk,ak];refine⟨λ_=>?_,λ_=>q _ _ ⟨⟨_,rfl⟩,j⟩⟩;rw[aL cr.p 1 e rfl,aL cr.p 1 f rfl,aR];exact q _ _ ⟨⟨_,rfl⟩,j⟩
theorem GR{i k:Nat}{a b:Int×Int}(h:eh S w g H P)(hi:H[i]?=σ a)(hk:H[k]?=σ b):al x8 AT [Γ g,Δ (i:Int),Δ (k:Int)] w λ_ I=>af S w I/\eh S I g ((H.set i b).set k a) ((P.set b.2.toNat i).set a.2.toNat k):=by
 have q:=(x5.1 hi).1;have s:=(x5.1 hk).1;refine aB func167 ?_;intro U J _ _;obtain⟨⟨z,hm⟩,Y,ba,K,L,h1,e,M,A⟩:=h.W J;obtain⟨a0,ax,ay⟩:=z.ac i a hi;obtain⟨az,aA,Z⟩:=z.ac k b hk;obtain⟨ab,ad,ae,ag⟩:=vG h1 e M;rw[aG da.p 0 h1 rfl,aG da.p 0 h1 rfl,aG da.p 0 h1 rfl,b7 rfl eI.u cr.i e s,bA cr.p cr.i rfl (e.range hk),
  aG da.p 0 h1 rfl,b7 rfl eI.u cr.i e q,bA cr.p cr.i rfl (e.range hi),b7 rfl eI.u cr.i e q]
 refine ux (f:=lB) cr.i e rfl (zj b) q λaa ah aC N=>?_;rw[b7 rfl eI.u cr.i N (by rw[o5];exact s)];refine ux (f:=lB) cr.i N rfl (zj a) (by rw[o5];exact s) λaE ai aH ak=>?_;intro O Q _ _;have B:af (λr=>hp K r) U O:=(ah.F ai).F (Q.V _);have x:=h1.V B ab;have y:=ak.W Q;have R:=M.V B ag;have am:((H.set i b).set k a)[i]?=σ b:=by
  rw[Y6];by_cases W:k=i
  .subst W;rw[hi]at hk;cases hk;rw[m3 rfl,m3 (by rw[o5];exact q)]
  .rw[m5 W,l9 q]
 have an:((H.set i b).set k a)[k]?=σ a:=l9 (by rw[o5];exact s);have C:((H.set i b).set k a).length=H.length:=by rw[o5,o5]
 have aI:=z.len;rw[aG da.p 1 x rfl,aG da.p 0 x rfl,b7 rfl eI.u cr.i y (by rw[C];exact q),aT cr.p rfl,aD Ψ (y.range am 1 _ rfl),
  aG da.p 1 x rfl,aG da.p 0 x rfl,b7 rfl eI.u cr.i y (by rw[C];exact s),aT cr.p rfl,aD Ψ (y.range an 1 _ rfl),
  b7 (i:=b.2.toNat) Ω aq.u aj.i R Ω]
 refine k9 (f:=ma) (j:=0) (a':=(i:Int)) aj.i rfl rfl R Z rfl Ω λaJ ao aK X=>?_;rw[b7 (i:=a.2.toNat) Ω aq.u aj.i X (by rw[o5];omega)];obtain⟨c,ap⟩:=aF (l:=P.set b.2.toNat (i:Int)) (i:=a.2.toNat) (by rw[o5];omega);refine k9 (f:=ma) (j:=0) (a':=(k:Int)) aj.i rfl rfl X ap rfl Ω λau av aL aw=>?_;have E:af (λr=>hp L r) O au:=ao.F av;refine⟨(J.V _).F ((B.Y λr _ G=>A r (.inr (.inl G))).F (E.Y λr _ G=>A r (.inr (.inr G)))),⟨?_,by rw[C];exact hm⟩,Y,ba,K,L,x.V E ad,y.V E ae,aw,A⟩;rw[o5,o5];exact z.swap hi hk
end
section
variable{S X:ah}{w I:x4}{g:Nat}{H:List (Int×Int)}{P:Λ}
def mV(S:ah)(w:x4)(g:Nat)(H:List (Int×Int))(P:Λ)(I:x4):Prop:=∃a e,af S w I/\eh S I g a e/\a.Perm H/\e.length=P.length
theorem mV.W(h:mV S w g H P I)(a:Ext I aa):mV S w g H P aa:=by
 obtain⟨e,f,h1,j,p⟩:=h;exact⟨e,f,h1.F (a.V _),j.W a,p⟩
theorem mV.swap{e:List (Int×Int)}{f:Λ}{i k:Nat}(q:af S w U)(h:eh S U g e f)(ac:e.Perm H)(r:f.length=P.length)(hi:i<e.length)(hk:k<e.length):
  al x8 AT [Γ g,Δ (i:Int),Δ (k:Int)] U λ_ I=>mV S w g H P I:=by
 obtain⟨a,j⟩:=aF (l:=e) hi;obtain⟨b,p⟩:=aF (l:=e) hk;refine(GR h j p).Y ?_;rintro _ aa _ ⟨s,x⟩;exact⟨_,_,q.F s,x,(GP j p).F ac,by rw[o5,o5];exact r⟩
theorem GS{i:Nat}(h:eh S w g H P)(hi:i<H.length):al x8 JB [Γ g,Δ (i:Int)] w λ_ I=>mV S w g H P I:=by
 have hm:=h.1.2;refine aB func165 ?_;refine⟨λv U=>∃i:Nat,v=Δ (i:Int)/\i<H.length/\mV S w g H P U,λv _=>(bU v).toNat,⟨i,rfl,hi,H,P,af.refl _ _,h,.refl _,rfl⟩,?_⟩;rintro _ U ⟨i,rfl,hi,j⟩;refine aV (λv aa=>Ext U aa/\∃c,v= .bool c/\(c=ro->0<i)) ?_ λay z=>?_
 rotate_left
 .intro aa x _ _;rw[bO,ak];refine⟨λq=>?_,λ_=>z _ _ ⟨x,_,rfl,λh=>by cases h⟩⟩;obtain⟨f,A,r,⟨⟨J,_⟩,K,ba,L,M,h1,e,N,O⟩,ac,s⟩:=j.W x;have B:=ac.length_eq;obtain⟨a,C⟩:=aF (l:=f) (i:=i) Ω;obtain⟨b,E⟩:=aF (l:=f) (i:=(i-1) / 2) Ω;rw[aG da.p 0 h1 rfl,b7 rfl eI.u cr.i e Ω,bA cr.p cr.i rfl (e.range C),aG da.p 0 h1 rfl,dp,li Ω Ω,o1 Ω,
   show(((i:Int)-1).tdiv 2)=(((i-1) / 2:Nat):Int) by rw[Int.tdiv_eq_ediv_of_nonneg Ω];omega,li Ω Ω,b7 rfl eI.u cr.i e Ω,bA cr.p cr.i rfl (e.range E)]
  refine zk.Y ?_;rintro _ am _ ⟨⟨c,rfl⟩,an⟩;exact z _ _ ⟨x.F an,c,rfl,λ_=>Ω⟩
 rintro _ aa ⟨x,c,rfl,q⟩;have Q:=j.W x;rw[bY];refine⟨λR=>?_,λ_=>?_⟩
 .have q:=q R;obtain⟨f,A,r,V,ac,s⟩:=Q;have B:=ac.length_eq;rw[dp,li Ω Ω,o1 Ω,show(((i:Int)-1).tdiv 2)=(((i-1) / 2:Nat):Int) by rw[Int.tdiv_eq_ediv_of_nonneg Ω];omega,li Ω Ω];refine(mV.swap r V ac s Ω Ω).Y ?_;rintro _ am _ ao;rw[dp,li Ω Ω,o1 Ω,show(((i:Int)-1).tdiv 2)=(((i-1) / 2:Nat):Int) by rw[Int.tdiv_eq_ediv_of_nonneg Ω];omega,li Ω Ω];refine⟨⟨(i-1) / 2,rfl,Ω,ao⟩,?_⟩;show(((i-1) / 2:Nat):Int).toNat<((i:Nat):Int).toNat;omega
 clear j x q;refine⟨λv U=>∃i:Nat,v=Δ (i:Int)/\i<H.length/\mV S w g H P U,λv _=>H.length-(bU v).toNat,⟨i,rfl,hi,Q⟩,?_⟩;clear Q hi i;rintro _ W ⟨i,rfl,hi,j⟩;rw[gW,li Ω Ω,aO,li Ω Ω];refine⟨λv u X=>v=Δ (i:Int)/\∃k:Nat,u=Δ (k:Int)/\2*i+1<=k/\k<=2*i+3/\Ext W X,λ_ u _=>2*i+3-(bU u).toNat,⟨rfl,2*i+1,by congr 1,Ω,Ω,Ext.refl _⟩,?_⟩;rintro _ _ X ⟨rfl,k,rfl,ax,az,Y⟩;refine aV (λv ag=>Ext X ag/\∃c,v= .bool c/\(c=ro->k<=2*i+2/\k<H.length)) ?_ λay z=>?_
 rotate_left
 .rw[gW,li Ω Ω,aO,li Ω Ω,nh,ak];refine⟨λq=>?_,λ_=>z _ _ ⟨Ext.refl _,_,rfl,λh=>by cases h⟩⟩;obtain⟨f,A,r,⟨⟨J,_⟩,K,ba,L,M,h1,e,N,O⟩,ac,s⟩:=j.W Y;have B:=ac.length_eq;rw[aG da.p 0 h1 rfl,dE eI.u e,aR];exact z _ _ ⟨Ext.refl _,_,rfl,λh=>⟨Ω,by have:=rc h;omega⟩⟩
 rintro _ ag ⟨ah,c,rfl,q⟩;rw[bY];refine⟨λR=>?_,λ_=>j.W (Y.F ah)⟩;obtain⟨aA,ap⟩:=q R;rw[gW,li Ω Ω,aO,li Ω Ω,dp,li Ω Ω,show 4*(i:Int)+3-(k:Int)=((4*i+3-k:Nat):Int) by omega];have aq:=Y.F ah;refine aV (λv Z=>Ext W Z/\∃c,v= .bool c) ?_ λaC ai=>?_
 rotate_left
 .intro Z ab _ _;have ad:=aq.F ab;obtain⟨f,A,r,⟨⟨J,_⟩,K,ba,L,M,h1,e,N,O⟩,ac,s⟩:=j.W ad;have B:=ac.length_eq;rw[aG da.p 0 h1 rfl,dE eI.u e,cH,ak];refine⟨λ_=>ai _ _ ⟨ad,_,rfl⟩,λaD=>?_⟩;obtain⟨a,C⟩:=aF (l:=f) (i:=k) Ω;obtain⟨b,E⟩:=aF (l:=f) (i:=4*i+3-k) Ω;rw[aG da.p 0 h1 rfl,b7 rfl eI.u cr.i e Ω,bA cr.p cr.i rfl (e.range C),aG da.p 0 h1 rfl,b7 rfl eI.u cr.i e Ω,bA cr.p cr.i rfl (e.range E)];refine zk.Y ?_;rintro _ G _ ⟨⟨c,rfl⟩,y⟩;exact ai _ _ ⟨ad.F y,_,rfl⟩
 rintro _ Z ⟨ab,aE,rfl⟩;refine aV (λv G=>Ext W G/\∃c,v= .bool c) ?_ λaH aj=>?_
 rotate_left
 .intro G y _ _;have ae:=ab.F y;rw[bY];refine⟨λ_=>?_,λ_=>aj _ _ ⟨ae,_,rfl⟩⟩;obtain⟨f,A,r,⟨⟨J,_⟩,K,ba,L,M,h1,e,N,O⟩,ac,s⟩:=j.W ae;have B:=ac.length_eq;obtain⟨a,C⟩:=aF (l:=f) (i:=k) Ω;obtain⟨b,E⟩:=aF (l:=f) (i:=i) Ω;rw[aG da.p 0 h1 rfl,b7 rfl eI.u cr.i e Ω,bA cr.p cr.i rfl (e.range C),aG da.p 0 h1 rfl,b7 rfl eI.u cr.i e Ω,bA cr.p cr.i rfl (e.range E)];refine zk.Y ?_;rintro _ au _ ⟨⟨c,rfl⟩,av⟩;exact aj _ _ ⟨ae.F av,_,rfl⟩
 rintro _ G ⟨y,aI,rfl⟩;rw[bY];refine⟨λ_=>?_,λ_=>?_⟩
 .obtain⟨f,A,r,V,ac,s⟩:=j.W y;have B:=ac.length_eq;refine(mV.swap r V ac s Ω Ω).Y ?_;rintro _ au _ aw;refine⟨⟨k,rfl,ap,aw⟩,?_⟩;show H.length-((k:Nat):Int).toNat<H.length-((i:Nat):Int).toNat;omega
 .rw[aO,li Ω Ω];refine⟨⟨rfl,k+1,rfl,Ω,Ω,y⟩,?_⟩;show 2*i+3-((k:Int)+1).toNat<2*i+3-((k:Nat):Int).toNat;omega
theorem TI(h:eh S w g H P):al x8 JC [Γ g] w λr I=>r=Δ (H.length:Int)/\Ext w I:=by
 obtain⟨_,e,ba,f,j,h1,a,q,s⟩:=h;refine aB func166 ?_;rw[cR rn.u];simp only[Z3,aX];rw[aG da.p 0 h1 rfl,dE eI.u a];exact⟨rfl,Ext.refl _⟩
theorem GU{x:Nat}{i:Int}(h:eh S w g H P)(e:P[x]?=σ i):al x8 JA [Γ g,Δ (x:Int)] w λr I=>r= .bool (decide (0<=i))/\Ext w I:=by
 have f:=(x5.1 e).1;obtain⟨_,q,ba,s,y,h1,z,a,A⟩:=h;refine aB func164 ?_;refine aV (λr I=>r= .bool (decide (0<=i))/\Ext w I) (λ_ _ h=>h) λay j=>?_;rw[wT rn.u];simp only[Z3,W7,bH];rw[cH,ak];refine⟨λ_=>?_,λh=>m6 Ω h⟩;rw[aG da.p 1 h1 rfl,dE aq.u a];refine bI Ω ?_;rw[aG da.p 1 h1 rfl,b7 rfl aq.u aj.i a f,aD Ψ (vH a e),cH];exact j _ _ ⟨rfl,Ext.refl _⟩
theorem TJ(h:eh S w g H P):al x8 IY [Γ g] w λr I=>Ext w I/\match H[0]? with
  |some a=>r= .tuple #[Δ a.2,Δ a.1,.bool ro]
  |none=>r= .tuple #[Δ 0,Δ 0,.bool rs]:=by
 refine aB func104 ?_;refine(TI h).Y ?_;rintro _ U _ ⟨rfl,f⟩;rw[bk,ak];refine⟨λs=>?_,λs=>?_⟩
 .rw[Y4 Ω];exact⟨f,rfl⟩
 .intro aa q _ _;obtain⟨_,x,ba,z,A,h1,e,B,C⟩:=(h.W f).W q;obtain⟨a,j⟩:=aF (l:=H) (i:=0) Ω;rw[aG da.p 0 h1 rfl,b7 (y:=0) (i:=0) rfl eI.u cr.i e Ω,aT cr.p rfl,aD Ψ (e.range j 1 _ rfl),
   aG da.p 0 h1 rfl,b7 (y:=0) (i:=0) rfl eI.u cr.i e Ω,aT cr.p rfl,aD Ψ (e.range j 0 _ rfl),j]
  exact⟨f.F q,rfl⟩
end
theorem TK(l:Λ):l.flatMap ma=ints .i64 l:=by
 induction l with
 |nil=>rfl
 |cons a l e=>rw[W9,e];rfl
theorem TL{α:Type}{L:List α}{a:α}{m:Nat}(h:L[m]?=σ a)(hm:L.length=m+1):L=L.take m++[a]:=by
 have e:=r8 (l:=L) (i:=m);rw[h,o9,j5 Ω]at e;exact e
section
variable{S X:ah}{w I:x4}{g:Nat}{H:List (Int×Int)}{P:Λ}
theorem TM{n:Nat}(O:n<=1000000)(B:∀r,w.heap.size<=r->S r):al x8 IW [Δ (n:Int)] w λr I=>∃g,r=Γ g/\Ext w I/\w.heap.size<=g/\eh S I g [] (o4 n (-1)):=by
 refine aB func101 ?_;rw[tG,show max (n:Int) 0=(n:Int) by omega];refine k3 aq.u aj.i Ω Ω λba U P C E=>?_;have G:bh ma 1 aj U ba (.slice (σ ⟨ba,0,ν⟩) n n) (o4 n 0):=⟨by rw[List.length_replicate,TK];exact b0.full E Ξ (by simp[maxLen];omega),λa _=>rfl⟩;rw[di (cs:=#[.slice ν 0 0,.slice (σ ⟨ba,0,ν⟩) n n]) Ψ];refine bo λg aa Q A x=>?_;have x:ag aa g da [.slice ν 0 0,.slice (σ ⟨ba,0,ν⟩) n n]:=x;rw[aG da.p 1 x rfl,dE aq.u (G.W A),List.length_replicate];have R:=C.size;have W:=A.size;have X:=x.lt;have Y:=E.lt;refine bZ.range n (λi y=>bh ma 1 aj y ba (.slice (σ ⟨ba,0,ν⟩) n n) (o4 i (-1)++o4 (n-i) 0)/\af (λr=>r=ba) aa y) Ω ⟨G.W A,af.refl _ _⟩ ?_ ?_
 .rintro i y H hi ⟨s,z⟩ J;refine bI Ω ?_;have K:ag y g da _:=x.V z Ω;obtain⟨c,L⟩:=aF (l:=o4 i (-1:Int)++o4 (n-i) 0) (i:=i) Θ;rw[aG da.p 1 K rfl,b7 rfl aq.u aj.i s Θ];refine k9 (f:=ma) (j:=0) (a':=-1) aj.i rfl rfl s L rfl Ω λZ M ab N=>?_;rw[aO];refine J _ ⟨?_,z.F (M.Y λr _ q=>(s.lc q).1)⟩;have e:(o4 i (-1:Int)++o4 (n-i) 0).set i (-1)=o4 (i+1) (-1)++o4 (n-(i+1)) 0:=by
   rw[T4 _ _ Ξ,List.length_replicate,W8,show n-i=(n-(i+1))+1 by omega,List.replicate_succ,List.set_cons_zero,List.replicate_succ',X9];rfl
  rw[<-e];exact N
 .rintro y H ⟨s,z⟩;refine cc Ω ?_;rw[W8,List.replicate_zero,W5]at s;refine⟨g,rfl,(C.F A).then z λr q h=>Ω,Ω,⟨by rw[List.length_replicate];exact jU.new n,Ξ⟩,0,ba,_,_,x.V z Ω,bh.nil _ _ _ _ _,s,λr q=>?_⟩;rcases q with rfl|q|q
  .exact B _ Ω
  .exact (fq q).elim
  .exact B _ (by have:=(s.lc q).1;omega)
theorem TN{x:Nat}{p:Int}(h:eh S w g H P)(G:P[x]?=σ (-1))(aY:H.length<1000000)(aZ:P.length<=1000000)(aC:∀r,w.heap.size<=r->S r):al x8 IX [Γ g,Δ (x:Int),Δ p] w λ_ I=>∃J K,af S w I/\eh S I g J K/\J.Perm (H++[(p,(x:Int))])/\K.length=P.length:=by
 have L:=(x5.1 G).1;refine aB func102 ?_;rw[cR rn.u];simp only[Z3,aX];refine aV (λv U=>w=U/\v= .bool rs) ?_ λay Q=>?_
 rotate_left
 .obtain⟨_,R,ba,W,A,h1,z,s,y⟩:=h;rw[aR,ak];refine⟨λh=>Ω,λ_=>?_⟩;rw[aG da.p 1 h1 rfl,dE aq.u s,cH,ms Ω];exact Q _ _ ⟨rfl,rfl⟩
 rintro _ _ ⟨rfl,rfl⟩;rw[aX];refine cW (λaa=>af S w aa/\eh S aa g (H++[(p,(x:Int))]) (P.set x H.length)) ?_ λay Q=>?_
 .rintro aa ⟨aE,aF⟩;intro a1 ao _ _;obtain⟨⟨X,hm⟩,R,ba,W,A,h1,z,s,y⟩:=aF.W ao;obtain⟨Y,Z,ap,ab⟩:=vG h1 z s;have av:(P.set x (H.length:Int))[x]?=σ (H.length:Int):=l9 L;have aH:(H++[(p,(x:Int))])[H.length]?=σ (p,(x:Int)):=by rw[Z7 (p8 _),W8];rfl
  rw[aG da.p 0 h1 rfl,aG da.p 1 h1 rfl,b7 rfl aq.u aj.i s (by rw[o5];exact L),aD Ψ (vH s av),b7 rfl eI.u cr.i z Ξ,aT cr.p rfl];refine k9 (f:=lB) (j:=0) (a':=(p,(x:Int))) au.i rfl rfl z aH rfl Ω λaw ad a2 ax=>?_;have az:eh S aw g (H++[(p,(x:Int))]) (P.set x H.length):=by
   have e:(H++[(p,(x:Int))]).set H.length (p,(x:Int))=H++[(p,(x:Int))]:=by rw[T4 _ _ (p8 _),W8];rfl
   rw[e]at ax;exact⟨⟨X,hm⟩,R,ba,W,A,h1.V ad Y,ax,s.V ad ab,y⟩
  have aI:af S w aw:=(aE.F (ao.V _)).F (ad.Y λr _ q=>y r (.inr (.inl q)));obtain⟨_,a6,a7,a8,bb,B,M,C,_⟩:=id az;rw[aG da.p 1 B rfl,b7 rfl aq.u aj.i C (by rw[o5];exact L),aD Ψ (vH C av)];refine(GS az Ξ).Y ?_;rintro _ bc _ ⟨J,K,aJ,aK,ac,aL⟩;exact⟨J,K,aI.F aJ,aK,ac,by rw[aL,o5]⟩
 refine(GU h G).Y ?_;rintro _ bd _ ⟨rfl,aM⟩;rw[bC,ms Ω,W7,bH];intro be aN _ _;have ae:=aM.F aN;have bf:=ae.size;obtain⟨⟨X,hm⟩,R,ba,W,A,h1,z,s,y⟩:=h.W ae;obtain⟨Y,Z,ap,ab⟩:=vG h1 z s;rw[aG da.p 1 h1 rfl,aG da.p 0 h1 rfl,dE eI.u z,b7 rfl aq.u aj.i s L];refine k9 (f:=ma) (j:=0) (a':=(H.length:Int)) aj.i rfl rfl s G rfl Ω λbg N bh aO=>?_;have B:=h1.V N Z;have M:=z.V N ap;rw[aG da.p 0 B rfl,di (cs:=#[Δ p,Δ (x:Int)]) Ψ];refine iS (f:=lB) (a:=(p,(x:Int))) eI.u cr.i Ω rfl rfl λv9 bi bj bk E aP=>?_;have B:=B.W E;have M:=M.W E;have C:=aO.W E;refine jo eI.u cr.i rfl M (by simpa using aP.sl) (zj _) Ω Ω λah aQ bl O aS ai=>?_;rw[bL,aT da.p rfl];have aA:=B.V ai Y;have C:=C.V ai ab;refine bq eI.i (dg O.sl).1 (dg O.sl).2 aA Ξ λaU am bm an=>?_;have an:ag aU g da [ah,A]:=an;have bn:=N.size;have bo:=E.size;have aW:∀r,r=g\/hp ah r\/hp A r->S r:=λr q=>by
  rcases q with q|q|q
  .exact y r (.inl q)
  .rcases aS r q with h|h
   .exact y r (.inr (.inl h))
   .exact aC r Ω
  .exact y r (.inr (.inr q))
 refine Q _ ⟨?_,⟨?_,Θ⟩,aQ,ba,ah,A,an,O.V am λr q e=>cn O aA Φ (by rw[<-e];exact q),C.V am λr q e=>Z (by rw[<-e];exact q),aW⟩
 .exact (((((ae.V _).F (N.Y λr _ q=>y r (.inr (.inr q)))).F (E.V _)).F (ai.Y λr _ q=>y r (.inr (.inl q)))).F (am.Y λr _ q=>y r (.inl q)))
 .rw[o5];exact X.push G
theorem TO{i:Nat}{a:Int×Int}(h:eh S w g H P)(hi:H[i]?=σ a):al x8 IZ [Γ g,Δ a.2] w λ_ I=>∃s y,af S w I/\eh S I g s y/\H.Perm (s++[a])/\y.length=P.length:=by
 have aZ:=(x5.1 hi).1;obtain⟨a0,a1,A⟩:=h.1.1.ac i a hi;have hm:=h.1.2;obtain⟨x,E⟩:=V3 a0;rw[E,u6]at A;have aC:=(x5.1 A).1;refine aB func105 ?_;rw[E];refine(GU h A).Y ?_;rintro _ U _ ⟨rfl,aE⟩;rw[bC,m7 Ω,X1,aX];intro aa aH _ _;have X:=aE.F aH;have Y:=h.W X;obtain⟨_,Z,ba,aI,G,h1,B,z,C⟩:=id Y;rw[aG da.p 1 h1 rfl,b7 rfl aq.u aj.i z aC,aD Ψ (vH z A),aG da.p 0 h1 rfl,dE eI.u B,dp,li Ω Ω,show(H.length:Int)-1=((H.length-1:Nat):Int) by omega];obtain⟨b,ab⟩:=aF (l:=H) (i:=H.length-1) Ω;refine(GR Y hi ab).Y ?_;rintro _ a2 _ ⟨aJ,J⟩;intro a6 ad _ _;have K:=GP hi ab;have ae:((H.set i b).set (H.length-1) a)[H.length-1]?=σ a:=l9 (by rw[o5];omega);generalize a7:(H.set i b).set (H.length-1) a=ah at J K ae;generalize aK:(P.set b.2.toNat (i:Int)).set a.2.toNat ((H.length-1:Nat):Int)=L at J;have a8:=K.length_eq;have ai:L.length=P.length:=by rw[<-aK,o5,o5]
 obtain⟨⟨am,bb⟩,Z,ba,aI,G,h1,B,z,C⟩:=J.W ad;obtain⟨aL,an,aM,bc⟩:=vG h1 B z;obtain⟨ao,aN,M,N⟩:=qU (i:=H.length-1) eI.u cr.i B Ω;rw[aG da.p 1 h1 rfl,aG da.p 0 h1 rfl,aN,bL,aT da.p rfl];refine bq eI.i (dg M.sl).1 (dg M.sl).2 h1 Ξ λaO O bd Q=>?_;have Q:ag aO g da [ao,G]:=Q;have aP:=M.V O λr q e=>aL (by rw[<-e];exact N r q);have ap:=z.V O λr q e=>an (by rw[<-e];exact q);rw[b7 rfl aq.u aj.i ap Ω];obtain⟨c,aQ⟩:=aF (l:=L) (i:=x) Ω;refine k9 (f:=ma) (j:=0) (a':=-1) aj.i rfl rfl ap aQ rfl Ω λau R be aS=>?_;have av:=TL ae Ω;have aw:eh S au g (ah.take (H.length-1)) (L.set x (-1)):=by
  refine⟨⟨?_,by rw[o8];omega⟩,Z,ba,ao,G,Q.V R an,aP.V R λr q e=>aM r (N r q) e,aS,λr q=>C r (q.imp id (.imp (N r) id))⟩;rw[o5];rw[av]at am;have:=am.drop;rw[E,u6]at this;exact this
 have ax:af S w au:=((((X.V _).F aJ).F (ad.V _)).F (O.Y λr _ q=>C r (.inl q))).F (R.Y λr _ q=>C r (.inr (.inr q)));have az:H.Perm (ah.take (H.length-1)++[a]):=by rw[<-av];exact K.symm
 refine cW (λW=>∃s y,af S w W/\eh S W g s y/\H.Perm (s++[a])/\y.length=P.length) (λ_ h=>h) λay aA=>?_;rw[aR,ak];refine⟨λbf=>?_,λ_=>aA _ ⟨_,_,ax,aw,az,by rw[o5];exact ai⟩⟩;refine(GS aw (by rw[o8];omega)).Y ?_;rintro _ W _ ⟨s,y,aU,aV,aW,aY⟩;exact aA _ ⟨s,y,ax.F aU,aV,az.F (aW.symm.append_right _),by rw[aY,o5];exact ai⟩
theorem TP(h:eh S w g H P):al x8 Il [Γ g] w λr I=>(H=[]/\Ext w I/\r= .tuple #[Δ 0,Δ 0,.bool rs])\/
  ∃a e f,r= .tuple #[Δ a.2,Δ a.1,.bool ro]/\af S w I/\eh S I g e f/\H.Perm (e++[a])/\f.length=P.length:=by
 refine aB func55 ?_;refine(TJ h).Y ?_;rintro _ U _ ⟨p,j⟩;cases ao:H[0]? with
 |none=>
  rw[ao]at j;subst j;rw[fQ,fR,fS];refine cW (λaa=>Ext w aa) (λaa x=>.inl ⟨c9 (Nat.le_zero.1 (List.getElem?_eq_none_iff.1 ao)),x,rfl⟩) λay s=>?_;rw[aX];exact s _ p
 |some a=>
  rw[ao]at j;subst j;rw[fQ,fR,fS];refine cW (λaa=>∃e f,af S w aa/\eh S aa g e f/\H.Perm (e++[a])/\f.length=P.length) (λaa ⟨e,f,q⟩=>.inr ⟨a,e,f,rfl,q⟩) λay s=>?_;rw[bH];refine(TO (h.W p) ao).Y ?_;rintro _ z _ ⟨e,f,y,q⟩;exact s _ ⟨e,f,(p.V _).F y,q⟩
end
theorem vI{α:Type}{step:am×Bool->α->am×Bool}(h:∀s b a,step (s,b) a=((step (s,rs) a).1,(step (s,rs) a).2||b)):∀(L:List α)(s:am)(b:Bool),L.foldl step (s,b)=((L.foldl step (s,rs)).1,(L.foldl step (s,rs)).2||b)
 |[],s,b=>Ξ
 |a::L,s,b=>by
  rw[V8,V8,h s b a];generalize e:step (s,rs) a=q;obtain⟨x,y⟩:=q;rw[vI h L x (y||b),vI h L x y];simp only[Bool.or_assoc]
theorem TQ(s:am)(b:Bool)(v:Int):gf k j pos (s,b) v=((gf k j pos (s,rs) v).1,(gf k j pos (s,rs) v).2||b):=by
 unfold gf;simp only;cases dl s j pos v with
 |none=>simp
 |some q=>
  obtain⟨f,u,x⟩:=q;simp only;split<;>simp
theorem TR(s:am)(b:Bool)(j:Nat):eG k (s,b) j=((eG k (s,rs) j).1,(eG k (s,rs) j).2||b):=by
 unfold eG;simp only;cases s.d7[j]? with
 |none=>simp
 |some f=>exact vI (λs b pos=>by unfold pW;exact vI TQ _ s b) _ s b
section
variable{ao:List aw}{w U aa:x4}{ad ae m:Nat}{A R:ah}{n:aI}{s s':am}{t:aw}{D D':ah}
theorem dO.Y(h:dO ao w ad ae A R n m D s' U)(f:∀r,r<U.heap.size->D r->D' r):dO ao w ad ae A R n m D' s' U:=by
 obtain⟨h1,j,aK,bn,p,a,q,s⟩:=h;exact⟨h1,j,aK,bn,p,a,q,λr e=>(s r e).imp id (f r (a.lt (.inl e)))⟩
def jV(k:Int)(j:Nat)(sc:Λ)(s:am)(i:Nat):am×Bool:=(W3 i).foldl (pW k j sc) (s,rs)
theorem TS{i:Nat}{sc:Λ}:jV k j sc s (i+1)=pW k j sc (jV k j sc s i) i:=by
 unfold jV;rw[List.range_succ,Q0];rfl
theorem TT{α β:Type}{f:β->α->β}{l:List α}{a:α}{b:β}(h:l[j]?=σ a):(l.take (j+1)).foldl f b=f ((l.take j).foldl f b) a:=by
 rw[r8,h,Q0];rfl
theorem TU{f:ch}(h:bt w ad ae A R n s t)(aQ:Laid w)(be:¬A 0)(bf:dN ao t)(ay:s.d7[j]?=σ f):al x8 Im [Γ ad,Δ (j:Int)] w λr I=>r= .bool (eG n.k (s,rs) j).2/\cM ao w ad ae A R n (eG n.k (s,rs) j).1 I:=by
 have bh:=h.2.2.2.1;obtain⟨aR,_,_⟩:=bh.d7 f (x6 ay);have bi:eG n.k (s,rs) j=jV n.k j f.sc s f.sc.length:=by unfold eG jV;rw[ay]
 rw[bi];refine iK func56 ?_;refine bo λg1 U b5 aS C=>?_;refine bo λbj aa b6 az H=>?_;have b7:=ag.lt C;have b8:=ag.lt H;refine bB ed.i λq b9 ca bk bl=>?_;refine bq (o:=0) ed.i rfl rfl bl (by show 0<1;omega) λam bm cb an=>?_;have an:ag am q ed [.bool rs]:=an;have ap:Ext aa am:=bk.put bm Ω;have C:ag am g1 dx [Γ ad]:=(ag.W C az).W ap;have H:ag am bj aj [Δ (j:Int)]:=ag.W H ap;have aT:=(aS.F az).F ap;have cd:=aS.size;have ce:=az.size;have cf:=ap.size;have cg:=C.lt;have ci:=H.lt;have cj:=an.lt;have ac:=sU aQ;rw[aD (v:=Γ ad) Ψ (C.Qz rfl),aD (v:=Δ (j:Int)) Ψ (H.Qz rfl)];refine(sE (h.W aT) ay).Y ?_;rintro sv J _ ⟨Y,gs,ck,aA⟩;rw[aY aq.u aA.ls];have z5:=Y.size;have C:=C.W Y;have H:=H.W Y;refine bZ.range f.sc.length (λi p=>dO ao w ad ae A R n w.heap.size (λr=>J.heap.size<=r) (jV n.k j f.sc s i).1 p/\af (λr=>r<w.heap.size\/J.heap.size<=r\/r=q) J p/\ag p q ed [.bool (jV n.k j f.sc s i).2]) aA.ls.le ⟨dO.start h aQ be bf (aT.F Y) (p8 _),af.refl _ _,an.W Y⟩ ?_ ?_
 .rintro i p bp hi ⟨Z,ab,aB⟩ br;refine bI Ω ?_;obtain⟨u,hu⟩:=aF (l:=f.sc) hi;have aU:=x6 hu;have bs:=(aR.scope.1 u aU).1;have cl:=aR.d6 u aU;have ah:∀{g:Nat}{e:p9}{cs:List x1},w.heap.size<=g->g<q->ag J g e cs->ag p g e cs:=λaV aE bx=>bx.V ab Ω;have bz:aM .i64 p sv f.sc:=(aA.V ab λy=>Ω).ls;refine qm rfl aq.u aj.i bz hu λcm cn bA=>?_;rw[aD Ψ bA];refine bB aj.i λbC cp cq bD bE=>?_;refine bq (o:=0) aj.i rfl rfl bE (by show 0<1;omega) λaW bF cr ai=>?_;have ai:ag aW bC aj [Δ (i:Int)]:=ai;have au:Ext p aW:=bD.put bF Ω;have ct:=ab.size;have cu:=au.size;have cw:=ai.lt;obtain⟨cz,cA,aX,cB,cC,cD⟩:=Z.sS;have bG:=Z.2.1.1;have bH:=aX.2.2.2.1;have cE:=bH.d6;obtain⟨x,K⟩:=aF (l:=(jV n.k j f.sc s i).1.d6) (i:=u.toNat) Ω;have bJ:bb (jV n.k j f.sc s i).1 u=aC x:=by unfold bb;rw[K]
  rw[aD (v:=Γ ad) Ψ (((ah Ω Ω C).W au).Qz rfl)];refine(jP (i:=u) (aX.W au)).Y ?_;rintro _ cF _ ⟨⟨b,aZ,rfl,a1⟩,a2⟩;refine(ns (b:=b) (n:=aZ)).Y ?_;rintro _ N _ ⟨a6,av,rfl,cG,a7⟩;have a8:=ln a1 bs K;have aG:=a2.F a6;have M:=au.F aG;have z9:=a2.size;have cH:=a6.size;have cI:=a7.lt;have bK:jV n.k j f.sc s (i+1)=(aC x).foldl (gf n.k j i) (jV n.k j f.sc s i):=by
   rw[TS];unfold pW;rw[u4,hu,V9,bJ]
  have cJ:(jV n.k j f.sc s i)=((jV n.k j f.sc s i).1,(jV n.k j f.sc s i).2):=rfl;generalize jV n.k j f.sc s i=Q at*;refine kX.old ⟨_,rs,jX,#[Γ av],_,_,_,_,λO I=>dO ao w ad ae A R n w.heap.size (λr=>J.heap.size<=r/\¬(p.heap.size<=r/\r<N.heap.size)) (((aC x).take O).foldl (gf n.k j i) Q).1 I/\af (λr=>r<w.heap.size\/(J.heap.size<=r/\¬(p.heap.size<=r/\r<N.heap.size))\/r=q) N I/\ag I q ed [.bool (((aC x).take O).foldl (gf n.k j i) Q).2],λ_ _ _=>False,rfl,(nr (g:=av) a1.1).s,?_,
   λ_ _ K h=>⟨h.1.W K,h.2.W K⟩,λ_ _ _ K h=>⟨h.1.W K,h.2.1.F (K.V _),h.2.2.W K⟩,λ_ _ _ _ _ h=>h,⟨a7,bG.W M⟩,⟨(Z.Y λr aV aE=>⟨aE,Ω⟩).W M,af.refl _ _,aB.W M⟩,?_,?_,λ_ _ h=>h.elim,λ_ _ _ h=>h.elim⟩
  .rintro _ _ _ _ ⟨_,_,_,_,rfl⟩;rfl
  .rintro _ O _ cK ⟨ba,aH⟩ ⟨cL,rfl,v,bL,bM⟩ ⟨S,z,W⟩;cases bM;intro cN E _ _;have bN:(aC x)[O]?=σ (v:Int):=by rw[<-a8,v8,bL];rfl
   have aI:=TT (f:=gf n.k j i) (b:=Q) bN;generalize cO:((aC x).take O).foldl (gf n.k j i) Q=B at S W aI;obtain⟨cP,cQ,bc,bP,bQ,bR⟩:=S.sS;have cR:=z.size;have z12:=E.size;have aJ:=((((ah Ω Ω C).W M).V z Ω).W E).Qz rfl;have aL:=((((ah Ω Ω H).W M).V z Ω).W E).Qz rfl;have aN:=(((ai.W aG).V z Ω).W E).Qz rfl;rw[aD (v:=Γ ad) Ψ aJ,aD (v:=Δ (j:Int)) Ψ aL,aD (v:=Δ (i:Int)) Ψ aN];refine(Sr (j:=(j:Int)) (pos:=(i:Int)) (v:=(v:Int)) (bc.W E) (aH.W E)).Y ?_;rintro _ X _ ⟨P,y⟩;have L:=E.F P;have no:gf n.k j i B (v:Int)=B->(ag X av b3 [.int .u64 b,Δ aZ]/\Laid X)/\(dO ao w ad ae A R n w.heap.size (λr=>J.heap.size<=r/\¬(p.heap.size<=r/\r<N.heap.size)) (((aC x).take (O+1)).foldl (gf n.k j i) Q).1 X/\af (λr=>r<w.heap.size\/(J.heap.size<=r/\¬(p.heap.size<=r/\r<N.heap.size))\/r=q) N X/\ag X q ed [.bool (((aC x).take (O+1)).foldl (gf n.k j i) Q).2]):=λe=>by
    refine⟨⟨ba.W L,aH.W L⟩,?_⟩;rw[aI,e];exact⟨S.W L,z.F (L.V _),W.W L⟩
   have G:gf n.k j i B (v:Int)=match dl B.1 j i v with
    |none=>B
    |some (f,_,_)=>if 0<ef n.k B.1 f i v then((bg n.k B.1 (projM j i v (ef n.k B.1 f i v))).1,ro)else B:=rfl
   cases bd:dl B.1 (j:Int) (i:Int) (v:Int)with
   |none=>
    rw[bd]at y G;subst y;rw[bu,bw,bO,ak];refine⟨λh=>Ω,λ_=>?_⟩;exact⟨(no G).1,(no G).2,λh=>by cases h⟩
   |some bS=>
    obtain⟨bT,cS,cT⟩:=bS;rw[bd]at y G;simp only[u6]at y G;subst y;rw[bu,bw,bO,ak];refine⟨λaP=>?_,λaP=>?_⟩
    rotate_left
    .rw[m5 aP]at G;exact⟨(no G).1,(no G).2,λh=>by cases h⟩
    rw[m3 aP]at G;have aJ:=((((((ah Ω Ω C).W M).V z Ω).W E)).W P).Qz rfl;have aL:=((((((ah Ω Ω H).W M).V z Ω).W E)).W P).Qz rfl;have aN:=((((ai.W aG).V z Ω).W E).W P).Qz rfl;rw[aD (v:=Γ ad) Ψ aJ,aD (v:=Δ (j:Int)) Ψ aL,aD (v:=Δ (i:Int)) Ψ aN];have cU:=P.size;refine(Gf (a:=projM j i v (ef n.k B.1 bT i v)) rfl (bc.W L) (aH.W L) bQ bP).Y ?_;rintro _ bU _ ⟨rfl,bV,bW,aK,bn,bX,bY,b0,cV⟩;obtain⟨b1,aw,cW⟩:=bR (D':=λr=>J.heap.size<=r/\¬(p.heap.size<=r/\r<N.heap.size)) (jp L bV) ((Grow.W L).F bX) bY b0 (λr h=>h) λr aV aE=>Ω
    have cX:=aw.size;have b2:ag bU q ed _:=W.V aw Ω;refine bq (o:=0) ed.i rfl rfl b2 Ξ λcY ax cZ b4=>?_;refine⟨⟨(ba.V aw Ω).V ax λh=>by have h:av=q:=h;omega,iu ax (λh=>by have h:0=q:=h;omega) bW⟩,?_,λh=>by cases h⟩;dsimp only;rw[aI,G];exact⟨b1.own ax λr y=>by have y:r=q:=y;subst y;exact⟨Ω,Ω⟩,(z.F (aw.Y λr _ h=>h.imp id .inl)).F (ax.Y λr _ y=>.inr (.inr y)),b4⟩
  .rintro k c0 rfl ⟨S,z,W⟩;rw[j5 (by rw[<-a8,u9];exact p8 _),<-bK]at S W;rw[aO];exact br _ ⟨S.Y λr _ h=>h.1,(ab.F (M.V _)).F (z.Y λr _ h=>h.imp id (.imp (·.1) id)),W⟩
 .rintro p bp ⟨Z,ab,aB⟩;refine cc Ω ?_;rw[aD Ψ (aB.Qz rfl)];intro X P _;exact⟨rfl,Z.done P⟩
end
section
variable{n:aI}{s:am}
def q3(n:aI)(s:am):Prop:=∀(j:Nat)f,s.d7[j]?=σ f->f.live≠0->∀p,p<f.sc.length->∀v∈bb s (f.sc.getD p 0),¬(0<(lu n s j f p v).1\/(lu n s j f p v).2=ν)
end
section
variable{w:x4}{dD:x1}{n:aI}{s:am}
theorem zl{p:Nat}{f:ch}(h:bd n.k n.co s)(a:s.d7[j]?=σ f)(q:f.live≠0)(ac:p<f.sc.length)(e:v∈bb s (f.sc.getD p 0)):lu n s j f p v=fJ n.k (br f.ai f.cs) (bX s f.sc p v):=by
 unfold lu;rw[QY ac];refine SZ λtl r=>?_;obtain⟨m,hm⟩:=qT h (x6 a) (λu hu=>by rw[u4,hu]at e;exact e) r;exact(RM a q hm).1
theorem TV{f:x1}{o:Option (Λ)}{K:x1->Prop}(h:q0 w f o):ab x8 (aN .eql aq rs ro f (.slice ν 0 0)) w K=K (.bool (decide (o=ν))):=by
 obtain⟨a,n,c,rfl,e⟩:=h.nil;rw[qh aq.u,e]
theorem TW(h:ja w dD n.k n.co s)(C:bd n.k n.co s)(aA:q1 s)(bp:s.d7.length<=1000):al x8 Ib [dD] w λr I=>Ext w I/\∃b:Bool,r= .bool b/\(b=ro↔q3 n s/\iq n s):=by
 have bq:=C.d6;refine aB func43 ?_;refine bo λg1 U br O P=>?_;have Q:=h.box O P;obtain⟨d9,bs,bt,bx,bz,bA,af,bC,_,aE,bD,bE,ag,bF⟩:=id Q;rw[aL a6.p 6 af rfl,ka fm.u ag,u9];have no:∀{I:x4},Ext U I->¬q3 n s->Ext w I/\∃b:Bool,x1.bool rs= .bool b/\(b=ro↔q3 n s/\iq n s):=λaG R=>⟨O.F aG,rs,rfl,λh=>(by cases h),λh=>m6 h.1 R⟩;refine cb.range s.d7.length (λj _ aa=>Ext U aa/\∀q,q<j->∀f,s.d7[q]?=σ f->∀p,p<f.sc.length->∀v∈bb s (f.sc.getD p 0),¬(0<(lu n s q f p v).1\/(lu n s q f p v).2=ν)) Ω ⟨Ext.refl _,λq E=>m6 E (Nat.not_lt_zero _)⟩ ?_ ?_
 rotate_left
 .rintro _ aa aH ⟨G,S⟩;refine cc Ω ?_;refine(Q.W G).load λaI V=>?_;refine(TG V C).Y ?_;rintro _ bG _ ⟨aJ,b,rfl,P⟩;exact⟨(O.F G).F aJ,b,rfl,P.F ⟨λh=>⟨λj f z _=>S j (x5.1 z).1 f z,h⟩,λh=>h.2⟩⟩
 rintro j bJ aa aH aK ⟨G,S⟩ aM;obtain⟨fn,a⟩:=aF (l:=s.d7) aK;have W:=aA fn (x6 a);obtain⟨ah,_,_⟩:=C.d7 fn (x6 a);refine bI Ω ?_;refine n2 ew.p rfl fm.u ew.i (bS ag G) (by rw[v8,a];rfl) λcs aN=>?_;obtain⟨aU,aP,a7,rfl,ai,aQ,aR⟩:=oy aN;refine bB ew.i λga bK bL aS aX=>?_;refine b4 (vs:=[aU,aP,a7,.bool (decide (fn.live≠0))]) ew.i rfl rfl (Sa ai aQ aR) aX λaZ a1 bM am=>?_;have an:=aS.put a1 Ω;have ao:=G.F an;have X:=dQ (bS ai an);rw[aT ew.p rfl,aT a8.p rfl,aD Ψ (am.cell rfl),aY aq.u X];refine cb.range fn.sc.length (λpos _ J=>Ext aZ J/\∀p,p<pos->∀v∈bb s (fn.sc.getD p 0),¬(0<(lu n s j fn p v).1\/(lu n s j fn p v).2=ν)) X.le ⟨Ext.refl _,λp ac=>m6 ac (Nat.not_lt_zero _)⟩ ?_ ?_
 rotate_left
 .rintro t5 J a2 ⟨A,Y⟩;refine cc Ω ?_;rw[aO];refine aM _ _ ⟨ao.F A,λq E f z=>?_⟩;rcases Nat.lt_or_eq_of_le (Nat.le_of_lt_succ E)with aW|rfl
  .exact S q aW f z
  .rw[a]at z;cases z;exact Y
 rintro pos t5 J a2 K ⟨A,Y⟩ ba;obtain⟨u,hu⟩:=aF (l:=fn.sc) K;have ap:=x6 hu;have bc:=(ah.scope.1 u ap).1;have bN:=ah.d6 u ap;obtain⟨un,rfl⟩:=V3 bc;obtain⟨x,au⟩:=aF (l:=s.d6) (i:=un) Ω;have av:bb s (fn.sc.getD pos 0)=aC x:=by rw[u4,hu];exact sV au
 have Z:=ao.F A;refine bI Ω ?_;rw[bi aq.u aj.i Ψ (X.W A) hu,aL a6.p 3 (af.W Z) rfl];refine jx rfl rfl dn.u aq.i Ψ (bS aE Z) (by rw[v8,au];rfl) λbP be=>?_;have ab:=dQ be;rw[aY aq.u ab];refine cb.range (aC x).length (λq _ ad=>Ext J ad/\∀v∈(aC x).take q,¬(0<(lu n s j fn pos v).1\/(lu n s j fn pos v).2=ν)) ab.le ⟨Ext.refl _,λv H=>by cases H⟩ ?_ ?_
 rotate_left
 .rintro bf ad bg ⟨B,L⟩;rw[o6]at L;refine cc Ω ?_;rw[aO];refine ba _ _ ⟨A.F B,λp ac=>?_⟩;rcases Nat.lt_or_eq_of_le (Nat.le_of_lt_succ ac)with aW|rfl
  .exact Y p aW
  .rw[av];exact L
 rintro q bf ad bg E ⟨B,L⟩ bh;obtain⟨v,H⟩:=aF (l:=aC x) E;have bj:=x6 H;have aw:=Z.F B;have M:v∈bb s (fn.sc.getD pos 0):=by rw[av];exact bj
 refine bI Ω ?_;rw[bi aq.u aj.i Ψ (ab.W B) H];refine(Q.W aw).load λaI V=>?_;refine(Tc V C a K λu' bk=>by rw[u4,bk]at M;exact M).Y ?_;rintro _ bl _ ⟨ae,fv2,rfl,ax⟩;rw[<-zl C a W K M]at ax ⊢;rw[bu,bw];have bm:=aw.F ae;refine aV (λr bn=>bn=bl/\r= .bool (decide (0<(lu n s j fn pos v).1\/(lu n s j fn pos v).2=ν))) ?_ λay az=>?_
 .rintro _ _ ⟨rfl,rfl⟩;rw[ak];refine⟨λe=>no bm λR=>R j fn a W pos K v M e,λe=>?_⟩;rw[aO];refine bh _ _ ⟨B.F ae,λy N=>?_⟩;rw[r8,H,o9,j4,j6]at N;rcases N with N|rfl
  .exact L y N
  .exact e
 .rw[aT ew.p rfl,aD Ψ (((am.W A).W (B.F ae)).cell rfl),m7 W,bH,bO,ak];refine⟨λe=>az _ _ ⟨rfl,by rw[m7 (.inl e)]⟩,λe=>?_⟩;rw[TV ax];refine az _ _ ⟨rfl,?_⟩;congr 1;exact decide_eq_decide.2 ⟨λh=>.inr h,λh=>h.resolve_left e⟩
end
section
variable{n:aI}{s:am}
theorem TX{i:Int}(f:bd n.k n.co s)(j:0<=i)(e:v∈bb s i)(r:∀x,s.d6[i.toNat]?=σ x->x.gone=0):∃x,dv s i v=σ x/\s.d6[i.toNat]?=σ x/\cp n s i v=x.un.getD v.toNat 0/\et n i v/\v.toNat<x.un.length:=by
 unfold bb at e;cases a:s.d6[i.toNat]? with
 |none=>rw[a]at e;cases e
 |some x=>
  rw[a]at e;have p:v∈aC x:=e;have w:=r x a;have A:=(x5.1 a).1;have B:=f.d6;obtain⟨z,h⟩:=aF (l:=n.co) (i:=i.toNat) Ω;have C:=(f.var i.toNat x z a h).1;have E:=f.eD.2.2 z (x6 h);have y:=(eZ.1 p).1;have q:et n i v:=⟨j,Ω,y.1,by rw[u4,h,V9];omega⟩;refine⟨x,?_,rfl,?_,q,Ω⟩
  .unfold dv;rw[m3 j,a];simp only;rw[m3 ⟨w,p⟩]
  .unfold cp fj;rw[m3 q,a]
end
theorem TY{of:Λ->Int}{l:List (Λ)}(h:∀t∈l,of t<=k):(fJ k of l).1=(l.map of).foldl min k/\((fJ k of l).2=ν↔l=[]):=by
 unfold fJ;have key:∀(l:List (Λ))(c:Int)(t:Λ),(l.foldl (simpStep of) (c,σ t)).1=(l.map of).foldl min c/\(l.foldl (simpStep of) (c,σ t)).2≠ν:=λl=>by
  induction l with
  |nil=>exact λc t=>⟨rfl,λh=>by cases h⟩
  |cons a l e=>
   intro c t;rw[V8,T3,V8];by_cases f:of a<c
   .rw[show simpStep of (c,σ t) a=(of a,σ a) by unfold simpStep;rw[m3 (.inr f)],show min c (of a)=of a by omega];exact e _ _
   .rw[show simpStep of (c,σ t) a=(c,σ t) by unfold simpStep;rw[m5 Θ],show min c (of a)=c by omega];exact e _ _
 cases l with
 |nil=>exact⟨rfl,λ_=>rfl,λ_=>rfl⟩
 |cons a l=>
  have p:=h a (.head _);rw[V8,show simpStep of (k,ν) a=(of a,σ a) by unfold simpStep;rw[m3 (.inl rfl)],T3,V8,show min k (of a)=of a by omega];obtain⟨h1,j⟩:=key l (of a) a;exact⟨h1,λh=>m6 h j,λh=>by cases h⟩
section
variable{n:aI}{s:am}
theorem TZ(q:bd n.k n.co s)(w:b2 s)(y:∀(j:Nat)f,s.d7[j]?=σ f->f.live≠0->j∈O):vE n O s↔ ∀(j:Nat)f,s.d7[j]?=σ f->f.live≠0->∀(pos:Nat)i,f.sc[pos]?=σ i->∀v∈bb s i,(fJ n.k (br f.ai f.cs) (bX s f.sc pos v)).1<=0/\(fJ n.k (br f.ai f.cs) (bX s f.sc pos v)).2≠ν:=by
 have hk:=q.ft;have key:∀(j:Nat)f,s.d7[j]?=σ f->f.live≠0->∀(pos:Nat)i,f.sc[pos]?=σ i->∀v∈bb s i,(mU n.k s j pos v=0↔(fJ n.k (br f.ai f.cs) (bX s f.sc pos v)).1<=0/\(fJ n.k (br f.ai f.cs) (bX s f.sc pos v)).2≠ν):=λj f a e pos i hi v p=>by
  have r:=x6 a;have z:=((q.d7 f r).1.scope.1 i (x6 hi)).1;obtain⟨x,A,_⟩:=TX q z p (w f r e i (x6 hi));have ac:dl s (j:Int) (pos:Int) v=σ (f,i,x):=by
   unfold dl;rw[m3 Ω,u6,a];simp only;rw[m3 e,u6,hi];simp only;rw[A];rfl
  obtain⟨B,C⟩:=TY (k:=n.k) (of:=br f.ai f.cs) (l:=bX s f.sc pos v) λt _=>(nF q r).2;have I:=GI (pos:=pos) (v:=v) q r;have E:mU n.k s j pos v=ef n.k s f pos v:=by unfold mU;rw[ac]
  rw[E,B];show ef n.k s f pos v=0↔ef n.k s f pos v<=0/\_;refine⟨λh=>⟨Ω,λF=>?_⟩,λh=>Ω⟩;have G:=C.1 F;unfold ef at h;rw[G]at h;have:n.k=0:=h;omega
 constructor
 .intro h j f a e pos i hi v p;refine(key j f a e pos i hi v p).1 (h j (y j f a e) f a pos (T6.2 (x5.1 hi).1) v ?_);rw[u4,hi];exact p
 .intro h j J f a pos H v p;obtain⟨i,hi⟩:=aF (l:=f.sc) (i:=pos) (T6.1 H);rw[u4,hi]at p;by_cases e:f.live≠0
  .exact (key j f a e pos i hi v p).2 (h j f a e pos i hi v p)
  .unfold mU;have:dl s (j:Int) (pos:Int) v=ν:=by
    unfold dl;split
    .rw[u6,a];simp only;rw[m5 e]
    .rfl
   rw[this]
end
structure Ua(P:am->Prop)(n:aI)(s:am)(q:am×Bool×Bool):Prop where
 aZ:gx n.k n.co s q.1
 emp:q.2.2=ro->q.2.1=rs/\∃i<n.co.length,du s i=rs/\bb q.1 (i:Int)=[]
 less:q.2.2=rs->q.2.1=ro->fK n q.1<fK n s
 same:q.2.2=rs->q.2.1=rs->q.1=s/\iq n s/\P s
 quiet:iq n s->P s->q=(s,rs,rs)
section
variable{n:aI}{s:am}
def zm(s:am)(O:List Nat):Prop:=∀(j:Nat)f,s.d7[j]?=σ f->f.live≠0->j∈O
theorem GV(w:bd n.k n.co s)(z:b2 s)(A:zm s O):vE n O s↔q3 n s:=by
 rw[TZ w z A];constructor
 .intro h j f a e p ac v q y;obtain⟨i,hi⟩:=aF (l:=f.sc) ac;rw[zl w a e ac q]at y;have r:v∈bb s i:=by rw[u4,hi]at q;exact q
  obtain⟨h1,B⟩:=h j f a e p i hi v r;exact y.elim (λh=>Ω) B
 .intro h j f a e p i hi v q;have ac:=(x5.1 hi).1;have r:v∈bb s (f.sc.getD p 0):=by rw[u4,hi];exact q
  have x:=h j f a e p ac v r;rw[zl w a e ac r]at x;exact⟨Int.not_lt.1 λh=>x (.inl h),λh=>x (.inr h)⟩
theorem Ub(e:bd n.k n.co s)(f:b2 s)(j:zm s O):Ua (q3 n) n s (eg n O s):=by
 obtain⟨p,q,r,h⟩:=zi (n:=n) (O:=O) e f;exact⟨p,q,r,λh1 a=>⟨(h h1 a).1,(h h1 a).2.1,(GV e f j).1 (h h1 a).2.2⟩,λh1 a=>Tz e h1 ((GV e f j).2 a)⟩
def vJ(n:aI)(s:am):Prop:=q3 n s
end
def oI(n:aI)(O:List Nat):Nat->am->Bool
 |0,_=>rs
 |f+1,s=>(eg n O s).2.2|| !(eg n O s).2.1||oI n O f (eg n O s).1
section
variable{n:aI}{O:List Nat}
theorem zn:∀(f g:Nat)(s:am),f<=g->oI n O f s=ro->jT n O g s=jT n O f s
 |0,_,_,_,h=>by cases h
 |f+1,0,_,h,_=>Ω
 |f+1,g+1,s,h,e=>by
  unfold oI at e;unfold jT;by_cases he:(eg n O s).2.2=ro
  .rw[m3 he,m3 he]
  rw[m5 he,m5 he];by_cases a:(eg n O s).2.1=ro
  .rw[m3 a,m3 a];refine zn f g _ Ω ?_;have he:(eg n O s).2.2=rs:=by simpa using he
   rw[he,a]at e;simpa using e
  .rw[m5 a,m5 a]
theorem GW:∀(f:Nat)(s:am),bd n.k n.co s->b2 s->fK n s<f->oI n O f s=ro
 |0,_,_,_,h=>Ω
 |f+1,s,a,e,q=>by
  obtain⟨h1,r,j,w⟩:=zi (O:=O) a e;unfold oI;cases he:(eg n O s).2.2 with
  |true=>rfl
  |false=>
   cases p:(eg n O s).2.1 with
   |false=>rfl
   |true=>
    have:=j he p;rw[GW f _ h1.ok h1.jc Ω];rfl
theorem Uc{s:am}{f g:Nat}(a:bd n.k n.co s)(e:b2 s)(j:oI n O f s=ro)(p:fK n s<g):jT n O g s=jT n O f s:=by
 by_cases h:f<=g
 .exact zn f g s h j
 .exact (zn g f s Ω (GW g s a e p)).symm
end
def iF(s:am)(m:Nat):List Nat:=(W3 m).filter (e7 s)
theorem GX{s:am}{m:Nat}:iF s (m+1)=iF s m++if e7 s m=ro then[m]else[]:=by
 unfold iF;rw[List.range_succ,List.filter_append];congr 1;by_cases h:e7 s m=ro
 .rw[m3 h,List.filter_cons_of_pos h];rfl
 .rw[m5 h,List.filter_cons_of_neg h];rfl
theorem Ud{s:am}(h:O.Perm (iF s s.d7.length)):zm s O:=λj f a e=>by
 refine h.symm.subset (S1.2 ⟨T6.2 (x5.1 a).1,?_⟩);unfold e7;rw[a];exact m7 e
theorem Ue{s:am}:∀m,(iF s m).length<=m:=λm=>by
 have:=Q8 (e7 s) (W3 m);rw[List.length_range]at this;exact this
open Classical in
theorem lG.sink{b c:x1}{B:x1->x1->x1->x4->(x1->x1->x1->x4->Prop)->Prop}(ay:Nat->x1->x4->Prop){m:Nat}(q:ay m c w)(J:∀(m:Nat)(a b c:x1)(I:x4)(k:x1->x1->x1->x4->Prop),ay m c I->(∀bP a b c f,bP<m->ay bP c f->k a b c f)->B a b c I k):lG a b c w B:=by
 have j:∀{c:x1}{w:x4},(∃m,ay m c w)->∃m,ay m c w/\∀k,ay k c w->m<=k:=λ⟨m,h⟩=>GL (P:=λm=>ay m _ _) m h;refine⟨λ_ _ c w=>∃m,ay m c w,λ_ _ c w=>if h:∃m,ay m c w then Classical.choose (j h)else 0,⟨m,q⟩,λa b c I p=>?_⟩;obtain⟨h1,r⟩:=Classical.choose_spec (j p);refine J _ a b c I _ h1 λbP _ _ s f x e=>⟨⟨bP,e⟩,?_⟩;have y:=(Classical.choose_spec (j ⟨bP,e⟩)).2 bP e;show dite _ _ _<dite _ _ _;rw[dif_pos p,dif_pos ⟨bP,e⟩];omega
section
variable{ao:List aw}{w:x4}{ad ae:Nat}{A R:ah}{n:aI}{s:am}{t:aw}
theorem Uf(h:bt w ad ae A R n s t)(Q:s.d7.length<=1000000):al x8 Ik [Γ ad] w λr I=>∃g H P,r=Γ g/\Ext w I/\eh (λr=>w.heap.size<=r/\r<I.heap.size) I g H P/\(kS H).Perm ((iF s s.d7.length).map λj:Nat=>(j:Int)):=by
 refine aB func54 ?_;refine(sA h).Y ?_;rintro _ U _ ⟨rfl,B⟩;have ao:=B.size;refine(TM (S:=λr=>w.heap.size<=r) Q λr y=>Ω).Y ?_;rintro _ aa _ ⟨g,rfl,G,ap,V⟩;refine(sA (h.W (B.F G))).Y ?_;rintro _ au _ ⟨rfl,J⟩;have W:=(B.F G).F J;refine bZ.range s.d7.length (λi z=>Ext w z/\∃H P,eh (λr=>w.heap.size<=r) z g H P/\P.length=s.d7.length/\(kS H).Perm ((iF s i).map λj:Nat=>(j:Int))) Ω ⟨W,[],_,V.W J,Ξ,.refl _⟩ ?_ ?_
 .rintro i z X hi ⟨p,H,P,q,K,ac⟩ Y;refine bI Ω ?_;have z4:=p.size;refine cW (λC=>Ext w C/\∃H P,eh (λr=>w.heap.size<=r) C g H P/\P.length=s.d7.length/\(kS H).Perm ((iF s (i+1)).map λj:Nat=>(j:Int))) ?_ λay L=>?_
  .rintro C Z;rw[aO];exact Y _ Z
  refine(ve (j:=(i:Int)) (h.W p)).Y ?_;rintro _ av _ ⟨rfl,x⟩;rw[m7 Ω,S0,u6,bY];refine⟨λE=>?_,λE=>L _ ⟨p.F x,H,P,q.W x,K,by rw[GX,m5 (by rw[E];decide),W5];exact ac⟩⟩;obtain⟨f,ab⟩:=aF (l:=s.d7) hi;refine(sE (h.W (p.F x)) ab).Y ?_;rintro sv aw _ ⟨M,gs,ax,af⟩;rw[aY aq.u af.ls];have N:=(p.F x).F M;have az:=N.size;have ag:P[i]?=σ (-1):=by
   obtain⟨v,O⟩:=aF (l:=P) (i:=i) Ω;rcases q.1.1.pl i v O with e|⟨j,a,_,ah,e⟩
   .rw[O,e]
   .have:(i:Int)∈kS H:=j0.2 ⟨a,x6 ah,e⟩;obtain⟨k,hk,aA⟩:=j0.1 (ac.subset this);have:=T6.1 (S1.1 hk).1;omega
  have aC:H.length<=i:=by
   have e:=ac.length_eq;have:=Ue (s:=s) i;unfold kS at e;rw[u9,u9]at e;omega
  refine(TN ((q.W x).W M) ag Ω Ω λr y=>Ω).Y ?_;rintro _ aD _ ⟨ai,aj,ak,am,an,aE⟩;refine L _ ⟨N.then ak λr y h=>Ω,ai,aj,am,Ω,?_⟩;rw[GX,m3 E,Z5];refine(GQ an).F ?_;unfold kS at ac ⊢;rw[Z5];exact ac.append_right _
 .rintro z X ⟨p,H,P,q,K,ac⟩;refine cc Ω ?_;exact⟨g,H,P,rfl,p,q.Y λr y h=>⟨h,y⟩,ac⟩
def Ug(ao:List aw)(w:x4)(ad ae:Nat)(A R:ah)(n:aI)(s:am)(r:x1)(I:x4):Prop:=∃O:List Nat,O.Perm (iF s s.d7.length)/\GN ao w ad ae A R n (eg n O s) r I
theorem GY{s':am}(h:dB s s'):iF s' s'.d7.length=iF s s.d7.length:=by
 unfold iF;rw[h.d7];refine List.filter_congr λj a=>?_;have a:=T6.1 a;have r:=h.d7;obtain⟨f,e⟩:=aF (l:=s.d7) a;obtain⟨q,p⟩:=aF (l:=s'.d7) (i:=j) Ω;unfold e7;rw[e,p];simp only;rw[(h.fn j f q e p).2.2.1]
theorem GZ(h:bt w ad ae A R n s t)(an:Laid w)(ap:¬A 0)(aq:dN ao t)(B:b2 s)(bd:s.d7.length<=1000000):al x8 AC [Γ ad] w (Ug ao w ad ae A R n s):=by
 have G:=h.2.2.2.1;refine aB func22 ?_;refine(TD h an ap aq B).Y ?_;rintro _ U _ ⟨rfl,I⟩;obtain⟨y,_⟩:=Gw (n:=n) G B;rw[bu,bw];generalize au:fu n s=q at I y;have K:∀O,eg n O s=if q.2.2=ro\/q.2.1=ro then q else((O.foldl (eG n.k) (q.1,rs)).1,(O.foldl (eG n.k) (q.1,rs)).2,rs):=λO=>by unfold eg;rw[au]
 refine aV (λv aa=>U=aa/\v= .bool (q.2.2||q.2.1)) ?_ λay M=>?_
 rotate_left
 .rw[bF,ak];refine⟨λN=>M _ _ ⟨rfl,?_⟩,λhe=>M _ _ ⟨rfl,?_⟩⟩
  .cases he:q.2.2 with
   |true=>rfl
   |false=>rw[he]at N;exact m6 rfl N
  .have he:q.2.2=rs:=by
    cases av:q.2.2 with
    |true=>rw[av]at he;exact m6 Φ he
    |false=>rfl
   rw[he,Bool.false_or]
 rintro _ _ ⟨rfl,rfl⟩;rw[bY];refine⟨λx=>⟨_,.refl _,?_⟩,λx=>?_⟩
 .have e:=K (iF s s.d7.length);rw[m3 (by simpa using x)]at e;rw[e];exact⟨rfl,I⟩
 rw[U4]at x;obtain⟨aw,be,Q,ax,az,aA,aC⟩:=I.open;have aD:=GY y.same;have bf:=y.same.d7;refine(Uf Q Ω).Y ?_;rintro _ C _ ⟨g,H,P,rfl,S,aE,T⟩;rw[aD]at T;have z3:=S.size;refine lG.sink (λm c E=>∃(z:List (Int×Int))(W:Λ)(p:List Nat),z.length=m/\eh (λr=>U.heap.size<=r/\r<C.heap.size) E g z W/\(p.map (λj:Nat=>(j:Int))++kS z).Perm ((iF s s.d7.length).map λj:Nat=>(j:Int))/\c= .bool (p.foldl (eG n.k) (q.1,rs)).2/\
   dO ao U ad ae aw R n U.heap.size (λr=>C.heap.size<=r) (p.foldl (eG n.k) (q.1,rs)).1 E/\C.heap.size<=E.heap.size) ⟨H,P,[],rfl,aE,T,by rw[x.2];rfl,dO.start Q ax az aA S (p8 _),p8 _⟩ ?_
 rintro m aG aH _ E aI ⟨z,W,p,rfl,aJ,ac,rfl,X,bg⟩ aL;have aM:=(sW (n:=n) (step:=eG n.k) (λj s b G B=>GJ G B) p q.1 rs y.ok y.jc).1;refine(TP aJ).Y ?_;rintro _ bh _ (⟨rfl,aN,rfl⟩|⟨a,J,aO,rfl,Y,aP,Z,bi⟩)
 .rw[fQ,fR,fS,bC,W7,bH];have aQ:p.Perm (iF s s.d7.length):=by
   have ab:=ac.map Int.toNat;have e:∀L:List Nat,(L.map λj:Nat=>(j:Int)).map Int.toNat=L:=λL=>by rw[S5];exact(List.map_congr_left λj _=>u6 j).F (List.map_id L)
   rw[show kS []=[]from rfl,W5,e,e]at ab;exact ab
  refine⟨p,aQ,?_⟩;have e:=K p;rw[m5 (by rw[x.1,x.2];simp)]at e;rw[e];exact⟨rfl,aC (X.done aN)⟩
 rw[fQ,fR,fS,bC,X1,aX];have af:=X.own Y λr ag=>⟨ag.1,Ω⟩;have z5:=Y.size;have ah:(kS z).Perm (kS J++[a.2]):=by
  have:=GQ Z;unfold kS at this ⊢;rw[Z5]at this;exact this
 have aR:a.2∈(iF s s.d7.length).map λj:Nat=>(j:Int):=ac.subset (List.mem_append_right _ (ah.symm.subset Ξ));obtain⟨j,aS,ai⟩:=j0.1 aR;have bj:=T6.1 (S1.1 aS).1;have bk:=aM.same.d7;obtain⟨f,aT⟩:=aF (l:=(p.foldl (eG n.k) (q.1,rs)).1.d7) (i:=j) Ω;obtain⟨bl,t5,aU,aW,aY,aZ⟩:=af.sS;rw[<-ai];refine(TU aU af.2.1.1 aY aW aT).Y ?_;rintro _ a1 _ ⟨rfl,a2,bm,aK,bn,a6,a7,a8,bo⟩;obtain⟨ba,aj,bp⟩:=aZ (D':=λr=>C.heap.size<=r) a2 a6 a7 a8 (λr h=>h) λr bq x=>Ω
 have br:=aj.size;have bb:=Z.length_eq;rw[r9,U2]at bb;have am:(p++[j]).foldl (eG n.k) (q.1,rs)=((eG n.k ((p.foldl (eG n.k) (q.1,rs)).1,rs) j).1,(eG n.k ((p.foldl (eG n.k) (q.1,rs)).1,rs) j).2||(p.foldl (eG n.k) (q.1,rs)).2):=by
  rw[Q0];exact TR _ _ j
 have go:∀{c:x1},c= .bool ((eG n.k ((p.foldl (eG n.k) (q.1,rs)).1,rs) j).2||(p.foldl (eG n.k) (q.1,rs)).2)->aI aG aH c a1:=λ{c}bc=>by
  refine aL J.length _ _ _ _ Ω ⟨J,aO,p++[j],rfl,aP.V aj λr ag h=>Ω,?_,by rw[am];exact bc,by rw[am];exact ba,Ω⟩;rw[Z5,X9];refine(List.Perm.append_left _ ?_).F ac;rw[List.map_singleton,ai];exact List.perm_append_comm.F ah.symm
 rw[bY];exact⟨λx=>go (by rw[x,Bool.true_or]),λx=>go (by rw[x,Bool.false_or])⟩
end
section
variable{ao:List aw}{w:x4}{ad ae:Nat}{A R:ah}{n:aI}{s:am}{t:aw}
theorem G0(h:bt w ad ae A R n s t)(G:Laid w)(H:¬A 0)(J:dN ao t)(K:b2 s)(Z:s.d7.length<=1000000):al x8 wz [Γ ad] w λr I=>∃q:am×Bool,TH (vJ n) n s q/\r=Δ (if q.2=ro then 8 else 0)/\cM ao w ad ae A R n q.1 I:=by
 have L:=h.2.2.2.1;refine aB func10 ?_;refine bZ.sink (λm U=>∃s1,cM ao w ad ae A R n s1 U/\gx n.k n.co s s1/\fK n s1=m/\(iq n s->vJ n s->s1=s)) ⟨s,cM.same h G H J (Ext.refl _),.rfl L K,rfl,λ_ _=>rfl⟩ ?_;rintro m _ U ab ⟨s1,hm,f,ac,z⟩ M;obtain⟨af,ag,N,P,Q,S,T⟩:=hm.open;have ah:=f.same.d7;refine(GZ N P Q S f.jc Ω).Y ?_;rintro _ aa _ ⟨O,V,rfl,x⟩;have a:=Ub f.ok f.jc (Ud V);generalize eg n O s1=q at a x;have x:=T x;have ai:=f.ok.d6;rw[bu,bw];refine aV (λr I=>I=aa/\r= .bool (q.2.2|| !q.2.1)) ?_ λay B=>?_
 .rintro _ _ ⟨rfl,rfl⟩;rw[bY];refine⟨λj=>?_,λj=>?_⟩
  .cases he:q.2.2 with
   |true=>
    obtain⟨_,i,hi,W,X⟩:=a.emp he;refine⟨(q.1,ro),⟨f.F a.aZ,λ_=>⟨i,hi,?_,X⟩,λh=>(by cases h),λh1 p=>?_⟩,rfl,x⟩
    .show du q.1 i=rs;rw[GK a.aZ.same Ω];exact W
    .have e:=z h1 p;subst e;rw[a.quiet h1 p]at he;cases he
   |false=>
    rw[he,Bool.false_or,Bool.not_eq_true']at j;obtain⟨e,h1,p⟩:=a.same he j;refine⟨(q.1,rs),⟨f.F a.aZ,λh=>(by cases h),λ_=>?_,λC y=>?_⟩,rfl,x⟩
    .show iq n q.1/\vJ n q.1;rw[e];exact⟨h1,p⟩
    .rw[e,z C y]
  .rw[U4,Bool.not_eq_false']at j;have C:=a.less j.1 j.2;refine M (fK n q.1) _ _ Ω ⟨q.1,x,f.F a.aZ,rfl,λh1 p=>?_⟩;have e:=z h1 p;subst e;have y:=j.2;rw[a.quiet h1 p]at y;cases y
 rw[bF,ak];refine⟨λE=>B _ _ ⟨rfl,?_⟩,λhe=>?_⟩
 .cases he:q.2.2 with
  |true=>rfl
  |false=>rw[he]at E;exact m6 rfl E
 .have he:q.2.2=rs:=by
   cases Y:q.2.2 with
   |true=>rw[Y]at he;exact m6 Φ he
   |false=>rfl
  rw[bC];exact B _ _ ⟨rfl,by rw[he,Bool.false_or]⟩
theorem Uh{u:Nat}(h:bt w ad ae A R n s t)(J:Laid w)(K:¬A 0)(L:dN ao t)(y:b2 s)(ab:s.d7.length<=1000000)(M:∀x,x.Perm (iF s s.d7.length)->x=O)(N:oI n O u s=ro):
  al x8 wz [Γ ad] w λr I=>r=Δ (if(jT n O u s).2=ro then 8 else 0)/\cM ao w ad ae A R n (jT n O u s).1 I:=by
 have z:=h.2.2.2.1;rw[<-Uc z y N (Nat.lt_succ_self (fK n s))];generalize P:jT n O (fK n s+1) s=E;refine aB func10 ?_;refine bZ.sink (λm U=>∃s1 f,cM ao w ad ae A R n s1 U/\gx n.k n.co s s1/\fK n s1=m/\m<f/\jT n O f s1=E) ⟨s,_,cM.same h J K L (Ext.refl _),.rfl z y,rfl,Nat.lt_succ_self _,P⟩ ?_;rintro m _ U ac ⟨s1,f,hm,j,af,ag,a⟩ Q;obtain⟨f,rfl⟩:∃g,f=g+1:=⟨f-1,Ω⟩;obtain⟨ah,ai,S,T,V,W,X⟩:=hm.open;have aj:=j.same.d7;obtain⟨B,am,C,an⟩:=zi (n:=n) (O:=O) j.ok j.jc;rw[jT]at a;refine(GZ S T V W j.jc Ω).Y ?_;rintro _ aa _ ⟨x,Y,rfl,p⟩;obtain rfl:=M x (by rw[<-GY j.same];exact Y);have p:=X p;generalize eg n x s1=q at B C a p;rw[bu,bw];refine aV (λr I=>aa=I/\r= .bool (q.2.2|| !q.2.1)) ?_ λay G=>?_
 .rintro _ _ ⟨rfl,rfl⟩;rw[bY];refine⟨λe=>?_,λe=>?_⟩
  .cases he:q.2.2 with
   |true=>
    rw[he,m3 rfl]at a;rw[<-a];exact⟨by rw[m3 rfl],p⟩
   |false=>
    rw[he,Bool.false_or,Bool.not_eq_true']at e;rw[he,e,m5 Φ,m5 Φ]at a;rw[<-a];exact⟨rfl,p⟩
  .rw[U4,Bool.not_eq_false']at e;have ap:=C e.1 e.2;rw[e.1,e.2,m5 Φ,m3 rfl]at a;exact Q (fK n q.1) _ _ Ω ⟨q.1,f,p,j.F B,rfl,Ω,a⟩
 rw[bF,ak];refine⟨λH=>G _ _ ⟨rfl,?_⟩,λhe=>?_⟩
 .cases he:q.2.2 with
  |true=>rfl
  |false=>rw[he]at H;exact m6 rfl H
 .have he:q.2.2=rs:=by
   cases Z:q.2.2 with
   |true=>rw[Z]at he;exact m6 Φ he
   |false=>rfl
  rw[bC];exact G _ _ ⟨rfl,by rw[he,Bool.false_or]⟩
end
theorem G1{p:x1}(ac:aM .u8 w p pl)(S:Bytes pl)(a1:fs w):al x8 H3 [p] w (RK w (pl.take 300)):=by
 refine aB func24 ?_;refine bB a6.i λz U bO ah Y=>?_;have Y:ag U z a6 z12:=Y;rw[aY cQ.u (ac.W ah),nj];refine Ly (i:=min pl.length 300) Ω cQ.u cK.i (ac.W ah) Ω λbP ai=>?_;have a2:pl.take (min pl.length 300)=pl.take 300:=by
  by_cases h:pl.length<=300
  .rw[Q6 h,o6,j5 h]
  .rw[Nat.min_eq_right Ω]
 rw[a2]at ai;have Z:Bytes (pl.take 300):=λb a=>S b (U3 a);have a7:(pl.take 300).length<=300:=by rw[o8];omega
 generalize pl.take 300=q at ai Z a7;refine(QL ai Ω).Y ?_;rintro bQ aa _ ⟨am,bR,an⟩;have aF:=ah.F am;refine(Ov an.ls Z Ω (a1.W aF)).Y ?_;rintro bS bT _ ⟨W,B⟩;have aG:=aF.F W;cases E:gZ q with
 |none=>
  rw[E]at B;obtain⟨n,e,rfl,he⟩:=B;rw[fQ,fR,fS];refine(EU (an.W W).ls Z Ω).Y ?_;rintro a8 ao _ ⟨L,ba,bb,ap,_⟩;obtain rfl:=ap E;rw[fQ,fR,fS];refine aV (λv X=>v= .bool ro/\Ext ao X) ?_ ?_
  .rintro _ X ⟨rfl,H⟩;rw[bH,di (cs:=#[Δ 0,.slice ν 0 0,Δ 0,.slice ν 0 0,.slice ν 0 0,.slice ν 0 0,.slice ν 0 0,.slice ν 0 0]) Ψ];obtain⟨_,_,s,C⟩:=Fj;refine b4 (vs:=z12) a6.i rfl rfl (by intro u hu;simp[z12]at hu;rcases hu with rfl|rfl|rfl|rfl<;>rfl) ((((Y.W am).W W).W L).W H) λbU bc bV bd=>?_;rw[fP a6.p a6.i rfl bd.range];refine⟨((aG.F L).F H).then bc λr B he=>by have he:r=z:=he;omega,_,_,rs,rfl,⟨rfl,(Fj).elim λ_ h=>by obtain⟨_,_,h⟩:=h;exact λu hu=>by simp[z12]at hu;rcases hu with rfl|rfl|rfl|rfl<;>rfl⟩,.inl ⟨rfl,rfl⟩,λf aH=>?_⟩;rw[E]at aH;cases aH
  .intro ay I;rw[bF,ak];exact⟨λ_=>I _ _ ⟨rfl,Ext.refl _⟩,λh=>m6 he h⟩
 |some f=>
  rw[E]at B;obtain⟨bW,n,rfl,be⟩:=B;obtain⟨N,bf,M,bg,bh⟩:=QJ Ω E;have O:=DF M;have ab:=yz M;rw[fQ,fR,fS];refine(EU (an.W W).ls Z Ω).Y ?_;rintro a8 ao _ ⟨L,ba,bb,_,ap⟩;obtain⟨bX,rfl,bi⟩:=ap f E;rw[fQ,fR,fS];refine aV (λv X=>v= .bool rs/\Ext ao X) ?_ ?_
  rotate_left
  .intro ay I;rw[bF,ak];refine⟨λh=>m6 rfl h,λ_=>?_⟩;rw[cR wP.u];exact I _ _ ⟨rfl,Ext.refl _⟩
  rintro _ X ⟨rfl,H⟩;rw[aX];have aI:=(aG.F L).F H;refine(PB ((be.W L).W H) M bf ⟨bg,bh⟩).Y ?_;rintro bY bj _ ⟨aq,bl⟩;have af:=aI.F aq;have P:=((((Y.W am).W W).W L).W H).W aq;have aJ:=(bi.W H).W aq;have bZ:=af.size;have b0:w.heap.size<=z:=Ω
  have b1:=P.lt;rcases bl with⟨bm,e,he,rfl⟩|⟨b2,rfl,bn⟩
  .rw[bu,bw];refine QK.Y ?_;rintro _ aK _ ⟨rfl,j⟩;refine jv (λau t4 x=>au= .pointer ν/\t4= .bool rs/\Ext w x/\∃cs:List x1,ag x z a6 cs/\cs.length=8/\∀u∈cs,u.oneCell'=ro) ?_ ?_
   .rintro _ _ x ⟨rfl,rfl,av,cs,aw,s,C⟩;rw[fP a6.p a6.i s aw.range];exact⟨av,_,cs,rs,rfl,⟨s,C⟩,.inl ⟨rfl,rfl⟩,λb3 aL bo=>m6 bo (by rw[E]at aL;cases aL;exact bm)⟩
   .intro ay I;have bp:=j.size;refine(E4 (aJ.W j) M).Y ?_;rintro bq ax _ ⟨y,az⟩;refine(FG (R:=λr=>w.heap.size<=r/\∃c,ag ax r aj c) (λr h=>h.2.elim λc a=>a.lt) (λr c S a=>⟨Ω,c,a⟩) az O.1 ab).Y ?_;rintro br bs _ ⟨G,A9,cs,rfl,Q,aA⟩;obtain⟨s,C⟩:=Q.len;rw[bk,ak];refine⟨λh=>m6 h he,λ_=>?_⟩;refine b4 (vs:=cs) a6.i s rfl C (((P.W j).W y).W G) λbx K aN aC=>?_;exact I _ _ _ ⟨rfl,rfl,(((af.F j).F y).F G).then K λr B he=>by have he:r=z:=he;omega,cs,aC,s,C⟩
  .rw[bu,bw];obtain⟨b5,bz,aO,bA⟩:=bn;have z5:=aI.size;refine(PZ (R0:=λr=>w.heap.size<=r/\r<bj.heap.size) bz aO (λr o h J=>⟨by have:=bA r o h J;omega,(j9.1 (aO.aZ r o h J)).1⟩) (λr h=>h.2) O.1 ab).Y ?_;rintro _ aK _ ⟨j,ad,ae,A,R,t,rfl,bC,aP,aQ,aR,bD⟩;have aS:bt aK ad ae A R (cP f) (dh (cP f)) t:=⟨bC,aP,QN O.1 ab aP aQ,PM O.1,O.1⟩;refine jv (λau t4 x=>au=Γ ad/\t4= .bool ro/\Ext w x/\∃cs:List x1,ag x z a6 cs/\cs.length=8/\(∀u∈cs,u.oneCell'=ro)/\∃R' A9 aE,bt x ad ae A R' (cP f) (dh (cP f)) t/\jQ ro A9 aE x cs (cP f).k (cP f).co (dh (cP f))/\(∀q r,A9 q r->¬A r/\¬R' r/\w.heap.size<=r)/\(∀r,aE r->¬er x r/\r<x.heap.size/\w.heap.size<=r)/\∀r,R' r->w.heap.size<=r) ?_ ?_
   .rintro _ _ x ⟨rfl,rfl,av,cs,aw,s,C,R',A9,aE,bE,Q,bG,bI⟩;rw[fP a6.p a6.i s aw.range];exact⟨av,_,cs,ro,rfl,⟨s,C⟩,.inr ⟨rfl,f,E,ad,ae,A,R',t,N,A9,aE,M,rfl,bE,aQ,λr B=>by have:=aR r B;omega,Q,bG,bI⟩,λ_ _ _=>rfl⟩
   .intro ay I;have bp:=j.size;refine(E4 (aJ.W j) M).Y ?_;rintro bq ax _ ⟨y,az⟩;refine(FG (R:=λr=>w.heap.size<=r/\∃c,ag ax r aj c) (λr h=>h.2.elim λc a=>a.lt) (λr c S a=>⟨Ω,c,a⟩) az O.1 ab).Y ?_;rintro br bs _ ⟨G,A9,cs,rfl,Q,aA⟩;obtain⟨s,C⟩:=Q.len;rw[bk,ak];refine⟨λ_=>?_,λh=>m6 rfl h⟩;rw[wT dx.u];have aT:=((P.W j).W y).W G;have bJ:=((af.F j).F y).F G;refine b4 (vs:=cs) a6.i s rfl C aT λbx K aN aC=>?_;have aU:=(aS.W y).W G;obtain⟨R',aW,bK⟩:=aU.1.put aT K λh=>by have:=aR z h;omega
    have b6:=((af.F j).F y).size;have b7:=G.size;obtain⟨_,_,_,_,⟨_,_,bL,bM⟩,_⟩:=(aS.W y).1;have b8:=P.lt;have b9:=(j.F y).size;have bN:=Q.V K λr B h he=>by
     have he:r=z:=he;rcases h with⟨q,h⟩|⟨_,c,a⟩
     .have:=aA q r h;omega
     .subst he;exact m6 (eC a (((P.W j).W y))) Φ
    refine I _ _ _ ⟨rfl,rfl,bJ.then K λr B he=>by have he:r=z:=he;omega,cs,aC,s,C,R',A9,_,⟨bK,aU.2⟩,bN,λq r h=>?_,λr h=>?_,λr h=>?_⟩
    .have ca:=aA q r h;refine⟨λaD=>by have:=bM r aD;omega,λaD=>by have:=bL r (aW r aD).1;omega,Ω⟩
    .obtain⟨S,c,a⟩:=h;have cb:=a.lt;have aN:=K.size;refine⟨QI ((a.W G).V K λhe=>?_) Φ,Ω,S⟩;have he:r=z:=he;subst he;exact m6 (eC a (((P.W j).W y))) Φ
    .rcases bD r (aW r h).1 with h|h
     .exact h.1
     .omega
section
variable{Z aE:ah}{w I:x4}{ad ae an:Nat}{A R:ah}{A9:Nat->ah}{n:aI}{s s':am}{t:aw}{cs:List x1}{a:gd}
theorem Ui(h:fk Z aE w ad ae an n s)(X:a.ok):al x8 wD [Γ ad,Γ an,.agg a.bM.toArray] w λ_ I=>ly Z aE w ad ae an n (mR n s a) I:=by
 obtain⟨A,R,A9,t,cs,p,⟨aA,Q⟩,aC,S,aF⟩:=id h;have N:=p.eE.2.2.2.1;have bs:=N.ft;have bt:=a.Tf;have G:¬A 0:=λh=>Q ((S 0).2 (.inl h));have Y:=Tg (a:=a) aC N;refine aB func27 ?_;refine bo λga U bu aH ab=>?_;have ab:ag U ga c7 [.int .u8 a.d,Δ a.i,Δ a.pos,Δ a.v,Δ a.c]:=ab;intro aa aI _ _;have C:=aH.F aI;have B:=ab.W aI;have bw:=aH.size;have bx:=C.size;have bz:=B.lt;have ac:(a.d % 7).toNat=a.kind:=rfl;obtain⟨d9,bA,bB,bC,bD,bE,aV,_⟩:=p.pP;have aW:cs[0]?=σ (Δ n.k):=by rw[aV];rfl
 have hu:T7.wrap a.c=a.c.emod 18446744073709551616:=rfl;have aX:0<=a.c.emod 18446744073709551616:=Int.emod_nonneg _ Φ;have bF:=Int.emod_nonneg (a.c.emod 18446744073709551616) (show n.k+1≠0 by omega);have bG:=Int.emod_lt_of_pos (a.c.emod 18446744073709551616) (show 0<n.k+1 by omega);have aY:a.c.emod 18446744073709551616 % (n.k+1)=Gq n.k a:=rfl;rw[aL c7.p 4 B rfl,fB au.u fz.u,aG a6.p 0 (p.box.W C) aW,aO,li Ω Ω,fB au.u fz.u,lm (x:=n.k+1) Ω Ω,hu,tF Ω,Int.tmod_eq_emod_of_nonneg aX,fB fz.u au.u,li Ω Ω,aY,
  aL c7.p 0 B rfl,zd X.1,ac,bk,ak]
 have E:=p.W C;refine⟨λaf=>?_,λaf=>?_⟩
 .have af:a.kind=6:=Ω
  have H:mR n s a=if et n a.i a.v then dL s a.i.toNat a.v.toNat else s:=by unfold mR;rw[m3 af]
  refine cW (λI=>ly Z aE w ad ae an n (mR n s a) I) (λI h=>h) λay aJ=>?_;rw[aL c7.p 1 B rfl,aL c7.p 3 B rfl];refine(yx (i:=a.i) (v:=a.v) E.eE (.inl p.fF.1)).Y ?_;rintro bH bI _ ⟨aZ,a1⟩;by_cases J:et n a.i a.v
  rotate_left
  .obtain⟨rfl,a2⟩:=aZ J;rw[bk,ak];exact⟨λh=>m6 h Φ,λ_=>aJ _ (by rw[H,m5 J];exact ly.same h (C.F a2))⟩
  obtain⟨rfl,aM,aK,y,ah,a7⟩:=a1 J;rw[m3 J]at H;rw[bk,ak];refine⟨λ_=>?_,λh=>m6 rfl h⟩;have a8:=E.prog aM ah a7 E.fF.set (λ_ h=>.inl h) (λ_ _ _ h=>h) E.box.lt;obtain⟨ba,x,O,bb,bJ⟩:=Gr N J;obtain⟨ai,W⟩:=V3 ba;rw[W,u6]at O;intro am ao _ _;have j:=a8.W ao;have ap:∀r,A r->r<w.heap.size:=λr h=>sL p.eE r (.inl h);have P:=(B.V ah.1 λh=>by have:=ap ga h;omega).W ao;rw[W]at P;have aN:ai<s.d6.length:=(x5.1 O).1;obtain⟨g,cap,aP,gy,e,av,bc,bd,be,bf⟩:=Th j O;have bK:=qV x;have bN:x.un.length<=32:=by obtain⟨bO,aQ,bP,bh,_⟩:=J.var N;rw[W,u6,O]at aQ;cases aQ;exact bh
  have aw:∀r,lc aP r->r≠ga/\r≠an:=λr f=>by
   have h1:A9 0 r/\r<aa.heap.size:=be r f;exact⟨λhe=>by have:=aF 0 r h1.1;omega,λhe=>(p.apart 0 r h1.1).2.2 he⟩
  rw[aG a6.p 3 j.box av,aL c7.p 1 P rfl,aG a6.p 3 j.box av,aL c7.p 1 P rfl,fd dn.u aq.i aN λ_=>rfl,aD (v:=aP) (o:=0+ai*1) Ψ bc,lK];refine(Rv (p:=λy=>decide (y=a.v)) bd Ω λI y bi bQ=>?_).Y ?_
  .refine aB func73 ?_;rw[aL c7.p 3 (P.V bi λh=>(aw ga h).1 rfl) rfl,bk];exact⟨rfl,Ext.refl _⟩
  rintro bR ax _ ⟨az,bj,bl⟩;have bm:=P.V az λh=>(aw ga h).1 rfl;have bn:=j.box.V az λh=>(aw an h).2 rfl;refine⟨.inr ⟨kD Ψ (bm.cell (o:=0+1) rfl),Go.Vc.iT λK=>aT c7.p rfl,kD Ψ (bn.cell (o:=0+3) av),Go.Vc.iT λK=>aT a6.p rfl,Go.Vc.iT λK=>bL,trivial⟩,?_⟩;rw[fd dn.u aq.i aN λ_=>rfl];refine bf (m:=((x.mask.toNat ||| 2 ^ a.v.toNat:Nat):Int)) (Ext.refl _) az (by rw[yR bb];exact bj) bl λbS aR=>aJ _ ?_;have bp:dL s a.i.toNat a.v.toNat={s with d6:=s.d6.set ai {x with mask:=((x.mask.toNat ||| 2 ^ a.v.toNat:Nat):Int)}}:=by rw[W,u6];unfold dL;rw[O]
  rw[H];rw[<-bp]at aR;have bq:=dw.comp (ao.V _) (λq r f=>.inl ⟨q,f⟩) aR;exact ly.before C (fk.Ti E S (by rw[<-H];exact Y) Q (aA.W C) aM ah (λq r (f:A9 q r/\r<aa.heap.size)=>f.1) bq)
 have bT:(l8 n.k a).kind=a.kind:=rfl;have H:mR n s a=(bg n.k s (l8 n.k a)).1:=by unfold mR;rw[m5 Ω]
 rw[aL c7.p 0 B rfl,zd X.1,ac,fB cK.u aj.u,li Ω Ω,aL c7.p 1 B rfl,aL c7.p 2 B rfl,aL c7.p 3 B rfl];refine(SO (m:=l8 n.k a) E N aC.1 Ω).Y ?_;rintro _ am _ ⟨rfl,aS⟩;obtain⟨aU,bU,bV,j,bW⟩:=id aS;have ap:∀r,(∃q,A9 q r)\/r=an->r<w.heap.size:=λr f=>f.elim (λ⟨q,h⟩=>aF q r h) λh=>by rw[h];exact p.box.lt
 have z:=B.V aU λf=>by have:=ap ga f;omega
 have L:Laid am:=iu aU (λh=>Q ((S 0).2 (h.elim (λh=>.inr (.inr (.inl h))) λh=>.inr (.inr (.inr (.inr h)))))) (aA.W C);have M:∀{r:x1}{ax:x4},pU [] am ad ae A R n s (l8 n.k a) r ax->ly Z aE w ad ae an n (mR n s a) ax:=λbr=>by
  rw[H]at Y ⊢;exact ly.before C (fk.step E S Y Q aS (Ext.refl _) br.2)
 rw[aL c7.p 0 z rfl,zd X.1,ac,bk,ak];refine⟨λhk=>?_,λbX=>?_⟩
 .rw[aL c7.p 1 z rfl,aL c7.p 2 z rfl,aL c7.p 3 z rfl];exact(Gf (a:=l8 n.k a) Ω j.eE L G j.fF.m).Y λr I _ f=>M f
 rw[bk,ak];refine⟨λhk=>?_,λbY=>?_⟩
 .rw[aL c7.p 1 z rfl,aL c7.p 2 z rfl,aL c7.p 3 z rfl];exact(Sz (a:=l8 n.k a) Ω j.eE L G j.fF.m).Y λr I _ f=>M f
 rw[bk,ak];refine⟨λhk=>?_,λbZ=>?_⟩
 .rw[aL c7.p 1 z rfl];exact(Gl (a:=l8 n.k a) Ω j.eE L G j.fF.m).Y λr I _ f=>M f
 rw[bk,ak];refine⟨λhk=>?_,λb0=>?_⟩
 .rw[aL c7.p 1 z rfl];exact(SF (a:=l8 n.k a) Ω j.eE L G j.fF.m).Y λr I _ f=>M f
 rw[bk,ak];refine⟨λhk=>?_,λb1=>?_⟩
 .rw[aL c7.p 1 z rfl,aL c7.p 3 z rfl];exact(Gm (a:=l8 n.k a) Ω j.eE L G j.fF.m).Y λr I _ f=>M f
 .rw[aL c7.p 1 z rfl,aL c7.p 3 z rfl];exact(SG (a:=l8 n.k a) Ω j.eE L G j.fF.m).Y λr I _ f=>M f
end
section
variable{w0 w I:x4}{ad ae an:Nat}{n:aI}{s:am}{Z aE:ah}
theorem mS.Uj{a:gd}(h:mS w0 w ad ae an n)(p:a.ok):al x8 wD [Γ ad,Γ an,.agg a.bM.toArray] w λ_ I=>mS w0 I ad ae an n:=by
 obtain⟨e,s,Z,aE,q,f⟩:=h;refine(Ui q p).Y ?_;rintro v U _ ⟨x,y,A,B⟩;have z:=e.size;exact⟨e.then x λr j h=>by have:=f r h.1;omega,_,y,aE,B,λr j=>(A r j).elim (f r) λh=>Ω⟩
theorem Uk{e:x1}{L:List mQ}{K:x1->x4->Prop}{i:Nat}{x:mQ}(j:Seen eT w [e] L)(q:L[i]?=σ x)(r:∀g I,Ext w I->w.heap.size<=g->ag I g c7 (oG x).bM->K (Γ g) I):
  ab x8 (Z0 oZ e (Δ (i:Int))) w λs=>
  ab x8 (u5 c7 s) w λy=>
  aH x8 (P7 c7 ro (.tuple #[])) w λa f=>
  aH x8 (n9 c7 a y) f λ(_:Unit)h=>K a h:=by
 refine n2 (α:=mQ) c7.p rfl oZ.u c7.i j q λcs z=>?_;obtain rfl:=Td z;refine bB c7.i λgy f F A B=>?_;refine b4 (vs:=(oG x).bM) c7.i rfl rfl (gd.one _) B λh C G E=>?_;exact r _ _ (A.put C Ω) Ω E
theorem Ul{r:x1}{L:List mQ}{m:Int}{K:x4->Prop}(h:mS w0 w ad ae an n)(e:Seen eT w0 [r] L)(H:∀x∈L,(oG x).ok)(J:∀I,mS w0 I ad ae an n->K I):
  ab x8 (V7 #[oZ] aj #[r]) w λM=>
 bZ (Δ 0) w λj a k=>
  ab x8 (aN .lss aj rs rs j M) a λN=>
  Split N (cv (α:=x4->Prop) (λ(y:x4)=>
   ab x8 (aN .add aj rs ro j (Δ 1)) y λO=>
   k O y) λz=>
  ab x8 (Z0 oZ r j) a λP=>
  ab x8 (u5 c7 P) a λQ=>
  aH x8 (P7 c7 ro (.tuple #[])) a λb A=>
  aH x8 (n9 c7 b Q) A λ(_:Unit)q=>
  ab x8 (aN .lss aj rs ro j (Δ m)) q λR=>
  Split R (ab x8 (u5 c7 b) q λS=>
   al x8 wD [Γ ad,Γ an,S] q λZ B=>
   z B)
   (z q))
   (K a):=by
 rw[ka oZ.u (bS e h.1)];refine bZ.range L.length (λi s=>mS w0 s ad ae an n) (tK e) h ?_ ?_
 .rintro i s U hi f V;obtain⟨x,C⟩:=aF (l:=L) hi;have W:=H x (x6 C);refine bI Ω ?_;refine cW (λa=>mS w0 a ad ae an n) (λa X=>by rw[aO];exact V _ X) λay E=>?_;refine Uk (bS e f.1) C λgy A G _ Y=>?_;rw[aR,ak];refine⟨λ_=>?_,λ_=>E _ (f.W G)⟩;rw[bA c7.p c7.i rfl Y.range];exact((f.W G).Uj W).Y λv B _ e=>E _ e
 .rintro s U f;exact cc Ω (J _ f)
end
theorem Um{p X:x1}{L:List mQ}(ac:aM .u8 w p pl)(ax:∀b∈pl,0<=b/\b<256)(az:Seen eT w [X] L)(aA:∀x∈L,(oG x).ok)(aC:fs w)(J:Laid w):al x8 HX [p,X] w (Gs w pl):=by
 have a2:=sU J;refine aB func7 ?_;refine bB a6.i λj U a7 y Y=>?_;have a8:=Y.lt;have ba:=y.size;refine(G1 (ac.W y) ax (aC.W y)).Y ?_;rintro _ aa _ ⟨M,bb,cs,ok,rfl,⟨E,G⟩,aD,_⟩;rw[fQ,fR,fS];refine bB a6.i λan bc bd aF aG=>?_;refine b4 (vs:=cs) a6.i E rfl G aG λH aI be N=>?_;have ah:Ext aa H:=aF.put aI Ω;have I:=M.F ah;have ai:=y.F I;have bf:=M.size;have out:∀{a:x4}{z:List x1}{K:x1->x4->Prop},Ext U a->ag a an a6 z->z.length=8->(∀u∈z,u.oneCell'=ro)->(∀e,af (λr=>r=j) a e->K (.agg z.toArray) e)->
   ab x8 (u5 a6 (Γ an)) a λt25=>aH x8 (n9 a6 (Γ j) t25) a λ(_:Unit)e=>ab x8 (do loadVar a6 (<-asAddr (Γ j))) e λr=>K r e:=λ{a z K}aJ aK O aN aO=>by
  rw[bA a6.p a6.i O aK.range];refine b4 (vs:=z) a6.i O rfl aN (Y.W aJ) λe B bg aP=>?_;rw[fP a6.p a6.i O aP.range];exact aO _ B
 have no:∀{e:x4},(∃a,Ext H a/\af (λr=>r=j) a e)->Gs w pl (.tuple #[.pointer ν,.agg cs.toArray,.bool rs]) e:=λ⟨a,q,aQ⟩=>⟨(ai.F q).then aQ λr C h=>by have h:r=j:=h;omega,.inl ⟨cs,rfl,E,G⟩⟩;rcases aD with⟨rfl,rfl⟩|⟨rfl,f,aR,aS⟩
 .refine aV (λv P=>P=H/\v= .bool ro) ?_ λay Q=>?_
  .rintro _ _ ⟨rfl,rfl⟩;rw[bH];intro a q _ _;exact out (I.F q) (N.W q) E G λe B=>no ⟨a,q,B⟩
  .rw[bC,W7,bH];exact Q _ _ ⟨rfl,rfl⟩
 obtain⟨ad,ae,Z,aE,rfl,aj,aT⟩:=SP aS ah N Ω M.size (sU (J.W y)) (J.W ai);obtain⟨d9,bh,bi,bj,bk,bl,aU,_⟩:=aj.look;refine aV (λv P=>P=H/\v= .bool (decide (1000<(cP f).k))) ?_ λay Q=>?_
 rotate_left
 .rw[bC,X1,aX,aL a6.p 0 aU rfl,bO];exact Q _ _ ⟨rfl,rfl⟩
 rintro _ _ ⟨rfl,rfl⟩;rw[ak];refine⟨λhk=>?_,λhk=>?_⟩
 .intro a q _ _;exact out (I.F q) (N.W q) E G λe B=>no ⟨a,q,B⟩
 refine Ul (w0:=U) ⟨I,_,Z,aE,aj,aT⟩ (bS az y) aA λbm aW=>?_;obtain⟨am,s,ao,aY,aZ,ap⟩:=aW;intro bn S _ _;have aq:=aZ.W S;obtain⟨V,au,a1⟩:=aq.cL;have av:V.length=8/\∀u∈V,u.oneCell'=ro:=by
  obtain⟨A,R,A9,t,p,_⟩:=id au;exact ce.len p.doc
 have aw:∀r,ao r->¬r=j:=λr C h=>by have:=ap r C;omega
 refine out (am.F S) a1 av.1 av.2 λbo W=>⟨((y.F am).F S).then W λr C h=>by have h:r=j:=h;omega,.inr ⟨f,ad,ae,an,ao,aY,s,V,rfl,aR,Ω,aq.side W aw (λh=>by have h:0=j:=h;omega),au.side W aw (λh=>by have h:0=j:=h;omega),λr C=>by have:=ap r C;omega⟩⟩
def mb:Λ:=[116,32,50,32,50,32,49,32,57,32,49,32,50,32,50,32,48,32,49,32,48,32,50,32,48,32,48,32,51,32,48,32,49,32,51]
def fx:b5:=⟨[116],9,[1,2],[⟨[0,1],[1,2],0,[([0,0],3),([0,1],3)]⟩]⟩
theorem Un:gZ mb=σ fx:=by
 have h:(match gZ mb with
  |some f=>decide (f.name=fx.name/\f.k=fx.k/\f.co=fx.co)&&decide (f.d7.map (λx=>(x.scope,x.co,x.other,x.lines))=fx.d7.map λx=>(x.scope,x.co,x.other,x.lines))
  |none=>rs)=ro:=by decide+kernel
 cases p:gZ mb with
 |none=>rw[p]at h;cases h
 |some f=>
  rw[p]at h;simp only[T1,ne]at h;obtain⟨⟨h1,q,r⟩,e⟩:=h;obtain⟨nm,k,w,j⟩:=f;simp only at h1 q r e;subst h1;subst q;subst r;have:j=fx.d7:=by
   have s:j.length=1:=by have:=congrArg R6 e;simpa[fx]using this
   match j,s with
   |[x],_=>
    obtain⟨a,b,c,d⟩:=x;simp[fx]at e;obtain⟨rfl,rfl,rfl,rfl⟩:=e;rfl
  subst this;rfl
theorem Uo:nA fx.d7<=16384:=by decide+kernel
def G2:am:=(jT (cP fx) [0] 20 (dh (cP fx))).1
theorem Up:(jT (cP fx) [0] 20 (dh (cP fx))).2=rs/\G2.zero=3/\(G2.d6[1]?.map λx=>(aC x,x.un.length))=σ ([0,1],2):=by decide+kernel
theorem Uq:oI (cP fx) [0] 20 (dh (cP fx))=ro:=by decide+kernel
theorem Ur:iF (dh (cP fx)) (dh (cP fx)).d7.length=[0]:=by decide+kernel
theorem Us:(dh (cP fx)).d7.length<=1000000:=by decide+kernel
theorem Ut(Q:fs w)(y:Laid w):al x8 HW [] w λv I=>v= .bool ro/\Ext w I:=by
 refine aB func6 ?_;refine lL (k:=1) (cs:=(ints .u8 mb).toArray) cQ.u cK.i Ω Ψ λg U aX a p=>?_;have z:aA .u8 cK U g (.slice (σ ⟨g,0,ν⟩) 35 35) mb:=aA.of (n:=35) (b0.full (by simpa using p) (by simp[mb]) (by simp[maxLen]));refine RP p λq B C=>?_;have a:Ext w q:=a.put B Ω;have ac:aM .u8 q (.slice (σ ⟨g,0,ν⟩) 35 35) mb:=by
  obtain⟨S,b,o,base,cap,V,W,X,Y,Z⟩:=z.ls;cases V;cases Y (by simp[mb]);exact⟨S,g,0,_,35,rfl,W,X,λ_=>rfl,C _ _ Z⟩
 clear z p C B;refine(G1 ac (by intro b ab;simp[mb]at ab;omega) (Q.W a)).Y ?_;rintro _ aa _ ⟨af,ag,cs,ok,rfl,⟨ah,ai⟩,aj,am⟩;have E:gZ (mb.take 300)=σ fx:=by
  rw[j5 Φ];exact Un
 have ao:ok=ro:=am fx E Uo;subst ao;obtain⟨f,G,ad,ae,A,R,t,N,A9,aE,aY,rfl,ap,aq,H,_⟩:∃f,gZ (mb.take 300)=σ f/\vt q.heap.size aa ag cs f:=by
  rcases aj with⟨h,_⟩|⟨_,h⟩
  .cases h
  .exact h
 rw[E]at G;cases G;have J:=a.F af;rw[fQ,fR,fS];refine bB a6.i λan aZ a1 au av=>?_;refine b4 (vs:=cs) a6.i ah rfl ai av λaw ax a2 az=>?_;have s:Ext aa aw:=au.put ax Ω;have aD:=ap.W s;have aF:¬A 0:=λh=>by have:=H 0 h;have:=sU (y.W a);omega
 refine aV (λv aG=>v= .bool ro/\Ext w aG) (λ_ _ h=>h) λay aH=>?_;rw[bH];refine(Uh aD (y.W (J.F s)) aF aq.2.2.1.m (FZ _) Us (λa7 aI=>List.perm_singleton.1 (Ur▸aI)) Uq).Y ?_;rintro _ aJ _ ⟨rfl,hm⟩;obtain⟨aL,aN,aO⟩:=Up;obtain⟨a8,ba,aK,bn,aP,K,_⟩:=hm;have aQ:Ext w aJ:=(J.F s).then aP.1 λr bb h=>by have:=H r h;have:=a.size;omega
 rw[aL,m5 Φ,bk,ak];refine⟨λ_=>?_,λh=>m6 rfl h⟩;refine(sz K).Y ?_;rintro _ bc _ ⟨rfl,L⟩;have aR:(jT (cP fx) [0] 20 (dh (cP fx))).1.zero=3:=aN;rw[aR,bk,ak];refine⟨λ_=>?_,λh=>m6 rfl h⟩;refine(jP (i:=1) (K.W L)).Y ?_;rintro _ bd _ ⟨⟨b,M,rfl,e⟩,aS⟩;refine(TE e.1).Y ?_;rintro _ be _ ⟨rfl,aT⟩;have aU:((jT (cP fx) [0] 20 (dh (cP fx))).1.d6[1]?.map λx=>(aC x,x.un.length))=σ ([0,1],2):=aO;obtain⟨x,O,P⟩:=X0.1 aU;simp only[S7]at P;have j:=ln e Ω O;have bf:=(e.2.2 x Ω O).1;have az:b<2 ^ M:=e.1.2;have aW:M=2:=Ω
 subst aW;rw[P.1]at j;rw[bk];refine aH _ _ ⟨?_,((aQ.F L).F aS).F aT⟩;rcases(show b=0\/b=1\/b=2\/b=3 by omega)with rfl|rfl|rfl|rfl
 .exact m6 j Φ
 .exact m6 j Φ
 .exact m6 j Φ
 .rfl
section
variable{ao:List aw}{w:x4}{ad ae:Nat}{A R:ah}{n:aI}{s:am}{t:aw}
theorem Uu{dD:x1}(h:ja w dD n.k n.co s)(f:bd n.k n.co s)(j:q1 s)(p:s.d7.length<=1000):al x8 H2 [dD,Δ 2] w λr I=>Ext w I/\∃b:Bool,r= .bool b/\(b=ro↔iq n s/\vJ n s):=by
 refine aB func18 ?_;refine bo λg1 U z e a=>?_;have q:=h.box e a;rw[bk,ak];refine⟨λh=>(by cases h),λ_=>?_⟩;rw[bk,ak];refine⟨λ_=>?_,λh=>m6 rfl h⟩;refine q.load λA x=>?_;refine(TW x f j p).Y ?_;rintro _ aa _ ⟨y,b,rfl,a⟩;exact⟨e.F y,b,rfl,a.F And.comm⟩
end
section
variable{w:x4}{dD:x1}{n:aI}{s:am}
end
theorem zo{α:Type}{f:α->Λ}:∀(l m:List α),l.length=m.length->(∀(i:Nat)x y,l[i]?=σ x->m[i]?=σ y->(f x).length=(f y).length)->∀i,((l.take i).flatMap f).length=((m.take i).flatMap f).length
 |[],[],_,_,_=>rfl
 |[],_::_,h,_,_=>by simp at h
 |_::_,[],h,_,_=>by simp at h
 |a::l,b::m,h,e,i=>by
  cases i with
  |zero=>rfl
  |succ i=>
   rw[List.take_succ_cons,List.take_succ_cons,W9,W9,r9,r9,e 0 a b rfl rfl,zo l m (by simpa using h) (λi x y j p=>e (i+1) x y (by simpa using j) (by simpa using p)) i]
theorem dB.shape{s s':am}(h:dB s s'):mI s s':=by
 have p:∀i,((s'.d6.take i).flatMap gP).length=((s.d6.take i).flatMap gP).length:=λi=>(zo s.d6 s'.d6 h.d6.symm (λi x y a e=>by
  have:=(h.var i x y a e).2;show x.un.length+1+1=y.un.length+1+1;omega) i).symm
 have z:∀i,((s'.d7.take i).flatMap ih).length=((s.d7.take i).flatMap ih).length:=λi=>(zo s.d7 s'.d7 h.d7.symm (λi x y a e=>by
  have:=(h.fn i x y a e).2.2.2;show x.cs.length+1=y.cs.length+1;omega) i).symm
 refine⟨?_,h.d7,λj A q=>?_,h.dc⟩
 .unfold ix;rw[h.d6];refine List.map_congr_left λi _=>?_;unfold gv;rw[p]
 .obtain⟨f,r⟩:=aF (l:=s.d7) (i:=j) (by have:=(x5.1 q).1;have:=h.d7;omega);obtain⟨h1,B,_,_⟩:=h.fn j f A r q;refine⟨f,r,h1,B,?_⟩;have w:=p s'.d6.length;rw[o6,h.d6,o6]at w;unfold eW;rw[w,z]
theorem dB.y4{s s':am}(h:dB s s'):sO s s':=h.shape.y4
theorem Uv{co:Λ}{s:am}(a:bd k co s)(e:s.d7.length<=1000):s.cells.length<=10000000:=by
 have q:=a.d6;have r:=a.eD.2.1;have h1:=kz (L:=s.d6) (f:=gP) (b:=34) λx p=>by
  obtain⟨i,hi⟩:=X6.1 p;obtain⟨z,h⟩:=aF (l:=co) (i:=i) (by have:=(x5.1 hi).1;omega);have:=(a.var i x z hi h).1;have:=a.eD.2.2 z (x6 h);show x.un.length+1+1<=34;omega
 have w:=kz (L:=s.d7) (f:=ih) (b:=4097) λf e=>by
  obtain⟨j,_⟩:=a.d7 f e;have:=j.len;have:=j.small;show f.cs.length+1<=4097;simp only at*;omega
 have y:s.d6.length*34<=64*34:=Y5 _ Ω;have A:s.d7.length*4097<=1000*4097:=Y5 _ e;unfold am.cells;rw[r9,r9];have B:(jN s).length=3:=rfl;omega
section
variable{w:x4}{ad ae an:Nat}{Z aE:ah}{n:aI}{s s0:am}{cs:List x1}
theorem fw.mark(h:fw [] Z aE w ad ae an n s s0 cs)(N:s.cells.length<=10000000):al x8 wB [Γ ad] w λv I=>v=Δ 0/\af (λr=>Z r/\¬aE r) w I/\∃t0 iE,t0.bM=s.cells/\(∀r,iE r->Z r\/w.heap.size<=r)/\fw [t0] iE aE I ad ae an n s s0 cs:=by
 obtain⟨A,R,A9,t,p,⟨E,y,a⟩,j,O⟩:=h;have G:¬A 0:=λh=>y ((j 0).2 (.inl h));have H:t.marks.length=0:=by rw[p.fF.1];rfl
 have J:t.cells.length=s.cells.length:=by
  have:=congrArg R6 p.eE.2.1;unfold aw.bM at this;rw[u9]at this;exact this
 refine(RT p.eE Ω p.fF.2.2.2).Y ?_;rintro _ aa _ ⟨rfl,z,x,e,K⟩;rw[H];have L:=p.prog (B:=w.heap.size) z e K p.fF.mark (λ_ h=>.inl h) (λ_ _ _ h=>h) p.box.lt;have hm:qY t.mark:=(dN.mark ⟨p.fF,a⟩ (by rw[p.fF.2.1,J];simp;omega)).2;have f:∀{r:Nat}{X:Prop},(X->ip A R A9 aE an r)->X->Z r\/w.heap.size<=r:=λM h=>.inl ((j _).2 (M h));have C:∀r,ip x R (λq r=>A9 q r/\r<w.heap.size) aE an r->Z r\/w.heap.size<=r:=by
  intro r a;rcases a with a|a|⟨q,a,_⟩|a|a
  .exact (e.2.1 r a).elim (f .inl) λh=>.inr Ω
  .exact f (λh=>.inr (.inl h)) a
  .exact f (λh=>.inr (.inr (.inl ⟨q,h⟩))) a
  .exact f (λh=>.inr (.inr (.inr (.inl h)))) a
  .exact f (λh=>.inr (.inr (.inr (.inr h)))) a
 exact⟨rfl,(sK e.1 z).Y λr _ h=>⟨(j r).2 (.inl h.1),λaW=>(p.read r aW).1 h.2⟩,t,λr=>ip x R (λq r=>A9 q r/\r<w.heap.size) aE an r,p.eE.2.1,C,x,R,_,t.mark,L,⟨iu e.1 G E,λh=>(C 0 h).elim y λh=>by have:=p.box.lt;omega,hm⟩,λr=>Iff.rfl,λq r a=>by have:=a.2;have:=e.1.size;omega⟩
theorem fw.iN{t0:aw}{s1:am}(h:fw [t0] Z aE w ad ae an n s1 s0 cs)(f:t0.bM=s.cells)(j:bd n.k n.co s)(q:dB s s1):al x8 wC [Γ ad,Δ 0] w λv I=>v=Δ 0/\af Z w I/\Laid I/\∃A R t,bt I ad ae A R n s t:=by
 obtain⟨A,R,A9,t,p,⟨x,y,E⟩,a,G⟩:=h;have z:¬A 0:=λh=>y ((a 0).2 (.inl h));refine(RZ (m:=0) (tm:=t0) (sm:=s) p.eE p.fF rfl f j q.y4).Y ?_;rintro _ aa _ ⟨rfl,H,B,e,C⟩;exact⟨rfl,e.1.Y λr _ h=>(a r).2 (.inl h),iu e.1 z x,B,R,_,C⟩
theorem fw.facts{ao:List aw}(h:fw ao Z aE w ad ae an n s s0 cs)(he:s.dc=[])(f:s.d7.length<=1000):al x8 wA [Γ ad] w λv I=>Ext w I/\∃g,aA .i64 au I g v (qW s)/\∀r,lc v r->w.heap.size<=r:=by
 obtain⟨A,R,A9,t,p,⟨a,_,_⟩,_⟩:=h;exact F5 p.eE a (λe h=>by rw[he]at h;cases h) Ω (by rw[he];exact X7 _)
def fl(ao:List aw)(S:ah)(w:x4)(ad ae:Nat)(n:aI)(s s0:am)(cs:List x1):Prop:=∃an Z aE,fw ao Z aE w ad ae an n s s0 cs/\(∀r,Z r->¬S r)/\∀r,S r->r<w.heap.size
variable{ao:List aw}{S:ah}{I:x4}
theorem fl.W(h:fl ao S w ad ae n s s0 cs)(a:Ext w I):fl ao S I ad ae n s s0 cs:=by
 obtain⟨an,Z,aE,h1,e,f⟩:=h;have:=a.size;exact⟨an,Z,aE,h1.W a,e,λr j=>by have:=f r j;omega⟩
theorem fl.start{a:x4}{B:Nat}{an:Nat}{Z aE:ah}(f:fw [] Z aE aa ad ae an n s s0 cs)(p:∀r,Z r->B<=r)(j:Ext aa a)(q:B<=aa.heap.size):fl [] (λr=>r<B\/(aa.heap.size<=r/\r<a.heap.size)) a ad ae n s s0 cs:=by
 have:=j.size;exact⟨an,Z,aE,f.W j,λr e h=>by have:=p r e;have:=f.lt r e;omega,λr e=>Ω⟩
theorem fl.own(h:fl ao S w ad ae n s s0 cs)(e:Ext w I):fl ao (λr=>S r\/(w.heap.size<=r/\r<I.heap.size)) I ad ae n s s0 cs:=by
 obtain⟨an,Z,aE,h1,f,j⟩:=h;have:=e.size;exact⟨an,Z,aE,h1.W e,λr a h=>h.elim (f r a) λh=>by have:=h1.lt r a;omega,λr a=>a.elim (λh=>by have:=j r h;omega) λh=>h.2⟩
theorem fl.go(h:fl ao S w ad ae n s s0 cs):∃A R t,bt w ad ae A R n s t/\Laid w/\¬A 0/\dN ao t/\∀{U aa:x4}{s1:am},Ext w U->cM ao U ad ae A R n s1 aa->af (λr=>¬S r) w aa/\fl ao S aa ad ae n s1 s0 cs:=by
 obtain⟨an,Z,aE,h1,e,f⟩:=h;obtain⟨A,R,t,p,q,x,y,B⟩:=h1.go;refine⟨A,R,t,p,q,x,y,λ{U aa s1}C hm=>?_⟩;obtain⟨j,iE,E,F⟩:=B C hm;have z:=j.size;exact⟨j.Y λr _ h=>e r h.1,an,iE,aE,F,λr a=>(E r a).elim (e r) λh J=>by have:=f r J;omega,λr a=>by have:=f r a;omega⟩
theorem fl.less{S':ah}(h:fl ao S w ad ae n s s0 cs)(J:∀r,S' r->S r):fl ao S' w ad ae n s s0 cs:=by
 obtain⟨an,Z,aE,h1,e,f⟩:=h;exact⟨an,Z,aE,h1,λr a h=>e r a (J r h),λr a=>f r (J r a)⟩
theorem fl.pair(h:fl ao S w ad ae n s s0 cs):∃an A R A9 aE t,cf w ad ae an A R A9 aE n s s0 t ao cs/\Laid w:=by
 obtain⟨an,Z,aE,⟨A,R,A9,t,p,⟨a,_⟩,_⟩,_⟩:=h;exact⟨an,A,R,A9,aE,t,p,a⟩
theorem fl.facts(h:fl ao S w ad ae n s s0 cs)(he:s.dc=[])(a:s.d7.length<=1000):al x8 wA [Γ ad] w λv I=>Ext w I/\∃g,aA .i64 au I g v (qW s)/\∀r,lc v r->w.heap.size<=r:=by
 obtain⟨an,Z,aE,h1,_⟩:=h;exact h1.facts he a
theorem fl.mark(h:fl [] S w ad ae n s s0 cs)(p:bd n.k n.co s)(q:s.d7.length<=1000):al x8 wB [Γ ad] w λv I=>v=Δ 0/\af (λr=>¬S r) w I/\∃t0,t0.bM=s.cells/\fl [t0] S I ad ae n s s0 cs:=by
 obtain⟨an,Z,aE,h1,e,f⟩:=h;refine(h1.mark (Uv p q)).Y ?_;rintro _ aa _ ⟨rfl,j,t0,iE,x,y,A⟩;have z:=j.size;exact⟨rfl,j.Y λr _ h=>e r h.1,t0,x,an,iE,aE,A,λr a=>(y r a).elim (e r) λh J=>by have:=f r J;omega,λr a=>by have:=f r a;omega⟩
theorem fl.iN{t0:aw}{s1:am}(h:fl [t0] S w ad ae n s1 s0 cs)(a:t0.bM=s.cells)(e:bd n.k n.co s)(f:dB s s1):al x8 wC [Γ ad,Δ 0] w λv I=>v=Δ 0/\af (λr=>¬S r) w I/\Laid I/\∃A R t,bt I ad ae A R n s t:=by
 obtain⟨an,Z,aE,h1,j,q⟩:=h;refine(h1.iN a e f).Y ?_;rintro _ aa _ ⟨rfl,p,h⟩;exact⟨rfl,p.Y λr _ h=>j r h,h⟩
end
theorem Uw:al x8 AH [.pointer ν] w λr I=>r= .tuple #[.bool rs,Δ 2]/\Ext w I:=by
 refine aB func53 ?_;rw[cR dx.u];simp only[Option.isNone_none,bH];exact⟨by trivial,Ext.refl _⟩
theorem G3:al x8 AC [.pointer ν] w λr I=>r= .tuple #[.bool rs,Δ 2]/\Ext w I:=by
 refine aB func22 ?_;refine Uw.Y ?_;rintro _ U _ ⟨rfl,a⟩;rw[bu,bw];refine aV (λv aa=>v= .bool ro/\Ext w aa) ?_ λay e=>?_
 .rintro _ aa ⟨rfl,f⟩;rw[bH];exact⟨rfl,f⟩
 .rw[bF,ak];exact⟨λ_=>e _ _ ⟨rfl,a⟩,λh=>m6 Φ h⟩
theorem Ux:al x8 wz [.pointer ν] w λr I=>r=Δ 2/\Ext w I:=by
 refine aB func10 ?_;refine bZ.sink (m:=0) (λ_ U=>Ext w U) (Ext.refl _) ?_;rintro m _ U j a _;refine G3.Y ?_;rintro _ aa _ ⟨rfl,e⟩;rw[bu,bw];refine aV (λv I=>v= .bool ro/\I=aa) ?_ λay f=>?_
 .rintro _ _ ⟨rfl,rfl⟩;rw[bH];exact⟨rfl,a.F e⟩
 .rw[bF,ak];exact⟨λ_=>f _ _ ⟨rfl,rfl⟩,λh=>m6 Φ h⟩
theorem Uy{p aD:x1}{L:List mQ}{Q:x1->x4->Prop}(aF:∀I,Ext w I->Q (.bool ro) I)(ac:aM .u8 w p pl)(bi:∀b∈pl,0<=b/\b<256)(bj:Seen eT w [aD] L)(bl:∀x∈L,(oG x).ok)(aG:fs w)(aH:Laid w):
  al x8 AA [p,aD] w Q:=by
 refine aB func5 ?_;refine(Ut aG aH).Y ?_;rintro _ U _ ⟨rfl,y⟩;rw[bC,X1,aX];refine(Um (ac.W y) bi (bS bj y) bl (aG.W y) (aH.W y)).Y ?_;rintro _ aa _ ⟨aI,bm⟩;have aJ:=y.F aI;have cD:=y.size;have cE:=aI.size;rcases bm with⟨cs,rfl,bn,bo⟩|⟨f,ad,ae,cF,Z,aE,s,cs,rfl,cG,hk,W,X,bp⟩
 .rw[fQ,fR,fS];refine bB a6.i λan bq br G Y=>?_;refine b4 (vs:=cs) a6.i bn rfl bo Y λj ab bt H=>?_;rw[bC,W7,bH,cR dx.u];exact aF _ (aJ.F (G.put ab Ω))
 rw[fQ,fR,fS];have ai:cs.length=8/\∀u∈cs,u.oneCell'=ro:=by
  obtain⟨A,R,A9,t,p,_⟩:=id X;exact ce.len p.doc
 refine bB a6.i λan bq br G Y=>?_;refine b4 (vs:=cs) a6.i ai.1 rfl ai.2 Y λj ab bt H=>?_;have K:Ext aa j:=G.put ab Ω;have bx:=aJ.F K;rw[bC,X1,aX];have bz:=X.W K;have bD:nE j an (cP f).k (cP f).co s:=ja.box bz.ok.2 (Ext.refl _) H;obtain⟨d9,cH,cI,cJ,cK,cL,cM,cN,_⟩:=id bD;obtain⟨aj,bE,bG,_⟩:=W.ok;have bI:∀g∈s.d7,g.live≠0:=W.live.1;have cO:s.d7.length<=256:=W.live.2;have C:s.dc=[]:=bG.dc;have cQ:s.dc.length<=1000:=by rw[C];exact X7 _
 have aK:=fl.start (B:=w.heap.size) X (λr a=>by have:=bp r a;omega) K Ω;have z3:=K.size;have aL:s.d7.length<=1000:=Ω
 refine(aK.facts C aL).Y ?_;rintro bJ z _ ⟨M,bK,aN,bL⟩;have aO:=aK.own M;have z5:=M.size;obtain⟨S,aP⟩:∃S:ah,S=λr=>(r<w.heap.size\/(aa.heap.size<=r/\r<j.heap.size))\/(j.heap.size<=r/\r<z.heap.size):=⟨_,rfl⟩;rw[<-aP]at aO;have am:∀r,((r<w.heap.size\/(aa.heap.size<=r/\r<j.heap.size))\/(j.heap.size<=r/\r<z.heap.size))->S r:=λr h=>by rw[aP];exact h
 have bM:S an:=am an (by have:=H.lt;have:=G.size;omega);have bN:=bx.F M;have bO:∀{E:x4},af (λr=>¬S r) z E->Ext w E:=λao=>bN.then ao λr a h=>h (am r (.inl (.inl a)));have aQ:∀{E:x4},af (λr=>¬S r) z E->aA .i64 au E bK bJ (qW s):=λao=>bs aN ao λr a h=>h (am r (.inr ⟨bL r a,by obtain⟨e,h⟩:=bV aN a;omega⟩));refine(aO.mark aj aL).Y ?_;rintro _ cS _ ⟨rfl,bP,t0,bQ,bR⟩;obtain⟨A,R,t,bT,bU,bW,ap,bX⟩:=bR.go;refine(G0 bT bU bW ap bE Ω).Y ?_;rintro _ aR _ ⟨q,N,rfl,hm⟩;obtain⟨bZ,O⟩:=bX (Ext.refl _) hm;have aq:=bP.F bZ;have P:=N.aZ;have av:q.1.dc=[]:=by rw[P.same.dc,C]
 have aw:q.1.d7.length<=1000:=by have:=P.same.d7;omega
 have b0:ag aR an a6 cs:=(H.W M).V aq λh=>h bM;refine aV (λv aS=>v= .bool rs/\Ext aR aS) ?_ λay aT=>?_
 rotate_left
 .obtain⟨cT,cU,cV,cW,cX,cY,b1,cZ⟩:=O.pair;rw[bA a6.p a6.i ai.1 b0.range];refine(Uu b1.doc.yN aj bI Ω).Y ?_;rintro _ c0 _ ⟨ax,b,rfl,b2⟩;rw[bY];refine⟨λap=>?_,λ_=>aT _ _ ⟨rfl,ax⟩⟩;obtain⟨b3,b5⟩:=b2.1 ap;have aU:=N.quiet b3 b5;rw[m5 (by rw[aU];exact Bool.false_ne_true),bF,ak];refine⟨λh=>m6 rfl h,λ_=>?_⟩;refine((O.W ax).facts av aw).Y ?_;rintro c1 c2 _ ⟨b6,c3,aW,_⟩;rw[aU]at aW;have aY:=ax.F b6;refine(tO aW.ls ((aQ aq).W aY).ls).Y ?_;rintro _ c4 _ ⟨rfl,b7⟩;rw[m7 rfl,bC,X1];exact aT _ _ ⟨rfl,aY.F b7⟩
 rintro _ aS ⟨rfl,az⟩;rw[aX];refine((O.W az).facts av aw).Y ?_;rintro b8 b9 _ ⟨a1,ca,a2,cb⟩;have a7:=(O.W az).own a1;have a8:af (λr=>¬S r) z b9:=aq.F ((az.F a1).V _);refine aV (λv aC=>v= .bool rs/\fl [t0] S aC ad ae (cP f) q.1 s cs/\af (λr=>¬S r) z aC) ?_ λc5 ba=>?_
 rotate_left
 .rw[bk,ak];refine⟨λhe=>?_,λ_=>ba _ _ ⟨rfl,a7.less λr h=>.inl h,a8⟩⟩;have he:q.2=rs:=by
   cases h:q.2 with
   |false=>rfl
   |true=>rw[h,m3 rfl]at he;exact m6 he Φ
  obtain⟨A9,yS,t9,cc,cd,cf,cg,ch⟩:=a7.go;refine(G0 cc cd cf cg P.jc Ω).Y ?_;rintro _ ci _ ⟨c6,cj,rfl,ck⟩;obtain⟨bb,bc⟩:=ch (Ext.refl _) ck;have cl:=cj.quiet (N.GO he).1 (N.GO he).2;subst cl;rw[m5 Bool.false_ne_true,bF,ak];refine⟨λh=>m6 rfl h,λ_=>?_⟩;refine(bc.facts av aw).Y ?_;rintro c7 c8 _ ⟨bd,c9,cm,_⟩;have cn:aA .i64 au ci ca b8 (qW q.1):=bs a2 bb λr a h=>h (.inr ⟨cb r a,by obtain⟨e,h⟩:=bV a2 a;omega⟩);refine(tO cm.ls (cn.W bd).ls).Y ?_;rintro _ da _ ⟨rfl,cp⟩;rw[m7 rfl,bC,X1];have be:=bd.F cp;exact ba _ _ ⟨rfl,(bc.less λr h=>.inl h).W be,(a8.F (bb.Y λr _ h J=>h (.inl J))).F (be.V _)⟩
 rintro _ aC ⟨rfl,cq,cr⟩;rw[aX];refine G3.Y ?_;rintro _ db _ ⟨rfl,bf⟩;rw[bu,bw];refine aV (λv I=>v= .bool ro/\Ext w I) (λv I h=>by rw[h.1];exact aF _ h.2) λdd ct=>?_;refine((cq.W bf).iN bQ aj P.same).Y ?_;rintro _ de _ ⟨rfl,cu,cw,df,dg,t3,cz⟩;rw[bk,ak];refine⟨λ_=>?_,λh=>m6 rfl h⟩;have bg:=(cr.F (bf.V _)).F cu;refine(F5 cz cw (λe h=>by rw[C]at h;cases h) Ω (by rw[C];exact X7 _)).Y ?_;rintro dh di _ ⟨bh,dj,cA,_⟩;refine(tO cA.ls ((aQ bg).W bh).ls).Y ?_;rintro _ dk _ ⟨rfl,cB⟩;rw[m7 rfl,bH];refine Ux.Y ?_;rintro _ dl _ ⟨rfl,cC⟩;rw[bk,ak];refine⟨λ_=>?_,λh=>m6 rfl h⟩;rw[bk];exact ct _ _ ⟨rfl,(bO bg).F ((bh.F cB).F cC)⟩
theorem Uz{p:x1}{L:List mQ}(ac:aM .u8 w p pl)(e:∀b∈pl,0<=b/\b<256)(f:Seen eT w [a] L)(h:∀x∈L,(oG x).ok)(j:fs w)(q:Laid w):
  al x8 AA [p,a] w λv I=>v= .bool ro/\Ext w I:=Uy (λI r=>⟨rfl,r⟩) ac e f h j q
end Go.Proofs.YtnhkbjhpbbobaaaGreatDoor
