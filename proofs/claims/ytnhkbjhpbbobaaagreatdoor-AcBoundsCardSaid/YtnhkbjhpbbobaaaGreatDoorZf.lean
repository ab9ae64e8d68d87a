/- own texts, made small by a tool (wip/ holds them as they were written): no statement of the seat. -/
import Derived.Test.YtnhkbjhpbbobaaaGreatDoorZe
set_option linter.unusedVariables false
set_option linter.unusedSimpArgs false
set_option linter.unnecessarySimpa false
open Array renaming getElem?_eq_some_iff→b8
open Bool renaming false→v6,true→v2,not_true→X3,not_false→W6,or_eq_false_iff→U1,and_eq_true→U9,true_and→Q4
open Decidable renaming not_not→X5
open Go renaming Value→x4,World→x5,TypeId→o5,IntKind→j0
open Go.Builtin renaming len_→V0
open Go.Instr renaming loadAt→u6,fieldAt→u7,storeAt→l9,indexAt→c9,extract→Y8
open Go.IntKind renaming i64→W5,u64→T7
open Go.Proofs.Tryz renaming prog→v8
open Int renaming toNat_natCast→u9,eq_ofNat_of_zero_le→V9,le_refl→S0
open List renaming getElem?_eq_some_iff→x6,mem_of_getElem?→x7,getElem?_eq_getElem→x8,getElem?_map→u4,getD_eq_getElem?_getD→u5,length_map→r8,take_add_one→r9,replicate→o6,length_set→o7,length_take→o8,length_append→o9,getElem?_set_self→n9,take_length→j4,mem_map→j5,mem_append→j9,mem_singleton→b9,take_of_length_le→Z0,map_append→Z3,eq_nil_of_length_eq_zero→Z5,getElem?_set_ne→Z6,getElem?_append_right→Z7,length_cons→Y0,getElem?_append_left→Y4,getElem?_eq_none→Y5,getElem?_set→Y7,ext_getElem?→X0,mem_iff_getElem?→X8,range→X9,drop_eq_getElem_cons→W3,length_eq_one_iff→V4,foldl_cons→V5,flatMap_cons→V6,mem_cons→V7,append_nil→U2,mem_of_mem_take→T1,map_set→T2,map_cons→T3,set_append_right→T4,length_singleton→T5,append_assoc→T6,mem_range→S2,foldl_append→S3,map_map→S6,mem_filter→S9,sum_cons→R6,length→Q2
open Nat renaming le_refl→o4,le_trans→X1,mul_le_mul_right→X4,zero_add→X6,zero_le→W0,sub_self→V2,add_mul→U6,mul_one→T0,lt_of_lt_of_le→S4,pow_le_pow_right→S5,eq_zero_or_pos→Q8
open Option renaming toList_some→j6,isNone_some→Y2,map_some→Y3,map_eq_some_iff→Y9,getD_some→W7,isSome_some→R2,isSome_none→Q1
open Option.some renaming inj→Z4
open Prod.mk renaming injEq→S8
set_option maxHeartbeats 16000000
open Option renaming some→σ,none→ν
variable{U aa w:x5}{l pl co:Λ}{k v:Int}{a:x4}{j pos:Nat}{O:List Nat}
namespace Go.Proofs.YtnhkbjhpbbobaaaGreatDoor
open Go Go.Vc Go.RowKit Go.Proofs Go.Proofs.Tryz
set_option maxRecDepth 100000
section
variable{w:x5}{ad ae ao:Nat}{A R:ah}{A9:Nat->ah}{aG:ah}{n:aH}{s u:ak}{t:az}{h:List az}{cs:List x4}{a:fF}
theorem Sk(p:cb w ad ae ao A R A9 aG n s u t h cs)(ap:bd n.k n.co u)(hk:2<=a.kind/\a.kind<=5):al v8 wi [Γ ao,Δ (a.kind:Int),Δ a.i,Δ a.pos,Δ a.v,Δ a.c] w λr I=>r=Δ (bg n.k u a).2/\cu w ad ae ao A R A9 aG n s t h (bg n.k u a).1 I:=by
 have cw:=ap.d6;have cz:=ap.fs;refine aB func74 ?_;have bL:cs[0]?=σ (Δ n.k):=by obtain⟨_,_,_,_,_,_,rfl,_⟩:=p.pE;rfl
 rw[aK aI.p 0 p.box bL,aS,am];refine⟨λh=>Ω,λ_=>?_⟩;refine aZ (λr I=>r= .bool (!(kG u a).isSome)/\Ext w I) ?_ λax a8=>?_
 rotate_left
 .rw[bY];refine p.look.load λeM cA=>?_;refine(QV cA).Y ?_;rintro _ U _ ⟨rfl,Y⟩;rw[bM,b4];refine⟨λP=>a8 _ _ ⟨by rw[Sg (λh=>by rw[cw]at h;rw[rs h]at P;cases P)];rfl,Y⟩,λP=>?_⟩;have ba:0<=a.i/\a.i<n.co.length:=by simpa using P
  obtain⟨x,J⟩:=aD (l:=u.d6) (i:=a.i.toNat) Ω;have bq:=Sh ba.1 J;obtain⟨lc,cB,dn,aV,dp,br,bN,_,_,cC,cD,dq,dr,ds⟩:=(p.look).W Y;rw[aK aI.p 4 bN rfl];refine jX (i:=a.i.toNat) rfl Ω jp.u dN.i Ψ cD (by rw[u4,J];rfl) λbO bs=>?_;have bs:[bO]=[x4.bool (decide (x.gone≠0))]:=bs;obtain rfl:bO=x4.bool (decide (x.gone≠0)):=by simpa using bs
  rw[am];refine⟨λQ=>a8 _ _ ⟨by rw[bq,rc λh=>Q h.1];rfl,Y⟩,λQ=>?_⟩;have Q:=X5.1 Q;rw[bU,am];refine⟨λbt=>?_,λbt=>a8 _ _ ⟨by rw[bq,ms ⟨Q,λh=>ro h Ω⟩];rfl,Y⟩⟩;rw[aK aI.p 3 bN rfl];refine jX (a:=aC x) (i:=a.i.toNat) rfl Ω ci.u aq.i Ψ cC (by rw[u4,J];rfl) λdt cE=>?_;refine(uS (en cE)).Y ?_;rintro _ aa _ ⟨rfl,L⟩;rw[bM];refine a8 _ _ ⟨?_,Y.F L⟩;rw[bq];by_cases H:a.v∈aC x
  .rw[ms ⟨Q,λ_=>H⟩,rs H];rfl
  .rw[rc λh=>H (h.2 Ω),s2 H];rfl
 rintro _ U ⟨rfl,Y⟩;cases hm:kG u a with
 |none=>
  have f:=Si (n:=n) hk hm;rw[Q1,W6,bQ];exact⟨by rw[f],by rw[f];exact cu.same p Y⟩
 |some x=>
 rw[R2,X3,a6];obtain⟨cF,J,du,cH⟩:=F9 hm;obtain⟨C,aL⟩:=V9 cF;rw[aL,u9]at J;have bu:=(x6.1 J).1;have E:∀y∈aC x,0<=y/\y<x.un.length:=λy O=>(e6.1 O).1;simp only[aL];have bP:∀v:Nat,0<=x.un.getD v 0/\x.un.getD v 0<=n.k:=λv=>iP ap J;have N:=p.W Y;have dv:=bL;have bw:∀{aa:x5}{e3:ak}{bR:List x4}{bx:Nat->ah}{aM:bn},cb aa ad ae ao A R bx aG n s e3 t h bR->e3.d6[C]?=σ aM->∃aV ay y,aN .i64 aa y aM.un/\(∀{j:x5}{K:x4->x4->x4->x4->x4->Prop},Ext aa j->K (Γ ao) (.pointer (σ ⟨ao,0+5,ν⟩)) aV (.pointer (σ ⟨ay,0+C*1,ν⟩)) y->
    ab v8 (bT (Γ ao)) j λaz=>ab v8 (u7 aI az 5) j λaA=>ab v8 (u6 cZ aA) j λaO=>ab v8 (c9 cZ aO (Δ (C:Int))) j λbb=>ab v8 (u6 aw bb) j λcI=>K az aA aO bb cI)/\
   ∀{I:x5}{v:Nat}{c:Int}{K:Unit->x5->Prop},Ext aa I->v<aM.un.length->(∀bS,kE aa ad ae ao A R bx aG n s t h (eH e3 C aM (aM.un.set v c)) bS->K () bS)->ab v8 (c9 aw y (Δ (v:Int))) I λa=>aF v8 (l9 av a (Δ c)) I K:=λ{aa e3 bR bx aM}bV B=>by
  obtain⟨ay,cJ,y,cK,cL,ag,bz⟩:=sx bV B;have cM:=(x6.1 B).1;refine⟨.slice (σ ⟨ay,0,ν⟩) e3.d6.length cJ,ay,y,ag,λ{j K}aH aW=>?_,bz⟩;rw[aK aI.p 5 (bV.box.W aH) cK,eS cZ.u aw.i cM λ_=>rfl,aE Ψ (by rw[X6,T0];exact jU aH cL)];exact aW
 obtain⟨cN,cO,bA,bX,cP,aj,cQ,b0⟩:=FR N J;have b1:∀{j:x5}{K:x4->x4->x4->Prop},Ext U j->K (Γ ao) (.pointer (σ ⟨ao,0+3,ν⟩)) (.slice (σ ⟨cN,0,ν⟩) u.d6.length cO)->
   ab v8 (bT (Γ ao)) j λaz=>ab v8 (u7 aI az 3) j λaA=>ab v8 (u6 ci aA) j λaO=>K az aA aO:=λaH aW=>by
  rw[aK aI.p 3 (N.box.W aH) bX];exact aW
 have pF:∀{j:x5}{K:x4->Prop},Ext U j->K bA->
   ab v8 (bT (Γ ao)) j λaz=>ab v8 (u7 aI az 3) j λaA=>ab v8 (u6 ci aA) j λaO=>ab v8 (c9 ci aO (Δ (C:Int))) j λbb=>ab v8 (u6 aq bb) j K:=λaH aW=>by
  rw[aK aI.p 3 (N.box.W aH) bX,eS ci.u aq.i bu λ_=>rfl,aE Ψ (by rw[X6,T0];exact jU aH cP)];exact aW
 have low:∀{u':ak}{I:x5},cu U ad ae ao A R A9 aG n s t h u' I->cu w ad ae ao A R A9 aG n s t h u' I:=λbc=>cu.comp (Y.V _) (λq r E=>.inl ⟨q,E⟩) bc;refine aZ (λ_ I=>cu w ad ae ao A R A9 aG n s t h (bg n.k u a).1 I/\(bg n.k u a).2=0) (λ_ I bc=>⟨by rw[bc.2],bc.1⟩) λcR bB=>?_;refine aZ (λr I=>r= .bool (decide (a.kind=2\/a.kind=3))/\U=I) ?_ λdx b2=>?_
 rotate_left
 .rw[bm,am];refine⟨λB=>b2 _ _ ⟨?_,rfl⟩,λB=>?_⟩
  .congr 1;exact decide_eq_decide.2 ⟨λ_=>.inl Ω,λ_=>B⟩
  .rw[bm];refine b2 _ _ ⟨?_,rfl⟩;congr 1;exact decide_eq_decide.2 ⟨λh=>.inr Ω,λh=>Ω⟩
 rintro _ _ ⟨rfl,rfl⟩;rw[am];refine⟨λcS=>?_,λdy=>?_⟩
 .
  obtain⟨cT,be,bC⟩:=Sj cS hm;refine Bh.Y ?_;rintro _ aa _ ⟨rfl,L⟩;have dz:=L;have b3:cG a.c n.k↔0<=a.c/\a.c<=n.k:=⟨λh=>h.2,λB=>⟨cz,B⟩⟩;rw[bM,b4];refine⟨λP=>?_,λP=>?_⟩
  .have f:=cT λh=>ro (b3.2 h) (by simpa using P);exact⟨by rw[f],by rw[f];exact low (cu.same N L)⟩
  have ba:=b3.1 (show cG a.c n.k by simpa using P);have be:=be ba;have bC:=bC ba;refine aZ (λr I=>Ext U I/\∃b,r= .bool b/\(b=v2↔aC x=[]\/(a.kind=3/\u.zero<a.c))) ?_ λdA bD=>?_
  rotate_left
  .refine pF L ?_;rw[a1 aq.u (aj.W L),bm,am];refine⟨λhe=>bD _ _ ⟨L,v2,rfl,⟨λ_=>.inl (Z5 Ω),λ_=>rfl⟩⟩,λbf=>?_⟩;have bf:aC x≠[]:=λh=>bf (by rw[h];rfl);rw[bm,am];refine⟨λbt=>?_,λbt=>bD _ _ ⟨L,v6,rfl,⟨(λh=>by cases h),λh=>h.elim (λh=>ro h bf) λh=>Ω⟩⟩⟩;have bE:cs[2]?=σ (Δ u.zero):=by obtain⟨_,_,_,_,_,_,rfl,_⟩:=p.pE;rfl
   rw[aK aI.p 2 (N.box.W L) bE,bU];exact bD _ _ ⟨L,_,rfl,by rw[sp];exact⟨λh=>.inr ⟨Ω,h⟩,λh=>h.elim (λh=>ro h bf) λh=>h.2⟩⟩
  rintro _ cU ⟨aQ,b,rfl,b5⟩;rw[b4];refine⟨λcV=>?_,λb6=>?_⟩
  .have f:=be ((b5.1 cV).elim .inl λh=>.inr (.inl h));exact⟨by rw[f],by rw[f];exact low (cu.same N aQ)⟩
  have b7:¬(aC x=[]\/(a.kind=3/\u.zero<a.c)):=λh=>by rw[b5.2 h]at b6;cases b6
  refine pF aQ ?_;rw[a1 aq.u (aj.W aQ)];refine ch.range (aC x).length (λq _ I=>Ext U I/\(a.kind=2->∀v∈(aC x).take q,a.c<=x.un.getD v.toNat 0)) aj.le ⟨aQ,λ_ v H=>by simp at H⟩ ?_ ?_
  .rintro q b8 aJ cW bF ⟨M,bh⟩ cY;obtain⟨v,H⟩:=aD (l:=aC x) bF;have an:=x7 H;have bi:=E v an;obtain⟨G,rfl⟩:=V9 bi.1;refine bG Ω ?_;rw[bk aq.u ai.i Ψ (aj.W M) H];refine aZ (λr I=>aJ=I/\r= .bool (decide (a.kind=2/\x.un.getD G 0<a.c))) ?_ λdC ca=>?_
   .rintro _ _ ⟨rfl,rfl⟩;rw[am];refine⟨λaX=>?_,λbH=>?_⟩
    .have f:=be (.inr (.inr ⟨aX.1,_,an,aX.2⟩));exact⟨by rw[f],by rw[f];exact low (cu.same N M)⟩
    .rw[aP];refine cY _ _ ⟨M,λB y O=>?_⟩;rw[r9,H,j6,j9,b9]at O;rcases O with O|rfl
     .exact bh B y O
     .rcases Int.lt_or_le (x.un.getD G 0) a.c with au|au
      .exact ro ⟨B,au⟩ bH
      .exact au
   rw[bm,am];refine⟨λB=>?_,λB=>ca _ _ ⟨rfl,by rw[s2 λh=>B Ω]⟩⟩;obtain⟨aV,ay,y,ag,look,_⟩:=bw (N.W M) J;refine look (Ext.refl _) ?_;rw[bk aw.u av.i Ψ ag (getD_some (i:=G) Ω),bU];refine ca _ _ ⟨rfl,?_⟩;congr 1;exact decide_eq_decide.2 ⟨λh=>⟨Ω,h⟩,λh=>h.2⟩
  rintro b8 aJ cW ⟨M,bh⟩;rw[j4]at bh;have c0:¬yV n u x a:=λhi=>hi.elim (λh=>b7 (.inl h)) λh=>h.elim (λh=>b7 (.inr h)) λ⟨B,v,H,aX⟩=>by have:=bh B v H;omega
  obtain⟨f,dD,dE⟩:=bC c0;rw[aL,u9]at f;refine cd Ω ?_;refine pF M ?_;rw[a1 aq.u (aj.W M)];obtain⟨g,Q⟩:∃g:Int->Int,g=λg=>if a.kind=2 then cX n.k g a.c else ct n.k g a.c:=⟨_,rfl⟩;obtain⟨z,bI⟩:∃z:Int->Int,z=λg=>if a.kind=2 then ct n.k g a.c else cX n.k g a.c:=⟨_,rfl⟩;rw[<-Q,<-bI]at f;have c1:=N.W M;have c2:=aj.W M;have cc:=sk x;obtain⟨ce,dF⟩:∃ce,bA=ce:=⟨_,rfl⟩;have c3:eH u C x (eb g x.un ((aC x).take 0))=u:=by
   unfold eH;show{u with d6:=u.d6.set C x}=u;have:u.d6.set C x=u.d6:=by
    apply X0;intro i;by_cases e:C=i
    .subst e;rw[n9 bu,J]
    .rw[Z6 e]
   rw[this]
  have c4:∀{I:x5},af (A9 2) aJ I->aN .i64 I bA (aC x):=λc5=>i7 c2 c5 λr E b n c e P=>N.gQ.1 0 2 r Φ (cQ r ⟨b,n,c,e,P⟩) E;refine bW.range (aC x).length (λq I=>kE aJ ad ae ao A R A9 aG n s t h (eH u C x (eb g x.un ((aC x).take q))) I) aj.le (by rw[c3];exact kE.same c1 (Ext.refl _)) ?_ ?_
  .rintro q bj c6 bF aR c8;obtain⟨bl,da,cf,aT,bJ,db⟩:=id aR;obtain⟨v,H⟩:=aD (l:=aC x) bF;have an:=x7 H;have bi:=E v an;obtain⟨G,rfl⟩:=V9 bi.1;have bo:(eH u C x (eb g x.un ((aC x).take q))).d6[C]?=σ {x with un:=eb g x.un ((aC x).take q)}:=n9 bu;have dG:(eb g x.un ((aC x).take q)).length=x.un.length:=sj _ _;have bK:=uX (g:=g) ((aC x).take q) x.un (G:Int) (cc.sublist (List.take_sublist _ _)) (λy O=>E y (T1 O)) Ω;rw[rc (yK cc H),u9]at bK;have dc:=bP G;obtain⟨aV,ay,y,ag,look,bz⟩:=bw aT bo;refine bG Ω ?_;refine c7 (λS=>kE aJ ad ae ao A R A9 aG n s t h (eH u C x (eb g x.un ((aC x).take (q+1)))) S) (λS W=>by rw[aP];exact c8 _ W) λdd de=>?_;have aY:∀{X:x5},Ext bj X->ab v8 (c9 aw y (Δ (G:Int))) X λa'=>aF v8 (l9 av a' (Δ (g (x.un.getD G 0)))) X λ(_:Unit)S=>dd S:=λbp=>by
    refine bz bp (by show G<(eb g x.un ((aC x).take q)).length;omega) λS W=>de _ (kE.comp bl bJ db ?_);have e:eH (eH u C x (eb g x.un ((aC x).take q))) C {x with un:=eb g x.un ((aC x).take q)} ((eb g x.un ((aC x).take q)).set G (g (x.un.getD G 0)))=eH u C x (eb g x.un ((aC x).take (q+1))):=by
     rw[F0 H,u9,bK];unfold eH;simp only[List.set_set]
    rw[e]at W;exact W
   have cg:(eb g x.un ((aC x).take q))[G]?=σ (x.un.getD G 0):=by rw[getD_some Ω,bK]
   rw[bk aq.u ai.i Ψ (c4 bl) H,bm,am];refine⟨λB=>?_,λB=>?_⟩
   .intro j Z _ _;refine look Z (look Z ?_);rw[bk aw.u av.i Ψ (ag.W Z) cg];refine(vd Ω Ω).Y ?_;rintro _ X _ ⟨rfl,ac⟩;refine⟨.inl ac,?_⟩;have:=aY (Z.F ac);rw[Q]at this;simp only[ms (show a.kind=2 by omega)]at this;exact this
   .intro j Z _ _;refine look Z (look Z ?_);rw[bk aw.u av.i Ψ (ag.W Z) cg];refine(n0 Ω Ω).Y ?_;rintro _ X _ ⟨rfl,ac⟩;refine⟨.inl ac,?_⟩;have:=aY (Z.F ac);rw[Q]at this;simp only[rc (show¬a.kind=2 by omega)]at this;exact this
  .rintro bj c6 aR;rw[j4]at aR;refine cd Ω ?_;have aR:=aR.yO;obtain⟨bl,da,cf,aT,bJ⟩:=id aR;have cj:cf[2]?=σ (Δ u.zero):=by obtain⟨_,_,_,_,_,_,rfl,_⟩:=aT.pE;rfl
   have df:=ap.zero;have aY:∀{X:x5},Ext bj X->aF v8 (l9 av (.pointer (σ ⟨ao,0+2,ν⟩)) (Δ (z u.zero))) X λ(_:Unit)S=>cR b8 S:=λbp=>by
    refine FQ (aT.W bp) λS W=>bB _ _ ⟨?_,by rw[f]⟩;rw[f];have ck:=cu.comp (bp.V _) (λq r E=>.inl ⟨q,E⟩) W;have a2:=cu.comp bl bJ ck;exact low (cu.comp (M.V _) (λq r E=>.inl ⟨q,E⟩) a2)
   rw[bm,am];refine⟨λB=>?_,λB=>?_⟩
   .rw[aK aI.p 2 aT.box cj];refine(n0 Ω Ω).Y ?_;rintro _ X _ ⟨rfl,ac⟩;rw[bY,aU aI.p rfl];have:=aY ac;rw[bI]at this;simp only[ms (show a.kind=2 by omega)]at this;exact this
   .rw[aK aI.p 2 aT.box cj];refine(vd Ω Ω).Y ?_;rintro _ X _ ⟨rfl,ac⟩;rw[bY,aU aI.p rfl];have:=aY ac;rw[bI]at this;simp only[rc (show¬a.kind=2 by omega)]at this;exact this
 .
  have cl:3<a.kind:=Ω
  have an:=cH cl;obtain⟨G,br⟩:=V9 (E _ an).1;have bi:=(E _ an).2;have cm:dw u a.i a.v=σ x:=by unfold kG at hm;rwa [ms cl]at hm
  rw[bm,am];refine⟨λa2=>?_,λa2=>?_⟩
  .have a2:a.kind=4:=Ω
   have f:bg n.k u a=if ct n.k u.zero (x.un.getD a.v.toNat 0)<n.k then(u,7)else(dK u a.i.toNat a.v.toNat,0):=by
    unfold bg;rw[rc Ω,rc Ω,rc Ω,rc Ω,ms a2,cm]
   have df:=ap.zero;have dc:=bP G;intro aa L _ _;have bE:cs[2]?=σ (Δ u.zero):=by obtain⟨_,_,_,_,_,_,rfl,_⟩:=p.pE;rfl
   obtain⟨aV,ay,y,ag,look,_⟩:=bw (N.W L) J;rw[aK aI.p 2 (N.box.W L) bE];refine look (Ext.refl _) ?_;rw[br,bk aw.u av.i Ψ ag (getD_some Ω)];refine(n0 Ω Ω).Y ?_;rintro _ cU _ ⟨rfl,aQ⟩;have cn:=L.F aQ;rw[br,u9]at f;unfold ct at f;rw[aS,am];refine⟨λaX=>?_,λbH=>?_⟩
   .rw[ms aX]at f;exact⟨by rw[f],by rw[f];exact low (cu.same N cn)⟩
   .rw[rc bH]at f;intro aJ M _ _;have a7:=cn.F M;refine b1 a7 ?_;refine pF a7 ?_;have dH:=vc x;have dg:=ap.ed.2.2;refine(Sf (aj.W a7) (by
     obtain⟨cp,cq⟩:=aD (l:=n.co) (i:=C) Ω;have h1:=(ap.var C x cp J cq).1;have B:=dg cp (x7 cq);omega)).Y ?_
    rintro cB bj _ ⟨bo,⟨gz,dh⟩,di⟩;refine⟨.inl bo,?_⟩;have dj:=a7.F bo;have dI:=a7.size;refine b0 (m:=((x.mask.toNat ||| 2 ^ G:Nat):Int)) dj (gz:=gz) (by rw[show G=(G:Int).toNat from rfl,yA Ω];exact dh) (λr E=>by have:=di r E;omega) λS W=>bB _ _ ⟨?_,by rw[f]⟩;rw[f,aL,u9];unfold dK;rw[J];exact low W
  .have ck:a.kind=5:=Ω
   obtain⟨m,dk,dl⟩:=yU (i:=a.i.toNat) (v:=a.v) (aC x) u x (by rw[aL,u9];exact J) λy O=>(E y O).1;have f:bg n.k u a=(gu u a.i.toNat a.v (aC x),0):=by
    unfold bg;rw[rc Ω,rc Ω,rc Ω,rc Ω,rc Ω,cm]
   have dm:aC {x with mask:=m}=[a.v]:=by
    rw[dl,<-filter_one (sk x) an];refine List.filter_congr λy O=>?_;rw[rs O,Q4,Bool.not_not]
   rw[bm,am];refine⟨λ_=>?_,λh=>Ω⟩;refine b1 (Ext.refl _) ?_;refine eT aq.u ai.i rfl λv4 dJ aJ dL M cr=>?_;refine b0 M (by rw[dm];exact cr) (λr E=>by have:=bZ cr E;omega) λS W=>bB _ _ ⟨?_,by rw[f]⟩;rw[f,dk,aL,u9];exact low W
end
def jk(A R:ah)(A9:Nat->ah)(aG:ah)(ao:Nat)(r:Nat):Prop:=A r\/R r\/(∃q,A9 q r)\/aG r\/r=ao
section
variable{P:ah}{fk w I:x5}{ad ae ao UI UJ UK:Nat}{A R aM R':ah}{A9 cw:Nat->ah}{aG Fw:ah}{n:aH}{s s':ak}{t bs:az}{h aW:List az}{cs bD:List x4}{m bP:Nat}
variable{Z lV:ah}
end
theorem qL(h:Laid w):0<w.heap.size:=by
 rcases Q8 w.heap.size with e|e
 .have a:=h 0 _ rfl;unfold x5.cell? at a;rw[Array.getElem?_eq_none Ω]at a;cases a
 .exact e
def fg(Z aG:ah)(w:x5)(ad ae ao:Nat)(n:aH)(s:ak):Prop:=∃A R A9 t cs,cb w ad ae ao A R A9 aG n s s t [] cs/\(Laid w/\¬Z 0)/\(b3 s/\dE (cR n) s/\n.d9.length<=256)/\(∀r,Z r↔jk A R A9 aG ao r)/\∀q r,A9 q r->r<w.heap.size
section
variable{Z aG S:ah}{w I U:x5}{ad ae ao:Nat}{A R:ah}{A9:Nat->ah}{n:aH}{s u:ak}{t:az}{cs:List x4}
theorem fg.W(h:fg Z aG w ad ae ao n s)(a:Ext w I):fg Z aG I ad ae ao n s:=by
 obtain⟨A,R,A9,t,cs,p,⟨e,f⟩,j,x,y⟩:=h;exact⟨A,R,A9,t,cs,p.W a,⟨e.W a,f⟩,j,x,λq r z=>by have:=y q r z;have:=a.size;omega⟩
theorem fg.side(h:fg Z aG w ad ae ao n s)(e:af S w I)(x:∀r,Z r->¬S r)(y:¬S 0):fg Z aG I ad ae ao n s:=by
 obtain⟨A,R,A9,t,cs,p,⟨z,B⟩,C,j,E⟩:=h;refine⟨A,R,A9,t,cs,p.side e λr _ f=>?_,⟨iz e y z,B⟩,C,j,λq r f=>by have:=E q r f;have:=e.size;omega⟩;have a:∀{X:Prop},(X->jk A R A9 aG ao r)->¬X:=λF h=>x r ((j r).2 (F h)) f;exact⟨a .inl,a λh=>.inr (.inl h),λq=>a λh=>.inr (.inr (.inl ⟨q,h⟩)),a λh=>.inr (.inr (.inr (.inl h))),a λh=>.inr (.inr (.inr (.inr h)))⟩
theorem fg.ok(h:fg Z aG w ad ae ao n s):bd n.k n.co s/\b3 s/\dE (cR n) s/\n.d9.length<=256:=by
 obtain⟨A,R,A9,t,cs,p,_,a,_⟩:=h;exact⟨p.dA.2.2.2.1,a⟩
theorem fg.look(h:fg Z aG w ad ae ao n s):mF w ao n.k n.co s:=by
 obtain⟨A,R,A9,t,cs,p,_⟩:=h;exact p.look
theorem fg.step{U:x5}(p:cb w ad ae ao A R A9 aG n s u t [] cs)(f:∀r,Z r↔jk A R A9 aG ao r){u':ak}(E:b3 u'/\dE (cR n) u'/\n.d9.length<=256)(F:¬Z 0)(G:cu w ad ae ao A R A9 aG n s t [] u' U)(j:Ext U I)(hm:cS [] I ad ae A R n u' aa):af (λr=>Z r/\¬aG r) w aa/\∃lV,(∀r,lV r->Z r\/w.heap.size<=r)/\fg lV aG aa ad ae ao n u':=by
 obtain⟨B,cw,bD,H,J⟩:=G;obtain⟨x,K,aM,bs,y,L,M,S⟩:=hm;have W:=B.size;have Y:=j.size;have z3:=x.size;have z:=H.W j;have N:=z.prog x y L M.1 (λ_ h=>.inl h) (λ_ _ _ h=>h) z.box.lt;have O:=p.FM;have P:af (λr=>Z r/\¬aG r) w aa:=(((B.Y (T:=λr=>Z r/\¬aG r) λr _ h=>⟨(f r).2 (h.elim (λh=>.inr (.inr (.inl h))) λh=>.inr (.inr (.inr (.inr h)))),h.elim (λ⟨q,h⟩=>O q r h) λh aW=>(p.read r aW).2.2 h⟩)).F (j.V _)).F
  ((uY y.1 x).Y λr _ h=>⟨(f r).2 (.inl h.1),λaW=>(z.read r aW).1 h.2⟩)
 have ab:=p.box.lt;have e:∀{r:Nat}{X:Prop},(X->jk A R A9 aG ao r)->X->Z r\/w.heap.size<=r:=λQ h=>.inl ((f _).2 (Q h));have C:∀r,jk aM R (λq r=>cw q r/\r<I.heap.size) aG ao r->Z r\/w.heap.size<=r:=by
  intro r a;rcases a with a|a|⟨q,a,_⟩|a|a
  .exact (y.2.1 r a).elim (e .inl) λh=>.inr Ω
  .exact e (λh=>.inr (.inl h)) a
  .exact (J q r a).elim (e λh=>.inr (.inr (.inl h))) .inr
  .exact e (λh=>.inr (.inr (.inr (.inl h)))) a
  .exact e (λh=>.inr (.inr (.inr (.inr h)))) a
 exact⟨P,λr=>jk aM R (λq r=>cw q r/\r<I.heap.size) aG ao r,C,aM,R,_,bs,bD,N,⟨K,λh=>(C 0 h).elim F λh=>Ω⟩,E,λr=>Iff.rfl,λq r a=>by have:=a.2;omega⟩
theorem Sl(h:b3 s/\dE (cR n) s/\n.d9.length<=256)(a:bd n.k n.co s)(m:fF):b3 (bg n.k s m).1/\dE (cR n) (bg n.k s m).1/\n.d9.length<=256:=
 ⟨(yC a h.1).2.1,h.2.1.F (yH a),h.2.2⟩
theorem Sm{m:fF}(p:cb w ad ae ao A R A9 aG n s u t [] cs)(a:bd n.k n.co u)(e:b3 u)(hk:m.kind<=5):al v8 wi [Γ ao,Δ (m.kind:Int),Δ m.i,Δ m.pos,Δ m.v,Δ m.c] w λr I=>r=Δ (bg n.k u m).2/\cu w ad ae ao A R A9 aG n s t [] (bg n.k u m).1 I:=by
 by_cases h:m.kind<2
 .exact Sb p a e h
 .exact Sk p a ⟨Ω,hk⟩
theorem Sn{B:Nat}{e:x5}{ao:Nat}{j:x4}{cs:List x4}{f:b7}(w:u3 B aa j cs f)(x:Ext aa e)(y:ag e ao aI cs)(z:aa.heap.size<=ao)(K:B<=aa.heap.size)(L:0<B)(C:Laid e):
  ∃ad ae Z aG,j=Γ ad/\fg Z aG e ad ae ao (cf f) (cR (cf f))/\∀r,Z r->B<=r:=by
 obtain⟨ad,ae,A,R,A9,aG,t,rfl,p,_,E,F,_,_,G,_,H,I⟩:=RE w x y z;have J:=p.olds;have s:∀r,jk A R (λq r=>A9 q r/\r<e.heap.size) aG ao r->B<=r:=by
  intro r a;rcases a with a|a|⟨q,a,_⟩|a|a
  .exact E r a
  .exact I r a
  .exact F q r a
  .exact H r a
  .omega
 exact⟨ad,ae,_,aG,rfl,⟨A,R,_,t,cs,J,⟨C,λh=>by have:=s 0 h;omega⟩,⟨FL _,dE.rfl,G⟩,λr=>Iff.rfl,λq r a=>a.2⟩,s⟩
end
section
variable{au:List az}{w U aa:x5}{ad ae ao:Nat}{A R S Z aG:ah}{n:aH}{s s0 s1:ak}{cs:List x4}
theorem cS.open(h:cS au w ad ae A R n s1 U):∃a e,bE U ad ae a R n s1 e/\Laid U/\¬a 0/\eB au e/\∀{f:ak}{aa:x5},cS au U ad ae a R n f aa->cS au w ad ae A R n f aa:=by
 obtain⟨h1,j,a,e,p,q,r,s⟩:=h;refine⟨a,e,q,j,s,r,λ{f aa}k=>?_⟩;obtain⟨x,y,z,B,C,E,F,G⟩:=k;exact⟨uI h1 x,y,z,B,p.F C,E,F,G⟩
theorem cS.W(h:cS au w ad ae A R n s1 U)(a:Ext U aa):cS au w ad ae A R n s1 aa:=by
 obtain⟨p,q,h1,e,f,j,k⟩:=h.open;exact k (.same h1 e f j a)
def jL(au:List az)(Z aG:ah)(w:x5)(ad ae ao:Nat)(n:aH)(s s0:ak)(cs:List x4):Prop:=∃A R A9 t,cb w ad ae ao A R A9 aG n s s0 t au cs/\(Laid w/\¬Z 0/\sA t)/\(∀r,Z r↔jk A R A9 aG ao r)/\∀q r,A9 q r->r<w.heap.size
theorem jL.lt(h:jL au Z aG w ad ae ao n s s0 cs):∀r,Z r->r<w.heap.size:=by
 obtain⟨A,R,A9,t,p,_,e,f⟩:=h;intro r a;rcases(e r).1 a with a|a|⟨q,a⟩|a|a
 .exact nv p.dA r (.inl a)
 .exact nv p.dA r (.inr a)
 .exact f q r a
 .exact (p.read r a).2.1
 .subst a;exact p.box.lt
theorem jL.W(h:jL au Z aG w ad ae ao n s s0 cs)(a:Ext w U):jL au Z aG U ad ae ao n s s0 cs:=by
 obtain⟨A,R,A9,t,p,⟨e,f⟩,j,x⟩:=h;exact⟨A,R,A9,t,p.W a,⟨e.W a,f⟩,j,λq r y=>by have:=x q r y;have:=a.size;omega⟩
theorem jL.side(h:jL au Z aG w ad ae ao n s s0 cs)(e:af S w U)(x:∀r,Z r->¬S r)(y:¬S 0):jL au Z aG U ad ae ao n s s0 cs:=by
 obtain⟨A,R,A9,t,p,⟨z,B⟩,j,C⟩:=h;refine⟨A,R,A9,t,p.side e λr _ f=>?_,⟨iz e y z,B⟩,j,λq r f=>by have:=C q r f;have:=e.size;omega⟩;have a:∀{X:Prop},(X->jk A R A9 aG ao r)->¬X:=λE h=>x r ((j r).2 (E h)) f;exact⟨a .inl,a λh=>.inr (.inl h),λq=>a λh=>.inr (.inr (.inl ⟨q,h⟩)),a λh=>.inr (.inr (.inr (.inl h))),a λh=>.inr (.inr (.inr (.inr h)))⟩
theorem jL.ok(h:jL au Z aG w ad ae ao n s s0 cs):bd n.k n.co s/\jJ w (.agg cs.toArray) n.k n.co s0:=by
 obtain⟨A,R,A9,t,p,_⟩:=h;exact⟨p.dA.2.2.2.1,p.doc.yv⟩
theorem jL.go(h:jL au Z aG w ad ae ao n s s0 cs):∃A R t,bE w ad ae A R n s t/\Laid w/\¬A 0/\eB au t/\∀{U aa:x5}{s1:ak},Ext w U->cS au U ad ae A R n s1 aa->af (λr=>Z r/\¬aG r) w aa/\∃lV,(∀r,lV r->Z r\/w.heap.size<=r)/\jL au lV aG aa ad ae ao n s1 s0 cs:=by
 obtain⟨A,R,A9,t,p,⟨F,B,a⟩,f,K⟩:=h;refine⟨A,R,t,p.dA,F,λh=>B ((f 0).2 (.inl h)),⟨p.im,a⟩,λ{U aa s1}j hm=>?_⟩;obtain⟨x,G,aM,bs,y,H,C,L⟩:=hm;have M:=j.size;have z3:=x.size;have z:=p.W j;have I:=z.prog x y H C.1 (λ_ h=>.inl h) (λ_ _ _ h=>h) z.box.lt;have e:∀{r:Nat}{X:Prop},(X->jk A R A9 aG ao r)->X->Z r\/w.heap.size<=r:=λJ h=>.inl ((f _).2 (J h));have E:∀r,jk aM R (λq r=>A9 q r/\r<U.heap.size) aG ao r->Z r\/w.heap.size<=r:=by
  intro r a;rcases a with a|a|⟨q,a,_⟩|a|a
  .exact (y.2.1 r a).elim (e .inl) λh=>.inr Ω
  .exact e (λh=>.inr (.inl h)) a
  .exact e (λh=>.inr (.inr (.inl ⟨q,h⟩))) a
  .exact e (λh=>.inr (.inr (.inr (.inl h)))) a
  .exact e (λh=>.inr (.inr (.inr (.inr h)))) a
 exact⟨(j.V _).F ((uY y.1 x).Y λr _ h=>⟨(f r).2 (.inl h.1),λaW=>(z.read r aW).1 h.2⟩),λr=>jk aM R (λq r=>A9 q r/\r<U.heap.size) aG ao r,E,aM,R,_,bs,I,⟨G,λh=>(E 0 h).elim B λh=>by have:=p.box.lt;omega,C.2⟩,λr=>Iff.rfl,λq r a=>by have:=a.2;omega⟩
theorem fg.ds(h:fg Z aG w ad ae ao n s):∃cs,jL [] Z aG w ad ae ao n s s cs/\ag w ao aI cs:=by
 obtain⟨A,R,A9,t,cs,p,⟨a,e⟩,q,f,j⟩:=h;exact⟨cs,⟨A,R,A9,t,p,⟨a,e,p.im.m.2⟩,f,j⟩,p.box⟩
end
def vj(co a:Λ):Prop:=a.length=co.length/\∀(q:Nat)z b,co[q]?=σ z->a[q]?=σ b->0<=b/\b<z
def Sp(co:Λ)(L:List (Λ)):Prop:=L.length<=90/\∀a∈L,vj co a
def lW(co:Λ)(k:Nat):Λ:=(X9 co.length).map λi:Nat=>((k:Int)*(2*(i:Int)+1)+(k:Int) / 3) % co.getD i 0
theorem sD(co:Λ)(k:Nat):(lW co k).length=co.length:=by simp[lW]
theorem Gb{k i:Nat}{z:Int}(h:co[i]?=σ z):(lW co k)[i]?=σ (((k:Int)*(2*(i:Int)+1)+(k:Int) / 3) % z):=by
 unfold lW;rw[u4,List.getElem?_range (x6.1 h).1,Y3,u5,h];rfl
theorem Sq(k:Nat)(h:∀z∈co,1<=z/\z<=32):vj co (lW co k):=by
 refine⟨sD _ _,λq z b a e=>?_⟩;rw[Gb a]at e;cases e;have:=h z (x7 a);exact⟨Int.emod_nonneg _ Ω,Int.emod_lt_of_pos _ Ω⟩
theorem Sr{a:Λ}(h:a∈bo co):vj co a:=by
 rw[uT]at h;obtain⟨h1,e⟩:=sb.1 h;rw[r8]at h1;refine⟨h1,λq z b f j=>?_⟩;exact sd.1 (e q (iq z) b (by rw[u4,f];rfl) j)
theorem yW{a:Λ}{s:ak}(e:bd k co s)(h:vj co a):iL s a:=by
 have p:=e.d6;refine⟨by rw[h.1,p],λi x v f q=>.inr ?_⟩;obtain⟨z,j⟩:=aD (l:=co) (i:=i) (by have:=(x6.1 f).1;omega);have h1:=(e.var i x z f j).1;have r:=h.2 i z v j q;omega
theorem Ss{m:Nat}(h:m<=11):(32:Int) ^ m<=36028797018963968:=by
 match m,h with
 |0,_=>decide
 |1,_=>decide
 |2,_=>decide
 |3,_=>decide
 |4,_=>decide
 |5,_=>decide
 |6,_=>decide
 |7,_=>decide
 |8,_=>decide
 |9,_=>decide
 |10,_=>decide
 |11,_=>decide
theorem St{sv:x4}(h:aN .i64 w sv l)(J:∀x∈l,1<=x/\x<=32):
  al v8 HR [sv] w λv I=>(∃c:Int,v=Δ c/\(l.length<=11->c=aQ l))/\Ext w I:=by
 refine aB func28 ?_;rw[a1 aq.u h];refine ch.range l.length (λi n U=>Ext w U/\∃c:Int,n=Δ c/\(i<=11->c=aQ (l.take i))) h.le ⟨Ext.refl _,1,rfl,λ_=>rfl⟩ ?_ ?_
 .rintro i _ U k hi ⟨a,c,rfl,e⟩ hk;obtain⟨x,f⟩:=aD (l:=l) hi;refine bG Ω ?_;rw[bk aq.u ai.i Ψ (h.W a) f,fz,aP];refine hk _ _ ⟨a,_,rfl,λp=>?_⟩;rw[e Ω,p7 f];have ac:=me (l.take (i+1)) λy j=>J y (T1 j);have h1:=Ss (m:=(l.take (i+1)).length) (by rw[o8];omega);rw[p7 f]at ac;exact m1 Ω Ω
 .rintro _ U k ⟨a,c,rfl,e⟩;refine cd Ω ?_;rw[j4]at e;exact⟨⟨c,rfl,e⟩,a⟩
theorem Su{f g:Int->Int}:∀{l:Λ},(∀v∈l,f v=g v)->dZ k l f=dZ k l g:=by
 intro l;unfold dZ;generalize (k,(-1:Int))=p;induction l generalizing p with
 |nil=>intro _;rfl
 |cons v l a=>
  intro h;rw[V5,V5,show eZ f p v=eZ g p v by unfold eZ;rw[h v (.head _)]];exact a _ λu hu=>h u (.tail _ hu)
theorem Sv{f:Int->Int}:∀(l:Λ)(p:Int×Int),(∀v∈l,0<=v)->(p.2= -1\/0<=p.2)->((l.foldl (eZ f) p).2= -1\/0<=(l.foldl (eZ f) p).2)/\(k=k):=by
 intro l;induction l with
 |nil=>intro p _ h;exact⟨h,rfl⟩
 |cons v l e=>
  intro p a h;refine e _ (λu hu=>a u (.tail _ hu)) ?_;unfold eZ;split
  .exact .inr (a v (.head _))
  .exact h
section
variable{w:x5}{eM:x4}{k:Int}{co:Λ}{s:ak}
theorem Sw{f:Int->Int}{q:Nat}(a:l[q]?=σ v):dZ k (l.take (q+1)) f=eZ f (dZ k (l.take q) f) v:=by
 unfold dZ;rw[r9,a,j6,S3];rfl
theorem Sx{f:Int->Int}(a:∀v∈l,0<=v):(dZ k l f).2= -1\/0<=(dZ k l f).2:=(Sv (k:=k) l (k,-1) a (.inl rfl)).1
theorem Sy{i:Nat}{x:bn}(h:jJ w eM k co s)(an:bd k co s)(G:s.d6[i]?=σ x):
  al v8 HM [eM,Δ (i:Int)] w λr I=>Ext w I/\r= .tuple #[Δ (dZ k (aC x) λv=>x.un.getD v.toNat 0).1,Δ (dZ k (aC x) λv=>x.un.getD v.toNat 0).2]:=by
 have ao:=vc x;refine aB func12 ?_;refine bp λg1 U ap H P=>?_;obtain⟨lc,au,ay,az,aA,aE,C,aF,_,Q,aG,R,aH,aJ⟩:=h.box H P;rw[aL aI.p 0 C rfl,aL aI.p 3 C rfl];refine jX (α:=Λ) (a:=aC x) (i:=i) rfl rfl ci.u aq.i Ψ Q (by rw[u4,G];rfl) λaK S=>?_;have E:=en S;rw[a1 aq.u E];obtain⟨f,J⟩:∃f:Int->Int,f=λv=>x.un.getD v.toNat 0:=⟨_,rfl⟩;rw[<-J];refine lu.range (aC x).length (λq b a aa=>Ext U aa/\b=Δ (dZ k ((aC x).take q) f).1/\a=Δ (dZ k ((aC x).take q) f).2) E.le ⟨Ext.refl _,rfl,rfl⟩ ?_ ?_
 .rintro q _ _ aa V W ⟨j,rfl,rfl⟩ X;obtain⟨v,z⟩:=aD (l:=aC x) W;have Y:=(e6.1 (x7 z)).1;obtain⟨y,rfl⟩:=V9 Y.1;have A:=Sw (k:=k) (f:=f) z;have aM:=Sx (k:=k) (f:=f) (l:=(aC x).take q) λv z=>(e6.1 (T1 z)).1.1;have Z:f (y:Int)=x.un.getD y 0:=by rw[J];rfl
  refine bG Ω ?_;refine jo (λb a I=>Ext U I/\b=Δ (dZ k ((aC x).take (q+1)) f).1/\a=Δ (dZ k ((aC x).take (q+1)) f).2) (λb a I ac=>by rw[aP];exact X _ _ _ ac) λax L=>?_;rw[bk aq.u ai.i Ψ (E.W j) z];have M:∀{K:x4->Prop}{e:x5},Ext U e->K (Δ (f (y:Int)))->ab v8 (u7 aI (Γ g1) 5) e λad=>ab v8 (u6 cZ ad) e λae=>ab v8 (c9 cZ ae (Δ (i:Int))) e λt39=>ab v8 (u6 aw t39) e λaf=>ab v8 (c9 aw af (Δ (y:Int))) e λag=>ab v8 (u6 av ag) e K:=λ{K e}N ah=>by
   rw[aL aI.p 5 (C.W N) rfl];refine jX (a:=x.un) (i:=i) rfl rfl cZ.u aw.i Ψ (bu R N) (by rw[u4,G];rfl) λaN aj=>?_;rw[bk aw.u av.i Ψ (en aj) (getD_some (i:=y) Ω),<-Z];exact ah
  refine aZ (λr I=>aa=I/\r= .bool (decide ((dZ k ((aC x).take q) f).2= -1\/f (y:Int)<(dZ k ((aC x).take q) f).1))) ?_ λaO O=>?_
  .rintro _ _ ⟨rfl,rfl⟩;unfold eZ at A;rw[am];refine⟨λB=>M j (L _ _ _ ⟨j,?_,?_⟩),λB=>L _ _ _ ⟨j,?_,?_⟩⟩
   .rw[A,ms B]
   .rw[A,ms B]
   .rw[A,rc B]
   .rw[A,rc B]
  .rw[aS,am];refine⟨λak=>O _ _ ⟨rfl,by rw[rs (.inl Ω)]⟩,λak=>?_⟩;refine M j ?_;rw[aS];refine O _ _ ⟨rfl,?_⟩;congr 1;exact decide_eq_decide.2 ⟨.inr,λh=>h.resolve_left λh=>Ω⟩
 .rintro _ _ aa V ⟨j,rfl,rfl⟩;rw[j4];exact cd Ω ⟨H.F j,rfl⟩
end
theorem Sz{f g:Λ->Int}:∀{l:List (Λ)},(∀t∈l,f t=g t)->lg k f l=lg k g l:=by
 intro l;unfold lg;generalize (k,(ν:Option (Λ)))=p;induction l generalizing p with
 |nil=>intro _;rfl
 |cons v l a=>
  intro h;rw[V5,V5,show simpStep f p v=simpStep g p v by unfold simpStep;rw[h v (.head _)]];exact a _ λu hu=>h u (.tail _ hu)
section
variable{w:x5}{eM:x4}{k:Int}{co:Λ}{s:ak}
end
abbrev mL:Type:=nh .u8×Int×Int×Int×Int
structure fY where
 d:Int
 i:Int
 pos:Int
 v:Int
 c:Int
def fY.ok(a:fY):Prop:=0<=a.d/\a.d<256
def fY.kind(a:fY):Nat:=(a.d % 7).toNat
def fY.b1(a:fY):List x4:=[.int .u8 a.d,Δ a.i,Δ a.pos,Δ a.v,Δ a.c]
def ow(x:mL):fY:=⟨x.1.val,x.2.1,x.2.2.1,x.2.2.2.1,x.2.2.2.2⟩
theorem SA{R:ah}{cs:List x4}{x:mL}(h:Seen R w cs x):cs=(ow x).b1:=by
 obtain⟨q,_,_,_,rfl,_,_,_,a,r,_,_,_,rfl,_,_,_,e,s,_,_,_,rfl,_,_,_,f,y,z,_,_,rfl,_,_,_,j,p⟩:=h;have a:=a;have e:=e;have f:=f;have j:=j;have p:=p;subst a e f j p;rfl
theorem SB{x:mL}(h:(j0.u8.min<=x.1.val/\x.1.val<=j0.u8.max)/\(W5.min<=x.2.1/\x.2.1<=W5.max)/\(W5.min<=x.2.2.1/\x.2.2.1<=W5.max)/\(W5.min<=x.2.2.2.1/\x.2.2.2.1<=W5.max)/\(W5.min<=x.2.2.2.2/\x.2.2.2.2<=W5.max)):(ow x).ok:=by
 have a:j0.u8.min=0:=Φ
 have e:j0.u8.max=255:=Φ
 rw[a,e]at h;exact⟨h.1.1,by have:=h.1.2;show x.1.val<256;omega⟩
theorem fY.one(a:fY):∀u∈a.b1,u.oneCell'=v2:=by
 intro u hu;unfold fY.b1 at hu;simp only[V7,List.not_mem_nil,or_false]at hu;rcases hu with rfl|rfl|rfl|rfl|rfl<;>rfl
theorem fY.SC(a:fY):a.kind<7:=by
 unfold fY.kind;have:=Int.emod_lt_of_pos a.d (show(0:Int)<7 by decide);omega
def vk(k:Int)(a:fY):Int:=a.c.emod 18446744073709551616 % (k+1)
def lX(k:Int)(a:fY):fF:=⟨a.kind,a.i,a.pos,a.v,vk k a⟩
def mM(n:aH)(s:ak)(a:fY):ak:=if a.kind=6 then(if et n a.i a.v then dK s a.i.toNat a.v.toNat else s)else(bg n.k s (lX n.k a)).1
theorem yX{d:Int}{K:x4->Prop}(h:0<=d):ab v8 (aO .rem cN v6 v2 (.int .u8 d) (.int .u8 7)) w K=K (.int .u8 (((d % 7).toNat:Nat):Int)):=by
 rw[q9 Φ,Int.tmod_eq_emod_of_nonneg h];have:=Int.emod_nonneg d (show(7:Int)≠0 by decide);rw[Int.toNat_of_nonneg this]
section
variable{w:x5}{ad ae ao:Nat}{A R:ah}{A9:Nat->ah}{aG:ah}{n:aH}{s u:ak}{t:az}{h:List az}{cs:List x4}{a:fY}
theorem Gc(a:bd n.k n.co s){i:Int}(h:et n i v):0<=i/\∃x,s.d6[i.toNat]?=σ x/\0<=v/\v<x.un.length:=by
 obtain⟨x,e,h1,_,f⟩:=h.var a;exact⟨h.1,x,e,h.2.2.1,by have:=h.2.2.2;omega⟩
theorem SD(f:b3 s/\dE (cR n) s/\n.d9.length<=256)(j:bd n.k n.co s):b3 (mM n s a)/\dE (cR n) (mM n s a)/\n.d9.length<=256:=by
 unfold mM;split
 .split
  .rename_i h;obtain⟨r,x,p,w,_⟩:=Gc j h;have e:=kD (v:=a.v) p;have q:dE s (dK s a.i.toNat a.v.toNat):=yF (v:=a.v);exact⟨by rw[e];exact b3.d6 f.1 p rfl,f.2.1.F q,f.2.2⟩
  .exact f
 .exact Sl f j _
theorem SE(p:cb w ad ae ao A R A9 aG n s u t h cs){i:Nat}{x:bn}(B:u.d6[i]?=σ x):∃g cap y gy e,cs[3]?=σ (.slice (σ ⟨g,0,ν⟩) u.d6.length cap)/\w.cell? ⟨g,0+i*1,ν⟩=σ y/\aA .i64 e w gy y (aC x)/\(∀r,lw y r->A9 0 r)/\
  ∀{U aa:x5}{m:Int}{z:x4}{K:Unit->x5->Prop},Ext w U->af (λr=>lw y r) U aa->aA .i64 e aa gy z (aC {x with mask:=m})->(∀r,lw z r->lw y r)->(∀I,cu w ad ae ao A R A9 aG n s t h {u with d6:=u.d6.set i {x with mask:=m}} I->K () I)->
   aF v8 (l9 aq (.pointer (σ ⟨g,0+i*1,ν⟩)) z) aa K:=by
 have J:=p.olds;have aJ:=(x6.1 B).1;obtain⟨lc,ah,aK,aL,aM,aN,L,_,ai,_,_,_,_,aj⟩:=id J.doc;obtain⟨g,cap,full,ak,c,al,e,C,am,E,M,N,O,ap,au⟩:=Fu ai (by rw[u4,B];rfl) λr _ h=>(aj rfl).2 0 r h;obtain⟨y,rfl⟩:=V4.1 (an.len N);rw[r8]at e;have av:full[i]?=σ y:=by have:=M 0 y rfl;simpa[show an.n (Λ)=1 from rfl]using this
 obtain⟨gy,aw,P,ax⟩:=Bf N;have f:∀r,lw y r->al r:=λr a=>by
  rcases ax with rfl|ay
  .obtain⟨_,_,_,e,_⟩:=a;cases e
  .obtain⟨e,_⟩:=bZ P a;rw[e];exact ay
 refine⟨g,cap,y,gy,aw,by rw[L,<-e];rfl,by have:=C.cell av;rw[X6,T0];exact this,P,λr a=>(O r (f r a)).1,λ{U aa m Q K}F G S W az=>?_⟩;have aO:=F.size;have aP:=G.size;have E:i*1+1<=full.length:=E;obtain⟨_,_,_,X⟩:=dj S.ls;have Y:¬lw y g:=λh=>ap (f g h);refine bt (o:=0+i*1) aq.i (by rw[X];rfl) (by rw[X];rfl) ((C.W F).V G Y) Ω λZ ab aQ j=>?_;have j:ag Z g ak (over full (i*1) [Q]):=by
  have e:=Fv (o:=i*1) (q:=0) (x:=Q) M E Ξ;rw[X6]at j;rw[Nat.add_zero]at e;rw[e]at j;exact j
 have aR:g<w.heap.size:=C.lt;have H:af (λr=>lw y r\/r=g) w Z:=((F.V _).F (G.Y λr _ h=>.inl h)).F (ab.Y λr _ h=>.inr h);have aB:=bA S ab λr a he=>by have he:r=g:=he;exact Y (he▸W r a)
 have aD:=au H (λr _ h=>h.imp (f r) id) j (ol aB) λr a=>.inl (f r (W r a));have ac:∀r,r<w.heap.size->(lw y r\/r=g)->A9 0 r/\r<w.heap.size:=λr a h=>h.elim (λh=>O r (f r h)) λh=>by rw[h];exact am
 obtain⟨cw,aE,aH⟩:=J.pF (u':={u with d6:=u.d6.set i {x with mask:=m}}) (λq r h=>h.2) (v:=ah) (by rw[L];rfl) H ac (by show bq _ _ _ _ ((u.d6.set i {x with mask:=m}).map aC);rw[T2];exact aD) rfl (qJ B rfl) (qJ B rfl) rfl rfl;refine az _ ⟨H.Y λr a h=>.inl ⟨0,(ac r a h).1⟩,cw,cs,aE,λq r a=>?_⟩;rcases aH q r a with⟨aI,h⟩|h
 .exact .inl ⟨aI,h.1⟩
 .exact .inr h
end
section
variable{Z aG:ah}{w I:x5}{ad ae ao:Nat}{A R:ah}{A9:Nat->ah}{n:aH}{s s':ak}{t:az}{cs:List x4}{a:fY}
def lj(Z aG:ah)(w:x5)(ad ae ao:Nat)(n:aH)(s':ak)(I:x5):Prop:=af (λr=>Z r/\¬aG r) w I/\∃lV,(∀r,lV r->Z r\/w.heap.size<=r)/\fg lV aG I ad ae ao n s'
theorem fg.SF{aM:ah}{cw:Nat->ah}{bs:az}(p:cb w ad ae ao A R A9 aG n s s t [] cs)(f:∀r,Z r↔jk A R A9 aG ao r)(H:b3 s'/\dE (cR n) s'/\n.d9.length<=256)(x:¬Z 0)(I:Laid w)(y:af (eG w) w U)(z:Grow A w aM U)(j:∀q r,cw q r->A9 q r)(J:cu U ad ae ao aM R cw aG n s' bs [] s' aa):lj Z aG w ad ae ao n s' aa:=by
 obtain⟨B,C,bD,K,L⟩:=J;have O:=y.size;have P:=B.size;have M:=p.FM;have E:af (λr=>Z r/\¬aG r) w aa:=((uY z.1 y).Y (T:=λr=>Z r/\¬aG r) λr _ h=>⟨(f r).2 (.inl h.1),λaW=>(p.read r aW).1 h.2⟩).F
  (B.Y λr _ h=>⟨(f r).2 (h.elim (λ⟨q,h⟩=>.inr (.inr (.inl ⟨q,j q r h⟩))) λh=>.inr (.inr (.inr (.inr h)))),h.elim (λ⟨q,h⟩=>M q r (j q r h)) λh aW=>(p.read r aW).2.2 h⟩)
 have Q:=p.box.lt;have e:∀{r:Nat}{X:Prop},(X->jk A R A9 aG ao r)->X->Z r\/w.heap.size<=r:=λN h=>.inl ((f _).2 (N h));have F:∀r,jk aM R (λq r=>C q r/\r<aa.heap.size) aG ao r->Z r\/w.heap.size<=r:=by
  intro r a;rcases a with a|a|⟨q,a,_⟩|a|a
  .exact (z.2.1 r a).elim (e .inl) .inr
  .exact e (λh=>.inr (.inl h)) a
  .exact (L q r a).elim (λ⟨G,h⟩=>e (λh=>.inr (.inr (.inl h))) ⟨G,j G r h⟩) λh=>.inr Ω
  .exact e (λh=>.inr (.inr (.inr (.inl h)))) a
  .exact e (λh=>.inr (.inr (.inr (.inr h)))) a
 exact⟨E,λr=>jk aM R (λq r=>C q r/\r<aa.heap.size) aG ao r,F,aM,R,_,bs,bD,K.olds,⟨iz E (λh=>x h.1) I,λh=>(F 0 h).elim x λh=>Ω⟩,H,λr=>Iff.rfl,λq r a=>a.2⟩
theorem lj.same(h:fg Z aG w ad ae ao n s)(a:Ext w I):lj Z aG w ad ae ao n s I:=⟨a.V _,Z,λ_ h=>.inl h,h.W a⟩
theorem lj.before(a:Ext w U)(h:lj Z aG U ad ae ao n s I):lj Z aG w ad ae ao n s I:=by
 obtain⟨c,lV,e,f⟩:=h;have:=a.size;exact⟨(a.V _).F c,lV,λr j=>(e r j).imp id λh=>Ω,f⟩
end
def vl(s:ak):Prop:=∀f∈s.d9,f.live≠0
theorem SG(n:aH):vl (cR n):=by
 intro f a;unfold cR at a;obtain⟨g,_,rfl⟩:=j5.1 a;exact(by decide:(1:Int)≠0)
theorem SH{a b:ak}(h:dE a b)(k:vl a):vl b:=by
 intro g q;obtain⟨j,e⟩:=List.getElem?_of_mem q;have r:=(x6.1 e).1;obtain⟨f,p⟩:=aD (l:=a.d9) (i:=j) (by have:=h.d9;omega);rw[(h.fn j f g p e).2.2.1];exact k f (x7 p)
section
variable{w:x5}{ad ae:Nat}{A R:ah}{n:aH}{s:ak}{t:az}{eM:x4}
end
def mN(w0 w:x5)(ad ae ao:Nat)(n:aH):Prop:=Ext w0 w/\∃s Z aG,fg Z aG w ad ae ao n s/\∀r,Z r->w0.heap.size<=r
section
variable{w0 w I:x5}{ad ae ao:Nat}{n:aH}{s:ak}{Z aG:ah}
theorem mN.W(h:mN w0 w ad ae ao n)(a:Ext w I):mN w0 I ad ae ao n:=by
 obtain⟨e,s,Z,aG,f,j⟩:=h;exact⟨e.F a,s,Z,aG,f.W a,j⟩
end
theorem fg.live{Z aG:ah}{ad ae ao:Nat}{n:aH}{s:ak}(h:fg Z aG w ad ae ao n s):vl s/\s.d9.length<=256:=by
 obtain⟨_,_,a,e⟩:=h.ok;refine⟨SH a (SG n),?_⟩;rw[a.d9];unfold cR;rw[r8];exact e
theorem Gd{n:aH}{s:ak}{i:Nat}{x:bn}(h:dE (cR n) s)(e:s.d6[i]?=σ x):x.gone=0:=by
 obtain⟨y,a⟩:=aD (l:=(cR n).d6) (i:=i) (by have:=(x6.1 e).1;have:=h.d6;omega);rw[(h.var i y x a e).1];unfold cR at a;simp only[u4,Y9]at a;obtain⟨u,_,rfl⟩:=a;rfl
section
variable{w:x5}{n:aH}{ad ae ao:Nat}
end
section
variable{w:x5}{ad ae:Nat}{A R:ah}{n:aH}{s:ak}{t:az}
theorem yY{i:Nat}{x:bn}(e:bd n.k n.co s)(a:s.d6[i]?=σ x)(f:v∈aC x):cv n s (i:Int) v=x.un.getD v.toNat 0:=by
 unfold cv;rw[ms (pI e a f),u9];unfold ff;rw[a]
theorem vm{i:Nat}{x:bn}(a:s.d6[i]?=σ x):bb s (i:Int)=aC x:=by
 unfold bb;rw[u9,a]
theorem SI{i:Nat}{x:bn}(e:bd n.k n.co s)(a:s.d6[i]?=σ x):dB n s (i:Int)=dZ n.k (aC x) λv=>x.un.getD v.toNat 0:=by
 unfold dB;rw[vm a];exact Su λv f=>yY e a f
end
section
variable{w:x5}{ad ae gy:Nat}{A R:ah}{A9:Nat->ah}{aG:ah}{n:aH}{s s0:ak}{t:az}{au:List az}{cs:List x4}
theorem SJ{i:Nat}{U:x4}{K:x5->Prop}(p:cb w ad ae gy A R A9 aG n s (de s s0 i 0) t au cs)(aX:Laid w)(ao:dE s0 s)(hi:i<n.co.length)(aY:U=Γ ad)(aZ:bd n.k n.co s0)(a2:∀I,cu w ad ae gy A R A9 aG n s t au (de s s0 (i+1) 0) I->K I):
  ei w λB=>
  ab v8 (u7 aI (Γ gy) 3) B λt22=>
  ab v8 (u6 ci t22) B λO=>
  al v8 Am [U,Δ (i:Int)] B λa6 H=>
   (Ext B H\/b2 v8 (u6 ci t22) O H/\b2 v8 (u7 aI (Γ gy) 3) t22 H/\True)/\
  al v8 Ap [a6] H λa7 J=>
   (Ext B J\/b2 v8 (u6 ci t22) O J/\b2 v8 (u7 aI (Γ gy) 3) t22 J/\True)/\
   al v8 Ao [a7] J λa8 G=>
    (Ext B G\/b2 v8 (u6 ci t22) O G/\b2 v8 (u7 aI (Γ gy) 3) t22 G/\True)/\
   ab v8 (c9 ci O (Δ (i:Int))) G λba=>
    aF v8 (l9 aq ba a8) G λ(_:Unit)x=>
    ab v8 (u7 aI (Γ gy) 5) x λbb=>
  ab v8 (u6 cZ bb) x λbe=>
  ab v8 (c9 cZ be (Δ (i:Int))) x λbf=>
  ab v8 (u6 aw bf) x λbg=>
  ab v8 (V0 #[aw] ai #[bg]) x λbh=>
  bW (Δ 0) x λP C bi=>
   ab v8 (aO .lss ai v6 v6 P bh) C λbj=>
   Split bj (ei C λE=>
   ab v8 (u7 aI (Γ gy) 5) E λW=>
   ab v8 (u6 cZ W) E λap=>
   ab v8 (c9 cZ ap (Δ (i:Int))) E λax=>
   ab v8 (u6 aw ax) E λt45=>
   al v8 wh [U,Δ (i:Int),P] E λt50 y=>
    (Ext E y\/b2 v8 (u6 aw ax) t45 y/\b2 v8 (u6 cZ W) ap y/\b2 v8 (u7 aI (Γ gy) 5) W y/\True)/\
   ab v8 (Y8 t50 0) y λbk=>
    ab v8 (Y8 t50 1) y λbM=>
    ab v8 (c9 aw t45 P) y λt53=>
    aF v8 (l9 av t53 bk) y λ(_:Unit)X=>
    ab v8 (aO .add ai v6 v2 P (Δ 1)) X λbl=>
   bi bl X)
   (K C):=by
 subst aY;have Q:=p.dA.2.2.2.1;have bN:=Q.d6;have bO:=aZ.d6;have ay:=ao.d6;have bP:=Q.ed.2.1;obtain⟨j,az⟩:=aD (l:=s0.d6) (i:=i) Ω;obtain⟨f,M⟩:=aD (l:=s.d6) (i:=i) Ω;obtain⟨z,Y⟩:=aD (l:=n.co) (i:=i) hi;obtain⟨bm,S⟩:=ao.var i j f az M;have bQ:=(Q.var _ f z M Y).1;have bR:=Q.ed.2.2 z (x7 Y);have aA:(de s s0 i 0).d6[i]?=σ j:=by
  show(dC s.d6 s0.d6 i)[i]?=_;rw[FI ay Ω];exact az
 intro B Z _ _;have aa:=p.W Z;have bo:=aX.W Z;obtain⟨bS,bT,bU,bp,bV,bX,bY,bq⟩:=FR aa aA;rw[aL aI.p 3 aa.box bp];refine(kC (i:=(i:Int)) aa.dA).Y ?_;rintro _ H _ ⟨⟨b0,b1,rfl,aB⟩,af⟩;refine⟨.inl af,?_⟩;refine nW.Y ?_;rintro _ J _ ⟨aH,bc,rfl,b3,ag⟩;refine⟨.inl (af.F aH),?_⟩;have aJ:=mD aB Ω (by rw[u9];exact M);have ah:=af.F aH;refine(DI (L:=aC f) (nV (g:=bc) aB.1) (λk vs w hk=>by
    obtain⟨v,aj,rfl⟩:=hk;exact⟨v,by rw[<-aJ,u4,aj];rfl,rfl⟩) (λa b N ac=>⟨ac.1.V N λh=>by have:=ag.lt;have h:=h;omega,iz N (λh=>by have h:=h;have:=ag.lt;omega) ac.2⟩) ⟨ag,bo.W ah⟩ (by rw[<-aJ,r8]) (by have:=vc f;omega)).Y ?_
 rintro _ G _ ⟨br,b4,b5,aK⟩;have aM:=ah.F br;refine⟨.inl aM,?_⟩;have b6:=ah.size;refine bq aM (by rw[Rw S];exact aK) (λr bs=>by obtain⟨b7,_⟩:=bZ aK bs;omega) λx d13=>?_;obtain⟨b8,b9,ca,aQ,cc⟩:=id d13;have aR:=(x6.1 aA).1;have aS:({de s s0 i 0 with d6:=(de s s0 i 0).d6.set i {j with mask:=f.mask}}:ak).d6[i]?=σ {j with mask:=f.mask}:=n9 aR;obtain⟨ce,cf,aT,bt,bu,am,_⟩:=sx aQ aS;have am:aN .i64 x aT j.un:=am;rw[aL aI.p 5 aQ.box bt,eS cZ.u aw.i (x6.1 aS).1 λ_=>rfl,aE (v:=aT) (o:=0+i*1) Ψ (by rw[X6,T0];exact bu),a1 aw.u am];have bw:cu w ad ae gy A R A9 aG n s t au {de s s0 i 0 with d6:=(de s s0 i 0).d6.set i {({j with mask:=f.mask}:bn)with un:=dC f.un j.un 0}} x:=cu.comp (Z.V _) (λq r h=>.inl ⟨q,h⟩) d13;refine bW.range j.un.length (λv C=>cu w ad ae gy A R A9 aG n s t au {de s s0 i 0 with d6:=(de s s0 i 0).d6.set i {({j with mask:=f.mask}:bn)with un:=dC f.un j.un v}} C) Ω bw ?_ ?_
 .rintro v C bA aj d14 bB;obtain⟨vk,cg,ch,bC,bD⟩:=id d14;obtain⟨c,N⟩:=aD (l:=f.un) (i:=v) Ω;refine bG Ω ?_;intro E aU _ _;have an:=bC.W aU;have aV:({de s s0 i 0 with d6:=(de s s0 i 0).d6.set i {({j with mask:=f.mask}:bn)with un:=dC f.un j.un v}}:ak).d6[i]?=σ {({j with mask:=f.mask}:bn)with un:=dC f.un j.un v}:=n9 aR;obtain⟨cj,ck,bE,bF,bH,cl,bI⟩:=sx an aV;rw[aL aI.p 5 an.box bF,eS cZ.u aw.i (x6.1 aV).1 λ_=>rfl,aE (v:=bE) (o:=0+i*1) Ψ (by rw[X6,T0];exact bH)];refine(px (i:=(i:Int)) (v:=(v:Int)) an.dA).Y ?_;rintro _ y _ ⟨rfl,aW⟩;refine⟨.inl aW,?_⟩;have bJ:et n i v:=⟨Ω,Ω,Ω,by rw[u9,u5,Y,W7];omega⟩;have bK:ff s (i:Int).toNat (v:Int).toNat=c:=by
   unfold ff;rw[u9,M,u9];show f.un.getD v 0=c;rw[u5,N];rfl
  rw[ms bJ,bK,bx,bz];refine bI aW (by show v<(dC f.un j.un v).length;rw[yJ S];exact aj) λX d17=>?_;rw[aP];refine bB _ ?_;have bL:=cu.comp vk bD (cu.comp (aU.V _) (λq r h=>.inl ⟨q,h⟩) d17.yO);have e:eH {de s s0 i 0 with d6:=(de s s0 i 0).d6.set i {({j with mask:=f.mask}:bn)with un:=dC f.un j.un v}} i {({j with mask:=f.mask}:bn)with un:=dC f.un j.un v} ((dC f.un j.un v).set v c)={de s s0 i 0 with d6:=(de s s0 i 0).d6.set i {({j with mask:=f.mask}:bn)with un:=dC f.un j.un (v+1)}}:=by
   unfold eH;simp only;rw[List.set_set,u2 S N]
  rw[<-e];exact bL
 .rintro C bA d14;refine cd Ω (a2 _ ?_);have e:({de s s0 i 0 with d6:=(de s s0 i 0).d6.set i {({j with mask:=f.mask}:bn)with un:=dC f.un j.un j.un.length}}:ak)=de s s0 (i+1) 0:=by
   rw[u1 S,Rv bm];show(⟨s.zero,(dC s.d6 s0.d6 i).set i f,dC s.d9 s0.d9 0,s0.eC⟩:ak)=_;rw[u2 ay M];rfl
  rw[<-e];exact d14
end
theorem set_self{α:Type}{l:List α}{i:Nat}{x:α}(h:l[i]?=σ x):l.set i x=l:=by
 refine X0 λj=>?_;by_cases e:i=j
 .subst e;rw[n9 (x6.1 h).1,h]
 .rw[Z6 e]
section
variable{w:x5}{ad ae gy:Nat}{A R:ah}{A9:Nat->ah}{aG:ah}{n:aH}{s s0:ak}{t:az}{au:List az}{cs:List x4}
theorem SK{m:Nat}{Y:x4}{K:x5->Prop}(p:cb w ad ae gy A R A9 aG n s (de s s0 m j) t au cs)(Z:dE s0 s)(aa:j<s0.d9.length)(aR:∀f∈s0.d9,f.live≠0)(aS:Y=Γ ad)(aV:∀I,cu w ad ae gy A R A9 aG n s t au (de s s0 m (j+1)) I->K I):
  ab v8 (u7 aI (Γ gy) 6) w λaX=>
  ab v8 (u6 du aX) w λaY=>
  ab v8 (c9 du aY (Δ (j:Int))) w λaZ=>
  ab v8 (u7 c0 aZ 0) w λt66=>
  ab v8 (u7 a7 t66 1) w λa1=>
  ab v8 (u6 aq a1) w λa2=>
  al v8 wg [a2] w λac B=>
  ab v8 (V0 #[ci] ai #[ac]) B λt70=>
  bW (Δ 0) B λC x a6=>
   ab v8 (aO .lss ai v6 v6 C t70) x λa8=>
   Split a8 (ab v8 (c9 ci ac C) x λba=>
   ab v8 (u6 aq ba) x λbb=>
   ei x λz=>
   ab v8 (u7 aI (Γ gy) 6) z λt77=>
   ab v8 (u6 du t77) z λaf=>
   ab v8 (c9 du af (Δ (j:Int))) z λag=>
   ab v8 (u7 c0 ag 0) z λL=>
   ab v8 (u7 a7 L 2) z λM=>
   ab v8 (u6 aw M) z λah=>
   al v8 Aq [Y,Δ (j:Int),bb] z λam a=>
    (Ext z a\/b2 v8 (u6 aw M) ah a/\b2 v8 (u7 a7 L 2) M a/\b2 v8 (u7 c0 ag 0) L a/\b2 v8 (u6 du t77) af a/\b2 v8 (u7 aI (Γ gy) 6) t77 a/\True)/\
   ab v8 (Y8 am 0) a λbc=>
    ab v8 (Y8 am 1) a λbM=>
    ab v8 (c9 aw ah C) a λbd=>
    aF v8 (l9 av bd bc) a λ(_:Unit)N=>
    ab v8 (aO .add ai v6 v2 C (Δ 1)) N λbe=>
   a6 be N)
   (K x):=by
 subst aS;have ao:=p.dA.2.2.2.1;have ap:=Z.d9;obtain⟨f0,O⟩:=aD (l:=s0.d9) aa;obtain⟨f1,E⟩:=aD (l:=s.d9) (i:=j) Ω;obtain⟨bf,ax,ay,P⟩:=Z.fn j f0 f1 O E;have bg:=aR f0 (x7 O);have bh:f1.live≠0:=by rw[ay];exact bg
 have az:=x7 E;obtain⟨bi,bj,_⟩:=ao.d9 f1 az;obtain⟨aA,bO⟩:=ld ao az;have bk:f1.aj.length=f1.sc.length:=by rw[bj];simp[bN]
 have Q:(de s s0 m j).d9[j]?=σ f0:=by
  show(dC s.d9 s0.d9 j)[j]?=_;rw[FI ap aa];exact O
 have bl:=(x6.1 Q).1;obtain⟨lc,bP,bQ,bR,bS,bT,bm,_,_,_,_,_,bn,_⟩:=p.look;rw[aL aI.p 6 bm rfl];refine kT (i:=j) rfl du.u c0.i bn (by rw[u4,Q];rfl) λb o bU G H=>?_;obtain⟨bV,bp,v3,rfl,h1,S,bX⟩:=om H;rw[aU c0.p rfl,aU a7.p rfl,aE Ψ (G 1 _ rfl)];have S:aN .i64 w bp f1.aj:=by rw[ax];exact en S
 refine(wR f1.aj S ⟨by rw[bk];exact bi.scope.2,aA⟩).Y ?_;rintro bq B _ ⟨U,W⟩;have bY:=U.size;rw[gR ci.u W];have bs:=p.olds.W U;have bt:cu B ad ae gy A R (λq r=>A9 q r/\r<w.heap.size) aG n s t au {de s s0 m j with d9:=(de s s0 m j).d9.set j {f0 with cs:=dC f1.cs f0.cs 0}} B:=by
  have e:({de s s0 m j with d9:=(de s s0 m j).d9.set j {f0 with cs:=dC f1.cs f0.cs 0}}:ak)=de s s0 m j:=by
   show({de s s0 m j with d9:=(de s s0 m j).d9.set j f0}:ak)=_;rw[set_self Q]
  rw[e];exact cu.same bs (Ext.refl _)
 have bZ:=p.box.lt;refine bW.range (bo f1.aj).length (λk x=>(cu B ad ae gy A R (λq r=>A9 q r/\r<w.heap.size) aG n s t au {de s s0 m j with d9:=(de s s0 m j).d9.set j {f0 with cs:=dC f1.cs f0.cs k}} x)/\Seen (λr=>w.heap.size<=r/\r<B.heap.size) x [bq] (bo f1.aj)) (oZ W) ⟨bt,p6 W λr G h=>⟨h.elim id False.elim,G⟩⟩ ?_ ?_
 .rintro k x bw hk ⟨d20,aB⟩ bA;obtain⟨bB,b0,b1,bC,aC⟩:=id d20;obtain⟨tl,aH⟩:=aD (l:=bo f1.aj) hk;obtain⟨c,H⟩:=aD (l:=f1.cs) (i:=k) Ω;have aJ:=kw aA aH;refine bG Ω ?_;refine jX rfl rfl ci.u aq.i Ψ aB aH λaT bD=>?_;intro z J _ _;have X:=bC.W J;have aK:({de s s0 m j with d9:=(de s s0 m j).d9.set j {f0 with cs:=dC f1.cs f0.cs k}}:ak).d9[j]?=σ {f0 with cs:=dC f1.cs f0.cs k}:=n9 bl;obtain⟨b3,cap,eW,e3,y,bE,bF,_,b4,bH⟩:=FP X aK;rw[aL aI.p 6 X.box bE,eS du.u c0.i (x6.1 aK).1 λ_=>rfl,aU c0.p rfl,aU a7.p rfl,aE Ψ (by rw[X6];exact bF 2 _ rfl)];refine(yg X.dA ((en (js bD)).W J)).Y ?_;rintro _ a _ ⟨rfl,aM⟩;refine⟨.inl aM,?_⟩;obtain⟨bI,bJ⟩:=yP E bh aJ;have bK:og s j tl=c:=by
   rw[bJ];unfold br;rw[aJ];simp only;rw[u9,u5,H];rfl
  rw[ms bI,bK,bx,bz];refine bH aM (by show k<(dC f1.cs f0.cs k).length;rw[yJ P];omega) λN d23=>?_;rw[aP];have aQ:=cu.comp bB aC (cu.comp (J.V _) (λq r h=>.inl ⟨q,h⟩) d23);have e:ea {de s s0 m j with d9:=(de s s0 m j).d9.set j {f0 with cs:=dC f1.cs f0.cs k}} j {f0 with cs:=dC f1.cs f0.cs k} ((dC f1.cs f0.cs k).set k c)={de s s0 m j with d9:=(de s s0 m j).d9.set j {f0 with cs:=dC f1.cs f0.cs (k+1)}}:=by
   unfold ea;simp only;rw[List.set_set,u2 P H]
  rw[e]at aQ;refine bA _ ⟨aQ,?_⟩;obtain⟨bL,b5,b6,b7,b8⟩:=id d23;refine an.V (bu aB J) bL λr G h aW=>?_;have h:=h.elim False.elim id;rcases aW with⟨q,aW⟩|aW
  .rcases aC q r aW with⟨b9,aW⟩|aW
   .have:=aW.2;omega
   .omega
  .have aW:r=gy:=aW;omega
 .rintro x bw ⟨d20,_⟩;refine cd Ω (aV _ ?_);have e:({de s s0 m j with d9:=(de s s0 m j).d9.set j {f0 with cs:=dC f1.cs f0.cs (bo f1.aj).length}}:ak)=de s s0 m (j+1):=by
   rw[show(bo f1.aj).length=f0.cs.length by omega,u1 P,Rx ⟨bf,ax,ay⟩];show(⟨s.zero,dC s.d6 s0.d6 m,(dC s.d9 s0.d9 j).set j f1,s0.eC⟩:ak)=_;rw[u2 ap E];rfl
  rw[<-e];exact cu.comp (U.V _) (λq r h=>.inl ⟨q,h.1⟩) d20
end
def Ge(w:x5)(pl:Λ)(r:x4)(I:x5):Prop:=Ext w I/\((∃cs:List x4,r= .tuple #[.pointer ν,.agg cs.toArray,.bool v6]/\cs.length=8/\∀u∈cs,u.oneCell'=v2)\/∃f ad ae ao Z aG s cs,r= .tuple #[Γ ad,.agg cs.toArray,.bool v2]/\gS (pl.take 300)=σ f/\(cf f).k<=1000/\
 fg Z aG I ad ae ao (cf f) s/\jL [] Z aG I ad ae ao (cf f) s s cs/\∀r,Z r->w.heap.size<=r)
section
variable{w:x5}{ad ae:Nat}{A R:ah}{n:aH}{s:ak}{t:az}
theorem SL{i:Nat}(h:bE w ad ae A R n s t)(f:Laid w)(e:lb n s (i:Int)=v2):al v8 Av [Γ ad,Δ (i:Int)] w λr I=>Ext w I/\r= .tuple #[Δ (dB n s (i:Int)).1,Δ (dB n s (i:Int)).2,Δ 0]:=by
 obtain⟨_,x,a,_⟩:=Fa h.2.2.2.1 e;rw[u9]at a;refine(QA h f).Y ?_;rintro r q _ ⟨j,_,p⟩;refine⟨j,?_⟩;rw[p x e (by rw[u9];exact a)];unfold dB;rw[vm a]
end
theorem SM{of:Int->Int}:(l=[]/\(dZ k l of).2= -1)\/(dZ k l of).2∈l:=by
 have key:∀(l:Λ)(p:Int×Int),(l.foldl (eZ of) p).2=p.2\/(l.foldl (eZ of) p).2∈l:=λl=>by
  induction l with
  |nil=>exact λp=>.inl rfl
  |cons v l a=>
   intro p;rw[V5];rcases a (eZ of p v)with h|h
   .rw[h];unfold eZ;split
    .exact .inr (.head _)
    .exact .inl rfl
   .exact .inr (.tail _ h)
 cases l with
 |nil=>exact .inl ⟨rfl,rfl⟩
 |cons v l=>
  right;unfold dZ;rw[V5];have e:eZ of (k,-1) v=(of v,v):=by unfold eZ;rw[ms (.inl rfl)]
  rw[e];rcases key l (of v,v)with h|h
  .rw[h];exact .head _
  .exact .tail _ h
def gx(s:ak):Nat:=(s.d6.map λx=>(aC x).length).sum
def eQ(k:Int)(s:ak):Nat:=gx s+(k-s.zero).toNat
theorem SN{l:List Nat}{i x y:Nat}(h:l[i]?=σ x):(l.set i y).sum+x=l.sum+y:=by
 induction l generalizing i with
 |nil=>simp at h
 |cons a l e=>
  cases i with
  |zero=>simp at h;subst h;rw[List.set_cons_zero,R6,R6];omega
  |succ i=>rw[List.set_cons_succ,R6,R6];have:=e (by simpa using h);omega
theorem Gf{s:ak}{i:Nat}{x y:bn}(a:s.d6[i]?=σ x):gx {s with d6:=s.d6.set i y}+(aC x).length=gx s+(aC y).length:=by
 unfold gx;rw[T2];exact SN (by rw[u4,a];rfl)
section
variable{n:aH}{s:ak}
theorem SO{x:bn}(hm:0<=x.mask)(h:v∈aC x):(aC {x with mask:=((x.mask.toNat ||| 2 ^ v.toNat:Nat):Int)}).length<(aC x).length:=by
 have a:=(e6.1 h).1.1;have f:((x.mask.toNat:Nat):Int)=x.mask:=Ω
 have e:aC {x with mask:=((x.mask.toNat ||| 2 ^ v.toNat:Nat):Int)}=(aC x).filter λu=>decide (u≠v):=by
  unfold aC;rw[List.filter_filter];refine List.filter_congr λu hu=>?_;obtain⟨q,_,rfl⟩:=j5.1 hu;simp only;rw[yt a Ω,f];cases dropped x.mask (q:Int)<;>simp
 rw[e];refine Nat.lt_of_le_of_ne (List.length_filter_le _ _) λhe=>?_;have:=(List.filter_eq_self).1 (List.filter_sublist.eq_of_length he) v h;simp at this
theorem SP{i:Int}(f:bd n.k n.co s)(p:b3 s):gv n.k n.co s (bg n.k s (eD i v)).1/\(bg n.k s (eD i v)).1.zero=s.zero/\(∀j u,cv n (bg n.k s (eD i v)).1 j u=cv n s j u)/\
  ((bg n.k s (eD i v)).2≠0->(bg n.k s (eD i v)).1=s/\∀x,dw s i v=σ x->ct n.k s.zero (x.un.getD v.toNat 0)<n.k)/\
  ((bg n.k s (eD i v)).2=0->gx (bg n.k s (eD i v)).1<gx s/\v∉bb (bg n.k s (eD i v)).1 i):=by
 have a:bg n.k s (eD i v)=match dw s i v with
  |none=>(s,1)
  |some x=>if ct n.k s.zero (x.un.getD v.toNat 0)<n.k then(s,7)else(dK s i.toNat v.toNat,0):=by
  unfold bg eD;simp only;rw[rc Ω,rc Ω,rc Ω,rc Ω,ms trivial];cases dw s i v<;>rfl
 cases ac:dw s i v with
 |none=>
  rw[ac]at a;rw[a];exact⟨.rfl f p,rfl,λ_ _=>rfl,λ_=>⟨rfl,λx e=>by cases e⟩,λh=>by cases h⟩
 |some x=>
  rw[ac]at a;simp only at a;obtain⟨C,e,E,r⟩:=jK ac;by_cases q:ct n.k s.zero (x.un.getD v.toNat 0)<n.k
  .rw[ms q]at a;rw[a];exact⟨.rfl f p,rfl,λ_ _=>rfl,λ_=>⟨rfl,λy z=>by cases z;exact q⟩,λh=>by cases h⟩
  .rw[rc q]at a;have w:=(e6.1 r).1;have A:(dK s i.toNat v.toNat).zero=s.zero:=by rw[kD e]
   have B:gv n.k n.co s (bg n.k s (eD i v)).1:=FH f p (by show 4<5;omega) (λj u hu=>by rw[a]at hu;exact((FE f e w.1).1 hu).1) (by rw[a];show s.zero<=(dK s i.toNat v.toNat).zero;omega);refine⟨B,by rw[a];exact A,λj u=>by rw[a];exact Rr e,λh=>ro (by rw[a]) h,λ_=>⟨?_,λhm=>?_⟩⟩
   .rw[a];show gx (dK s i.toNat v.toNat)<gx s;rw[kD e];have F:=(x6.1 e).1;have G:=f.d6;have h1:=f.var i.toNat x _ e (x8 Ω);have H:=SO h1.2.2.1 r;have:=Gf (s:=s) (y:={x with mask:=((x.mask.toNat ||| 2 ^ v.toNat:Nat):Int)}) e;omega
   .rw[a]at hm;exact((FE f e w.1).1 hm).2 rfl rfl
theorem yZ{i:Int}:∀(L:Λ)(s:ak)(b:Bool),bd n.k n.co s->b3 s->gv n.k n.co s (dl n.k i L (s,b)).1/\(dl n.k i L (s,b)).1.zero=s.zero/\(∀j u,cv n (dl n.k i L (s,b)).1 j u=cv n s j u)/\gx (dl n.k i L (s,b)).1<=gx s/\
  ((dl n.k i L (s,b)).2=v6->b=v6/\(dl n.k i L (s,b)).1=s)/\((dl n.k i L (s,b)).2=v2->b=v2\/gx (dl n.k i L (s,b)).1<gx s)/\
  ∀v∈L,v∈bb (dl n.k i L (s,b)).1 i->0<=i->∀x,s.d6[i.toNat]?=σ x->x.gone=0->ct n.k s.zero (cv n s i v)<n.k
 |[],s,b,f,q=>⟨.rfl f q,rfl,λ_ _=>rfl,o4 _,λh=>⟨h,rfl⟩,λh=>.inl h,λ_ h=>by cases h⟩
 |v::L,s,b,f,q=>by
  obtain⟨p,G,H,r,w⟩:=SP (i:=i) f q;have e:dl n.k i (v::L) (s,b)=dl n.k i L ((bg n.k s (eD i v)).1,decide ((bg n.k s (eD i v)).2=0)||b):=rfl;obtain⟨A,P,Q,I,R,S,T⟩:=yZ L (bg n.k s (eD i v)).1 (decide ((bg n.k s (eD i v)).2=0)||b) p.ok p.jj;rw[e];have J:gx (bg n.k s (eD i v)).1<=gx s:=by
   by_cases h:(bg n.k s (eD i v)).2=0
   .exact Nat.le_of_lt (w h).1
   .rw[(r h).1];exact o4 _
  refine⟨p.F A,P.F G,λj u=>(Q j u).F (H j u),X1 I J,λh=>?_,λh=>?_,λu hu B C x a K=>?_⟩
  .obtain⟨h1,E⟩:=R h;rw[U1,decide_eq_false_iff_not]at h1;rw[E];exact⟨h1.2,(r h1.1).1⟩
  .rcases S h with h1|h1
   .rw[Bool.or_eq_true,sp]at h1;rcases h1 with h1|h1
    .exact .inr (Nat.lt_of_le_of_lt I (w h1).1)
    .exact .inl h1
   .exact .inr (S4 h1 J)
  .rcases V7.1 hu with rfl|hu
   .by_cases h:(bg n.k s (eD i u)).2=0
    .exact ro (A.kf i u B) (w h).2
    .have M:u∈aC x:=by
      have h1:=p.kf i u (A.kf i u B);unfold bb at h1;rw[a]at h1;exact h1
     have U:dw s i u=σ x:=by
      unfold dw;rw[ms C,a];simp only;rw[ms ⟨K,M⟩]
     have E:=(r h).2 x U;have V:=(x6.1 a).1;have W:=f.d6;obtain⟨z,F⟩:=aD (l:=n.co) (i:=i.toNat) Ω;have aa:=(f.var i.toNat x z a F).1;have ab:=f.ed.2.2 z (x7 F);have X:=(e6.1 M).1;have Y:et n i u:=⟨C,Ω,X.1,by rw[u5,F,W7];omega⟩;have Z:cv n s i u=x.un.getD u.toNat 0:=by unfold cv ff;rw[ms Y,a]
     rw[Z];exact E
   .have N:=p.same;have V:=(x6.1 a).1;have W:=N.d6;obtain⟨y,O⟩:=aD (l:=(bg n.k s (eD i v)).1.d6) (i:=i.toNat) Ω;have h1:=N.var i.toNat x y a O;have:=T u hu B C y O (h1.1.F K);rw[G,H]at this;exact this
def pK(n:aH)(s:ak)(i:Int):Prop:=dr s i.toNat=v6->bb s i≠[]/\(dB n s i).1=0/\∀v∈bb s i,ct n.k s.zero (cv n s i v)<n.k
theorem y0{i:Int}(e:bd n.k n.co s):(dB n s i).2<0↔bb s i=[]:=by
 rcases SM with⟨h1,a⟩|h
 .unfold dB;rw[a];exact⟨λ_=>h1,λ_=>Φ⟩
 .have h:(dB n s i).2∈bb s i:=h;generalize (dB n s i).2=w at h;have f:0<=w:=by
   unfold bb at h;split at h
   .exact (e6.1 h).1.1
   .cases h
  refine⟨λa=>Ω,λa=>?_⟩;rw[a]at h;cases h
theorem SQ{i:Int}(f:bd n.k n.co s)(E:b3 s)(B:0<=i)(hi:i<n.co.length)(w:dr s i.toNat=v6)(F:bb s i≠[]):
  (bg n.k s (lT i (dB n s i).1)).2=0/\gv n.k n.co s (bg n.k s (lT i (dB n s i).1)).1/\gx (bg n.k s (lT i (dB n s i).1)).1=gx s/\(bg n.k s (lT i (dB n s i).1)).1.zero=min (s.zero+(dB n s i).1) n.k:=by
 have M:=f.d6;obtain⟨x,h⟩:=aD (l:=s.d6) (i:=i.toNat) Ω;have G:x.gone=0:=by unfold dr at w;rw[h]at w;simpa using w
 have C:bb s i=aC x:=by unfold bb;rw[h]
 have H:∀v∈aC x,cv n s i v=x.un.getD v.toNat 0:=λv r=>by
  obtain⟨z,p⟩:=aD (l:=n.co) (i:=i.toNat) Ω;have N:=(f.var i.toNat x z h p).1;have O:=f.ed.2.2 z (x7 p);have A:=(e6.1 r).1;have I:et n i v:=⟨B,hi,A.1,by rw[u5,p,W7];omega⟩;unfold cv ff;rw[ms I,h]
 have A:=FD (i:=i) f;have J:=(Rp (c:=(dB n s i).1) (Rq (i:=i) f)).1 (S0 _);have K:(dB n s i).1<=iO x:=Rk (by rw[<-C];exact F) λv r=>by
  have:=J.2 v (by rw[C];exact r);rw[H v r]at this;exact this
 have q:=(Rl (k:=n.k) (a:=lT i (dB n s i).1) B h G).2.1 rfl A K;have L:∀j u,u∈bb (bg n.k s (lT i (dB n s i).1)).1 j->u∈bb s j:=λj u hu=>by
  rw[q]at hu;have e:bb (ir s i.toNat x (λg=>cX n.k g (dB n s i).1) λg=>ct n.k g (dB n s i).1) j=bb s j:=Fz h rfl FC;have hu:u∈bb (ir s i.toNat x (λg=>cX n.k g (dB n s i).1) λg=>ct n.k g (dB n s i).1) j:=hu;rw[e]at hu;exact hu
 have p:(bg n.k s (lT i (dB n s i).1)).1.zero=min (s.zero+(dB n s i).1) n.k:=by rw[q];rfl
 have P:=f.zero;refine⟨by rw[q],FH f E (by show 2<5;omega) L (by rw[p];omega),?_,p⟩;rw[q];show gx (ir s i.toNat x _ _)=gx s;have:=Gf (s:=s) (y:={x with un:=eb (λg=>cX n.k g (dB n s i).1) x.un (aC x)}) h;rw[FC]at this;exact Nat.add_right_cancel this
theorem Gg{i:Int}{b:Bool}(j:bd n.k n.co s)(L:b3 s)(G:0<=i)(hi:i<n.co.length):gv n.k n.co s (e7 n i (s,b)).1/\eQ n.k (e7 n i (s,b)).1<=eQ n.k s/\
  ((e7 n i (s,b)).2.2=v2->dr s i.toNat=v6/\bb (e7 n i (s,b)).1 i=[])/\((e7 n i (s,b)).2.2=v6->(e7 n i (s,b)).2.1=v2->b=v2\/eQ n.k (e7 n i (s,b)).1<eQ n.k s)/\
  ((e7 n i (s,b)).2.2=v6->(e7 n i (s,b)).2.1=v6->b=v6/\(e7 n i (s,b)).1=s/\pK n s i):=by
 have W:=j.d6;obtain⟨x,w⟩:=aD (l:=s.d6) (i:=i.toNat) Ω;generalize a:e7 n i (s,b)=r;unfold e7 at a;simp only at a;by_cases z:dr s i.toNat=v2
 .rw[ms z]at a;subst a;exact⟨.rfl j L,o4 _,λh=>(by cases h),λ_ h=>.inl h,λ_ h=>⟨h,rfl,λH=>(by rw[z]at H;cases H)⟩⟩
 rw[rc z]at a;have A:dr s i.toNat=v6:=by simpa using z
 have I:x.gone=0:=by unfold dr at A;rw[w]at A;simpa using A
 obtain⟨f,B,Q,R,M,N,C⟩:=yZ (n:=n) (i:=i) (bb s i) s v6 j L;generalize dl n.k i (bb s i) (s,v6)=q at f B Q R M N C a;have J:eQ n.k q.1<=eQ n.k s:=by unfold eQ;rw[B];omega
 have S:dr q.1 i.toNat=v6:=by
  have X:=f.same.d6;obtain⟨y,O⟩:=aD (l:=q.1.d6) (i:=i.toNat) Ω;unfold dr;rw[O];simpa[(f.same.var _ x y w O).1]using I
 by_cases E:(dB n q.1 i).2<0
 .rw[ms E]at a;subst a;exact⟨f,J,λ_=>⟨A,(y0 f.ok).1 E⟩,λh=>(by cases h),λh=>(by cases h)⟩
 .have F:bb q.1 i≠[]:=λh=>E ((y0 f.ok).2 h);rw[rc E]at a;by_cases K:0<(dB n q.1 i).1
  .obtain⟨Y,T,U,V⟩:=SQ f.ok f.jj G hi S F;rw[ms K]at a;have Z:q.1.zero<n.k:=by
    obtain⟨v,p⟩:=List.exists_mem_of_ne_nil _ F;have h1:=C v (f.kf i v p) p G x w I;have H:=(pz (n:=n) (s:=s) (i:=i) (v:=v) j).1;rw[B];unfold ct at h1;omega
   have P:eQ n.k (bg n.k q.1 (lT i (dB n q.1 i).1)).1<eQ n.k s:=by
    refine S4 ?_ J;unfold eQ;rw[U,V];omega
   subst a;exact⟨f.F T,Nat.le_of_lt P,λh=>(by cases h),λ_ _=>.inr P,λ_ h=>(by cases h)⟩
  .rw[rc K]at a;subst a;refine⟨f,J,λh=>(by cases h),λ_ h=>?_,λ_ h=>?_⟩
   .have h:(q.2||b)=v2:=h;rw[Bool.or_eq_true]at h;rcases h with h|h
    .refine .inr ?_;have:=(N h).resolve_left Φ;show eQ n.k q.1<_;unfold eQ;rw[B];omega
    .exact .inl h
   .have h:(q.2||b)=v6:=h;rw[U1]at h;obtain⟨_,e⟩:=M h.1;rw[e]at K F C;have aa:=FD (i:=i) j;exact⟨h.2,e,λ_=>⟨F,Ω,λv p=>C v p p G x w I⟩⟩
theorem Gh:∀(L:List Nat)(s:ak)(b:Bool),bd n.k n.co s->b3 s->(∀i∈L,i<n.co.length)->gv n.k n.co s (gL n L (s,b)).1/\eQ n.k (gL n L (s,b)).1<=eQ n.k s/\
  ((gL n L (s,b)).2.2=v2->(gL n L (s,b)).2.1=v6/\∃i∈L,dr s i=v6/\bb (gL n L (s,b)).1 (i:Int)=[])/\((gL n L (s,b)).2.2=v6->(gL n L (s,b)).2.1=v2->b=v2\/eQ n.k (gL n L (s,b)).1<eQ n.k s)/\
  ((gL n L (s,b)).2.2=v6->(gL n L (s,b)).2.1=v6->b=v6/\(gL n L (s,b)).1=s/\∀i∈L,pK n s (i:Int))
 |[],s,b,w,B,_=>⟨.rfl w B,o4 _,λh=>(by cases h),λ_ h=>.inl h,λ_ h=>⟨h,rfl,λ_ hi=>by cases hi⟩⟩
 |i::L,s,b,w,B,C=>by
  obtain⟨e,z,A,G,H⟩:=Gg (i:=(i:Int)) (b:=b) w B Ω (by have:=C i (.head _);omega);rw[u9]at A;generalize f:gL n (i::L) (s,b)=r;unfold gL at f;generalize e7 n (i:Int) (s,b)=q at e z A G H f;by_cases p:q.2.2=v2
  .rw[ms p]at f;subst f;exact⟨e,z,λ_=>⟨rfl,i,.head _,(A p).1,(A p).2⟩,λh=>(by cases h),λh=>(by cases h)⟩
  .have I:q.2.2=v6:=by simpa using p
   rw[rc p]at f;subst f;obtain⟨P,J,Q,R,S⟩:=Gh L q.1 q.2.1 e.ok e.jj λj a=>C j (.tail _ a);refine⟨e.F P,X1 J z,λh=>?_,λh1 E=>?_,λh1 E=>?_⟩
   .obtain⟨h1,j,a,F,T⟩:=Q h;refine⟨h1,j,.tail _ a,?_,T⟩;have V:=C j (.tail _ a);have W:=w.d6;have X:=e.same.d6;obtain⟨x,K⟩:=aD (l:=s.d6) (i:=j) Ω;obtain⟨y,M⟩:=aD (l:=q.1.d6) (i:=j) Ω;unfold dr at F ⊢;rw[M]at F;rw[K];have:=(e.same.var j x y K M).1;simpa[this]using F
   .rcases R h1 E with h|h
    .rcases G I h with h|h
     .exact .inl h
     .exact .inr (Nat.lt_of_le_of_lt J h)
    .exact .inr (S4 h z)
   .obtain⟨U,N,O⟩:=S h1 E;obtain⟨f1,f2,f3⟩:=H I U;rw[f2]at N O;refine⟨f1,?_,λj a=>?_⟩
    .rw[f2];exact N
    .rcases V7.1 a with rfl|a
     .exact f3
     .exact O j a
theorem Gi(j:bd n.k n.co s)(p:b3 s):gv n.k n.co s (fv n s).1/\((fv n s).2.2=v2->(fv n s).2.1=v6/\∃i<n.co.length,dr s i=v6/\bb (fv n s).1 (i:Int)=[])/\
  ((fv n s).2.2=v6->(fv n s).2.1=v2->eQ n.k (fv n s).1<eQ n.k s)/\((fv n s).2.2=v6->(fv n s).2.1=v6->(fv n s).1=s/\∀i<n.co.length,pK n s (i:Int)):=by
 obtain⟨h1,_,q,r,f⟩:=Gh (X9 n.co.length) s v6 j p λi hi=>S2.1 hi;unfold fv;refine⟨h1,λh=>?_,λa e=>(r a e).resolve_left Φ,λa e=>⟨(f a e).2.1,λi hi=>(f a e).2.2 i (S2.2 hi)⟩⟩;obtain⟨w,i,hi,x⟩:=q h;exact⟨w,i,S2.1 hi,x⟩
end
section
variable{n:aH}{s:ak}
def jM(n:aH)(s:ak):Prop:=∀i<n.co.length,pK n s (i:Int)
theorem Gj{i:Int}(a:bd n.k n.co s)(p:0<=i):∀(L:Λ)(b:Bool),(∀v∈L,v∈bb s i/\ct n.k s.zero (cv n s i v)<n.k)->dl n.k i L (s,b)=(s,b)
 |[],_,_=>rfl
 |v::L,b,h=>by
  obtain⟨C,q⟩:=h v (.head _);have e:bg n.k s (eD i v)=(s,7)\/bg n.k s (eD i v)=(s,1):=by
   unfold bg eD;simp only;rw[rc Ω,rc Ω,rc Ω,rc Ω,ms trivial];cases ac:dw s i v with
   |none=>exact .inr rfl
   |some x=>
    obtain⟨_,f,_,r⟩:=jK ac;left;simp only;have E:=(x6.1 f).1;have F:=a.d6;obtain⟨z,j⟩:=aD (l:=n.co) (i:=i.toNat) Ω;have G:=(a.var i.toNat x z f j).1;have H:=a.ed.2.2 z (x7 j);have w:=(e6.1 r).1;have y:et n i v:=⟨p,Ω,w.1,by rw[u5,j,W7];omega⟩;have A:cv n s i v=x.un.getD v.toNat 0:=by unfold cv ff;rw[ms y,f]
    rw[A]at q;rw[ms q]
  have B:dl n.k i (v::L) (s,b)=dl n.k i L (s,b):=by
   show dl n.k i L ((bg n.k s (eD i v)).1,decide ((bg n.k s (eD i v)).2=0)||b)=_;rcases e with e|e<;>rw[e]<;>rfl
  rw[B];exact Gj a p L b λu hu=>h u (.tail _ hu)
theorem Gk(f:bd n.k n.co s):∀(L:List Nat),(∀i∈L,pK n s (i:Int))->gL n L (s,v6)=(s,v6,v6)
 |[],_=>rfl
 |i::L,h=>by
  have a:=h i (.head _);have e:e7 n (i:Int) (s,v6)=(s,v6,v6):=by
   unfold e7;by_cases p:dr s (i:Int).toNat=v2
   .rw[ms p]
   .rw[rc p];obtain⟨h1,w,q⟩:=a (by simpa using p);simp only;rw[Gj f Ω (bb s i) v6 λv a=>⟨a,q v a⟩];simp only;rw[rc (λh=>h1 ((y0 f).1 h)),rc Ω];rfl
  unfold gL;rw[e];simp only;rw[rc Φ];exact Gk f L λj r=>h j (.tail _ r)
theorem SR{i:Nat}(a:bd n.k n.co s)(h:jM n s)(hi:i<n.co.length)(e:dr s i=v6):s.zero<n.k:=by
 obtain⟨f,_,j⟩:=h i hi (by rw[u9];exact e);obtain⟨v,p⟩:=List.exists_mem_of_ne_nil _ f;have h1:=j v p;have q:=(pz (i:=(i:Int)) (v:=v) a).1;unfold ct at h1;omega
theorem zero_le{a:Λ}(e:bd n.k n.co s):s.zero<=eA n.k s a:=by
 rw[oj e];have h1:=pC _ (si (a:=a) e);have f:=pC _ (qG (a:=a) e);have h:=e.zero.2;split<;>omega
theorem SS{a:Λ}{i:Nat}(r:bd n.k n.co s)(q:iL s a)(hi:i<n.co.length)(f:dr s i=v6)(j:bb s (i:Int)=[]):eA n.k s a=n.k:=by
 have z:=r.d6;have A:=q.1;obtain⟨x,p⟩:=aD (l:=s.d6) (i:=i) Ω;obtain⟨bh,w⟩:=aD (l:=a) (i:=i) Ω;have y:x.gone=0:=by unfold dr at f;rw[p]at f;simpa using f
 have e:aC x=[]:=by unfold bb at j;rw[u9,p]at j;exact j
 exact Fp q p y w (by rw[e];exact λh=>by cases h)
end
theorem Gl:∀{l m:List Nat},l.length=m.length->(∀(i:Nat)x y,l[i]?=σ x->m[i]?=σ y->x<=y)->l.sum<=m.sum/\((∃(i:Nat)(x y:Nat),l[i]?=σ x/\m[i]?=σ y/\x<y)->l.sum<m.sum)
 |[],[],_,_=>⟨o4 _,λ⟨i,x,y,h,_⟩=>by simp at h⟩
 |[],_::_,h,_=>by simp at h
 |_::_,[],h,_=>by simp at h
 |a::l,b::m,h,j=>by
  obtain⟨r,p⟩:=Gl (by simpa using h) λi x y e f=>j (i+1) x y (by simpa using e) (by simpa using f);have s:=j 0 a b rfl rfl;rw[R6,R6];refine⟨Ω,λ⟨i,x,y,e,f,q⟩=>?_⟩;cases i with
  |zero=>simp at e f;omega
  |succ i=>
   have:=p ⟨i,x,y,by simpa using e,by simpa using f,q⟩;omega
theorem Gm{c:Nat}:∀{l:List Nat},(∀x∈l,x<=c)->l.sum<=l.length*c
 |[],_=>Ξ
 |a::l,h=>by
  have h1:=Gm λx e=>h x (.tail _ e);have f:=h a (.head _);rw[R6,Y0,U6];omega
def lk(M:Nat):List Nat->Nat
 |[]=>0
 |u::us=>(M-u)*(M+1) ^ us.length+lk M us
theorem y1{M:Nat}:∀us:List Nat,lk M us<(M+1) ^ us.length
 |[]=>by simp[lk]
 |u::us=>by
  have a:=y1 (M:=M) us;have h:(M-u)*(M+1) ^ us.length<=M*(M+1) ^ us.length:=X4 _ (Nat.sub_le _ _);unfold lk;rw[Y0,Nat.pow_succ,Nat.mul_comm ((M+1) ^ us.length),U6,Nat.one_mul];omega
theorem Gn{M:Nat}:∀(us vs:List Nat)(i:Nat),us.length=vs.length->(∀v∈vs,v<=M)->(∀(j:Nat)u v,j<i->us[j]?=σ u->vs[j]?=σ v->u<=v)->(∃u v,us[i]?=σ u/\vs[i]?=σ v/\u<v)->lk M vs<lk M us
 |[],_,_,_,_,_,⟨_,_,h,_⟩=>by simp at h
 |_::_,[],_,h,_,_,_=>by simp at h
 |a::us,b::vs,i,p,q,r,⟨u,v,hu,f,w⟩=>by
  have p:us.length=vs.length:=by simpa using p
  have key:a<b->lk M (b::vs)<lk M (a::us):=λs=>by
   have y:=q b (.head _);have h1:=y1 (M:=M) vs;unfold lk;rw[p];have x:(M-b+1)*(M+1) ^ vs.length<=(M-a)*(M+1) ^ vs.length:=X4 _ Ω;rw[U6,Nat.one_mul]at x;omega
  cases i with
  |zero=>
   simp at hu f;exact key Ω
  |succ i=>
   have z:=r 0 a b Ω rfl rfl;by_cases s:a<b
   .exact key s
   have e:a=b:=Ω
   have A:=Gn us vs i p (λv f=>q v (.tail _ f)) (λj u v B hu f=>r (j+1) u v Ω (by simpa using hu) (by simpa using f)) ⟨u,v,by simpa using hu,by simpa using f,w⟩;unfold lk;rw[e,p];omega
section
variable{n:aH}{s s':ak}
def ny(n:aH)(s:ak)(i:Nat):Nat:=((bb s (i:Int)).map λv=>(cv n s (i:Int) v).toNat).sum
def mO(n:aH)(s:ak):List Nat:=(X9 n.co.length).map (ny n s)
def pL(n:aH):Nat:=32*n.k.toNat
theorem SU{i:Nat}(a:bd n.k n.co s):ny n s i<=pL n:=by
 unfold ny pL;have h:=Gm (c:=n.k.toNat) (l:=(bb s (i:Int)).map λv=>(cv n s (i:Int) v).toNat) λx e=>by
  obtain⟨v,_,rfl⟩:=j5.1 e;have:=(pz (n:=n) (s:=s) (i:=(i:Int)) (v:=v) a).2;omega
 rw[r8]at h;exact X1 h (X4 _ (Ro a))
theorem Gp{i:Nat}(r:bd n.k n.co s)(z:bd n.k n.co s')(w:bb s' (i:Int)=bb s (i:Int))(h:∀v∈bb s (i:Int),cv n s (i:Int) v<=cv n s' (i:Int) v):ny n s i<=ny n s' i/\((∃v∈bb s (i:Int),cv n s (i:Int) v<cv n s' (i:Int) v)->ny n s i<ny n s' i):=by
 unfold ny;rw[w];have q:=Gl (l:=(bb s (i:Int)).map λv=>(cv n s (i:Int) v).toNat) (m:=(bb s (i:Int)).map λv=>(cv n s' (i:Int) v).toNat) (by rw[r8,r8]) λp x y e f=>by
  rw[u4]at e f;obtain⟨v,a,rfl⟩:=Y9.1 e;obtain⟨A,j,rfl⟩:=Y9.1 f;rw[a]at j;cases j;have:=h v (x7 a);omega
 refine⟨q.1,λ⟨v,a,B⟩=>q.2 ?_⟩;obtain⟨p,ac⟩:=X8.1 a;refine⟨p,(cv n s (i:Int) v).toNat,(cv n s' (i:Int) v).toNat,by rw[u4,ac];rfl,by rw[u4,ac];rfl,?_⟩;have:=(pz (i:=(i:Int)) (v:=v) r).1;omega
open Classical in
noncomputable def fG(n:aH)(s:ak):Nat:=(2*eQ n.k s+if jM n s then 1 else 0)*(pL n+1) ^ n.co.length+lk (pL n) (mO n s)
theorem Gq:lk (pL n) (mO n s)<(pL n+1) ^ n.co.length:=by
 have:=y1 (M:=pL n) (mO n s);unfold mO at this ⊢;rw[r8,List.length_range]at this;exact this
theorem Gr{a b f e:Nat}(h:a<b)(he:e<f):a*f+e<b*f+j:=by
 have:(a+1)*f<=b*f:=X4 _ h;rw[U6,Nat.one_mul]at this;omega
theorem SV(h:eQ n.k s'<eQ n.k s):fG n s'<fG n s:=by
 unfold fG;refine Gr ?_ Gq;split<;>split<;>omega
theorem Gs(h:eQ n.k s'=eQ n.k s)(a:jM n s)(e:¬jM n s'):fG n s'<fG n s:=by
 unfold fG;rw[ms a,rc e,h];exact Gr Ω Gq
theorem SX{i:Nat}(h:eQ n.k s'=eQ n.k s)(j:jM n s)(p:bd n.k n.co s)(f:bd n.k n.co s')(r:∀q,bb s' q=bb s q)(hi:i<n.co.length)(w:∀q:Nat,q<=i->∀v∈bb s (q:Int),cv n s (q:Int) v<=cv n s' (q:Int) v)(A:∃v∈bb s (i:Int),cv n s (i:Int) v<cv n s' (i:Int) v):fG n s'<fG n s:=by
 by_cases x:jM n s'
 .unfold fG;rw[ms j,ms x,h];have a:∀(s:ak)(q:Nat),q<n.co.length->(mO n s)[q]?=σ (ny n s q):=λs q y=>by unfold mO;rw[u4,List.getElem?_range y];rfl
  have z:∀s:ak,(mO n s).length=n.co.length:=λs=>by unfold mO;rw[r8,List.length_range]
  have:=Gn (mO n s) (mO n s') i (by rw[z,z]) (λv e=>by
   obtain⟨q,_,rfl⟩:=j5.1 e;exact SU f) (λq u v y hu e=>by
   rw[a s q Ω]at hu;rw[a s' q Ω]at e;cases hu;cases e;exact(Gp p f (r _) (w q Ω)).1) ⟨_,_,a s i hi,a s' i hi,(Gp p f (r _) (w i (o4 _))).2 A⟩
  omega
 .exact Gs h j x
end
def projM(j pos v c:Int):fF:=⟨0,j,pos,v,c⟩
def fZ(k:Int)(j pos:Nat)(p:ak×Bool)(v:Int):ak×Bool:=match dk p.1 j pos v with
 |none=>p
 |some (f,_,_)=>if 0<ee k p.1 f pos v then((bg k p.1 (projM j pos v (ee k p.1 f pos v))).1,v2)else p
def pM(k:Int)(j:Nat)(sc:Λ)(p:ak×Bool)(pos:Nat):ak×Bool:=(bb p.1 (sc.getD pos 0)).foldl (fZ k j pos) p
def eE(k:Int)(p:ak×Bool)(j:Nat):ak×Bool:=match p.1.d9[j]? with
 |some f=>(X9 f.sc.length).foldl (pM k j f.sc) p
 |none=>p
section
variable{n:aH}{s:ak}
theorem Gt{u:Nat}{f:cr}{x:bn}{i w:Int}{t un:Int->Int}(q:s.d6[u]?=σ x):cv n (fW s j f pos u x v t un) i w=if i.toNat=u/\w.toNat=v.toNat/\et n i w/\v.toNat<x.un.length then un (x.un.getD v.toNat 0)else cv n s i w:=by
 unfold cv;by_cases a:et n i w
 .rw[ms a,ms a];unfold ff;have e:(fW s j f pos u x v t un).d6=s.d6.set u {x with un:=x.un.set v.toNat (un (x.un.getD v.toNat 0))}:=rfl;rw[e,Y7];by_cases hi:u=i.toNat
  .subst hi;rw[ms rfl,ms (x6.1 q).1,q];dsimp only;by_cases hw:w.toNat=v.toNat
   .rw[hw];by_cases p:v.toNat<x.un.length
    .rw[ms ⟨rfl,rfl,a,p⟩,u5,n9 p];rfl
    .rw[rc λh=>p h.2.2.2,List.set_eq_of_length_le Ω]
   .rw[rc λh=>hw h.2.1,u5,Z6 Ω,<-u5]
  .rw[rc hi,rc λh=>hi h.1.symm]
 .rw[rc a,rc a,rc λh=>a h.2.2.1]
structure kH(n:aH)(s s':ak):Prop where
 ok:bd n.k n.co s'
 jj:b3 s'
 same:dE s s'
 val:∀a,iL s a->eA n.k s' a=eA n.k s a
 kf:∀i,bb s' i=bb s i
 zero:s'.zero=s.zero
 un:∀i u,cv n s i u<=cv n s' i u
theorem kH.rfl(a:bd n.k n.co s)(e:b3 s):kH n s s:=⟨a,e,.rfl,λ_ _=>Eq.refl _,λ_=>Eq.refl _,Eq.refl _,λ_ _=>S0 _⟩
theorem kH.F{a b c:ak}(h:kH n a b)(g:kH n b c):kH n a c:=
 ⟨g.ok,g.jj,h.same.F g.same,λx e=>(g.val x (yI h.same e)).F (h.val x e),λi=>(g.kf i).F (h.kf i),g.zero.F h.zero,λi u=>Int.le_trans (h.un i u) (g.un i u)⟩
def ox(n:aH)(s s':ak):Prop:=∃i:Nat,i<n.co.length/\∃v∈bb s (i:Int),cv n s (i:Int) v<cv n s' (i:Int) v
theorem ox.then{a b c:ak}(h:ox n a b)(g:kH n b c):ox n a c:=by
 obtain⟨i,hi,v,e,f⟩:=h;exact⟨i,hi,v,e,Int.lt_of_lt_of_le f (g.un _ _)⟩
theorem ox.of{a b c:ak}(h:kH n a b)(g:ox n b c):ox n a c:=by
 obtain⟨i,hi,v,e,f⟩:=g;exact⟨i,hi,v,by rw[<-h.kf];exact e,Int.lt_of_le_of_lt (h.un _ _) f⟩
def qM(n:aH)(s:ak):Prop:=∃i:Nat,i<n.co.length/\dr s i=v6/\∃v∈bb s (i:Int),cv n s (i:Int) v=n.k
theorem qM.aY{s':ak}(h:qM n s)(j:bd n.k n.co s)(hk:kH n s s'):qM n s':=by
 obtain⟨i,hi,a,v,p,hu⟩:=h;have q:=j.d6;have r:=hk.same.d6;obtain⟨x,e⟩:=aD (l:=s.d6) (i:=i) Ω;obtain⟨y,f⟩:=aD (l:=s'.d6) (i:=i) Ω;refine⟨i,hi,?_,v,by rw[hk.kf];exact p,?_⟩
 .unfold dr at a ⊢;rw[e]at a;rw[f];have:=(hk.same.var i x y e f).1;simpa[this]using a
 .have h1:=hk.un i v;have w:=(pz (i:=(i:Int)) (v:=v) hk.ok).2;omega
def mP(k:Int)(s:ak)(j pos:Nat)(v:Int):Int:=match dk s j pos v with
 |none=>0
 |some (f,_,_)=>ee k s f pos v
theorem Gu{f:cr}(a:bd n.k n.co s)(e:f∈s.d9):0<=ee n.k s f pos v/\ee n.k s f pos v<=n.k:=by
 have hk:=a.fs;exact⟨room_le.2 ⟨Ω,λt _=>(nx a e).1⟩,(room_le.1 (S0 _)).1⟩
theorem SY{b:Bool}(A:bd n.k n.co s)(H:b3 s):kH n s (fZ n.k j pos (s,b) v).1/\((fZ n.k j pos (s,b) v).2=v2->b=v2\/ox n s (fZ n.k j pos (s,b) v).1\/qM n (fZ n.k j pos (s,b) v).1)/\
  ((fZ n.k j pos (s,b) v).2=v6->b=v6/\(fZ n.k j pos (s,b) v).1=s/\mP n.k s j pos v=0):=by
 unfold fZ mP;simp only;cases ac:dk s (j:Int) (pos:Int) v with
 |none=>exact⟨.rfl A H,λh=>.inl h,λh=>⟨h,rfl,rfl⟩⟩
 |some q=>
  obtain⟨f,u,x⟩:=q;obtain⟨_,_,K,Z,hu,S⟩:=mH ac;obtain⟨aa,p,T,L⟩:=jK S;rw[u9]at K hu;have M:=x7 K;have N:=Gu (pos:=pos) (v:=v) A M;simp only;by_cases I:0<ee n.k s f pos v
  .rw[ms I];have q:=(Rj (k:=n.k) (a:=projM j pos v (ee n.k s f pos v)) ac).2.1 rfl N (by show _<=ee n.k s f (pos:Int).toNat v;rw[u9];exact S0 _);unfold projM at q;simp only[u9]at q;have hm:=yC (m:=projM j pos v (ee n.k s f pos v)) A H;have B:=yH (m:=projM j pos v (ee n.k s f pos v)) A;unfold projM at hm B ⊢;obtain⟨E,F,G⟩:=hm;have U:=(room_le).1 (S0 (ee n.k s f pos v));obtain⟨ab,ad⟩:=ld A M;have ae:=iP (v:=v.toNat) A p;have V:=(e6.1 L).1;generalize af:ee n.k s f pos v=c at q E F G B U N I;obtain⟨r,C⟩:∃r,r=fW s j f pos u.toNat x v (λg=>cX n.k g c) λg=>ct n.k g c:=⟨_,rfl⟩;rw[<-C]at q;rw[q]at E F G B ⊢;simp only at E F G B ⊢;refine⟨⟨E,F,B,λa W=>?_,λi=>by rw[C];exact FB p i,by rw[C];rfl,λi w=>?_⟩,λ_=>.inr ?_,λh=>(by cases h)⟩
   .have:=G a W;unfold ot at this;rw[rc Ξ]at this;exact this
   .rw[C,Gt p];split
    .rename_i h;obtain⟨h1,X,Y,ag⟩:=h;have e:cv n s i w=x.un.getD v.toNat 0:=by unfold cv ff;rw[ms Y,h1,p,X]
     rw[e];unfold ct;omega
    .exact S0 _
   .have ah:=(x6.1 p).1;have ai:=A.d6;obtain⟨z,J⟩:=aD (l:=n.co) (i:=u.toNat) Ω;have aj:=(A.var u.toNat x z p J).1;have ak:=A.ed.2.2 z (x7 J);have O:et n (u.toNat:Int) v:=⟨Ω,Ω,V.1,by rw[u9,u5,J,W7];omega⟩;have P:v∈bb s (u.toNat:Int):=by
     unfold bb;rw[u9,p];exact L
    have e:cv n s (u.toNat:Int) v=x.un.getD v.toNat 0:=by unfold cv ff;rw[ms O,u9,p]
    have Q:cv n r (u.toNat:Int) v=ct n.k (x.un.getD v.toNat 0) c:=by rw[C,Gt p,ms ⟨Ω,rfl,O,Ω⟩]
    by_cases hk:x.un.getD v.toNat 0<n.k
    .refine .inl ⟨u.toNat,Ω,v,P,?_⟩;rw[e,Q];unfold ct;omega
    .refine .inr ⟨u.toNat,Ω,?_,v,?_,?_⟩
     .obtain⟨y,R⟩:=aD (l:=r.d6) (i:=u.toNat) (by have:=B.d6;omega);unfold dr;rw[R];have:=(B.var u.toNat x y p R).1;simp[this,T]
     .rw[C,FB p];exact P
     .rw[Q];unfold ct;omega
  .rw[rc I];exact⟨.rfl A H,λh=>.inl h,λh=>⟨h,rfl,Ω⟩⟩
end
section
variable{n:aH}{s:ak}
def nz(n:aH)(s:ak)(b:Bool)(r:ak×Bool)(R:Prop):Prop:=kH n s r.1/\(r.2=v2->b=v2\/ox n s r.1\/qM n r.1)/\(r.2=v6->b=v6/\r.1=s/\R)
theorem nz.F{b:Bool}{r q:ak×Bool}{R:Prop}{R':ak->Prop}(h:nz n s b r R)(g:nz n r.1 r.2 q (R' r.1)):nz n s b q (R/\R' s):=by
 obtain⟨h1,j,p⟩:=h;obtain⟨g1,w,x⟩:=g;refine⟨h1.F g1,λa=>?_,λa=>?_⟩
 .rcases w a with h|h|h
  .rcases j h with h|h|h
   .exact .inl h
   .exact .inr (.inl (h.then g1))
   .exact .inr (.inr (h.aY h1.ok g1))
  .exact .inr (.inl (.of h1 h))
  .exact .inr (.inr h)
 .obtain⟨y,e,f⟩:=x a;obtain⟨f1,f2,f3⟩:=p y;rw[f2]at e f;exact⟨f1,e,f3,f⟩
theorem sE{α:Type}{step:ak×Bool->α->ak×Bool}{R:α->ak->Prop}(h:∀a s b,bd n.k n.co s->b3 s->nz n s b (step (s,b) a) (R a s)):
  ∀(L:List α)(s:ak)(b:Bool),bd n.k n.co s->b3 s->nz n s b (L.foldl step (s,b)) (∀a∈L,R a s)
 |[],s,b,e,f=>⟨.rfl e f,λh=>.inl h,λh=>⟨h,rfl,λ_ j=>by cases j⟩⟩
 |a::L,s,b,e,f=>by
  have h1:=h a s b e f;have p:=sE h L (step (s,b) a).1 (step (s,b) a).2 h1.1.ok h1.1.jj;obtain⟨q,r,w⟩:=nz.F (R':=λs=>∀a∈L,R a s) h1 p;refine⟨q,r,λx=>?_⟩;obtain⟨y,z,A,B⟩:=w x;exact⟨y,z,List.forall_mem_cons.2 ⟨A,B⟩⟩
theorem Gv{b:Bool}(a:bd n.k n.co s)(e:b3 s):nz n s b (eE n.k (s,b) j) (∀f,s.d9[j]?=σ f->∀pos∈X9 f.sc.length,∀v∈bb s (f.sc.getD pos 0),mP n.k s j pos v=0):=by
 unfold eE;simp only;cases x:s.d9[j]? with
 |none=>exact⟨.rfl a e,λh=>.inl h,λh=>⟨h,rfl,λ_ h=>by cases h⟩⟩
 |some f=>
  simp only;have h1:∀(pos:Nat)(s:ak)(b:Bool),bd n.k n.co s->b3 s->nz n s b (pM n.k j f.sc (s,b) pos) (∀v∈bb s (f.sc.getD pos 0),mP n.k s j pos v=0):=λpos s b a e=>
   sE (λv s b a e=>SY a e) (bb s (f.sc.getD pos 0)) s b a e
  obtain⟨q,r,p⟩:=sE h1 (X9 f.sc.length) s b a e;exact⟨q,r,λh=>⟨(p h).1,(p h).2.1,λg w=>by cases w;exact(p h).2.2⟩⟩
def vn(n:aH)(O:List Nat)(s:ak):Prop:=∀j∈O,∀f,s.d9[j]?=σ f->∀pos∈X9 f.sc.length,∀v∈bb s (f.sc.getD pos 0),mP n.k s j pos v=0
def ef(n:aH)(O:List Nat)(s:ak):ak×Bool×Bool:=if(fv n s).2.2=v2\/(fv n s).2.1=v2 then fv n s else((O.foldl (eE n.k) ((fv n s).1,v6)).1,(O.foldl (eE n.k) ((fv n s).1,v6)).2,v6)
theorem SZ{s':ak}(h:dE s s')(f:∀i,bb s' i=bb s i):gx s'=gx s:=by
 unfold gx;congr 1;refine X0 λi=>?_;rw[u4,u4];have j:=h.d6;by_cases hi:i<s.d6.length
 .obtain⟨x,a⟩:=aD (l:=s.d6) hi;obtain⟨y,e⟩:=aD (l:=s'.d6) (i:=i) Ω;have:=f (i:Int);unfold bb at this;rw[u9,a,e]at this;rw[a,e,Y3,Y3];exact congrArg (λl=>σ (Q2 l)) this
 .rw[Y5 Ω,Y5 Ω]
theorem Ta(a:bd n.k n.co s)(h:qM n s):¬jM n s:=λe=>by
 obtain⟨i,hi,f,v,j,hu⟩:=h;have:=(e i hi (by rw[u9];exact f)).2.2 v j;rw[hu]at this;unfold ct at this;have:=a.zero.1;omega
theorem kH.Tb{s':ak}(h:kH n s s'):gv n.k n.co s s':=⟨h.ok,h.jj,h.same,h.val,λi u hu=>by rw[h.kf]at hu;exact hu,by rw[h.zero];exact S0 _⟩
theorem y2(w:bd n.k n.co s)(z:b3 s):gv n.k n.co s (ef n O s).1/\((ef n O s).2.2=v2->(ef n O s).2.1=v6/\∃i<n.co.length,dr s i=v6/\bb (ef n O s).1 (i:Int)=[])/\
  ((ef n O s).2.2=v6->(ef n O s).2.1=v2->fG n (ef n O s).1<fG n s)/\((ef n O s).2.2=v6->(ef n O s).2.1=v6->(ef n O s).1=s/\jM n s/\vn n O s):=by
 obtain⟨h1,E,F,G⟩:=Gi w z;generalize f:ef n O s=r;unfold ef at f;by_cases p:(fv n s).2.2=v2\/(fv n s).2.1=v2
 .rw[ms p]at f;subst f;refine⟨h1,E,λhe x=>SV (F he x),λhe x=>?_⟩
  .rw[he,x]at p;simp at p
 .rw[rc p]at f;have he:(fv n s).2.2=v6:=by simpa using λh=>p (.inl h)
  have x:(fv n s).2.1=v6:=by simpa using λh=>p (.inr h)
  obtain⟨e,y⟩:=G he x;have y:=y;rw[e]at f;obtain⟨a,A,B⟩:=sE (λj s b w z=>Gv w z) O s v6 w z;generalize O.foldl (eE n.k) (s,v6)=q at a A B f;subst f;refine⟨a.Tb,λh=>(by cases h),λ_ h=>?_,λ_ h=>?_⟩
  .have C:eQ n.k q.1=eQ n.k s:=by unfold eQ;rw[SZ a.same a.kf,a.zero]
   show fG n q.1<fG n s;rcases(A h).resolve_left Φ with⟨i,hi,v,H,I⟩|J
   .exact SX C y w a.ok a.kf hi (λq _ v _=>a.un _ _) ⟨v,H,I⟩
   .exact Gs C y (Ta a.ok J)
  .obtain⟨_,K,L⟩:=B h;exact⟨K,y,L⟩
def jN(n:aH)(O:List Nat):Nat->ak->ak×Bool
 |0,s=>(s,v6)
 |f+1,s=>if(ef n O s).2.2=v2 then((ef n O s).1,v2)else if(ef n O s).2.1=v2 then jN n O f (ef n O s).1 else((ef n O s).1,v6)
theorem Gw{s':ak}{i:Nat}(h:dE s s')(hi:i<s.d6.length):dr s' i=dr s i:=by
 have f:=h.d6;obtain⟨x,a⟩:=aD (l:=s.d6) hi;obtain⟨y,e⟩:=aD (l:=s'.d6) (i:=i) Ω;unfold dr;rw[a,e];simp only;rw[(h.var i x y a e).1]
theorem vo{α:Type}{step:ak×Bool->α->ak×Bool}:∀(L:List α),(∀a∈L,step (s,v6) a=(s,v6))->L.foldl step (s,v6)=(s,v6)
 |[],_=>rfl
 |a::L,h=>by
  rw[V5,h a (.head _)];exact vo L λb e=>h b (.tail _ e)
theorem Tc(a:bd n.k n.co s)(h:jM n s)(p:vn n O s):ef n O s=(s,v6,v6):=by
 have e:fv n s=(s,v6,v6):=Gk a _ λi hi=>h i (S2.1 hi);have q:O.foldl (eE n.k) (s,v6)=(s,v6):=by
  refine vo O λj r=>?_;unfold eE;simp only;cases w:s.d9[j]? with
  |none=>rfl
  |some f=>
   simp only;refine vo _ λpos ac=>?_;unfold pM;refine vo _ λv y=>?_;have:=p j r f w pos ac v y;unfold mP at this;unfold fZ;simp only;split
   .rfl
   .rename_i g u x z;rw[z]at this;simp only at this;rw[rc Ω]
 unfold ef;rw[e,q];rfl
end
theorem Gx{P:Nat->Prop}:∀m,P m->∃m,P m/\∀k,P k->m<=k:=λm=>by
 induction m using Nat.strongRecOn with
 |ind m a=>
  intro hm;by_cases h:∃k,k<m/\P k
  .obtain⟨k,h1,e⟩:=h;exact a k h1 e
  .exact⟨m,hm,λk hk=>Nat.le_of_not_lt λf=>h ⟨k,f,hk⟩⟩
open Classical in
theorem bW.sink{B:x4->x5->(x4->x5->Prop)->Prop}(ax:Nat->x5->Prop){m:Nat}(q:ax m w)(J:∀(m:Nat)(a:x4)(I:x5)(k:x4->x5->Prop),ax m I->(∀bP a f,bP<m->ax bP f->k a f)->B a I k):bW a w B:=by
 have j:∀{w:x5},(∃m,ax m w)->∃m,ax m w/\∀k,ax k w->m<=k:=λ⟨m,h⟩=>Gx (P:=λm=>ax m _) m h;refine⟨λ_ w=>∃m,ax m w,λ_ w=>if h:∃m,ax m w then Classical.choose (j h)else 0,⟨m,q⟩,λa I p=>?_⟩;obtain⟨h1,r⟩:=Classical.choose_spec (j p);refine J _ a I _ h1 λbP _ f s e=>⟨⟨bP,e⟩,?_⟩;have x:=(Classical.choose_spec (j ⟨bP,e⟩)).2 bP e;show dite _ _ _<dite _ _ _;rw[dif_pos p,dif_pos ⟨bP,e⟩];omega
theorem Gy{k i:Int}:∀(L M:Λ)(p:ak×Bool),dl k i (L++M) p=dl k i M (dl k i L p)
 |[],_,_=>rfl
 |v::L,M,p=>by
  rw[List.cons_append,dl,dl];exact Gy L M _
theorem Td{i:Int}{L:Λ}{p:ak×Bool}(h:L[j]?=σ v):dl k i (L.take (j+1)) p=((bg k (dl k i (L.take j) p).1 (eD i v)).1,decide ((bg k (dl k i (L.take j) p).1 (eD i v)).2=0)||(dl k i (L.take j) p).2):=by
 rw[r9,h,j6,Gy];rfl
section
variable{au:List az}{w:x5}{ad ae:Nat}{A R:ah}{n:aH}{s:ak}{t:az}
theorem Te{i:Nat}{x:bn}(h:bE w ad ae A R n s t)(ab:Laid w)(aI:¬A 0)(aJ:eB au t)(z:s.d6[i]?=σ x):al v8 IB [Γ ad,Δ (i:Int)] w λr I=>r= .bool (dl n.k (i:Int) (aC x) (s,v6)).2/\cS au w ad ae A R n (dl n.k (i:Int) (aC x) (s,v6)).1 I:=by
 refine jr func99 ?_;refine bp λg1 U bf ap C=>?_;refine bp λaK aa bh ah E=>?_;have bi:=ag.lt C;have bj:=ag.lt E;refine bF dN.i λf bk bl aL aN=>?_;refine bt (o:=0) dN.i rfl rfl aN (by show 0<1;omega) λH aO bo O=>?_;have O:ag H f dN [.bool v6]:=O;have P:Ext aa H:=aL.put aO Ω;have C:ag H g1 eL [Γ ad]:=(ag.W C ah).W P;have E:ag H aK ai [Δ (i:Int)]:=ag.W E P;have aj:=(ap.F ah).F P;have bq:=ap.size;have br:=ah.size;have bu:=P.size;have bw:=C.lt;have bx:=E.lt;have bz:=O.lt;have ac:=qL ab;rw[aE (v:=Γ ad) Ψ (C.Qz rfl),aE (v:=Δ (i:Int)) Ψ (E.Qz rfl)];refine(kC (i:=(i:Int)) (h.W aj)).Y ?_;rintro _ bA _ ⟨⟨b,ak,rfl,Q⟩,aq⟩;refine(nW (b:=b) (n:=ak)).Y ?_;rintro _ q _ ⟨aP,J,rfl,bB,av⟩;have aw:=mD Q Ω (show s.d6[(i:Int).toNat]?=σ x by rw[u9];exact z);have L:=aq.F aP;have z5:=aq.size;have z46:=L.size;have bC:=av.lt;refine lx.old ⟨_,v6,kl,#[Γ J],_,_,_,_,λj I=>dM au w ad ae A R n w.heap.size (λr=>q.heap.size<=r) (dl n.k (i:Int) ((aC x).take j) (s,v6)).1 I/\af (λr=>r<w.heap.size\/q.heap.size<=r\/r=f) q I/\ag I f dN [.bool (dl n.k (i:Int) ((aC x).take j) (s,v6)).2],λ_ _ _=>False,rfl,(nV (g:=J) Q.1).s,?_,
  λ_ _ z h=>⟨h.1.W z,h.2.W z⟩,λ_ _ _ z h=>⟨h.1.W z,h.2.1.F (z.V _),h.2.2.W z⟩,λ_ _ _ _ _ h=>h,⟨av,ab.W (aj.F L)⟩,⟨dM.start h ab aI aJ (aj.F L) (o4 _),af.refl _ _,O.W L⟩,?_,?_,λ_ _ h=>h.elim,λ_ _ _ h=>h.elim⟩
 .rintro _ _ _ _ ⟨_,_,_,_,rfl⟩;rfl
 .rintro _ j _ bD ⟨ax,aQ⟩ ⟨bG,rfl,v,aR,aS⟩ ⟨S,W,X⟩;cases aS;intro aT M _ _;have aU:(aC x)[j]?=σ (v:Int):=by rw[<-aw,u4,aR];rfl
  have aY:∀{g:Nat}{e:o5}{cs:List x4},w.heap.size<=g->g<f->ag H g e cs->ag aT g e cs:=λaV aW aX=>((aX.W L).V W Ω).W M;have an:=Td (k:=n.k) (i:=(i:Int)) (p:=(s,v6)) aU;obtain⟨bH,bI,aZ,a1,a2,a6⟩:=S.sB;have ay:∀{B:x5}{c:x4}{d:Bool},d=(dl n.k (i:Int) ((aC x).take (j+1)) (s,v6)).2->ag B J b5 [.int .u64 b,Δ ak]->Laid B->dM au w ad ae A R n w.heap.size (λr=>q.heap.size<=r) (dl n.k (i:Int) ((aC x).take (j+1)) (s,v6)).1 B->af (λr=>r<w.heap.size\/q.heap.size<=r\/r=f) q B->ag B f dN [c]->
    ∀{K:Unit->x5->Prop},(∀y,(ag y J b5 [.int .u64 b,Δ ak]/\Laid y)/\(dM au w ad ae A R n w.heap.size (λr=>q.heap.size<=r) (dl n.k (i:Int) ((aC x).take (j+1)) (s,v6)).1 y/\af (λr=>r<w.heap.size\/q.heap.size<=r\/r=f) q y/\ag y f dN [.bool (dl n.k (i:Int) ((aC x).take (j+1)) (s,v6)).2])->K () y)->
    aF v8 (l9 dN (Γ f) (.bool d)) B K:=λ{B c d}Q Y G az aA a7{K}a8=>by
   subst Q;refine bt (o:=0) dN.i rfl rfl a7 Ξ λy Z bJ ba=>?_;have z9:=aA.size;exact a8 _ ⟨⟨Y.V Z λh=>by have h:J=f:=h;omega,iz Z (λh=>by have h:0=f:=h;omega) G⟩,az.own Z λr N=>by have N:r=f:=N;subst N;exact⟨Ω,Ω⟩,aA.F (Z.Y λr _ N=>.inr (.inr N)),ba⟩
  rw[aE (v:=Γ ad) Ψ ((aY Ω Ω C).Qz rfl),aE (v:=Δ (i:Int)) Ψ ((aY Ω Ω E).Qz rfl)];have bK:=W.size;refine(F8 (a:=eD (i:Int) (v:Int)) rfl (aZ.W M) (aQ.W M) a2 a1).Y ?_;rintro _ aB _ ⟨rfl,bb,aD,aM,bs,bc,aG,bd,bL⟩;rw[<-show(dl n.k (i:Int) ((aC x).take (j+1)) (s,v6)).1=(bg n.k (dl n.k (i:Int) ((aC x).take j) (s,v6)).1 (eD (i:Int) (v:Int))).1 by rw[an]]at aG;obtain⟨Y,G,az⟩:=a6 (D':=λr=>q.heap.size<=r) (jf M bb) ((Grow.W M).F bc) aG bd (λr h=>h) λr aV aW=>Ω
  have ao:ag aB f dN _:=X.V G Ω;rw[bm,am];have aH:af (λr=>r<w.heap.size\/q.heap.size<=r\/r=f) q aB:=W.F (G.Y λr _ h=>h.imp id .inl);refine⟨λhe=>?_,λhe=>?_⟩
  .have e:(dl n.k (i:Int) ((aC x).take (j+1)) (s,v6)).2=v2:=by rw[an,rs he,Bool.true_or]
   exact ay e.symm (ax.V G Ω) aD Y aH ao λy h=>⟨h.1,h.2,λh=>by cases h⟩
  .have e:(dl n.k (i:Int) ((aC x).take (j+1)) (s,v6)).2=(dl n.k (i:Int) ((aC x).take j) (s,v6)).2:=by rw[an,s2 he,Bool.false_or]
   rw[aE Ψ (ao.Qz rfl)];exact ay e.symm (ax.V G Ω) aD Y aH ao λy h=>⟨h.1,h.2,λh=>by cases h⟩
 .rintro k bM rfl ⟨S,W,X⟩;rw[Z0 (by rw[<-aw,r8];exact o4 _)]at S X;rw[aE Ψ (X.Qz rfl)];intro bN be _;exact⟨rfl,S.done be⟩
theorem Tf{N i:Nat}(h:i<N):(X9 N).drop i=i::(X9 N).drop (i+1):=by
 rw[W3 (by simpa using h),List.getElem_range]
def Gz(au:List az)(w:x5)(ad ae:Nat)(A R:ah)(n:aH)(q:ak×Bool×Bool)(r:x4)(I:x5):Prop:=r= .tuple #[.bool q.2.1,Δ (if q.2.2=v2 then 8 else 0)]/\cS au w ad ae A R n q.1 I
theorem Tg(h:bE w ad ae A R n s t)(ag:Laid w)(ah:¬A 0)(ai:eB au t)(aj:b3 s):al v8 H0 [Γ ad] w (Gz au w ad ae A R n (fv n s)):=by
 have E:=h.2.2.2.1;have aL:=E.d6;have aM:=E.ed.2.1;refine aB func53 ?_;rw[dg eL.u];simp only[Y2,a6];refine(EY h).Y ?_;rintro _ U _ ⟨rfl,ak⟩;refine qT.range n.co.length (λi _ _ c aa=>∃s1 b,c= .bool b/\cS au w ad ae A R n s1 aa/\gv n.k n.co s s1/\fv n s=gL n ((X9 n.co.length).drop i) (s1,b)) Ω ⟨s,v6,rfl,cS.same h ag ah ai ak,.rfl E aj,rfl⟩ ?_ ?_
 .rintro i aN t3 _ aa an hi ⟨s1,b,rfl,hm,j,p⟩ ao;refine bG Ω ?_;obtain⟨aO,aQ,V,ap,aq,av,aw⟩:=hm.open;have aR:=j.ok.d6;obtain⟨x,W⟩:=aD (l:=s1.d6) (i:=i) Ω;rw[Tf hi,gL]at p;have ay:bb s1 (i:Int)=aC x:=vm W;refine Bz (λ_ _ r I=>r= .bool (e7 n (i:Int) (s1,b)).2.1/\(e7 n (i:Int) (s1,b)).2.2=v6/\cS au w ad ae A R n (e7 n (i:Int) (s1,b)).1 I) ?_ λax y=>?_
  .rintro _ _ _ aT ⟨rfl,he,az⟩;rw[aP];refine ao _ _ _ _ ⟨_,_,rfl,az,j.F (Gg (i:=(i:Int)) (b:=b) j.ok j.jj Ω Ω).1,?_⟩;rw[p,rc (by rw[he];decide)]
  refine(uO (i:=(i:Int)) V).Y ?_;rintro _ aU _ ⟨rfl,B⟩;rw[rs Ω,Q4,u9,b4];refine⟨λC=>?_,λC=>?_⟩
  .have e:e7 n (i:Int) (s1,b)=(s1,b,v6):=by unfold e7;rw[u9,ms C]
   rw[e]at y;exact y _ _ _ _ ⟨rfl,rfl,hm.W B⟩
  have f:e7 n (i:Int) (s1,b)=(let q:=dl n.k (i:Int) (aC x) (s1,v6);if(dB n q.1 (i:Int)).2<0 then(q.1,v6,v2)else if 0<(dB n q.1 (i:Int)).1 then((bg n.k q.1 (lT (i:Int) (dB n q.1 (i:Int)).1)).1,v2,v6)else(q.1,q.2||b,v6)):=by
   unfold e7;rw[u9,rc (by rw[C];decide),ay]
  have ac:=(yZ (i:=(i:Int)) (aC x) s1 v6 j.ok j.jj).1;simp only at f;generalize aA:dl n.k (i:Int) (aC x) (s1,v6)=q at f ac;refine aZ (λr I=>r= .bool (q.2||b)/\cS au w ad ae A R n q.1 I) ?_ λaV X=>?_
  rotate_left
  .refine (Te (V.W B) (ap.W B) aq av W).Y ?_;rintro _ aE _ ⟨rfl,Y⟩;rw[aA]at Y ⊢;have Z:cS au w ad ae A R n q.1 aE:=by
    obtain⟨G,H,J,K,L,M,N,O⟩:=Y;exact aw ⟨jf B G,H,J,K,(Grow.W B).F L,M,N,O⟩
   rw[b4];exact⟨λh=>X _ _ ⟨by rw[h,Bool.true_or],Z⟩,λh=>X _ _ ⟨by rw[h,Bool.false_or],Z⟩⟩
  rintro _ aW ⟨rfl,P⟩;obtain⟨aX,t5,ab,af,aF,aG,aH⟩:=P.open;have aI:dr q.1 i=v6:=by rw[Gw ac.same Ω];exact C
  have aJ:lb n q.1 (i:Int)=v2:=by
   unfold lb;rw[u9,aI,rs (show(0:Int)<=i/\(i:Int)<n.co.length by omega)];rfl
  refine(SL ab af aJ).Y ?_;rintro _ aY _ ⟨z,rfl⟩;rw[fN,fO,fP,aS,am];refine⟨λQ=>?_,λQ=>?_⟩
  .rw[ms Q]at f;rw[f,ms rfl]at p;rw[p];exact⟨rfl,P.W z⟩
  rw[rc Q]at f;rw[bU,am];refine⟨λS=>?_,λS=>?_⟩
  .rw[ms S]at f;rw[f]at y;refine(F7 (a:=lT (i:Int) (dB n q.1 (i:Int)).1) rfl (ab.W z) (af.W z) aF aG).Y ?_;rintro _ a1 _ ⟨_,aK⟩;refine y _ _ _ _ ⟨rfl,rfl,?_⟩;obtain⟨G,H,J,K,L,M,N,O⟩:=aK;exact aH ⟨jf z G,H,J,K,(Grow.W z).F L,M,N,O⟩
  .rw[rc S]at f;rw[f]at y;exact y _ _ _ _ ⟨rfl,rfl,P.W z⟩
 .rintro _ _ _ aa an ⟨s1,b,rfl,hm,j,p⟩;refine cd Ω ?_;rw[List.drop_eq_nil_of_le Ξ,gL]at p;rw[p];exact⟨rfl,hm⟩
end
theorem Th{b n:Nat}(a:ml b n):al v8 An [jZ b n] w λr I=>r=Δ (qK b:Int)/\Ext w I:=by
 have e:b<4294967296:=by
  have:=a.2;have:(2:Nat) ^ n<=2 ^ 32:=S5 Ω a.1;omega
 refine aB func26 ?_;refine bp λg U q f h=>?_;rw[aL b5.p 0 h rfl];refine(FY e).Y ?_;rintro _ aa _ ⟨rfl,j⟩;exact⟨rfl,f.F j⟩
section
variable{w:x5}{eM:x4}{n:aH}{s:ak}
theorem Ti{i:Nat}{x:bn}(f:bd n.k n.co s)(a:s.d6[i]?=σ x):pK n s (i:Int)↔(x.gone=0->aC x≠[]/\(dZ n.k (aC x) λv=>x.un.getD v.toNat 0).1=0/\∀v∈aC x,min (s.zero+x.un.getD v.toNat 0) n.k<n.k):=by
 unfold pK;rw[u9,vm a,SI f a];have q:dr s i=decide (x.gone≠0):=by unfold dr;rw[a]
 rw[q,decide_eq_false_iff_not];refine⟨λh r=>?_,λh r=>?_⟩
 .obtain⟨h1,j,p⟩:=h Ω;refine⟨h1,j,λv e=>?_⟩;have:=p v e;rw[yY f a e]at this;exact this
 .obtain⟨h1,j,p⟩:=h Ω;refine⟨h1,j,λv e=>?_⟩;rw[yY f a e];exact p v e
end
structure Tj(P:ak->Prop)(n:aH)(s:ak)(q:ak×Bool):Prop where
 aY:gv n.k n.co s q.1
 emp:q.2=v2->∃i<n.co.length,dr q.1 i=v6/\bb q.1 (i:Int)=[]
 UL:q.2=v6->jM n q.1/\P q.1
 quiet:jM n s->P s->q=(s,v6)
section
variable{au:List az}{w:x5}{ad ae:Nat}{A R:ah}{n:aH}{s:ak}{t:az}
end
section
variable{w:x5}{eM:x4}{n:aH}{s:ak}
end
section
variable{w:x5}{ad ae ao:Nat}{A R:ah}{A9:Nat->ah}{aG:ah}{n:aH}{s s0:ak}{t:az}{au:List az}{cs:List x4}
theorem Tk(p:cb w ad ae ao A R A9 aG n s s0 t au cs)(an:Laid w)(H:dE s0 s)(J:bd n.k n.co s0)(aJ:∀f∈s0.d9,f.live≠0)(aK:s0.d9.length<=1000)(aM:s0.eC.length<=1000):
  al v8 HL [Γ ad,.agg cs.toArray] w λr I=>Ext w I/\∃e bD,r= .agg bD.toArray/\ia v2 e aG I bD n.k n.co s/\∀q r,e q r->w.heap.size<=r:=by
 have bm:=J.ed.2.1;have bn:=J.d6;obtain⟨aN,bo⟩:=bB.len p.doc;have bq:=qL an;refine aB func11 ?_;refine bp λg1 U br ap P=>?_;have P:ag U g1 aI cs:=P;refine bF aI.i λgt aa bs av aw=>?_;have L:=ap.F av;rw[bC aI.p aI.i aN (P.W av).range];refine(QX (p.doc.W L) (λr a=>by have:=(p.read r a).2.1;have:=L.size;omega) J aK aM).Y ?_;rintro _ x _ ⟨Q,e,bD,rfl,ax,B⟩;obtain⟨aQ,aR⟩:=bB.len ax;have bt:=L.size;have bu:=ap.size;have z3:=Q.size;have lt:=aw.lt;refine bF aI.i λgy bw bx aS aT=>?_;refine b6 (vs:=bD) aI.i aQ rfl aR aT λy aV bz ay=>?_;have M:Ext x y:=aS.put aV Ω;have S:=(L.F Q).F M;have bA:=M.size;have bE:=ay.lt;have az:cb y ad ae gy A R (λq r=>e q r/\r<x.heap.size) aG n s s0 t au bD:=by
  have N:=p.W S;refine⟨N.dA,N.im,ay,(bB.old ax).W M,λq r a=>⟨λh=>?_,λh=>?_,by have:=a.2;omega⟩,λr a=>⟨(N.read r a).1,(N.read r a).2.1,by have:=(p.read r a).2.1;omega⟩,λh=>?_,λh=>?_⟩
  .have:=nv p.dA r (.inl h);have:=B q r a.1;omega
  .have:=nv p.dA r (.inr h);have:=B q r a.1;omega
  .have:=nv p.dA gy (.inl h);omega
  .have:=nv p.dA gy (.inr h);omega
 refine(pw az.dA).Y ?_;rintro _ bH _ ⟨rfl,aA⟩;have aX:=az.W aA;rw[aU aI.p rfl];refine FQ aX λaY d7=>?_;have aC:cu y ad ae gy A R (λq r=>e q r/\r<x.heap.size) aG n s t au (de s s0 0 0) aY:=cu.comp (aA.V _) (λq r h=>.inl ⟨q,h⟩) d7;obtain⟨bI,bJ,bK,aZ,bL⟩:=id aC;obtain⟨lc,bM,bN,bO,bP,bQ,a2,a6,_⟩:=aZ.look;rw[aL aI.p 1 a2 rfl,a1 aq.u a6];have a7:∀{z:x5},af (λr=>(∃q,e q r/\r<x.heap.size)\/r=gy) y z->Laid z:=λa8=>iz a8 (λh=>by
  rcases h with⟨q,h,_⟩|h
  .have:=B q 0 h;omega
  .omega) (an.W S)
 refine bW.range n.co.length (λi z=>cu y ad ae gy A R (λq r=>e q r/\r<x.heap.size) aG n s t au (de s s0 i 0) z) Ω aC ?_ ?_
 .rintro i z C hi d8 W;obtain⟨X,ba,bb,Y,aD⟩:=id d8;refine bG Ω ?_;refine SJ (K:=λZ=>ab v8 (aO .add ai v6 v2 (Δ (i:Int)) (Δ 1)) Z λt55=>C t55 Z) Y (a7 X) H hi rfl J λZ d14=>?_;rw[aP];exact W _ (cu.comp X aD d14)
 rintro z C d8;refine cd Ω ?_;obtain⟨X,ba,bb,Y,aD⟩:=id d8;obtain⟨_,_,_,_,bR,_,bc,_,_,_,_,_,be,_⟩:=Y.look;have bf:(de s s0 n.co.length 0).d9.length=s0.d9.length:=yJ H.d9;rw[aL aI.p 6 bc rfl,gR du.u be,r8,bf];refine bW.range s0.d9.length (λj O=>cu y ad ae gy A R (λq r=>e q r/\r<x.heap.size) aG n s t au (de s s0 n.co.length j) O) Ω d8 ?_ ?_
 .rintro j O C bg d18 W;obtain⟨E,ac,ah,G,aj⟩:=id d18;refine bG Ω ?_;refine SK (K:=λak=>ab v8 (aO .add ai v6 v2 (Δ (j:Int)) (Δ 1)) ak λbh=>C bh ak) G H bg aJ rfl λak d20=>?_;rw[aP];exact W _ (cu.comp E aj d20)
 rintro O C d18;refine cd Ω ?_;rw[show n.co.length=s0.d6.length by omega,Ru H]at d18;obtain⟨E,ac,ah,G,aj⟩:=d18;obtain⟨am,bi⟩:=bB.len G.doc;have bS:=E.size;rw[bC aI.p aI.i am G.box.range];have aE:∀r,(∃q,e q r/\r<x.heap.size)\/r=gy->aa.heap.size<=r:=λr a=>by
  rcases a with⟨q,h,_⟩|h
  .exact B q r h
  .omega
 have bj:ag O gt aI _:=((aw.W Q).W M).V E λh=>by have:=aE gt h;omega
 refine b6 (vs:=ah) aI.i am rfl bi bj λbT aF bU bk=>?_;rw[fi aI.p aI.i am bk.range];have aH:∀q r,ac q r->aa.heap.size<=r:=λq r a=>by
  rcases aj q r a with⟨bl,h,_⟩|h
  .exact B bl r h
  .omega
 refine⟨(S.then E λr a h=>by have:=aE r h;omega).then aF λr a h=>by have h:r=gt:=h;omega,ac,ah,rfl,G.doc.V aF λr a h aW=>?_,λq r h=>by have:=aH q r h;omega⟩;have aW:r=gt:=aW;rcases h with⟨q,h⟩|h
 .have:=aH q r h;omega
 .have:=(p.read r h).2.1;omega
end
structure jO(n:Nat)(H:List (Int×Int))(P:Λ):Prop where
 len:P.length=n
 ac:∀(i:Nat)a,H[i]?=σ a->0<=a.2/\a.2<n/\P[a.2.toNat]?=σ (i:Int)
 pl:∀(x:Nat)i,P[x]?=σ i->i= -1\/∃(j:Nat)(a:Int×Int),i=(j:Int)/\H[j]?=σ a/\a.2=(x:Int)
section
variable{n:Nat}{H:List (Int×Int)}{P:Λ}
theorem jO.inj(h:jO n H P){i k:Nat}{a b:Int×Int}(f:H[i]?=σ a)(j:H[k]?=σ b)(e:a.2=b.2):i=k:=by
 have h1:=(h.ac i a f).2.2;have p:=(h.ac k b j).2.2;rw[e,p]at h1;have:=Z4 h1;omega
theorem jO.new(n:Nat):jO n [] (o6 n (-1)):=⟨Ξ,λi a h=>by simp at h,λx i h=>.inl (List.mem_replicate.1 (x7 h)).2⟩
theorem jO.swap(h:jO n H P){i k:Nat}{a b:Int×Int}(r:H[i]?=σ a)(q:H[k]?=σ b):jO n ((H.set i b).set k a) ((P.set b.2.toNat i).set a.2.toNat k):=by
 obtain⟨a0,C,M⟩:=h.ac i a r;obtain⟨E,F,N⟩:=h.ac k b q;have A:=(x6.1 r).1;have B:=(x6.1 q).1;have G:=h.len;refine⟨by rw[o7,o7];exact G,λj c f=>?_,λx v p=>?_⟩
 .rw[Y7]at f;by_cases s:k=j
  .subst s;rw[ms rfl,ms (by rw[o7];exact B)]at f;cases f;exact⟨a0,C,by rw[n9 (by rw[o7];omega)]⟩
  .rw[rc s,Y7]at f;by_cases w:i=j
   .subst w;rw[ms rfl,ms A]at f;cases f;refine⟨E,F,?_⟩;have O:a.2≠b.2:=λe=>s (h.inj r q e).symm;rw[Z6 Ω,n9 Ω]
   .rw[rc w]at f;obtain⟨fk,I,J⟩:=h.ac j c f;have h1:a.2≠c.2:=λe=>w (h.inj r f e);have Q:b.2≠c.2:=λe=>s (h.inj q f e);exact⟨fk,I,by rw[Z6 Ω,Z6 Ω];exact J⟩
 .rw[Y7]at p;by_cases y:a.2.toNat=x
  .rw[ms y,ms (by rw[o7];omega)]at p;cases p;exact .inr ⟨k,a,rfl,by rw[n9 (by rw[o7];exact B)],Ω⟩
  .rw[rc y,Y7]at p;by_cases z:b.2.toNat=x
   .rw[ms z,ms Ω]at p;cases p;have K:k≠i:=λe=>by
     subst e;rw[r]at q;cases q;exact y z
    exact .inr ⟨i,b,rfl,by rw[Z6 K,n9 A],Ω⟩
   .rw[rc z]at p;rcases h.pl x v p with e|⟨j,c,e,f,L⟩
    .exact .inl e
    .refine .inr ⟨j,c,e,?_,L⟩;rw[Z6 λe=>?_,Z6 λe=>?_]
     .exact f
     .subst e;rw[r]at f;cases f;omega
     .subst e;rw[q]at f;cases f;omega
theorem jO.push(h:jO n H P){x:Nat}{p:Int}(q:P[x]?=σ (-1)):jO n (H++[(p,(x:Int))]) (P.set x H.length):=by
 have r:=(x6.1 q).1;have w:=h.len;have z:∀(j:Nat)c,H[j]?=σ c->c.2≠(x:Int):=λj c a e=>by
  have:=(h.ac j c a).2.2;rw[e,u9,q]at this;have:=Z4 this;omega
 refine⟨by rw[o7];exact w,λj c a=>?_,λy v f=>?_⟩
 .by_cases A:j<H.length
  .rw[Y4 A]at a;obtain⟨fk,B,C⟩:=h.ac j c a;have:=z j c a;exact⟨fk,B,by rw[Z6 Ω];exact C⟩
  .rw[Z7 Ω]at a;have E:=(x6.1 a).1;rw[T5]at E;obtain rfl:j=H.length:=Ω
   rw[V2]at a;cases a;exact⟨by simp only;omega,by simp only;omega,by rw[u9,n9 r]⟩
 .rw[Y7]at f;by_cases s:x=y
  .subst s;rw[ms rfl,ms r]at f;cases f;exact .inr ⟨H.length,(p,(x:Int)),rfl,by rw[Z7 (o4 _),V2];rfl,rfl⟩
  .rw[rc s]at f;rcases h.pl y v f with e|⟨j,c,e,a,F⟩
   .exact .inl e
   .exact .inr ⟨j,c,e,by rw[Y4 (x6.1 a).1];exact a,F⟩
theorem jO.drop{a:Int×Int}(h:jO n (H++[a]) P):jO n H (P.set a.2.toNat (-1)):=by
 have w:=h.len;obtain⟨a0,C,E⟩:=h.ac H.length a (by rw[Z7 (o4 _),V2];rfl);refine⟨by rw[o7];exact w,λj c f=>?_,λy v p=>?_⟩
 .have q:=(x6.1 f).1;have r:(H++[a])[j]?=σ c:=by rw[Y4 q];exact f
  obtain⟨fk,x,z⟩:=h.ac j c r;have F:a.2≠c.2:=λe=>by
   have:=h.inj (i:=H.length) (k:=j) (a:=a) (by rw[Z7 (o4 _),V2];rfl) r e;omega
  exact⟨fk,x,by rw[Z6 Ω];exact z⟩
 .rw[Y7]at p;by_cases s:a.2.toNat=y
  .rw[ms s,ms Ω]at p;cases p;exact .inl rfl
  .rw[rc s]at p;rcases h.pl y v p with e|⟨j,c,e,f,A⟩
   .exact .inl e
   .by_cases q:j<H.length
    .rw[Y4 q]at f;exact .inr ⟨j,c,e,f,A⟩
    .rw[Z7 Ω]at f;have B:=(x6.1 f).1;rw[T5]at B;obtain rfl:j=H.length:=Ω
     rw[V2]at f;cases f;omega
theorem GA{i k:Nat}{a b:Int×Int}(e:H[i]?=σ a)(f:H[k]?=σ b):((H.set i b).set k a).Perm H:=by
 obtain⟨hi,rfl⟩:=x6.1 e;obtain⟨hk,rfl⟩:=x6.1 f;exact List.set_set_perm hi hk
def kI(H:List (Int×Int)):Λ:=H.map (·.2)
theorem GB{a:List (Int×Int)}(h:a.Perm H):(kI a).Perm (kI H):=h.map _
end
def ll(a:Int×Int):List x4:=[Δ a.1,Δ a.2]
def lY(i:Int):List x4:=[Δ i]
theorem y3(a:Int×Int):∀u∈ll a,u.oneCell'=v2:=by intro u hu;simp[ll]at hu;rcases hu with rfl|rfl<;>rfl
def eg(S:ah)(w:x5)(g:Nat)(H:List (Int×Int))(P:Λ):Prop:=
 (jO P.length H P/\H.length<=1000000)/\∃f a8 a e,ag w g dc [a,e]/\bj ll 2 cz w f a H/\bj lY 1 ai w a8 e P/\∀r,r=g\/lm a r\/lm e r->S r
section
variable{S X:ah}{w I:x5}{g:Nat}{H:List (Int×Int)}{P:Λ}
theorem eg.V(h:eg S w g H P)(f:af X w I)(j:∀r,r<w.heap.size->S r->¬X r):eg S I g H P:=by
 obtain⟨s,x,a8,y,z,h1,p,q,e⟩:=h;exact⟨s,x,a8,y,z,h1.V f (j _ h1.lt (e _ (.inl rfl))),p.V f λr a=>j r (by have:=p.lw a;omega) (e r (.inr (.inl a))),q.V f λr a=>j r (by have:=q.lw a;omega) (e r (.inr (.inr a))),e⟩
theorem eg.W(h:eg S w g H P)(a:Ext w I):eg S I g H P:=h.V (a.V λ_=>False) λ_ _ _ h=>h
theorem eg.Y(h:eg S w g H P)(j:∀r,r<w.heap.size->S r->X r):eg X w g H P:=by
 obtain⟨p,q,a8,s,x,h1,e,f,y⟩:=h;refine⟨p,q,a8,s,x,h1,e,f,λr a=>j r ?_ (y r a)⟩;rcases a with rfl|a|a
 .exact h1.lt
 .have:=e.lw a;omega
 .have:=f.lw a;omega
theorem vp{q a8:Nat}{e:x4}(h1:ag w g dc [a,e])(f:bj ll 2 cz w q a H)(h:bj lY 1 ai w a8 e P):¬lm a g/\¬lm e g/\(∀r,lm a r->¬lm e r)/\∀r,lm e r->¬lm a r:=by
 refine⟨cK f h1 Φ,cK h h1 Φ,λr j=>?_,λr j=>?_⟩
 .obtain⟨rfl,c,p⟩:=dY f j;exact cK h p Φ
 .obtain⟨rfl,c,p⟩:=dY h j;exact cK f p Φ
theorem vq{a8 x:Nat}{i:Int}(h:bj lY 1 ai w a8 a P)(e:P[x]?=σ i):w.cell? ⟨a8,x*1,ν⟩=σ (Δ i):=h.range e 0 _ rfl
theorem y4{a b:Int×Int}:al v8 JU [.agg (ll a).toArray,.agg (ll b).toArray] w λr I=>(∃c,r= .bool c)/\Ext w I:=by
 refine aB func221 ?_;refine bp λg1 U z x e=>?_;refine bp λy aa A s f=>?_;have j:=x.F s;have e:ag aa g1 cz (ll a):=ag.W e s;have f:ag aa y cz (ll b):=f;refine aZ (λr I=>(∃c,r= .bool c)/\Ext w I) (λ_ _ h=>h) λax q=>?_;rw[aL cz.p 0 e rfl,aL cz.p 0 f rfl,aS,am];refine⟨λ_=>q _ _ ⟨⟨_,rfl⟩,j⟩,λ_=>?_⟩;rw[aL cz.p 0 e rfl,aL cz.p 0 f rfl,bm,am];refine⟨λ_=>?_,λ_=>q _ _ ⟨⟨_,rfl⟩,j⟩⟩;rw[aL cz.p 1 e rfl,aL cz.p 1 f rfl,aS];exact q _ _ ⟨⟨_,rfl⟩,j⟩
theorem GC{i k:Nat}{a b:Int×Int}(h:eg S w g H P)(hi:H[i]?=σ a)(hk:H[k]?=σ b):al v8 AE [Γ g,Δ (i:Int),Δ (k:Int)] w λ_ I=>af S w I/\eg S I g ((H.set i b).set k a) ((P.set b.2.toNat i).set a.2.toNat k):=by
 have q:=(x6.1 hi).1;have s:=(x6.1 hk).1;refine aB func167 ?_;intro U J _ _;obtain⟨⟨z,hm⟩,Y,a8,K,L,h1,e,M,A⟩:=h.W J;obtain⟨a0,ax,ay⟩:=z.ac i a hi;obtain⟨az,aA,Z⟩:=z.ac k b hk;obtain⟨ab,ad,ae,ag⟩:=vp h1 e M;rw[aK dc.p 0 h1 rfl,aK dc.p 0 h1 rfl,aK dc.p 0 h1 rfl,cj rfl eF.u cz.i e s,bC cz.p cz.i rfl (e.range hk),
  aK dc.p 0 h1 rfl,cj rfl eF.u cz.i e q,bC cz.p cz.i rfl (e.range hi),cj rfl eF.u cz.i e q]
 refine xe (f:=ll) cz.i e rfl (y3 b) q λaa ah aC N=>?_;rw[cj rfl eF.u cz.i N (by rw[o7];exact s)];refine xe (f:=ll) cz.i N rfl (y3 a) (by rw[o7];exact s) λaF aj aG ak=>?_;intro O Q _ _;have B:af (λr=>lm K r) U O:=(ah.F aj).F (Q.V _);have x:=h1.V B ab;have y:=ak.W Q;have R:=M.V B ag;have am:((H.set i b).set k a)[i]?=σ b:=by
  rw[Y7];by_cases W:k=i
  .subst W;rw[hi]at hk;cases hk;rw[ms rfl,ms (by rw[o7];exact q)]
  .rw[rc W,n9 q]
 have an:((H.set i b).set k a)[k]?=σ a:=n9 (by rw[o7];exact s);have C:((H.set i b).set k a).length=H.length:=by rw[o7,o7]
 have aH:=z.len;rw[aK dc.p 1 x rfl,aK dc.p 0 x rfl,cj rfl eF.u cz.i y (by rw[C];exact q),aU cz.p rfl,aE Ψ (y.range am 1 _ rfl),
  aK dc.p 1 x rfl,aK dc.p 0 x rfl,cj rfl eF.u cz.i y (by rw[C];exact s),aU cz.p rfl,aE Ψ (y.range an 1 _ rfl),
  cj (i:=b.2.toNat) Ω aq.u ai.i R Ω]
 refine kZ (f:=lY) (j:=0) (a':=(i:Int)) ai.i rfl rfl R Z rfl Ω λaI ao aJ X=>?_;rw[cj (i:=a.2.toNat) Ω aq.u ai.i X (by rw[o7];omega)];obtain⟨c,ap⟩:=aD (l:=P.set b.2.toNat (i:Int)) (i:=a.2.toNat) (by rw[o7];omega);refine kZ (f:=lY) (j:=0) (a':=(k:Int)) ai.i rfl rfl X ap rfl Ω λau av aL aw=>?_;have E:af (λr=>lm L r) O au:=ao.F av;refine⟨(J.V _).F ((B.Y λr _ G=>A r (.inr (.inl G))).F (E.Y λr _ G=>A r (.inr (.inr G)))),⟨?_,by rw[C];exact hm⟩,Y,a8,K,L,x.V E ad,y.V E ae,aw,A⟩;rw[o7,o7];exact z.swap hi hk
end
section
variable{S X:ah}{w I:x5}{g:Nat}{H:List (Int×Int)}{P:Λ}
def mQ(S:ah)(w:x5)(g:Nat)(H:List (Int×Int))(P:Λ)(I:x5):Prop:=∃a e,af S w I/\eg S I g a e/\a.Perm H/\e.length=P.length
theorem mQ.W(h:mQ S w g H P I)(a:Ext I aa):mQ S w g H P aa:=by
 obtain⟨e,f,h1,j,p⟩:=h;exact⟨e,f,h1.F (a.V _),j.W a,p⟩
theorem mQ.swap{e:List (Int×Int)}{f:Λ}{i k:Nat}(q:af S w U)(h:eg S U g e f)(ac:e.Perm H)(r:f.length=P.length)(hi:i<e.length)(hk:k<e.length):
  al v8 AE [Γ g,Δ (i:Int),Δ (k:Int)] U λ_ I=>mQ S w g H P I:=by
 obtain⟨a,j⟩:=aD (l:=e) hi;obtain⟨b,p⟩:=aD (l:=e) hk;refine(GC h j p).Y ?_;rintro _ aa _ ⟨s,x⟩;exact⟨_,_,q.F s,x,(GA j p).F ac,by rw[o7,o7];exact r⟩
theorem GD{i:Nat}(h:eg S w g H P)(hi:i<H.length):al v8 Jh [Γ g,Δ (i:Int)] w λ_ I=>mQ S w g H P I:=by
 have hm:=h.1.2;refine aB func165 ?_;refine⟨λv U=>∃i:Nat,v=Δ (i:Int)/\i<H.length/\mQ S w g H P U,λv _=>(bX v).toNat,⟨i,rfl,hi,H,P,af.refl _ _,h,.refl _,rfl⟩,?_⟩;rintro _ U ⟨i,rfl,hi,j⟩;refine aZ (λv aa=>Ext U aa/\∃c,v= .bool c/\(c=v2->0<i)) ?_ λax z=>?_
 rotate_left
 .intro aa x _ _;rw[bU,am];refine⟨λq=>?_,λ_=>z _ _ ⟨x,_,rfl,λh=>by cases h⟩⟩;obtain⟨f,A,r,⟨⟨J,_⟩,K,a8,L,M,h1,e,N,O⟩,ac,s⟩:=j.W x;have B:=ac.length_eq;obtain⟨a,C⟩:=aD (l:=f) (i:=i) Ω;obtain⟨b,E⟩:=aD (l:=f) (i:=(i-1) / 2) Ω;rw[aK dc.p 0 h1 rfl,cj rfl eF.u cz.i e Ω,bC cz.p cz.i rfl (e.range C),aK dc.p 0 h1 rfl,dx,m1 Ω Ω,nN Ω,
   show(((i:Int)-1).tdiv 2)=(((i-1) / 2:Nat):Int) by rw[Int.tdiv_eq_ediv_of_nonneg Ω];omega,m1 Ω Ω,cj rfl eF.u cz.i e Ω,bC cz.p cz.i rfl (e.range E)]
  refine y4.Y ?_;rintro _ ak _ ⟨⟨c,rfl⟩,an⟩;exact z _ _ ⟨x.F an,c,rfl,λ_=>Ω⟩
 rintro _ aa ⟨x,c,rfl,q⟩;have Q:=j.W x;rw[b4];refine⟨λR=>?_,λ_=>?_⟩
 .have q:=q R;obtain⟨f,A,r,V,ac,s⟩:=Q;have B:=ac.length_eq;rw[dx,m1 Ω Ω,nN Ω,show(((i:Int)-1).tdiv 2)=(((i-1) / 2:Nat):Int) by rw[Int.tdiv_eq_ediv_of_nonneg Ω];omega,m1 Ω Ω];refine(mQ.swap r V ac s Ω Ω).Y ?_;rintro _ ak _ ao;rw[dx,m1 Ω Ω,nN Ω,show(((i:Int)-1).tdiv 2)=(((i-1) / 2:Nat):Int) by rw[Int.tdiv_eq_ediv_of_nonneg Ω];omega,m1 Ω Ω];refine⟨⟨(i-1) / 2,rfl,Ω,ao⟩,?_⟩;show(((i-1) / 2:Nat):Int).toNat<((i:Nat):Int).toNat;omega
 clear j x q;refine⟨λv U=>∃i:Nat,v=Δ (i:Int)/\i<H.length/\mQ S w g H P U,λv _=>H.length-(bX v).toNat,⟨i,rfl,hi,Q⟩,?_⟩;clear Q hi i;rintro _ W ⟨i,rfl,hi,j⟩;rw[fz,m1 Ω Ω,aP,m1 Ω Ω];refine⟨λv u X=>v=Δ (i:Int)/\∃k:Nat,u=Δ (k:Int)/\2*i+1<=k/\k<=2*i+3/\Ext W X,λ_ u _=>2*i+3-(bX u).toNat,⟨rfl,2*i+1,by congr 1,Ω,Ω,Ext.refl _⟩,?_⟩;rintro _ _ X ⟨rfl,k,rfl,ay,az,Y⟩;refine aZ (λv ag=>Ext X ag/\∃c,v= .bool c/\(c=v2->k<=2*i+2/\k<H.length)) ?_ λax z=>?_
 rotate_left
 .rw[fz,m1 Ω Ω,aP,m1 Ω Ω,lA,am];refine⟨λq=>?_,λ_=>z _ _ ⟨Ext.refl _,_,rfl,λh=>by cases h⟩⟩;obtain⟨f,A,r,⟨⟨J,_⟩,K,a8,L,M,h1,e,N,O⟩,ac,s⟩:=j.W Y;have B:=ac.length_eq;rw[aK dc.p 0 h1 rfl,ew eF.u e,aS];exact z _ _ ⟨Ext.refl _,_,rfl,λh=>⟨Ω,by have:=ty h;omega⟩⟩
 rintro _ ag ⟨ah,c,rfl,q⟩;rw[b4];refine⟨λR=>?_,λ_=>j.W (Y.F ah)⟩;obtain⟨aA,ap⟩:=q R;rw[fz,m1 Ω Ω,aP,m1 Ω Ω,dx,m1 Ω Ω,show 4*(i:Int)+3-(k:Int)=((4*i+3-k:Nat):Int) by omega];have aq:=Y.F ah;refine aZ (λv Z=>Ext W Z/\∃c,v= .bool c) ?_ λaC ai=>?_
 rotate_left
 .intro Z ab _ _;have ad:=aq.F ab;obtain⟨f,A,r,⟨⟨J,_⟩,K,a8,L,M,h1,e,N,O⟩,ac,s⟩:=j.W ad;have B:=ac.length_eq;rw[aK dc.p 0 h1 rfl,ew eF.u e,cP,am];refine⟨λ_=>ai _ _ ⟨ad,_,rfl⟩,λaE=>?_⟩;obtain⟨a,C⟩:=aD (l:=f) (i:=k) Ω;obtain⟨b,E⟩:=aD (l:=f) (i:=4*i+3-k) Ω;rw[aK dc.p 0 h1 rfl,cj rfl eF.u cz.i e Ω,bC cz.p cz.i rfl (e.range C),aK dc.p 0 h1 rfl,cj rfl eF.u cz.i e Ω,bC cz.p cz.i rfl (e.range E)];refine y4.Y ?_;rintro _ G _ ⟨⟨c,rfl⟩,y⟩;exact ai _ _ ⟨ad.F y,_,rfl⟩
 rintro _ Z ⟨ab,aF,rfl⟩;refine aZ (λv G=>Ext W G/\∃c,v= .bool c) ?_ λaG aj=>?_
 rotate_left
 .intro G y _ _;have ae:=ab.F y;rw[b4];refine⟨λ_=>?_,λ_=>aj _ _ ⟨ae,_,rfl⟩⟩;obtain⟨f,A,r,⟨⟨J,_⟩,K,a8,L,M,h1,e,N,O⟩,ac,s⟩:=j.W ae;have B:=ac.length_eq;obtain⟨a,C⟩:=aD (l:=f) (i:=k) Ω;obtain⟨b,E⟩:=aD (l:=f) (i:=i) Ω;rw[aK dc.p 0 h1 rfl,cj rfl eF.u cz.i e Ω,bC cz.p cz.i rfl (e.range C),aK dc.p 0 h1 rfl,cj rfl eF.u cz.i e Ω,bC cz.p cz.i rfl (e.range E)];refine y4.Y ?_;rintro _ au _ ⟨⟨c,rfl⟩,av⟩;exact aj _ _ ⟨ae.F av,_,rfl⟩
 rintro _ G ⟨y,aH,rfl⟩;rw[b4];refine⟨λ_=>?_,λ_=>?_⟩
 .obtain⟨f,A,r,V,ac,s⟩:=j.W y;have B:=ac.length_eq;refine(mQ.swap r V ac s Ω Ω).Y ?_;rintro _ au _ aw;refine⟨⟨k,rfl,ap,aw⟩,?_⟩;show H.length-((k:Nat):Int).toNat<H.length-((i:Nat):Int).toNat;omega
 .rw[aP,m1 Ω Ω];refine⟨⟨rfl,k+1,rfl,Ω,Ω,y⟩,?_⟩;show 2*i+3-((k:Int)+1).toNat<2*i+3-((k:Nat):Int).toNat;omega
theorem Tl(h:eg S w g H P):al v8 Ji [Γ g] w λr I=>r=Δ (H.length:Int)/\Ext w I:=by
 obtain⟨_,e,a8,f,j,h1,a,q,s⟩:=h;refine aB func166 ?_;rw[dg q5.u];simp only[Y2,a6];rw[aK dc.p 0 h1 rfl,ew eF.u a];exact⟨rfl,Ext.refl _⟩
theorem GF{x:Nat}{i:Int}(h:eg S w g H P)(e:P[x]?=σ i):al v8 Jg [Γ g,Δ (x:Int)] w λr I=>r= .bool (decide (0<=i))/\Ext w I:=by
 have f:=(x6.1 e).1;obtain⟨_,q,a8,s,y,h1,z,a,A⟩:=h;refine aB func164 ?_;refine aZ (λr I=>r= .bool (decide (0<=i))/\Ext w I) (λ_ _ h=>h) λax j=>?_;rw[wB q5.u];simp only[Y2,W6,bQ];rw[cP,am];refine⟨λ_=>?_,λh=>ro Ω h⟩;rw[aK dc.p 1 h1 rfl,ew aq.u a];refine bG Ω ?_;rw[aK dc.p 1 h1 rfl,cj rfl aq.u ai.i a f,aE Ψ (vq a e),cP];exact j _ _ ⟨rfl,Ext.refl _⟩
theorem Tm(h:eg S w g H P):al v8 IE [Γ g] w λr I=>Ext w I/\match H[0]? with
  |some a=>r= .tuple #[Δ a.2,Δ a.1,.bool v2]
  |none=>r= .tuple #[Δ 0,Δ 0,.bool v6]:=by
 refine aB func104 ?_;refine(Tl h).Y ?_;rintro _ U _ ⟨rfl,f⟩;rw[bm,am];refine⟨λs=>?_,λs=>?_⟩
 .rw[Y5 Ω];exact⟨f,rfl⟩
 .intro aa q _ _;obtain⟨_,x,a8,z,A,h1,e,B,C⟩:=(h.W f).W q;obtain⟨a,j⟩:=aD (l:=H) (i:=0) Ω;rw[aK dc.p 0 h1 rfl,cj (y:=0) (i:=0) rfl eF.u cz.i e Ω,aU cz.p rfl,aE Ψ (e.range j 1 _ rfl),
   aK dc.p 0 h1 rfl,cj (y:=0) (i:=0) rfl eF.u cz.i e Ω,aU cz.p rfl,aE Ψ (e.range j 0 _ rfl),j]
  exact⟨f.F q,rfl⟩
end
theorem Tn(l:Λ):l.flatMap lY=ints .i64 l:=by
 induction l with
 |nil=>rfl
 |cons a l e=>rw[V6,e];rfl
theorem To{α:Type}{L:List α}{a:α}{m:Nat}(h:L[m]?=σ a)(hm:L.length=m+1):L=L.take m++[a]:=by
 have e:=r9 (l:=L) (i:=m);rw[h,j6,Z0 Ω]at e;exact e
section
variable{S X:ah}{w I:x5}{g:Nat}{H:List (Int×Int)}{P:Λ}
theorem Tp{n:Nat}(O:n<=1000000)(B:∀r,w.heap.size<=r->S r):al v8 IC [Δ (n:Int)] w λr I=>∃g,r=Γ g/\Ext w I/\w.heap.size<=g/\eg S I g [] (o6 n (-1)):=by
 refine aB func101 ?_;rw[tm,show max (n:Int) 0=(n:Int) by omega];refine kq aq.u ai.i Ω Ω λa8 U P C E=>?_;have G:bj lY 1 ai U a8 (.slice (σ ⟨a8,0,ν⟩) n n) (o6 n 0):=⟨by rw[List.length_replicate,Tn];exact b0.full E Ξ (by simp[maxLen];omega),λa _=>rfl⟩;rw[dm (cs:=#[.slice ν 0 0,.slice (σ ⟨a8,0,ν⟩) n n]) Ψ];refine bp λg aa Q A x=>?_;have x:ag aa g dc [.slice ν 0 0,.slice (σ ⟨a8,0,ν⟩) n n]:=x;rw[aK dc.p 1 x rfl,ew aq.u (G.W A),List.length_replicate];have R:=C.size;have W:=A.size;have X:=x.lt;have Y:=E.lt;refine bW.range n (λi y=>bj lY 1 ai y a8 (.slice (σ ⟨a8,0,ν⟩) n n) (o6 i (-1)++o6 (n-i) 0)/\af (λr=>r=a8) aa y) Ω ⟨G.W A,af.refl _ _⟩ ?_ ?_
 .rintro i y H hi ⟨s,z⟩ J;refine bG Ω ?_;have K:ag y g dc _:=x.V z Ω;obtain⟨c,L⟩:=aD (l:=o6 i (-1:Int)++o6 (n-i) 0) (i:=i) Θ;rw[aK dc.p 1 K rfl,cj rfl aq.u ai.i s Θ];refine kZ (f:=lY) (j:=0) (a':=-1) ai.i rfl rfl s L rfl Ω λZ M ab N=>?_;rw[aP];refine J _ ⟨?_,z.F (M.Y λr _ q=>(s.lw q).1)⟩;have e:(o6 i (-1:Int)++o6 (n-i) 0).set i (-1)=o6 (i+1) (-1)++o6 (n-(i+1)) 0:=by
   rw[T4 _ _ Ξ,List.length_replicate,V2,show n-i=(n-(i+1))+1 by omega,List.replicate_succ,List.set_cons_zero,List.replicate_succ',T6];rfl
  rw[<-e];exact N
 .rintro y H ⟨s,z⟩;refine cd Ω ?_;rw[V2,List.replicate_zero,U2]at s;refine⟨g,rfl,(C.F A).then z λr q h=>Ω,Ω,⟨by rw[List.length_replicate];exact jO.new n,Ξ⟩,0,a8,_,_,x.V z Ω,bj.nil _ _ _ _ _,s,λr q=>?_⟩;rcases q with rfl|q|q
  .exact B _ Ω
  .exact (fm q).elim
  .exact B _ (by have:=(s.lw q).1;omega)
theorem Tq{x:Nat}{p:Int}(h:eg S w g H P)(G:P[x]?=σ (-1))(aW:H.length<1000000)(aX:P.length<=1000000)(aC:∀r,w.heap.size<=r->S r):al v8 ID [Γ g,Δ (x:Int),Δ p] w λ_ I=>∃J K,af S w I/\eg S I g J K/\J.Perm (H++[(p,(x:Int))])/\K.length=P.length:=by
 have L:=(x6.1 G).1;refine aB func102 ?_;rw[dg q5.u];simp only[Y2,a6];refine aZ (λv U=>w=U/\v= .bool v6) ?_ λax Q=>?_
 rotate_left
 .obtain⟨_,R,a8,W,A,h1,z,s,y⟩:=h;rw[aS,am];refine⟨λh=>Ω,λ_=>?_⟩;rw[aK dc.p 1 h1 rfl,ew aq.u s,cP,s2 Ω];exact Q _ _ ⟨rfl,rfl⟩
 rintro _ _ ⟨rfl,rfl⟩;rw[a6];refine c7 (λaa=>af S w aa/\eg S aa g (H++[(p,(x:Int))]) (P.set x H.length)) ?_ λax Q=>?_
 .rintro aa ⟨aD,aF⟩;intro aY ao _ _;obtain⟨⟨X,hm⟩,R,a8,W,A,h1,z,s,y⟩:=aF.W ao;obtain⟨Y,Z,ap,ab⟩:=vp h1 z s;have au:(P.set x (H.length:Int))[x]?=σ (H.length:Int):=n9 L;have aG:(H++[(p,(x:Int))])[H.length]?=σ (p,(x:Int)):=by rw[Z7 (o4 _),V2];rfl
  rw[aK dc.p 0 h1 rfl,aK dc.p 1 h1 rfl,cj rfl aq.u ai.i s (by rw[o7];exact L),aE Ψ (vq s au),cj rfl eF.u cz.i z Ξ,aU cz.p rfl];refine kZ (f:=ll) (j:=0) (a':=(p,(x:Int))) av.i rfl rfl z aG rfl Ω λaw ad a1 ay=>?_;have az:eg S aw g (H++[(p,(x:Int))]) (P.set x H.length):=by
   have e:(H++[(p,(x:Int))]).set H.length (p,(x:Int))=H++[(p,(x:Int))]:=by rw[T4 _ _ (o4 _),V2];rfl
   rw[e]at ay;exact⟨⟨X,hm⟩,R,a8,W,A,h1.V ad Y,ay,s.V ad ab,y⟩
  have aH:af S w aw:=(aD.F (ao.V _)).F (ad.Y λr _ q=>y r (.inr (.inl q)));obtain⟨_,a2,a7,ba,bb,B,M,C,_⟩:=id az;rw[aK dc.p 1 B rfl,cj rfl aq.u ai.i C (by rw[o7];exact L),aE Ψ (vq C au)];refine(GD az Ξ).Y ?_;rintro _ bc _ ⟨J,K,aI,aJ,ac,aL⟩;exact⟨J,K,aH.F aI,aJ,ac,by rw[aL,o7]⟩
 refine(GF h G).Y ?_;rintro _ bd _ ⟨rfl,aM⟩;rw[bM,s2 Ω,W6,bQ];intro be aN _ _;have ae:=aM.F aN;have bf:=ae.size;obtain⟨⟨X,hm⟩,R,a8,W,A,h1,z,s,y⟩:=h.W ae;obtain⟨Y,Z,ap,ab⟩:=vp h1 z s;rw[aK dc.p 1 h1 rfl,aK dc.p 0 h1 rfl,ew eF.u z,cj rfl aq.u ai.i s L];refine kZ (f:=lY) (j:=0) (a':=(H.length:Int)) ai.i rfl rfl s G rfl Ω λbg N bh aO=>?_;have B:=h1.V N Z;have M:=z.V N ap;rw[aK dc.p 0 B rfl,dm (cs:=#[Δ p,Δ (x:Int)]) Ψ];refine jc (f:=ll) (a:=(p,(x:Int))) eF.u cz.i Ω rfl rfl λv9 bi bj bk E aP=>?_;have B:=B.W E;have M:=M.W E;have C:=aO.W E;refine jC eF.u cz.i rfl M (by simpa using aP.sl) (y3 _) Ω Ω λah aQ bl O aR aj=>?_;rw[bY,aU dc.p rfl];have aA:=B.V aj Y;have C:=C.V aj ab;refine bt eF.i (ez O.sl).1 (ez O.sl).2 aA Ξ λaT ak bm an=>?_;have an:ag aT g dc [ah,A]:=an;have bn:=N.size;have bo:=E.size;have aV:∀r,r=g\/lm ah r\/lm A r->S r:=λr q=>by
  rcases q with q|q|q
  .exact y r (.inl q)
  .rcases aR r q with h|h
   .exact y r (.inr (.inl h))
   .exact aC r Ω
  .exact y r (.inr (.inr q))
 refine Q _ ⟨?_,⟨?_,Θ⟩,aQ,a8,ah,A,an,O.V ak λr q e=>cK O aA Φ (by rw[<-e];exact q),C.V ak λr q e=>Z (by rw[<-e];exact q),aV⟩
 .exact (((((ae.V _).F (N.Y λr _ q=>y r (.inr (.inr q)))).F (E.V _)).F (aj.Y λr _ q=>y r (.inr (.inl q)))).F (ak.Y λr _ q=>y r (.inl q)))
 .rw[o7];exact X.push G
theorem Tr{i:Nat}{a:Int×Int}(h:eg S w g H P)(hi:H[i]?=σ a):al v8 IF [Γ g,Δ a.2] w λ_ I=>∃s y,af S w I/\eg S I g s y/\H.Perm (s++[a])/\y.length=P.length:=by
 have aY:=(x6.1 hi).1;obtain⟨a0,aZ,A⟩:=h.1.1.ac i a hi;have hm:=h.1.2;obtain⟨x,E⟩:=V9 a0;rw[E,u9]at A;have aC:=(x6.1 A).1;refine aB func105 ?_;rw[E];refine(GF h A).Y ?_;rintro _ U _ ⟨rfl,aF⟩;rw[bM,rs Ω,X3,a6];intro aa aG _ _;have X:=aF.F aG;have Y:=h.W X;obtain⟨_,Z,a8,aH,G,h1,B,z,C⟩:=id Y;rw[aK dc.p 1 h1 rfl,cj rfl aq.u ai.i z aC,aE Ψ (vq z A),aK dc.p 0 h1 rfl,ew eF.u B,dx,m1 Ω Ω,show(H.length:Int)-1=((H.length-1:Nat):Int) by omega];obtain⟨b,ab⟩:=aD (l:=H) (i:=H.length-1) Ω;refine(GC Y hi ab).Y ?_;rintro _ a1 _ ⟨aI,J⟩;intro a2 ad _ _;have K:=GA hi ab;have ae:((H.set i b).set (H.length-1) a)[H.length-1]?=σ a:=n9 (by rw[o7];omega);generalize a7:(H.set i b).set (H.length-1) a=ah at J K ae;generalize aJ:(P.set b.2.toNat (i:Int)).set a.2.toNat ((H.length-1:Nat):Int)=L at J;have ba:=K.length_eq;have aj:L.length=P.length:=by rw[<-aJ,o7,o7]
 obtain⟨⟨ak,bb⟩,Z,a8,aH,G,h1,B,z,C⟩:=J.W ad;obtain⟨aL,an,aM,bc⟩:=vp h1 B z;obtain⟨ao,aN,M,N⟩:=RF (i:=H.length-1) eF.u cz.i B Ω;rw[aK dc.p 1 h1 rfl,aK dc.p 0 h1 rfl,aN,bY,aU dc.p rfl];refine bt eF.i (ez M.sl).1 (ez M.sl).2 h1 Ξ λaO O bd Q=>?_;have Q:ag aO g dc [ao,G]:=Q;have aP:=M.V O λr q e=>aL (by rw[<-e];exact N r q);have ap:=z.V O λr q e=>an (by rw[<-e];exact q);rw[cj rfl aq.u ai.i ap Ω];obtain⟨c,aQ⟩:=aD (l:=L) (i:=x) Ω;refine kZ (f:=lY) (j:=0) (a':=-1) ai.i rfl rfl ap aQ rfl Ω λau R be aR=>?_;have av:=To ae Ω;have aw:eg S au g (ah.take (H.length-1)) (L.set x (-1)):=by
  refine⟨⟨?_,by rw[o8];omega⟩,Z,a8,ao,G,Q.V R an,aP.V R λr q e=>aM r (N r q) e,aR,λr q=>C r (q.imp id (.imp (N r) id))⟩;rw[o7];rw[av]at ak;have:=ak.drop;rw[E,u9]at this;exact this
 have ay:af S w au:=((((X.V _).F aI).F (ad.V _)).F (O.Y λr _ q=>C r (.inl q))).F (R.Y λr _ q=>C r (.inr (.inr q)));have az:H.Perm (ah.take (H.length-1)++[a]):=by rw[<-av];exact K.symm
 refine c7 (λW=>∃s y,af S w W/\eg S W g s y/\H.Perm (s++[a])/\y.length=P.length) (λ_ h=>h) λax aA=>?_;rw[aS,am];refine⟨λbf=>?_,λ_=>aA _ ⟨_,_,ay,aw,az,by rw[o7];exact aj⟩⟩;refine(GD aw (by rw[o8];omega)).Y ?_;rintro _ W _ ⟨s,y,aT,aV,aW,aX⟩;exact aA _ ⟨s,y,ay.F aT,aV,az.F (aW.symm.append_right _),by rw[aX,o7];exact aj⟩
theorem Ts(h:eg S w g H P):al v8 H3 [Γ g] w λr I=>(H=[]/\Ext w I/\r= .tuple #[Δ 0,Δ 0,.bool v6])\/
  ∃a e f,r= .tuple #[Δ a.2,Δ a.1,.bool v2]/\af S w I/\eg S I g e f/\H.Perm (e++[a])/\f.length=P.length:=by
 refine aB func55 ?_;refine(Tm h).Y ?_;rintro _ U _ ⟨p,j⟩;cases au:H[0]? with
 |none=>
  rw[au]at j;subst j;rw[fN,fO,fP];refine c7 (λaa=>Ext w aa) (λaa x=>.inl ⟨Z5 (Nat.le_zero.1 (List.getElem?_eq_none_iff.1 au)),x,rfl⟩) λax s=>?_;rw[a6];exact s _ p
 |some a=>
  rw[au]at j;subst j;rw[fN,fO,fP];refine c7 (λaa=>∃e f,af S w aa/\eg S aa g e f/\H.Perm (e++[a])/\f.length=P.length) (λaa ⟨e,f,q⟩=>.inr ⟨a,e,f,rfl,q⟩) λax s=>?_;rw[bQ];refine(Tr (h.W p) au).Y ?_;rintro _ z _ ⟨e,f,y,q⟩;exact s _ ⟨e,f,(p.V _).F y,q⟩
end
theorem vr{α:Type}{step:ak×Bool->α->ak×Bool}(h:∀s b a,step (s,b) a=((step (s,v6) a).1,(step (s,v6) a).2||b)):∀(L:List α)(s:ak)(b:Bool),L.foldl step (s,b)=((L.foldl step (s,v6)).1,(L.foldl step (s,v6)).2||b)
 |[],s,b=>Ξ
 |a::L,s,b=>by
  rw[V5,V5,h s b a];generalize e:step (s,v6) a=q;obtain⟨x,y⟩:=q;rw[vr h L x (y||b),vr h L x y];simp only[Bool.or_assoc]
theorem Tt(s:ak)(b:Bool)(v:Int):fZ k j pos (s,b) v=((fZ k j pos (s,v6) v).1,(fZ k j pos (s,v6) v).2||b):=by
 unfold fZ;simp only;cases dk s j pos v with
 |none=>simp
 |some q=>
  obtain⟨f,u,x⟩:=q;simp only;split<;>simp
theorem Tu(s:ak)(b:Bool)(j:Nat):eE k (s,b) j=((eE k (s,v6) j).1,(eE k (s,v6) j).2||b):=by
 unfold eE;simp only;cases s.d9[j]? with
 |none=>simp
 |some f=>exact vr (λs b pos=>by unfold pM;exact vr Tt _ s b) _ s b
section
variable{au:List az}{w U aa:x5}{ad ae m:Nat}{A R:ah}{n:aH}{s s':ak}{t:az}{D D':ah}
theorem dM.Y(h:dM au w ad ae A R n m D s' U)(f:∀r,r<U.heap.size->D r->D' r):dM au w ad ae A R n m D' s' U:=by
 obtain⟨h1,j,aM,bs,p,a,q,s⟩:=h;exact⟨h1,j,aM,bs,p,a,q,λr e=>(s r e).imp id (f r (a.lt (.inl e)))⟩
def jP(k:Int)(j:Nat)(sc:Λ)(s:ak)(i:Nat):ak×Bool:=(X9 i).foldl (pM k j sc) (s,v6)
theorem Tv{i:Nat}{sc:Λ}:jP k j sc s (i+1)=pM k j sc (jP k j sc s i) i:=by
 unfold jP;rw[List.range_succ,S3];rfl
theorem Tw{α β:Type}{f:β->α->β}{l:List α}{a:α}{b:β}(h:l[j]?=σ a):(l.take (j+1)).foldl f b=f ((l.take j).foldl f b) a:=by
 rw[r9,h,S3];rfl
theorem Tx{f:cr}(h:bE w ad ae A R n s t)(aQ:Laid w)(be:¬A 0)(bf:eB au t)(ay:s.d9[j]?=σ f):al v8 H4 [Γ ad,Δ (j:Int)] w λr I=>r= .bool (eE n.k (s,v6) j).2/\cS au w ad ae A R n (eE n.k (s,v6) j).1 I:=by
 have bh:=h.2.2.2.1;obtain⟨aR,_,_⟩:=bh.d9 f (x7 ay);have bi:eE n.k (s,v6) j=jP n.k j f.sc s f.sc.length:=by unfold eE jP;rw[ay]
 rw[bi];refine jr func56 ?_;refine bp λg1 U b4 aS C=>?_;refine bp λbj aa b6 az H=>?_;have b7:=ag.lt C;have b8:=ag.lt H;refine bF dN.i λq b9 ca bk bl=>?_;refine bt (o:=0) dN.i rfl rfl bl (by show 0<1;omega) λak bm cb an=>?_;have an:ag ak q dN [.bool v6]:=an;have ao:Ext aa ak:=bk.put bm Ω;have C:ag ak g1 eL [Γ ad]:=(ag.W C az).W ao;have H:ag ak bj ai [Δ (j:Int)]:=ag.W H ao;have aT:=(aS.F az).F ao;have cc:=aS.size;have ce:=az.size;have cf:=ao.size;have cg:=C.lt;have ch:=H.lt;have ci:=an.lt;have ac:=qL aQ;rw[aE (v:=Γ ad) Ψ (C.Qz rfl),aE (v:=Δ (j:Int)) Ψ (H.Qz rfl)];refine(sg (h.W aT) ay).Y ?_;rintro sv J _ ⟨Y,gs,cj,aA⟩;rw[a1 aq.u aA.ls];have z5:=Y.size;have C:=C.W Y;have H:=H.W Y;refine bW.range f.sc.length (λi p=>dM au w ad ae A R n w.heap.size (λr=>J.heap.size<=r) (jP n.k j f.sc s i).1 p/\af (λr=>r<w.heap.size\/J.heap.size<=r\/r=q) J p/\ag p q dN [.bool (jP n.k j f.sc s i).2]) aA.ls.le ⟨dM.start h aQ be bf (aT.F Y) (o4 _),af.refl _ _,an.W Y⟩ ?_ ?_
 .rintro i p bn hi ⟨Z,ab,aB⟩ bo;refine bG Ω ?_;obtain⟨u,hu⟩:=aD (l:=f.sc) hi;have aU:=x7 hu;have bq:=(aR.scope.1 u aU).1;have ck:=aR.d6 u aU;have ah:∀{g:Nat}{e:o5}{cs:List x4},w.heap.size<=g->g<q->ag J g e cs->ag p g e cs:=λaV aF br=>br.V ab Ω;have bu:aN .i64 p sv f.sc:=(aA.V ab λy=>Ω).ls;refine rj rfl aq.u ai.i bu hu λcl cm bw=>?_;rw[aE Ψ bw];refine bF ai.i λbA cn cp bB bC=>?_;refine bt (o:=0) ai.i rfl rfl bC (by show 0<1;omega) λaW bD cq aj=>?_;have aj:ag aW bA ai [Δ (i:Int)]:=aj;have ap:Ext p aW:=bB.put bD Ω;have ct:=ab.size;have cu:=ap.size;have cw:=aj.lt;obtain⟨cz,cA,aX,cB,cC,cD⟩:=Z.sB;have bH:=Z.2.1.1;have bI:=aX.2.2.2.1;have cE:=bI.d6;obtain⟨x,K⟩:=aD (l:=(jP n.k j f.sc s i).1.d6) (i:=u.toNat) Ω;have bJ:bb (jP n.k j f.sc s i).1 u=aC x:=by unfold bb;rw[K]
  rw[aE (v:=Γ ad) Ψ (((ah Ω Ω C).W ap).Qz rfl)];refine(kC (i:=u) (aX.W ap)).Y ?_;rintro _ cF _ ⟨⟨b,aY,rfl,aZ⟩,a2⟩;refine(nW (b:=b) (n:=aY)).Y ?_;rintro _ N _ ⟨a6,av,rfl,cG,a7⟩;have a8:=mD aZ bq K;have aG:=a2.F a6;have M:=ap.F aG;have z9:=a2.size;have cH:=a6.size;have cI:=a7.lt;have bK:jP n.k j f.sc s (i+1)=(aC x).foldl (fZ n.k j i) (jP n.k j f.sc s i):=by
   rw[Tv];unfold pM;rw[u5,hu,W7,bJ]
  have cJ:(jP n.k j f.sc s i)=((jP n.k j f.sc s i).1,(jP n.k j f.sc s i).2):=rfl;generalize jP n.k j f.sc s i=Q at*;refine lx.old ⟨_,v6,kl,#[Γ av],_,_,_,_,λO I=>dM au w ad ae A R n w.heap.size (λr=>J.heap.size<=r/\¬(p.heap.size<=r/\r<N.heap.size)) (((aC x).take O).foldl (fZ n.k j i) Q).1 I/\af (λr=>r<w.heap.size\/(J.heap.size<=r/\¬(p.heap.size<=r/\r<N.heap.size))\/r=q) N I/\ag I q dN [.bool (((aC x).take O).foldl (fZ n.k j i) Q).2],λ_ _ _=>False,rfl,(nV (g:=av) aZ.1).s,?_,
   λ_ _ K h=>⟨h.1.W K,h.2.W K⟩,λ_ _ _ K h=>⟨h.1.W K,h.2.1.F (K.V _),h.2.2.W K⟩,λ_ _ _ _ _ h=>h,⟨a7,bH.W M⟩,⟨(Z.Y λr aV aF=>⟨aF,Ω⟩).W M,af.refl _ _,aB.W M⟩,?_,?_,λ_ _ h=>h.elim,λ_ _ _ h=>h.elim⟩
  .rintro _ _ _ _ ⟨_,_,_,_,rfl⟩;rfl
  .rintro _ O _ cK ⟨ba,aH⟩ ⟨cL,rfl,v,bL,bM⟩ ⟨S,z,W⟩;cases bM;intro cM E _ _;have bN:(aC x)[O]?=σ (v:Int):=by rw[<-a8,u4,bL];rfl
   have aI:=Tw (f:=fZ n.k j i) (b:=Q) bN;generalize cN:((aC x).take O).foldl (fZ n.k j i) Q=B at S W aI;obtain⟨cO,cP,bc,bO,bP,bQ⟩:=S.sB;have cQ:=z.size;have z12:=E.size;have aJ:=((((ah Ω Ω C).W M).V z Ω).W E).Qz rfl;have aK:=((((ah Ω Ω H).W M).V z Ω).W E).Qz rfl;have aL:=(((aj.W aG).V z Ω).W E).Qz rfl;rw[aE (v:=Γ ad) Ψ aJ,aE (v:=Δ (j:Int)) Ψ aK,aE (v:=Δ (i:Int)) Ψ aL];refine(RS (j:=(j:Int)) (pos:=(i:Int)) (v:=(v:Int)) (bc.W E) (aH.W E)).Y ?_;rintro _ X _ ⟨P,y⟩;have L:=E.F P;have no:fZ n.k j i B (v:Int)=B->(ag X av b5 [.int .u64 b,Δ aY]/\Laid X)/\(dM au w ad ae A R n w.heap.size (λr=>J.heap.size<=r/\¬(p.heap.size<=r/\r<N.heap.size)) (((aC x).take (O+1)).foldl (fZ n.k j i) Q).1 X/\af (λr=>r<w.heap.size\/(J.heap.size<=r/\¬(p.heap.size<=r/\r<N.heap.size))\/r=q) N X/\ag X q dN [.bool (((aC x).take (O+1)).foldl (fZ n.k j i) Q).2]):=λe=>by
    refine⟨⟨ba.W L,aH.W L⟩,?_⟩;rw[aI,e];exact⟨S.W L,z.F (L.V _),W.W L⟩
   have G:fZ n.k j i B (v:Int)=match dk B.1 j i v with
    |none=>B
    |some (f,_,_)=>if 0<ee n.k B.1 f i v then((bg n.k B.1 (projM j i v (ee n.k B.1 f i v))).1,v2)else B:=rfl
   cases bd:dk B.1 (j:Int) (i:Int) (v:Int)with
   |none=>
    rw[bd]at y G;subst y;rw[bx,bz,bU,am];refine⟨λh=>Ω,λ_=>?_⟩;exact⟨(no G).1,(no G).2,λh=>by cases h⟩
   |some bR=>
    obtain⟨bS,cR,cT⟩:=bR;rw[bd]at y G;simp only[u9]at y G;subst y;rw[bx,bz,bU,am];refine⟨λaO=>?_,λaO=>?_⟩
    rotate_left
    .rw[rc aO]at G;exact⟨(no G).1,(no G).2,λh=>by cases h⟩
    rw[ms aO]at G;have aJ:=((((((ah Ω Ω C).W M).V z Ω).W E)).W P).Qz rfl;have aK:=((((((ah Ω Ω H).W M).V z Ω).W E)).W P).Qz rfl;have aL:=((((aj.W aG).V z Ω).W E).W P).Qz rfl;rw[aE (v:=Γ ad) Ψ aJ,aE (v:=Δ (j:Int)) Ψ aK,aE (v:=Δ (i:Int)) Ψ aL];have cU:=P.size;refine(FZ (a:=projM j i v (ee n.k B.1 bS i v)) rfl (bc.W L) (aH.W L) bP bO).Y ?_;rintro _ bT _ ⟨rfl,bV,bX,aM,bs,bY,bZ,b0,cV⟩;obtain⟨b1,aw,cW⟩:=bQ (D':=λr=>J.heap.size<=r/\¬(p.heap.size<=r/\r<N.heap.size)) (jf L bV) ((Grow.W L).F bY) bZ b0 (λr h=>h) λr aV aF=>Ω
    have cX:=aw.size;have b2:ag bT q dN _:=W.V aw Ω;refine bt (o:=0) dN.i rfl rfl b2 Ξ λcY ax cZ b3=>?_;refine⟨⟨(ba.V aw Ω).V ax λh=>by have h:av=q:=h;omega,iz ax (λh=>by have h:0=q:=h;omega) bX⟩,?_,λh=>by cases h⟩;dsimp only;rw[aI,G];exact⟨b1.own ax λr y=>by have y:r=q:=y;subst y;exact⟨Ω,Ω⟩,(z.F (aw.Y λr _ h=>h.imp id .inl)).F (ax.Y λr _ y=>.inr (.inr y)),b3⟩
  .rintro k c0 rfl ⟨S,z,W⟩;rw[Z0 (by rw[<-a8,r8];exact o4 _),<-bK]at S W;rw[aP];exact bo _ ⟨S.Y λr _ h=>h.1,(ab.F (M.V _)).F (z.Y λr _ h=>h.imp id (.imp (·.1) id)),W⟩
 .rintro p bn ⟨Z,ab,aB⟩;refine cd Ω ?_;rw[aE Ψ (aB.Qz rfl)];intro X P _;exact⟨rfl,Z.done P⟩
end
section
variable{n:aH}{s:ak}
def y5(n:aH)(s:ak):Prop:=∀(j:Nat)f,s.d9[j]?=σ f->f.live≠0->∀p,p<f.sc.length->∀v∈bb s (f.sc.getD p 0),¬(0<(u0 n s j f p v).1\/(u0 n s j f p v).2=ν)
end
section
variable{w:x5}{eM:x4}{n:aH}{s:ak}
theorem GG{p:Nat}{f:cr}(h:bd n.k n.co s)(a:s.d9[j]?=σ f)(q:f.live≠0)(ac:p<f.sc.length)(e:v∈bb s (f.sc.getD p 0)):u0 n s j f p v=lg n.k (br f.aj f.cs) (ck s f.sc p v):=by
 unfold u0;rw[QB ac];refine Sz λtl r=>?_;obtain⟨m,hm⟩:=su h (x7 a) (λu hu=>by rw[u5,hu]at e;exact e) r;exact(RA a q hm).1
end
section
variable{n:aH}{s:ak}
theorem Ty{i:Int}(f:bd n.k n.co s)(j:0<=i)(e:v∈bb s i)(r:∀x,s.d6[i.toNat]?=σ x->x.gone=0):∃x,dw s i v=σ x/\s.d6[i.toNat]?=σ x/\cv n s i v=x.un.getD v.toNat 0/\et n i v/\v.toNat<x.un.length:=by
 unfold bb at e;cases a:s.d6[i.toNat]? with
 |none=>rw[a]at e;cases e
 |some x=>
  rw[a]at e;have p:v∈aC x:=e;have w:=r x a;have A:=(x6.1 a).1;have B:=f.d6;obtain⟨z,h⟩:=aD (l:=n.co) (i:=i.toNat) Ω;have C:=(f.var i.toNat x z a h).1;have E:=f.ed.2.2 z (x7 h);have y:=(e6.1 p).1;have q:et n i v:=⟨j,Ω,y.1,by rw[u5,h,W7];omega⟩;refine⟨x,?_,rfl,?_,q,Ω⟩
  .unfold dw;rw[ms j,a];simp only;rw[ms ⟨w,p⟩]
  .unfold cv ff;rw[ms q,a]
end
theorem Tz{of:Λ->Int}{l:List (Λ)}(h:∀t∈l,of t<=k):(lg k of l).1=(l.map of).foldl min k/\((lg k of l).2=ν↔l=[]):=by
 unfold lg;have key:∀(l:List (Λ))(c:Int)(t:Λ),(l.foldl (simpStep of) (c,σ t)).1=(l.map of).foldl min c/\(l.foldl (simpStep of) (c,σ t)).2≠ν:=λl=>by
  induction l with
  |nil=>exact λc t=>⟨rfl,λh=>by cases h⟩
  |cons a l e=>
   intro c t;rw[V5,T3,V5];by_cases f:of a<c
   .rw[show simpStep of (c,σ t) a=(of a,σ a) by unfold simpStep;rw[ms (.inr f)],show min c (of a)=of a by omega];exact e _ _
   .rw[show simpStep of (c,σ t) a=(c,σ t) by unfold simpStep;rw[rc Θ],show min c (of a)=c by omega];exact e _ _
 cases l with
 |nil=>exact⟨rfl,λ_=>rfl,λ_=>rfl⟩
 |cons a l=>
  have p:=h a (.head _);rw[V5,show simpStep of (k,ν) a=(of a,σ a) by unfold simpStep;rw[ms (.inl rfl)],T3,V5,show min k (of a)=of a by omega];obtain⟨h1,j⟩:=key l (of a) a;exact⟨h1,λh=>ro h j,λh=>by cases h⟩
section
variable{n:aH}{s:ak}
theorem TA(q:bd n.k n.co s)(w:b3 s)(y:∀(j:Nat)f,s.d9[j]?=σ f->f.live≠0->j∈O):vn n O s↔ ∀(j:Nat)f,s.d9[j]?=σ f->f.live≠0->∀(pos:Nat)i,f.sc[pos]?=σ i->∀v∈bb s i,(lg n.k (br f.aj f.cs) (ck s f.sc pos v)).1<=0/\(lg n.k (br f.aj f.cs) (ck s f.sc pos v)).2≠ν:=by
 have hk:=q.fs;have key:∀(j:Nat)f,s.d9[j]?=σ f->f.live≠0->∀(pos:Nat)i,f.sc[pos]?=σ i->∀v∈bb s i,(mP n.k s j pos v=0↔(lg n.k (br f.aj f.cs) (ck s f.sc pos v)).1<=0/\(lg n.k (br f.aj f.cs) (ck s f.sc pos v)).2≠ν):=λj f a e pos i hi v p=>by
  have r:=x7 a;have z:=((q.d9 f r).1.scope.1 i (x7 hi)).1;obtain⟨x,A,_⟩:=Ty q z p (w f r e i (x7 hi));have ac:dk s (j:Int) (pos:Int) v=σ (f,i,x):=by
   unfold dk;rw[ms Ω,u9,a];simp only;rw[ms e,u9,hi];simp only;rw[A];rfl
  obtain⟨B,C⟩:=Tz (k:=n.k) (of:=br f.aj f.cs) (l:=ck s f.sc pos v) λt _=>(nx q r).2;have I:=Gu (pos:=pos) (v:=v) q r;have E:mP n.k s j pos v=ee n.k s f pos v:=by unfold mP;rw[ac]
  rw[E,B];show ee n.k s f pos v=0↔ee n.k s f pos v<=0/\_;refine⟨λh=>⟨Ω,λF=>?_⟩,λh=>Ω⟩;have G:=C.1 F;unfold ee at h;rw[G]at h;have:n.k=0:=h;omega
 constructor
 .intro h j f a e pos i hi v p;refine(key j f a e pos i hi v p).1 (h j (y j f a e) f a pos (S2.2 (x6.1 hi).1) v ?_);rw[u5,hi];exact p
 .intro h j J f a pos H v p;obtain⟨i,hi⟩:=aD (l:=f.sc) (i:=pos) (S2.1 H);rw[u5,hi]at p;by_cases e:f.live≠0
  .exact (key j f a e pos i hi v p).2 (h j f a e pos i hi v p)
  .unfold mP;have:dk s (j:Int) (pos:Int) v=ν:=by
    unfold dk;split
    .rw[u9,a];simp only;rw[rc e]
    .rfl
   rw[this]
end
structure TB(P:ak->Prop)(n:aH)(s:ak)(q:ak×Bool×Bool):Prop where
 aY:gv n.k n.co s q.1
 emp:q.2.2=v2->q.2.1=v6/\∃i<n.co.length,dr s i=v6/\bb q.1 (i:Int)=[]
 less:q.2.2=v6->q.2.1=v2->fG n q.1<fG n s
 same:q.2.2=v6->q.2.1=v6->q.1=s/\jM n s/\P s
 quiet:jM n s->P s->q=(s,v6,v6)
section
variable{n:aH}{s:ak}
def y6(s:ak)(O:List Nat):Prop:=∀(j:Nat)f,s.d9[j]?=σ f->f.live≠0->j∈O
theorem GH(w:bd n.k n.co s)(z:b3 s)(A:y6 s O):vn n O s↔y5 n s:=by
 rw[TA w z A];constructor
 .intro h j f a e p ac v q y;obtain⟨i,hi⟩:=aD (l:=f.sc) ac;rw[GG w a e ac q]at y;have r:v∈bb s i:=by rw[u5,hi]at q;exact q
  obtain⟨h1,B⟩:=h j f a e p i hi v r;exact y.elim (λh=>Ω) B
 .intro h j f a e p i hi v q;have ac:=(x6.1 hi).1;have r:v∈bb s (f.sc.getD p 0):=by rw[u5,hi];exact q
  have x:=h j f a e p ac v r;rw[GG w a e ac r]at x;exact⟨Int.not_lt.1 λh=>x (.inl h),λh=>x (.inr h)⟩
theorem TC(e:bd n.k n.co s)(f:b3 s)(j:y6 s O):TB (y5 n) n s (ef n O s):=by
 obtain⟨p,q,r,h⟩:=y2 (n:=n) (O:=O) e f;exact⟨p,q,r,λh1 a=>⟨(h h1 a).1,(h h1 a).2.1,(GH e f j).1 (h h1 a).2.2⟩,λh1 a=>Tc e h1 ((GH e f j).2 a)⟩
def y7(n:aH)(s:ak):Prop:=y5 n s
end
def oy(n:aH)(O:List Nat):Nat->ak->Bool
 |0,_=>v6
 |f+1,s=>(ef n O s).2.2|| !(ef n O s).2.1||oy n O f (ef n O s).1
section
variable{n:aH}{O:List Nat}
theorem y8:∀(f g:Nat)(s:ak),f<=g->oy n O f s=v2->jN n O g s=jN n O f s
 |0,_,_,_,h=>by cases h
 |f+1,0,_,h,_=>Ω
 |f+1,g+1,s,h,e=>by
  unfold oy at e;unfold jN;by_cases he:(ef n O s).2.2=v2
  .rw[ms he,ms he]
  rw[rc he,rc he];by_cases a:(ef n O s).2.1=v2
  .rw[ms a,ms a];refine y8 f g _ Ω ?_;have he:(ef n O s).2.2=v6:=by simpa using he
   rw[he,a]at e;simpa using e
  .rw[rc a,rc a]
theorem GI:∀(f:Nat)(s:ak),bd n.k n.co s->b3 s->fG n s<f->oy n O f s=v2
 |0,_,_,_,h=>Ω
 |f+1,s,a,e,q=>by
  obtain⟨h1,r,j,w⟩:=y2 (O:=O) a e;unfold oy;cases he:(ef n O s).2.2 with
  |true=>rfl
  |false=>
   cases p:(ef n O s).2.1 with
   |false=>rfl
   |true=>
    have:=j he p;rw[GI f _ h1.ok h1.jj Ω];rfl
theorem TD{s:ak}{f g:Nat}(a:bd n.k n.co s)(e:b3 s)(j:oy n O f s=v2)(p:fG n s<g):jN n O g s=jN n O f s:=by
 by_cases h:f<=g
 .exact y8 f g s h j
 .exact (y8 g f s Ω (GI g s a e p)).symm
end
def iv(s:ak)(m:Nat):List Nat:=(X9 m).filter (ft s)
theorem GJ{s:ak}{m:Nat}:iv s (m+1)=iv s m++if ft s m=v2 then[m]else[]:=by
 unfold iv;rw[List.range_succ,List.filter_append];congr 1;by_cases h:ft s m=v2
 .rw[ms h,List.filter_cons_of_pos h];rfl
 .rw[rc h,List.filter_cons_of_neg h];rfl
theorem TE{s:ak}(h:O.Perm (iv s s.d9.length)):y6 s O:=λj f a e=>by
 refine h.symm.subset (S9.2 ⟨S2.2 (x6.1 a).1,?_⟩);unfold ft;rw[a];exact rs e
theorem TF{s:ak}:∀m,(iv s m).length<=m:=λm=>by
 have:=List.length_filter_le (ft s) (X9 m);rw[List.length_range]at this;exact this
open Classical in
theorem lu.sink{b c:x4}{B:x4->x4->x4->x5->(x4->x4->x4->x5->Prop)->Prop}(ax:Nat->x4->x5->Prop){m:Nat}(q:ax m c w)(J:∀(m:Nat)(a b c:x4)(I:x5)(k:x4->x4->x4->x5->Prop),ax m c I->(∀bP a b c f,bP<m->ax bP c f->k a b c f)->B a b c I k):lu a b c w B:=by
 have j:∀{c:x4}{w:x5},(∃m,ax m c w)->∃m,ax m c w/\∀k,ax k c w->m<=k:=λ⟨m,h⟩=>Gx (P:=λm=>ax m _ _) m h;refine⟨λ_ _ c w=>∃m,ax m c w,λ_ _ c w=>if h:∃m,ax m c w then Classical.choose (j h)else 0,⟨m,q⟩,λa b c I p=>?_⟩;obtain⟨h1,r⟩:=Classical.choose_spec (j p);refine J _ a b c I _ h1 λbP _ _ s f x e=>⟨⟨bP,e⟩,?_⟩;have y:=(Classical.choose_spec (j ⟨bP,e⟩)).2 bP e;show dite _ _ _<dite _ _ _;rw[dif_pos p,dif_pos ⟨bP,e⟩];omega
section
variable{au:List az}{w:x5}{ad ae:Nat}{A R:ah}{n:aH}{s:ak}{t:az}
theorem TG(h:bE w ad ae A R n s t)(Q:s.d9.length<=1000000):al v8 H2 [Γ ad] w λr I=>∃g H P,r=Γ g/\Ext w I/\eg (λr=>w.heap.size<=r/\r<I.heap.size) I g H P/\(kI H).Perm ((iv s s.d9.length).map λj:Nat=>(j:Int)):=by
 refine aB func54 ?_;refine(sa h).Y ?_;rintro _ U _ ⟨rfl,B⟩;have ao:=B.size;refine(Tp (S:=λr=>w.heap.size<=r) Q λr y=>Ω).Y ?_;rintro _ aa _ ⟨g,rfl,G,ap,V⟩;refine(sa (h.W (B.F G))).Y ?_;rintro _ au _ ⟨rfl,J⟩;have W:=(B.F G).F J;refine bW.range s.d9.length (λi z=>Ext w z/\∃H P,eg (λr=>w.heap.size<=r) z g H P/\P.length=s.d9.length/\(kI H).Perm ((iv s i).map λj:Nat=>(j:Int))) Ω ⟨W,[],_,V.W J,Ξ,.refl _⟩ ?_ ?_
 .rintro i z X hi ⟨p,H,P,q,K,ac⟩ Y;refine bG Ω ?_;have z4:=p.size;refine c7 (λC=>Ext w C/\∃H P,eg (λr=>w.heap.size<=r) C g H P/\P.length=s.d9.length/\(kI H).Perm ((iv s (i+1)).map λj:Nat=>(j:Int))) ?_ λax L=>?_
  .rintro C Z;rw[aP];exact Y _ Z
  refine(yf (j:=(i:Int)) (h.W p)).Y ?_;rintro _ av _ ⟨rfl,x⟩;rw[rs Ω,Q4,u9,b4];refine⟨λE=>?_,λE=>L _ ⟨p.F x,H,P,q.W x,K,by rw[GJ,rc (by rw[E];decide),U2];exact ac⟩⟩;obtain⟨f,ab⟩:=aD (l:=s.d9) hi;refine(sg (h.W (p.F x)) ab).Y ?_;rintro sv aw _ ⟨M,gs,ay,af⟩;rw[a1 aq.u af.ls];have N:=(p.F x).F M;have az:=N.size;have ag:P[i]?=σ (-1):=by
   obtain⟨v,O⟩:=aD (l:=P) (i:=i) Ω;rcases q.1.1.pl i v O with e|⟨j,a,_,ah,e⟩
   .rw[O,e]
   .have:(i:Int)∈kI H:=j5.2 ⟨a,x7 ah,e⟩;obtain⟨k,hk,aA⟩:=j5.1 (ac.subset this);have:=S2.1 (S9.1 hk).1;omega
  have aC:H.length<=i:=by
   have e:=ac.length_eq;have:=TF (s:=s) i;unfold kI at e;rw[r8,r8]at e;omega
  refine(Tq ((q.W x).W M) ag Ω Ω λr y=>Ω).Y ?_;rintro _ aE _ ⟨ai,aj,ak,am,an,aF⟩;refine L _ ⟨N.then ak λr y h=>Ω,ai,aj,am,Ω,?_⟩;rw[GJ,ms E,Z3];refine(GB an).F ?_;unfold kI at ac ⊢;rw[Z3];exact ac.append_right _
 .rintro z X ⟨p,H,P,q,K,ac⟩;refine cd Ω ?_;exact⟨g,H,P,rfl,p,q.Y λr y h=>⟨h,y⟩,ac⟩
def TH(au:List az)(w:x5)(ad ae:Nat)(A R:ah)(n:aH)(s:ak)(r:x4)(I:x5):Prop:=∃O:List Nat,O.Perm (iv s s.d9.length)/\Gz au w ad ae A R n (ef n O s) r I
theorem GK{s':ak}(h:dE s s'):iv s' s'.d9.length=iv s s.d9.length:=by
 unfold iv;rw[h.d9];refine List.filter_congr λj a=>?_;have a:=S2.1 a;have r:=h.d9;obtain⟨f,e⟩:=aD (l:=s.d9) a;obtain⟨q,p⟩:=aD (l:=s'.d9) (i:=j) Ω;unfold ft;rw[e,p];simp only;rw[(h.fn j f q e p).2.2.1]
theorem GL(h:bE w ad ae A R n s t)(an:Laid w)(ao:¬A 0)(ap:eB au t)(B:b3 s)(bd:s.d9.length<=1000000):al v8 HP [Γ ad] w (TH au w ad ae A R n s):=by
 have G:=h.2.2.2.1;refine aB func22 ?_;refine(Tg h an ao ap B).Y ?_;rintro _ U _ ⟨rfl,I⟩;obtain⟨y,_⟩:=Gi (n:=n) G B;rw[bx,bz];generalize aq:fv n s=q at I y;have K:∀O,ef n O s=if q.2.2=v2\/q.2.1=v2 then q else((O.foldl (eE n.k) (q.1,v6)).1,(O.foldl (eE n.k) (q.1,v6)).2,v6):=λO=>by unfold ef;rw[aq]
 refine aZ (λv aa=>U=aa/\v= .bool (q.2.2||q.2.1)) ?_ λax M=>?_
 rotate_left
 .rw[bL,am];refine⟨λN=>M _ _ ⟨rfl,?_⟩,λhe=>M _ _ ⟨rfl,?_⟩⟩
  .cases he:q.2.2 with
   |true=>rfl
   |false=>rw[he]at N;exact ro rfl N
  .have he:q.2.2=v6:=by
    cases av:q.2.2 with
    |true=>rw[av]at he;exact ro Φ he
    |false=>rfl
   rw[he,Bool.false_or]
 rintro _ _ ⟨rfl,rfl⟩;rw[b4];refine⟨λx=>⟨_,.refl _,?_⟩,λx=>?_⟩
 .have e:=K (iv s s.d9.length);rw[ms (by simpa using x)]at e;rw[e];exact⟨rfl,I⟩
 rw[U1]at x;obtain⟨aw,be,Q,ay,az,aA,aC⟩:=I.open;have aE:=GK y.same;have bf:=y.same.d9;refine(TG Q Ω).Y ?_;rintro _ C _ ⟨g,H,P,rfl,S,aF,T⟩;rw[aE]at T;have z3:=S.size;refine lu.sink (λm c E=>∃(z:List (Int×Int))(W:Λ)(p:List Nat),z.length=m/\eg (λr=>U.heap.size<=r/\r<C.heap.size) E g z W/\(p.map (λj:Nat=>(j:Int))++kI z).Perm ((iv s s.d9.length).map λj:Nat=>(j:Int))/\c= .bool (p.foldl (eE n.k) (q.1,v6)).2/\
   dM au U ad ae aw R n U.heap.size (λr=>C.heap.size<=r) (p.foldl (eE n.k) (q.1,v6)).1 E/\C.heap.size<=E.heap.size) ⟨H,P,[],rfl,aF,T,by rw[x.2];rfl,dM.start Q ay az aA S (o4 _),o4 _⟩ ?_
 rintro m aG aH _ E aI ⟨z,W,p,rfl,aJ,ac,rfl,X,bg⟩ aK;have aL:=(sE (n:=n) (step:=eE n.k) (λj s b G B=>Gv G B) p q.1 v6 y.ok y.jj).1;refine(Ts aJ).Y ?_;rintro _ bh _ (⟨rfl,aN,rfl⟩|⟨a,J,aO,rfl,Y,aP,Z,bi⟩)
 .rw[fN,fO,fP,bM,W6,bQ];have aQ:p.Perm (iv s s.d9.length):=by
   have ab:=ac.map Int.toNat;have e:∀L:List Nat,(L.map λj:Nat=>(j:Int)).map Int.toNat=L:=λL=>by rw[S6];exact(List.map_congr_left λj _=>u9 j).F (List.map_id L)
   rw[show kI []=[]from rfl,U2,e,e]at ab;exact ab
  refine⟨p,aQ,?_⟩;have e:=K p;rw[rc (by rw[x.1,x.2];simp)]at e;rw[e];exact⟨rfl,aC (X.done aN)⟩
 rw[fN,fO,fP,bM,X3,a6];have af:=X.own Y λr ag=>⟨ag.1,Ω⟩;have z5:=Y.size;have ah:(kI z).Perm (kI J++[a.2]):=by
  have:=GB Z;unfold kI at this ⊢;rw[Z3]at this;exact this
 have aR:a.2∈(iv s s.d9.length).map λj:Nat=>(j:Int):=ac.subset (List.mem_append_right _ (ah.symm.subset Ξ));obtain⟨j,aS,ai⟩:=j5.1 aR;have bj:=S2.1 (S9.1 aS).1;have bk:=aL.same.d9;obtain⟨f,aT⟩:=aD (l:=(p.foldl (eE n.k) (q.1,v6)).1.d9) (i:=j) Ω;obtain⟨bl,t5,aU,aV,aW,aX⟩:=af.sB;rw[<-ai];refine(Tx aU af.2.1.1 aW aV aT).Y ?_;rintro _ aY _ ⟨rfl,a1,bm,aM,bs,a2,a7,a8,bn⟩;obtain⟨ba,aj,bo⟩:=aX (D':=λr=>C.heap.size<=r) a1 a2 a7 a8 (λr h=>h) λr bp x=>Ω
 have bq:=aj.size;have bb:=Z.length_eq;rw[o9,T5]at bb;have ak:(p++[j]).foldl (eE n.k) (q.1,v6)=((eE n.k ((p.foldl (eE n.k) (q.1,v6)).1,v6) j).1,(eE n.k ((p.foldl (eE n.k) (q.1,v6)).1,v6) j).2||(p.foldl (eE n.k) (q.1,v6)).2):=by
  rw[S3];exact Tu _ _ j
 have go:∀{c:x4},c= .bool ((eE n.k ((p.foldl (eE n.k) (q.1,v6)).1,v6) j).2||(p.foldl (eE n.k) (q.1,v6)).2)->aI aG aH c aY:=λ{c}bc=>by
  refine aK J.length _ _ _ _ Ω ⟨J,aO,p++[j],rfl,aP.V aj λr ag h=>Ω,?_,by rw[ak];exact bc,by rw[ak];exact ba,Ω⟩;rw[Z3,T6];refine(List.Perm.append_left _ ?_).F ac;rw[List.map_singleton,ai];exact List.perm_append_comm.F ah.symm
 rw[b4];exact⟨λx=>go (by rw[x,Bool.true_or]),λx=>go (by rw[x,Bool.false_or])⟩
end
section
variable{au:List az}{w:x5}{ad ae:Nat}{A R:ah}{n:aH}{s:ak}{t:az}
theorem TI(h:bE w ad ae A R n s t)(G:Laid w)(H:¬A 0)(J:eB au t)(K:b3 s)(Z:s.d9.length<=1000000):al v8 Ak [Γ ad] w λr I=>∃q:ak×Bool,Tj (y7 n) n s q/\r=Δ (if q.2=v2 then 8 else 0)/\cS au w ad ae A R n q.1 I:=by
 have L:=h.2.2.2.1;refine aB func10 ?_;refine bW.sink (λm U=>∃s1,cS au w ad ae A R n s1 U/\gv n.k n.co s s1/\fG n s1=m/\(jM n s->y7 n s->s1=s)) ⟨s,cS.same h G H J (Ext.refl _),.rfl L K,rfl,λ_ _=>rfl⟩ ?_;rintro m _ U ab ⟨s1,hm,f,ac,z⟩ M;obtain⟨af,ag,N,P,Q,S,T⟩:=hm.open;have ah:=f.same.d9;refine(GL N P Q S f.jj Ω).Y ?_;rintro _ aa _ ⟨O,V,rfl,x⟩;have a:=TC f.ok f.jj (TE V);generalize ef n O s1=q at a x;have x:=T x;have ai:=f.ok.d6;rw[bx,bz];refine aZ (λr I=>I=aa/\r= .bool (q.2.2|| !q.2.1)) ?_ λax B=>?_
 .rintro _ _ ⟨rfl,rfl⟩;rw[b4];refine⟨λj=>?_,λj=>?_⟩
  .cases he:q.2.2 with
   |true=>
    obtain⟨_,i,hi,W,X⟩:=a.emp he;refine⟨(q.1,v2),⟨f.F a.aY,λ_=>⟨i,hi,?_,X⟩,λh=>(by cases h),λh1 p=>?_⟩,rfl,x⟩
    .show dr q.1 i=v6;rw[Gw a.aY.same Ω];exact W
    .have e:=z h1 p;subst e;rw[a.quiet h1 p]at he;cases he
   |false=>
    rw[he,Bool.false_or,Bool.not_eq_true']at j;obtain⟨e,h1,p⟩:=a.same he j;refine⟨(q.1,v6),⟨f.F a.aY,λh=>(by cases h),λ_=>?_,λC y=>?_⟩,rfl,x⟩
    .show jM n q.1/\y7 n q.1;rw[e];exact⟨h1,p⟩
    .rw[e,z C y]
  .rw[U1,Bool.not_eq_false']at j;have C:=a.less j.1 j.2;refine M (fG n q.1) _ _ Ω ⟨q.1,x,f.F a.aY,rfl,λh1 p=>?_⟩;have e:=z h1 p;subst e;have y:=j.2;rw[a.quiet h1 p]at y;cases y
 rw[bL,am];refine⟨λE=>B _ _ ⟨rfl,?_⟩,λhe=>?_⟩
 .cases he:q.2.2 with
  |true=>rfl
  |false=>rw[he]at E;exact ro rfl E
 .have he:q.2.2=v6:=by
   cases Y:q.2.2 with
   |true=>rw[Y]at he;exact ro Φ he
   |false=>rfl
  rw[bM];exact B _ _ ⟨rfl,by rw[he,Bool.false_or]⟩
theorem TJ{u:Nat}(h:bE w ad ae A R n s t)(J:Laid w)(K:¬A 0)(L:eB au t)(y:b3 s)(ab:s.d9.length<=1000000)(M:∀x,x.Perm (iv s s.d9.length)->x=O)(N:oy n O u s=v2):
  al v8 Ak [Γ ad] w λr I=>r=Δ (if(jN n O u s).2=v2 then 8 else 0)/\cS au w ad ae A R n (jN n O u s).1 I:=by
 have z:=h.2.2.2.1;rw[<-TD z y N (Nat.lt_succ_self (fG n s))];generalize P:jN n O (fG n s+1) s=E;refine aB func10 ?_;refine bW.sink (λm U=>∃s1 f,cS au w ad ae A R n s1 U/\gv n.k n.co s s1/\fG n s1=m/\m<f/\jN n O f s1=E) ⟨s,_,cS.same h J K L (Ext.refl _),.rfl z y,rfl,Nat.lt_succ_self _,P⟩ ?_;rintro m _ U ac ⟨s1,f,hm,j,af,ag,a⟩ Q;obtain⟨f,rfl⟩:∃g,f=g+1:=⟨f-1,Ω⟩;obtain⟨ah,ai,S,T,V,W,X⟩:=hm.open;have aj:=j.same.d9;obtain⟨B,ak,C,an⟩:=y2 (n:=n) (O:=O) j.ok j.jj;rw[jN]at a;refine(GL S T V W j.jj Ω).Y ?_;rintro _ aa _ ⟨x,Y,rfl,p⟩;obtain rfl:=M x (by rw[<-GK j.same];exact Y);have p:=X p;generalize ef n x s1=q at B C a p;rw[bx,bz];refine aZ (λr I=>aa=I/\r= .bool (q.2.2|| !q.2.1)) ?_ λax G=>?_
 .rintro _ _ ⟨rfl,rfl⟩;rw[b4];refine⟨λe=>?_,λe=>?_⟩
  .cases he:q.2.2 with
   |true=>
    rw[he,ms rfl]at a;rw[<-a];exact⟨by rw[ms rfl],p⟩
   |false=>
    rw[he,Bool.false_or,Bool.not_eq_true']at e;rw[he,e,rc Φ,rc Φ]at a;rw[<-a];exact⟨rfl,p⟩
  .rw[U1,Bool.not_eq_false']at e;have ao:=C e.1 e.2;rw[e.1,e.2,rc Φ,ms rfl]at a;exact Q (fG n q.1) _ _ Ω ⟨q.1,f,p,j.F B,rfl,Ω,a⟩
 rw[bL,am];refine⟨λH=>G _ _ ⟨rfl,?_⟩,λhe=>?_⟩
 .cases he:q.2.2 with
  |true=>rfl
  |false=>rw[he]at H;exact ro rfl H
 .have he:q.2.2=v6:=by
   cases Z:q.2.2 with
   |true=>rw[Z]at he;exact ro Φ he
   |false=>rfl
  rw[bM];exact G _ _ ⟨rfl,by rw[he,Bool.false_or]⟩
end
theorem GM{p:x4}(ac:aN .u8 w p pl)(S:Bytes pl)(aX:fo w):al v8 HQ [p] w (Ry w (pl.take 300)):=by
 refine aB func24 ?_;refine bF aI.i λz U bN ah Y=>?_;have Y:ag U z aI z12:=Y;rw[a1 cT.u (ac.W ah),ma];refine Lc (i:=min pl.length 300) Ω cT.u cN.i (ac.W ah) Ω λbO aj=>?_;have a2:pl.take (min pl.length 300)=pl.take 300:=by
  by_cases h:pl.length<=300
  .rw[Nat.min_eq_left h,j4,Z0 h]
  .rw[Nat.min_eq_right Ω]
 rw[a2]at aj;have Z:Bytes (pl.take 300):=λb a=>S b (T1 a);have a7:(pl.take 300).length<=300:=by rw[o8];omega
 generalize pl.take 300=q at aj Z a7;refine(Qo aj Ω).Y ?_;rintro bP aa _ ⟨ak,bR,an⟩;have aE:=ah.F ak;refine(N5 an.ls Z Ω (aX.W aE)).Y ?_;rintro bS bT _ ⟨W,B⟩;have aF:=aE.F W;cases E:gS q with
 |none=>
  rw[E]at B;obtain⟨n,e,rfl,he⟩:=B;rw[fN,fO,fP];refine(EH (an.W W).ls Z Ω).Y ?_;rintro a8 ao _ ⟨L,ba,bb,ap,_⟩;obtain rfl:=ap E;rw[fN,fO,fP];refine aZ (λv X=>v= .bool v2/\Ext ao X) ?_ ?_
  .rintro _ X ⟨rfl,H⟩;rw[bQ,dm (cs:=#[Δ 0,.slice ν 0 0,Δ 0,.slice ν 0 0,.slice ν 0 0,.slice ν 0 0,.slice ν 0 0,.slice ν 0 0]) Ψ];obtain⟨_,_,s,C⟩:=E5;refine b6 (vs:=z12) aI.i rfl rfl (by intro u hu;simp[z12]at hu;rcases hu with rfl|rfl|rfl|rfl<;>rfl) ((((Y.W ak).W W).W L).W H) λbU bc bV bd=>?_;rw[fi aI.p aI.i rfl bd.range];refine⟨((aF.F L).F H).then bc λr B he=>by have he:r=z:=he;omega,_,_,v6,rfl,⟨rfl,(E5).elim λ_ h=>by obtain⟨_,_,h⟩:=h;exact λu hu=>by simp[z12]at hu;rcases hu with rfl|rfl|rfl|rfl<;>rfl⟩,.inl ⟨rfl,rfl⟩,λf aH=>?_⟩;rw[E]at aH;cases aH
  .intro ax I;rw[bL,am];exact⟨λ_=>I _ _ ⟨rfl,Ext.refl _⟩,λh=>ro he h⟩
 |some f=>
  rw[E]at B;obtain⟨bW,n,rfl,be⟩:=B;obtain⟨N,bf,M,bg,bh⟩:=Qm Ω E;have O:=Dt M;have ab:=yi M;rw[fN,fO,fP];refine(EH (an.W W).ls Z Ω).Y ?_;rintro a8 ao _ ⟨L,ba,bb,_,ap⟩;obtain⟨bX,rfl,bi⟩:=ap f E;rw[fN,fO,fP];refine aZ (λv X=>v= .bool v6/\Ext ao X) ?_ ?_
  rotate_left
  .intro ax I;rw[bL,am];refine⟨λh=>ro rfl h,λ_=>?_⟩;rw[dg wx.u];exact I _ _ ⟨rfl,Ext.refl _⟩
  rintro _ X ⟨rfl,H⟩;rw[a6];have aJ:=(aF.F L).F H;refine(Pf ((be.W L).W H) M bf ⟨bg,bh⟩).Y ?_;rintro bY bj _ ⟨aq,bk⟩;have af:=aJ.F aq;have P:=((((Y.W ak).W W).W L).W H).W aq;have aK:=(bi.W H).W aq;have bZ:=af.size;have b0:w.heap.size<=z:=Ω
  have b1:=P.lt;rcases bk with⟨bl,e,he,rfl⟩|⟨b2,rfl,bn⟩
  .rw[bx,bz];refine Qn.Y ?_;rintro _ aL _ ⟨rfl,j⟩;refine jo (λau t4 x=>au= .pointer ν/\t4= .bool v6/\Ext w x/\∃cs:List x4,ag x z aI cs/\cs.length=8/\∀u∈cs,u.oneCell'=v2) ?_ ?_
   .rintro _ _ x ⟨rfl,rfl,av,cs,aw,s,C⟩;rw[fi aI.p aI.i s aw.range];exact⟨av,_,cs,v6,rfl,⟨s,C⟩,.inl ⟨rfl,rfl⟩,λb3 aM bo=>ro bo (by rw[E]at aM;cases aM;exact bl)⟩
   .intro ax I;have bp:=j.size;refine(ER (aK.W j) M).Y ?_;rintro bq ay _ ⟨y,az⟩;refine(Fs (R:=λr=>w.heap.size<=r/\∃c,ag ay r ai c) (λr h=>h.2.elim λc a=>a.lt) (λr c S a=>⟨Ω,c,a⟩) az O.1 ab).Y ?_;rintro br bs _ ⟨G,A9,cs,rfl,Q,aA⟩;obtain⟨s,C⟩:=Q.len;rw[bm,am];refine⟨λh=>ro h he,λ_=>?_⟩;refine b6 (vs:=cs) aI.i s rfl C (((P.W j).W y).W G) λbt K aO aC=>?_;exact I _ _ _ ⟨rfl,rfl,(((af.F j).F y).F G).then K λr B he=>by have he:r=z:=he;omega,cs,aC,s,C⟩
  .rw[bx,bz];obtain⟨b4,bu,aP,bw⟩:=bn;have z5:=aJ.size;refine(PD (R0:=λr=>w.heap.size<=r/\r<bj.heap.size) bu aP (λr o h J=>⟨by have:=bw r o h J;omega,(b8.1 (aP.aY r o h J)).1⟩) (λr h=>h.2) O.1 ab).Y ?_;rintro _ aL _ ⟨j,ad,ae,A,R,t,rfl,bA,aQ,aR,aS,bB⟩;have aT:bE aL ad ae A R (cf f) (cR (cf f)) t:=⟨bA,aQ,Qq O.1 ab aQ aR,Pp O.1,O.1⟩;refine jo (λau t4 x=>au=Γ ad/\t4= .bool v2/\Ext w x/\∃cs:List x4,ag x z aI cs/\cs.length=8/\(∀u∈cs,u.oneCell'=v2)/\∃R' A9 aG,bE x ad ae A R' (cf f) (cR (cf f)) t/\ia v2 A9 aG x cs (cf f).k (cf f).co (cR (cf f))/\(∀q r,A9 q r->¬A r/\¬R' r/\w.heap.size<=r)/\(∀r,aG r->¬eG x r/\r<x.heap.size/\w.heap.size<=r)/\∀r,R' r->w.heap.size<=r) ?_ ?_
   .rintro _ _ x ⟨rfl,rfl,av,cs,aw,s,C,R',A9,aG,bC,Q,bD,bG⟩;rw[fi aI.p aI.i s aw.range];exact⟨av,_,cs,v2,rfl,⟨s,C⟩,.inr ⟨rfl,f,E,ad,ae,A,R',t,N,A9,aG,M,rfl,bC,aR,λr B=>by have:=aS r B;omega,Q,bD,bG⟩,λ_ _ _=>rfl⟩
   .intro ax I;have bp:=j.size;refine(ER (aK.W j) M).Y ?_;rintro bq ay _ ⟨y,az⟩;refine(Fs (R:=λr=>w.heap.size<=r/\∃c,ag ay r ai c) (λr h=>h.2.elim λc a=>a.lt) (λr c S a=>⟨Ω,c,a⟩) az O.1 ab).Y ?_;rintro br bs _ ⟨G,A9,cs,rfl,Q,aA⟩;obtain⟨s,C⟩:=Q.len;rw[bm,am];refine⟨λ_=>?_,λh=>ro rfl h⟩;rw[wB eL.u];have aU:=((P.W j).W y).W G;have bH:=((af.F j).F y).F G;refine b6 (vs:=cs) aI.i s rfl C aU λbt K aO aC=>?_;have aV:=(aT.W y).W G;obtain⟨R',aW,bI⟩:=aV.1.put aU K λh=>by have:=aS z h;omega
    have b5:=((af.F j).F y).size;have b7:=G.size;obtain⟨_,_,_,_,⟨_,_,bJ,bK⟩,_⟩:=(aT.W y).1;have b9:=P.lt;have ca:=(j.F y).size;have bM:=Q.V K λr B h he=>by
     have he:r=z:=he;rcases h with⟨q,h⟩|⟨_,c,a⟩
     .have:=aA q r h;omega
     .subst he;exact ro (fp a (((P.W j).W y))) Φ
    refine I _ _ _ ⟨rfl,rfl,bH.then K λr B he=>by have he:r=z:=he;omega,cs,aC,s,C,R',A9,_,⟨bI,aV.2⟩,bM,λq r h=>?_,λr h=>?_,λr h=>?_⟩
    .have cb:=aA q r h;refine⟨λaD=>by have:=bK r aD;omega,λaD=>by have:=bJ r (aW r aD).1;omega,Ω⟩
    .obtain⟨S,c,a⟩:=h;have cc:=a.lt;have aO:=K.size;refine⟨Ql ((a.W G).V K λhe=>?_) Φ,Ω,S⟩;have he:r=z:=he;subst he;exact ro (fp a (((P.W j).W y))) Φ
    .rcases bB r (aW r h).1 with h|h
     .exact h.1
     .omega
section
variable{Z aG:ah}{w I:x5}{ad ae ao:Nat}{A R:ah}{A9:Nat->ah}{n:aH}{s s':ak}{t:az}{cs:List x4}{a:fY}
theorem TK(h:fg Z aG w ad ae ao n s)(X:a.ok):al v8 we [Γ ad,Γ ao,.agg a.b1.toArray] w λ_ I=>lj Z aG w ad ae ao n (mM n s a) I:=by
 obtain⟨A,R,A9,t,cs,p,⟨aA,Q⟩,aC,S,aD⟩:=id h;have N:=p.dA.2.2.2.1;have bs:=N.fs;have bt:=a.SC;have G:¬A 0:=λh=>Q ((S 0).2 (.inl h));have Y:=SD (a:=a) aC N;refine aB func27 ?_;refine bp λga U bu aF ab=>?_;have ab:ag U ga db [.int .u8 a.d,Δ a.i,Δ a.pos,Δ a.v,Δ a.c]:=ab;intro aa aH _ _;have C:=aF.F aH;have B:=ab.W aH;have bw:=aF.size;have bx:=C.size;have bz:=B.lt;have ac:(a.d % 7).toNat=a.kind:=rfl;obtain⟨lc,bA,bB,bC,bD,bE,aW,_⟩:=p.pE;have aX:cs[0]?=σ (Δ n.k):=by rw[aW];rfl
 have hu:T7.wrap a.c=a.c.emod 18446744073709551616:=rfl;have aY:0<=a.c.emod 18446744073709551616:=Int.emod_nonneg _ Φ;have bF:=Int.emod_nonneg (a.c.emod 18446744073709551616) (show n.k+1≠0 by omega);have bG:=Int.emod_lt_of_pos (a.c.emod 18446744073709551616) (show 0<n.k+1 by omega);have aZ:a.c.emod 18446744073709551616 % (n.k+1)=vk n.k a:=rfl;rw[aL db.p 4 B rfl,fA av.u fK.u,aK aI.p 0 (p.box.W C) aX,aP,m1 Ω Ω,fA av.u fK.u,m2 (x:=n.k+1) Ω Ω,hu,q9 Ω,Int.tmod_eq_emod_of_nonneg aY,fA fK.u av.u,m1 Ω Ω,aZ,
  aL db.p 0 B rfl,yX X.1,ac,bm,am]
 have E:=p.W C;refine⟨λaf=>?_,λaf=>?_⟩
 .have af:a.kind=6:=Ω
  have H:mM n s a=if et n a.i a.v then dK s a.i.toNat a.v.toNat else s:=by unfold mM;rw[ms af]
  refine c7 (λI=>lj Z aG w ad ae ao n (mM n s a) I) (λI h=>h) λax aJ=>?_;rw[aL db.p 1 B rfl,aL db.p 3 B rfl];refine(yh (i:=a.i) (v:=a.v) E.dA (.inl p.im.1)).Y ?_;rintro bH bI _ ⟨a1,a2⟩;by_cases J:et n a.i a.v
  rotate_left
  .obtain⟨rfl,a6⟩:=a1 J;rw[bm,am];exact⟨λh=>ro h Φ,λ_=>aJ _ (by rw[H,rc J];exact lj.same h (C.F a6))⟩
  obtain⟨rfl,aN,aM,y,ah,a7⟩:=a2 J;rw[ms J]at H;rw[bm,am];refine⟨λ_=>?_,λh=>ro rfl h⟩;have a8:=E.prog aN ah a7 E.im.set (λ_ h=>.inl h) (λ_ _ _ h=>h) E.box.lt;obtain⟨ba,x,O,bb,bJ⟩:=Gc N J;obtain⟨aj,W⟩:=V9 ba;rw[W,u9]at O;intro ak an _ _;have j:=a8.W an;have ap:∀r,A r->r<w.heap.size:=λr h=>nv p.dA r (.inl h);have P:=(B.V ah.1 λh=>by have:=ap ga h;omega).W an;rw[W]at P;have aO:aj<s.d6.length:=(x6.1 O).1;obtain⟨g,cap,aQ,gy,e,au,bc,bd,be,bf⟩:=SE j O;have bK:=vc x;have bL:x.un.length<=32:=by obtain⟨bM,aR,bN,bh,_⟩:=J.var N;rw[W,u9,O]at aR;cases aR;exact bh
  have aw:∀r,lw aQ r->r≠ga/\r≠ao:=λr f=>by
   have h1:A9 0 r/\r<aa.heap.size:=be r f;exact⟨λhe=>by have:=aD 0 r h1.1;omega,λhe=>(p.apart 0 r h1.1).2.2 he⟩
  rw[aK aI.p 3 j.box au,aL db.p 1 P rfl,aK aI.p 3 j.box au,aL db.p 1 P rfl,eS ci.u aq.i aO λ_=>rfl,aE (v:=aQ) (o:=0+aj*1) Ψ bc,mb];refine(Rb (p:=λy=>decide (y=a.v)) bd Ω λI y bi bO=>?_).Y ?_
  .refine aB func73 ?_;rw[aL db.p 3 (P.V bi λh=>(aw ga h).1 rfl) rfl,bm];exact⟨rfl,Ext.refl _⟩
  rintro bP ay _ ⟨az,bj,bk⟩;have bl:=P.V az λh=>(aw ga h).1 rfl;have bn:=j.box.V az λh=>(aw ao h).2 rfl;refine⟨.inr ⟨tA Ψ (bl.cell (o:=0+1) rfl),Go.Vc.mp λK=>aU db.p rfl,tA Ψ (bn.cell (o:=0+3) au),Go.Vc.mp λK=>aU aI.p rfl,Go.Vc.mp λK=>bY,trivial⟩,?_⟩;rw[eS ci.u aq.i aO λ_=>rfl];refine bf (m:=((x.mask.toNat ||| 2 ^ a.v.toNat:Nat):Int)) (Ext.refl _) az (by rw[yA bb];exact bj) bk λbQ aS=>aJ _ ?_;have bo:dK s a.i.toNat a.v.toNat={s with d6:=s.d6.set aj {x with mask:=((x.mask.toNat ||| 2 ^ a.v.toNat:Nat):Int)}}:=by rw[W,u9];unfold dK;rw[O]
  rw[H];rw[<-bo]at aS;have bq:=cu.comp (an.V _) (λq r f=>.inl ⟨q,f⟩) aS;exact lj.before C (fg.SF E S (by rw[<-H];exact Y) Q (aA.W C) aN ah (λq r (f:A9 q r/\r<aa.heap.size)=>f.1) bq)
 have bR:(lX n.k a).kind=a.kind:=rfl;have H:mM n s a=(bg n.k s (lX n.k a)).1:=by unfold mM;rw[rc Ω]
 rw[aL db.p 0 B rfl,yX X.1,ac,fA cN.u ai.u,m1 Ω Ω,aL db.p 1 B rfl,aL db.p 2 B rfl,aL db.p 3 B rfl];refine(Sm (m:=lX n.k a) E N aC.1 Ω).Y ?_;rintro _ ak _ ⟨rfl,aT⟩;obtain⟨aV,bS,bT,j,bU⟩:=id aT;have ap:∀r,(∃q,A9 q r)\/r=ao->r<w.heap.size:=λr f=>f.elim (λ⟨q,h⟩=>aD q r h) λh=>by rw[h];exact p.box.lt
 have z:=B.V aV λf=>by have:=ap ga f;omega
 have L:Laid ak:=iz aV (λh=>Q ((S 0).2 (h.elim (λh=>.inr (.inr (.inl h))) λh=>.inr (.inr (.inr (.inr h)))))) (aA.W C);have M:∀{r:x4}{ay:x5},pJ [] ak ad ae A R n s (lX n.k a) r ay->lj Z aG w ad ae ao n (mM n s a) ay:=λbr=>by
  rw[H]at Y ⊢;exact lj.before C (fg.step E S Y Q aT (Ext.refl _) br.2)
 rw[aL db.p 0 z rfl,yX X.1,ac,bm,am];refine⟨λhk=>?_,λbV=>?_⟩
 .rw[aL db.p 1 z rfl,aL db.p 2 z rfl,aL db.p 3 z rfl];exact(FZ (a:=lX n.k a) Ω j.dA L G j.im.m).Y λr I _ f=>M f
 rw[bm,am];refine⟨λhk=>?_,λbW=>?_⟩
 .rw[aL db.p 1 z rfl,aL db.p 2 z rfl,aL db.p 3 z rfl];exact(R1 (a:=lX n.k a) Ω j.dA L G j.im.m).Y λr I _ f=>M f
 rw[bm,am];refine⟨λhk=>?_,λbX=>?_⟩
 .rw[aL db.p 1 z rfl];exact(F7 (a:=lX n.k a) Ω j.dA L G j.im.m).Y λr I _ f=>M f
 rw[bm,am];refine⟨λhk=>?_,λbZ=>?_⟩
 .rw[aL db.p 1 z rfl];exact(Sd (a:=lX n.k a) Ω j.dA L G j.im.m).Y λr I _ f=>M f
 rw[bm,am];refine⟨λhk=>?_,λb0=>?_⟩
 .rw[aL db.p 1 z rfl,aL db.p 3 z rfl];exact(F8 (a:=lX n.k a) Ω j.dA L G j.im.m).Y λr I _ f=>M f
 .rw[aL db.p 1 z rfl,aL db.p 3 z rfl];exact(Se (a:=lX n.k a) Ω j.dA L G j.im.m).Y λr I _ f=>M f
end
section
variable{w0 w I:x5}{ad ae ao:Nat}{n:aH}{s:ak}{Z aG:ah}
theorem mN.TL{a:fY}(h:mN w0 w ad ae ao n)(p:a.ok):al v8 we [Γ ad,Γ ao,.agg a.b1.toArray] w λ_ I=>mN w0 I ad ae ao n:=by
 obtain⟨e,s,Z,aG,q,f⟩:=h;refine(TK q p).Y ?_;rintro v U _ ⟨x,y,A,B⟩;have z:=e.size;exact⟨e.then x λr j h=>by have:=f r h.1;omega,_,y,aG,B,λr j=>(A r j).elim (f r) λh=>Ω⟩
theorem TM{e:x4}{L:List mL}{K:x4->x5->Prop}{i:Nat}{x:mL}(j:Seen fj w [e] L)(q:L[i]?=σ x)(r:∀g I,Ext w I->w.heap.size<=g->ag I g db (ow x).b1->K (Γ g) I):
  ab v8 (c9 oO e (Δ (i:Int))) w λs=>
  ab v8 (u6 db s) w λy=>
  aF v8 (Instr.alloc db v2 (.tuple #[])) w λa f=>
  aF v8 (l9 db a y) f λ(_:Unit)h=>K a h:=by
 refine ni (α:=mL) db.p rfl oO.u db.i j q λcs z=>?_;obtain rfl:=SA z;refine bF db.i λgy f F A B=>?_;refine b6 (vs:=(ow x).b1) db.i rfl rfl (fY.one _) B λh C G E=>?_;exact r _ _ (A.put C Ω) Ω E
theorem TN{r:x4}{L:List mL}{m:Int}{K:x5->Prop}(h:mN w0 w ad ae ao n)(e:Seen fj w0 [r] L)(H:∀x∈L,(ow x).ok)(J:∀I,mN w0 I ad ae ao n->K I):
  ab v8 (V0 #[oO] ai #[r]) w λM=>
 bW (Δ 0) w λj a k=>
  ab v8 (aO .lss ai v6 v6 j M) a λN=>
  Split N (cC (α:=x5->Prop) (λ(y:x5)=>
   ab v8 (aO .add ai v6 v2 j (Δ 1)) y λO=>
   k O y) λz=>
  ab v8 (c9 oO r j) a λP=>
  ab v8 (u6 db P) a λQ=>
  aF v8 (Instr.alloc db v2 (.tuple #[])) a λb A=>
  aF v8 (l9 db b Q) A λ(_:Unit)q=>
  ab v8 (aO .lss ai v6 v2 j (Δ m)) q λR=>
  Split R (ab v8 (u6 db b) q λS=>
   al v8 we [Γ ad,Γ ao,S] q λZ B=>
   z B)
   (z q))
   (K a):=by
 rw[gR oO.u (bu e h.1)];refine bW.range L.length (λi s=>mN w0 s ad ae ao n) (oZ e) h ?_ ?_
 .rintro i s U hi f V;obtain⟨x,C⟩:=aD (l:=L) hi;have W:=H x (x7 C);refine bG Ω ?_;refine c7 (λa=>mN w0 a ad ae ao n) (λa X=>by rw[aP];exact V _ X) λax E=>?_;refine TM (bu e f.1) C λgy A G _ Y=>?_;rw[aS,am];refine⟨λ_=>?_,λ_=>E _ (f.W G)⟩;rw[bC db.p db.i rfl Y.range];exact((f.W G).TL W).Y λv B _ e=>E _ e
 .rintro s U f;exact cd Ω (J _ f)
end
theorem TO{p X:x4}{L:List mL}(ac:aN .u8 w p pl)(ay:∀b∈pl,0<=b/\b<256)(az:Seen fj w [X] L)(aA:∀x∈L,(ow x).ok)(aC:fo w)(J:Laid w):al v8 HI [p,X] w (Ge w pl):=by
 have a2:=qL J;refine aB func7 ?_;refine bF aI.i λj U a7 y Y=>?_;have a8:=Y.lt;have ba:=y.size;refine(GM (ac.W y) ay (aC.W y)).Y ?_;rintro _ aa _ ⟨M,bb,cs,ok,rfl,⟨E,G⟩,aD,_⟩;rw[fN,fO,fP];refine bF aI.i λao bc bd aE aH=>?_;refine b6 (vs:=cs) aI.i E rfl G aH λH aJ be N=>?_;have ah:Ext aa H:=aE.put aJ Ω;have I:=M.F ah;have ai:=y.F I;have bf:=M.size;have out:∀{a:x5}{z:List x4}{K:x4->x5->Prop},Ext U a->ag a ao aI z->z.length=8->(∀u∈z,u.oneCell'=v2)->(∀e,af (λr=>r=j) a e->K (.agg z.toArray) e)->
   ab v8 (u6 aI (Γ ao)) a λt25=>aF v8 (l9 aI (Γ j) t25) a λ(_:Unit)e=>ab v8 (do loadVar aI (<-asAddr (Γ j))) e λr=>K r e:=λ{a z K}aK aM O aO aP=>by
  rw[bC aI.p aI.i O aM.range];refine b6 (vs:=z) aI.i O rfl aO (Y.W aK) λe B bg aQ=>?_;rw[fi aI.p aI.i O aQ.range];exact aP _ B
 have no:∀{e:x5},(∃a,Ext H a/\af (λr=>r=j) a e)->Ge w pl (.tuple #[.pointer ν,.agg cs.toArray,.bool v6]) e:=λ⟨a,q,aR⟩=>⟨(ai.F q).then aR λr C h=>by have h:r=j:=h;omega,.inl ⟨cs,rfl,E,G⟩⟩;rcases aD with⟨rfl,rfl⟩|⟨rfl,f,aS,aT⟩
 .refine aZ (λv P=>P=H/\v= .bool v2) ?_ λax Q=>?_
  .rintro _ _ ⟨rfl,rfl⟩;rw[bQ];intro a q _ _;exact out (I.F q) (N.W q) E G λe B=>no ⟨a,q,B⟩
  .rw[bM,W6,bQ];exact Q _ _ ⟨rfl,rfl⟩
 obtain⟨ad,ae,Z,aG,rfl,aj,aU⟩:=Sn aT ah N Ω M.size (qL (J.W y)) (J.W ai);obtain⟨lc,bh,bi,bj,bk,bl,aV,_⟩:=aj.look;refine aZ (λv P=>P=H/\v= .bool (decide (1000<(cf f).k))) ?_ λax Q=>?_
 rotate_left
 .rw[bM,X3,a6,aL aI.p 0 aV rfl,bU];exact Q _ _ ⟨rfl,rfl⟩
 rintro _ _ ⟨rfl,rfl⟩;rw[am];refine⟨λhk=>?_,λhk=>?_⟩
 .intro a q _ _;exact out (I.F q) (N.W q) E G λe B=>no ⟨a,q,B⟩
 refine TN (w0:=U) ⟨I,_,Z,aG,aj,aU⟩ (bu az y) aA λbm aW=>?_;obtain⟨ak,s,an,aX,aY,ap⟩:=aW;intro bn S _ _;have aq:=aY.W S;obtain⟨V,au,a1⟩:=aq.ds;have av:V.length=8/\∀u∈V,u.oneCell'=v2:=by
  obtain⟨A,R,A9,t,p,_⟩:=id au;exact bB.len p.doc
 have aw:∀r,an r->¬r=j:=λr C h=>by have:=ap r C;omega
 refine out (ak.F S) a1 av.1 av.2 λbo W=>⟨((y.F ak).F S).then W λr C h=>by have h:r=j:=h;omega,.inr ⟨f,ad,ae,ao,an,aX,s,V,rfl,aS,Ω,aq.side W aw (λh=>by have h:0=j:=h;omega),au.side W aw (λh=>by have h:0=j:=h;omega),λr C=>by have:=ap r C;omega⟩⟩
def lZ:Λ:=[116,32,50,32,50,32,49,32,57,32,49,32,50,32,50,32,48,32,49,32,48,32,50,32,48,32,48,32,51,32,48,32,49,32,51]
def fw:b7:=⟨[116],9,[1,2],[⟨[0,1],[1,2],0,[([0,0],3),([0,1],3)]⟩]⟩
theorem TP:gS lZ=σ fw:=by
 have h:(match gS lZ with
  |some f=>decide (f.name=fw.name/\f.k=fw.k/\f.co=fw.co)&&decide (f.d9.map (λx=>(x.scope,x.co,x.other,x.lines))=fw.d9.map λx=>(x.scope,x.co,x.other,x.lines))
  |none=>v6)=v2:=by decide+kernel
 cases p:gS lZ with
 |none=>rw[p]at h;cases h
 |some f=>
  rw[p]at h;simp only[U9,sp]at h;obtain⟨⟨h1,q,r⟩,e⟩:=h;obtain⟨nm,k,w,j⟩:=f;simp only at h1 q r e;subst h1;subst q;subst r;have:j=fw.d9:=by
   have s:j.length=1:=by have:=congrArg Q2 e;simpa[fw]using this
   match j,s with
   |[x],_=>
    obtain⟨a,b,c,d⟩:=x;simp[fw]at e;obtain⟨rfl,rfl,rfl,rfl⟩:=e;rfl
  subst this;rfl
theorem TQ:ns fw.d9<=16384:=by decide+kernel
def GN:ak:=(jN (cf fw) [0] 20 (cR (cf fw))).1
theorem TR:(jN (cf fw) [0] 20 (cR (cf fw))).2=v6/\GN.zero=3/\(GN.d6[1]?.map λx=>(aC x,x.un.length))=σ ([0,1],2):=by decide+kernel
theorem TS:oy (cf fw) [0] 20 (cR (cf fw))=v2:=by decide+kernel
theorem TT:iv (cR (cf fw)) (cR (cf fw)).d9.length=[0]:=by decide+kernel
theorem TU:(cR (cf fw)).d9.length<=1000000:=by decide+kernel
theorem TV(Q:fo w)(y:Laid w):al v8 HH [] w λv I=>v= .bool v2/\Ext w I:=by
 refine aB func6 ?_;refine kS (k:=1) (cs:=(ints .u8 lZ).toArray) cT.u cN.i Ω Ψ λg U aX a p=>?_;have z:aA .u8 cN U g (.slice (σ ⟨g,0,ν⟩) 35 35) lZ:=aA.of (n:=35) (b0.full (by simpa using p) (by simp[lZ]) (by simp[maxLen]));refine RD p λq B C=>?_;have a:Ext w q:=a.put B Ω;have ac:aN .u8 q (.slice (σ ⟨g,0,ν⟩) 35 35) lZ:=by
  obtain⟨S,b,o,base,cap,V,W,X,Y,Z⟩:=z.ls;cases V;cases Y (by simp[lZ]);exact⟨S,g,0,_,35,rfl,W,X,λ_=>rfl,C _ _ Z⟩
 clear z p C B;refine(GM ac (by intro b ab;simp[lZ]at ab;omega) (Q.W a)).Y ?_;rintro _ aa _ ⟨af,ag,cs,ok,rfl,⟨ah,ai⟩,aj,ak⟩;have E:gS (lZ.take 300)=σ fw:=by
  rw[Z0 Φ];exact TP
 have an:ok=v2:=ak fw E TQ;subst an;obtain⟨f,G,ad,ae,A,R,t,N,A9,aG,aY,rfl,ap,aq,H,_⟩:∃f,gS (lZ.take 300)=σ f/\u3 q.heap.size aa ag cs f:=by
  rcases aj with⟨h,_⟩|⟨_,h⟩
  .cases h
  .exact h
 rw[E]at G;cases G;have J:=a.F af;rw[fN,fO,fP];refine bF aI.i λao a1 a2 au av=>?_;refine b6 (vs:=cs) aI.i ah rfl ai av λaw ay a6 az=>?_;have s:Ext aa aw:=au.put ay Ω;have aD:=ap.W s;have aE:¬A 0:=λh=>by have:=H 0 h;have:=qL (y.W a);omega
 refine aZ (λv aF=>v= .bool v2/\Ext w aF) (λ_ _ h=>h) λax aH=>?_;rw[bQ];refine(TJ aD (y.W (J.F s)) aE aq.2.2.1.m (FL _) TU (λa7 aJ=>List.perm_singleton.1 (TT▸aJ)) TS).Y ?_;rintro _ aK _ ⟨rfl,hm⟩;obtain⟨aL,aO,aP⟩:=TR;obtain⟨a8,ba,aM,bs,aQ,K,_⟩:=hm;have aR:Ext w aK:=(J.F s).then aQ.1 λr bb h=>by have:=H r h;have:=a.size;omega
 rw[aL,rc Φ,bm,am];refine⟨λ_=>?_,λh=>ro rfl h⟩;refine(pw K).Y ?_;rintro _ bc _ ⟨rfl,L⟩;have aS:(jN (cf fw) [0] 20 (cR (cf fw))).1.zero=3:=aO;rw[aS,bm,am];refine⟨λ_=>?_,λh=>ro rfl h⟩;refine(kC (i:=1) (K.W L)).Y ?_;rintro _ bd _ ⟨⟨b,M,rfl,e⟩,aT⟩;refine(Th e.1).Y ?_;rintro _ be _ ⟨rfl,aU⟩;have aV:((jN (cf fw) [0] 20 (cR (cf fw))).1.d6[1]?.map λx=>(aC x,x.un.length))=σ ([0,1],2):=aP;obtain⟨x,O,P⟩:=Y9.1 aV;simp only[S8]at P;have j:=mD e Ω O;have bf:=(e.2.2 x Ω O).1;have az:b<2 ^ M:=e.1.2;have aW:M=2:=Ω
 subst aW;rw[P.1]at j;rw[bm];refine aH _ _ ⟨?_,((aR.F L).F aT).F aU⟩;rcases(show b=0\/b=1\/b=2\/b=3 by omega)with rfl|rfl|rfl|rfl
 .exact ro j Φ
 .exact ro j Φ
 .exact ro j Φ
 .rfl
theorem TW{sv:x4}(h:aN .i64 w sv l)(J:∀x∈l,1<=x/\x<=32)(au:l.length<=64):
  al v8 HJ [sv] w λv I=>Ext w I/\∃L,bq (eU w.heap.size) bO I [v] L/\Sp l L:=by
 refine aB func8 ?_;have ac:=me l J;refine aZ (λv aa=>Ext w aa/\∃b,v= .bool b/\(b=v2->l.length<=11/\aQ l<=90)) ?_ λax M=>?_
 rotate_left
 .rw[a1 aq.u h,aS,am];refine⟨λav=>?_,λ_=>M _ _ ⟨Ext.refl _,v6,rfl,λh=>by cases h⟩⟩;refine(St h J).Y ?_;rintro _ U _ ⟨⟨c,rfl,Q⟩,e⟩;rw[lA];exact M _ _ ⟨e,_,rfl,λh=>⟨Ω,by rw[<-Q Ω];exact ty h⟩⟩
 rintro _ U ⟨e,b,rfl,S⟩;rw[b4];refine⟨λV=>?_,λ_=>?_⟩
 .obtain⟨aw,ay⟩:=S V;refine(wQ l (h.W e) ⟨Ω,J,Ω⟩).Y ?_;rintro v aa _ ⟨f,p⟩;have az:=ks J;have W:=e.size;exact⟨e.F f,bo l,an.Y p (λr _ h=>by have h:U.heap.size<=r:=h;show w.heap.size<=r;omega) λ_ _ h=>h,Ω,λa C=>Sr C⟩
 have W:=e.size;refine ch.range 60 (λk out aa=>Ext U aa/\bq (eU U.heap.size) bO aa [out] ((X9 k).map (lW l))) Ω ⟨Ext.refl _,gh⟩ ?_ ?_
 .rintro k out aa X hk ⟨f,p⟩ Y;refine bG Ω ?_;have E:=e.F f;rw[a1 aq.u (h.W E)];refine kq (k:=.i64) aq.u ai.i Ω Ω λs Z aC N O=>?_;have ab:aA .i64 ai Z s (.slice (σ ⟨s,0,ν⟩) l.length l.length) (o6 l.length 0):=by
   refine aA.of (n:=l.length) ⟨Ξ,.inr ⟨l.length,ints .i64 (o6 l.length 0),rfl,O,Ω,by simp only[maxLen];omega,Ξ,Ξ⟩⟩
  have ad:=E.F N;have aE:=f.size;have aF:=O.lt;rw[a1 aq.u (h.W ad)];refine bW.range l.length (λq B=>Ext aa B/\aA .i64 ai B s (.slice (σ ⟨s,0,ν⟩) l.length l.length) (upto (lW l k) 0 q)) h.le ⟨N,by rw[qe,sD];exact ab⟩ ?_ ?_
  .rintro q B ae af ⟨y,j⟩ ag;obtain⟨z,G⟩:=aD (l:=l) af;have aG:=J z (x7 G);refine bG Ω ?_;have aH:0<=(k:Int)*(2*(q:Int)+1)/\(k:Int)*(2*(q:Int)+1)<=60*200:=⟨Int.mul_nonneg Ω Ω,Int.mul_le_mul Ω Ω Ω Ω⟩;have aI:0<=(k:Int) / 3/\(k:Int) / 3<=60:=Ω
   have aJ:(2*(q:Int)+1)=2*(q:Int)+1:=rfl;rw[bk aq.u ai.i Ψ (h.W (E.F y)) G,fz,m1 (x:=2*(q:Int)) Ω Ω,aP,m1 Ω Ω,fz,m1 Ω Ω,nN Φ,Int.tdiv_eq_ediv_of_nonneg Ω,m1 Ω Ω,aP,m1 Ω Ω,q9 Ω,Int.tmod_eq_emod_of_nonneg Ω,
    iY rfl aq.u ai.i j (by rw[pc,sD];omega)]
   refine iZ ai.i j (by rw[pc,sD];omega) λah H aK aj=>?_;rw[aP];refine ag _ ⟨y.then H λr ak he=>by have he:r=s:=he;omega,?_⟩;rw[<-qg (Gb G)];exact aj
  rintro B ae ⟨y,j⟩;refine cd Ω ?_;rw[show upto (lW l k) 0 l.length=lW l k by rw[<-sD l k,qf]]at j;have z4:=y.size;refine ju (α:=Λ) (a:=lW l k) (A:=eU aa.heap.size) (R:=bO) ci.u aq.i Φ (lC (md j (R:=bO))) (an.Y (md j) (λr _ h=>by subst h;show aa.heap.size<=r;omega) λ_ _ h=>h) λaL ah K _ H=>?_;have P:=y.F K;have z5:=K.size;refine nQ (α:=Λ) (a:=lW l k) (A:=eU aa.heap.size) ci.u aq.i rfl (bu (ng p) P) H (bu (an.Y (md j) (λr _ h=>by subst h;show aa.heap.size<=r;omega) λ_ _ h=>h) K) (λr _ h aW=>?_) (by simp only[r8,List.length_range];omega) (by simp only[r8,List.length_range];omega) λaM aO ao ap=>?_
  .rcases aW with aW|aW
   .have:=h.2;have:aa.heap.size<=r:=aW;omega
   .exact aW
  rw[aP];refine Y _ _ ⟨(f.F P).then ap (λr ak h=>by have:=h.1;have:U.heap.size<=r:=this;omega),?_⟩;rw[List.range_succ,Z3,List.map_singleton];refine an.Y ao (λr _ h=>?_) λ_ _ h=>h;show U.heap.size<=r;rcases h with h|h|h
  .exact h.1
  .have:aa.heap.size<=r:=h;omega
  .omega
 .rintro out aa X ⟨f,p⟩;rw[show((60:Nat):Int)=60 from rfl,aS,am];refine⟨λh=>Ω,λ_=>⟨e.F f,_,an.Y p (λr _ h=>by have h:U.heap.size<=r:=h;show w.heap.size<=r;omega) λ_ _ h=>h,Ξ,λa C=>?_⟩⟩;obtain⟨k,_,rfl⟩:=j5.1 C;exact Sq k J
theorem TX{p aE:x4}{L:List mL}{Q:x4->x5->Prop}(S:∀I,Ext w I->Q (.bool v2) I)(ac:aN .u8 w p pl)(bc:∀b∈pl,0<=b/\b<256)(bd:Seen fj w [aE] L)(W:∀x∈L,(ow x).ok)(aF:fo w)(aH:Laid w):
  al v8 Aj [p,aE] w Q:=by
 refine aB func3 ?_;refine(TV aF aH).Y ?_;rintro _ U _ ⟨rfl,C⟩;rw[bM,X3,a6];refine(TO (ac.W C) bc (bu bd C) W (aF.W C) (aH.W C)).Y ?_;rintro _ aa _ ⟨aJ,be⟩;have aK:=C.F aJ;have cr:=C.size;have ct:=aJ.size;rcases be with⟨cs,rfl,bf,bg⟩|⟨f,ad,ae,cu,Z,aG,s,cs,rfl,cw,hk,X,Y,bh⟩
 .rw[fN,fO,fP];refine bF aI.i λao bi bj M ab=>?_;refine b6 (vs:=cs) aI.i bf rfl bg ab λaf ag bk ah=>?_;rw[bM,W6,bQ,dg eL.u];exact S _ (aK.F (M.put ag Ω))
 rw[fN,fO,fP];have ai:cs.length=8/\∀u∈cs,u.oneCell'=v2:=by
  obtain⟨A,R,A9,t,p,_⟩:=id Y;exact bB.len p.doc
 refine bF aI.i λao bi bj M ab=>?_;refine b6 (vs:=cs) aI.i ai.1 rfl ai.2 ab λaf ag bk ah=>?_;have aM:Ext aa af:=M.put ag Ω;have bl:=aK.F aM;rw[bM,X3,a6];have aO:=Y.W aM;have aQ:mF af ao (cf f).k (cf f).co s:=jJ.box aO.ok.2 (Ext.refl _) ah;obtain⟨lc,cz,cA,cB,cC,cD,aj,bn,_⟩:=id aQ;obtain⟨y,aR,E,_⟩:=X.ok;have bo:s.d9.length<=256:=X.live.2;rw[aL aI.p 0 aj rfl,aL aI.p 1 aj rfl];refine(TW bn y.ed.2.2 y.ed.2.1).Y ?_;rintro ds bp _ ⟨aU,J,bq,cE,ak⟩;have an:=js bq;rw[gR ci.u an];refine ch.range J.length (λi c ap=>Ext bp ap/\c=Δ (((J.take i).map (eA (cf f).k s)).foldl min (cf f).k)) (oZ an) ⟨Ext.refl _,rfl⟩ ?_ ?_
 .rintro i _ ap br hi ⟨K,rfl⟩ bs;obtain⟨tl,au⟩:=aD (l:=J) hi;have G:=yW y (ak tl (x7 au));refine bG Ω ?_;refine jX (α:=Λ) (a:=tl) rfl rfl ci.u aq.i Ψ (bu an K) au λaT bt=>?_;refine(aQ.W (aU.F K)).load λcF bw=>?_;refine(Rh bw y aR G (en (js bt))).Y ?_;rintro _ cG _ ⟨rfl,bA⟩;rw[ma,aP];refine bs _ _ ⟨K.F bA,?_⟩;rw[r9,au,j6,Z3,S3];rfl
 rintro _ ap br ⟨K,rfl⟩;rw[j4];refine cd Ω ?_;have N:=aU.F K;have bE:=Y.lt;obtain⟨A,R,t,bH,bI,bJ,bK,bN⟩:=(aO.W N).go;refine(TI bH bI bJ bK aR Ω).Y ?_;rintro _ bO _ ⟨q,bP,rfl,hm⟩;obtain⟨av,cH,cI,bR⟩:=bN (Ext.refl _) hm;have aV:Ext w bO:=(bl.F N).then av λr cJ h=>by have:=bh r h.1;omega
 have aW:¬(Z ao/\¬aG ao):=λh=>by have:=bE ao h.1;have:=M.size;omega
 have bS:=(ah.W N).V av aW;have aX:=(aj.W N).V av aW;obtain⟨e,bT,bU,_⟩:=bP;have aw:∀c,c<=(J.map (eA (cf f).k s)).foldl min (cf f).k↔c<=(cf f).k/\∀a∈J,c<=eA (cf f).k s a:=λc=>by
  rw[nw];exact and_congr_right λ_=>⟨λh a B=>h _ (j5.2 ⟨a,B,rfl⟩),λh x z=>by obtain⟨a,B,rfl⟩:=j5.1 z;exact h a B⟩
 cases he:q.2 with
 |true=>
  obtain⟨i,hi,H,bV⟩:=bT he;rw[ms rfl,bm,am];refine⟨λ_=>?_,λh=>ro rfl h⟩;rw[aL aI.p 0 aX rfl,bm,rs ?_]
  .exact S _ aV
  .have h1:=(aw (cf f).k).2 ⟨S0 _,λa B=>by
    have G:=yW y (ak a B);rw[<-e.val a G,SS e.ok (yI e.same G) hi H bV];exact S0 _⟩
   have bW:=((aw _).1 (S0 _)).1;omega
 |false=>
  have aY:=(bU he).1;rw[rc Φ,bm,am];refine⟨λh=>ro h Φ,λ_=>?_⟩;have bX:∀g∈s.d9,g.live≠0:=λg W=>by
   obtain⟨j,a2⟩:=X8.1 W;obtain⟨bY,H⟩:=aD (l:=(cR (cf f)).d9) (i:=j) (by have:=(x6.1 a2).1;have:=E.d9;omega);rw[(E.fn j bY g H a2).2.2.1];unfold cR at H;simp only[u4,Y9]at H;obtain⟨c,_,rfl⟩:=H;show(1:Int)≠0;decide
  have bo:s.d9.length<=256:=by
   have h1:=E.d9;have bW:(cR (cf f)).d9.length=(cf f).d9.length:=by unfold cR;simp
   have:=X.ok.2.2.2;omega
  have bZ:s.eC.length<=1000:=by rw[E.eC];exact W0 _
  rw[bC aI.p aI.i ai.1 bS.range];obtain⟨cK,cL,cM,cN,ay,⟨b0,_,_⟩,_⟩:=id bR;refine(Tk ay b0 e.same y bX Ω bZ).Y ?_;rintro _ b1 _ ⟨b2,cO,bD,rfl,a7,cP⟩;obtain⟨b3,b4⟩:=bB.len a7;refine bF aI.i λgy cQ cS b5 b7=>?_;refine b6 (vs:=bD) aI.i b3 rfl b4 b7 λaz b8 cT b9=>?_;have a8:Ext b1 az:=b5.put b8 Ω;have ca:=b2.F a8;have ba:mF az gy (cf f).k (cf f).co q.1:=jJ.box (ia.yv a7) a8 b9;obtain⟨_,_,_,_,_,_,cb,cc,_⟩:=id ba;rw[aL aI.p 1 cb rfl,a1 aq.u cc];refine ch.range (cf f).co.length (λi _ aA=>Ext az aA) (by have:=y.ed.2.1;omega) (Ext.refl _) ?_ ?_
  .rintro i t4 aA ce hi O cg;obtain⟨x,z⟩:=aD (l:=q.1.d6) (i:=i) (by have:=e.ok.d6;omega);refine bG Ω ?_;refine(ba.W O).load λcU cj=>?_;refine(Sy (i:=i) cj e.ok z).Y ?_;rintro _ cV _ ⟨ck,rfl⟩;have cl:=((Ti e.ok z).1 (aY i hi) (Gd (E.F e.same) z)).2.1;rw[bx,bz,bL,am];refine⟨λh=>ro cl h,λ_=>?_⟩;rw[aP];exact cg _ _ (O.F ck)
  .rintro t4 aA ce O;refine cd Ω ?_;refine aZ (λv I=>v= .bool v2/\Ext w I) (λv I h=>by rw[h.1];exact S _ h.2) λax cm=>?_;intro cW cn _ _;have P:=(ca.F O).F cn;have cX:=y.ed.1;obtain⟨x,z⟩:=aD (l:=q.1.d6) (i:=0) (by have:=e.ok.d6;omega);have cp:=SR (i:=0) e.ok aY Ω (by unfold dr;rw[z];simp[Gd (E.F e.same) z]);have cq:=(aw q.1.zero).2 ⟨Ω,λa B=>by
    have G:=yW y (ak a B);rw[<-e.val a G];exact zero_le e.ok⟩
   rw[bm,am];refine⟨λ_=>?_,λh=>ro rfl h⟩;refine(pw (ay.dA.W P)).Y ?_;rintro _ cY _ ⟨rfl,aC⟩;rw[lA,am];refine⟨λ_=>?_,λh=>ro cq h⟩;rw[aL aI.p 0 (aX.W (P.F aC)) rfl];refine(pw (ay.dA.W (P.F aC))).Y ?_;rintro _ cZ _ ⟨rfl,bb⟩;refine⟨.inl bb,?_⟩;rw[aS];exact cm _ _ ⟨by rw[rs cp],aV.F ((P.F aC).F bb)⟩
theorem TY{p:x4}{L:List mL}(ac:aN .u8 w p pl)(e:∀b∈pl,0<=b/\b<256)(f:Seen fj w [a] L)(h:∀x∈L,(ow x).ok)(j:fo w)(q:Laid w):
  al v8 Aj [p,a] w λv I=>v= .bool v2/\Ext w I:=TX (λI r=>⟨rfl,r⟩) ac e f h j q
end Go.Proofs.YtnhkbjhpbbobaaaGreatDoor
