/- own texts, made small by a tool (wip/ holds them as they were written): no statement of the seat. -/
import Derived.Test.YtikkpokkcdocoabGreatDoorZe
set_option linter.defProp false
set_option linter.unusedVariables false
set_option linter.unusedSimpArgs false
set_option linter.unnecessarySimpa false
open Array renaming getElem?_eq_some_iff→j9
open Bool renaming not_true→X2,not_false→V8,and_eq_true→V9,true_and→T9
open Decidable renaming not_not→Y3
open Go renaming Value→x1,World→x3,TypeId→p8,IntKind→n9,FuncId→Q4
open Go.Builtin renaming append_→Z5,len_→U1
open Go.Instr renaming loadAt→u5,fieldAt→u6,storeAt→l9,indexAt→c9,buildSlice→Y5,alloc→Q6
open Go.IntKind renaming i64→W5,u64→T1
open Go.Proofs.Tryz renaming prog→x7
open Int renaming toNat_natCast→u7,eq_ofNat_of_zero_le→W6
open List renaming getElem?_eq_some_iff→x4,mem_of_getElem?→x5,getElem?_eq_getElem→x6,getElem?_map→x8,getD_eq_getElem?_getD→u4,take_add_one→u9,length_append→r8,length_map→r9,mem_append→p9,take_length→o9,mem_singleton→j5,length_take→j6,mem_map→c7,eq_nil_of_length_eq_zero→b6,getElem?_set_self→b8,length_cons→b9,take_of_length_le→Z2,range→Z4,getElem?_eq_none→Z7,map_append→Z9,getElem?_set_ne→Y6,append_nil→Y8,ext_getElem?→Y9,append_assoc→X6,mem_flatMap→X9,mem_range→W8,pairwise_iff_getElem→V3,mem_cons→V5,length_eq_one_iff→V7,map_set→T0,mem_filter→T2,map_cons→T3,length_singleton→T7,length_range→S0,getElem_mem→S3,mem_of_mem_take→S4,foldl_cons→S8,length→R2,foldl_append→R3,length_filter_le→Q2
open Nat renaming le_refl→o4,zero_le→X8,zero_add→W0,mul_one→U7,add_mul→U8,pow_le_pow_right→S7,lt_of_lt_of_le→Q7,eq_zero_or_pos→Q8
open Option renaming toList_some→j4,some→c8,isNone_some→Y0,map_some→Y1,getD_some→V2,isSome_some→S1,isSome_none→R7
open Option.some renaming inj→Z3,injEq→Y7
open Prod.mk renaming injEq→T6
set_option maxHeartbeats 16000000
open Option renaming some→σ,none→ν
variable{j level pos:Nat}{a k v:Int}{l:Λ}{aa ab w:x3}{K:x1->x3->Prop}
namespace Go.Proofs.YtikkpokkcdocoabGreatDoor
open Go Go.Vc Go.RowKit Go.Proofs Go.Proofs.Tryz
set_option maxRecDepth 100000
def ie(s:aq)(i:Int):Option bC:=match(if 0<=i then s.vars[i.toNat]? else ν)with
 |some x=>if x.gone=0 then σ x else ν
 |none=>ν
def zr{s:aq}{i:Int}{x:bC}(h:ie s i=σ x):0<=i/\s.vars[i.toNat]?=σ x/\x.gone=0:=by
 unfold ie at h;by_cases a:0<=i
 .rw[if_pos a]at h;cases U:s.vars[i.toNat]? with
  |none=>rw[U]at h;cases h
  |some y=>
   rw[U]at h;simp only at h;split at h
   .rename_i e;cases h;exact⟨a,F,e⟩
   .cases h
 .rw[if_neg a]at h;cases h
def Gs{g:Int->Int}{un L:Λ}(h:L[j]?=σ v):eg g un (L.take (j+1))=(eg g un (L.take j)).set v.toNat (g ((eg g un (L.take j)).getD v.toNat 0)):=by
 unfold eg;rw[u9,h,j4,R3];rfl
theorem Gt{i:Nat}{v:Int}:∀(L M:Λ)(s:aq),gq s i v (L++M)=gq (gq s i v L) i v M
 |[],_,_=>rfl
 |w::L,M,s=>by
  rw[List.cons_append,gq,gq];exact Gt L M _
def SH{s:aq}{i:Nat}{w:Int}{L:Λ}(h:L[j]?=σ w):gq s i v (L.take (j+1))=if w≠v then eu (gq s i v (L.take j)) i w.toNat else gq s i v (L.take j):=by
 rw[u9,h,j4,Gt];rfl
def lB(m u:Int):Int:=if m<0\/u<m then u else m
theorem Gu:∀(l:Λ)(m:Int),0<=m->(∀c∈l,0<=c)->l.foldl lB m=l.foldl min m
 |[],_,_,_=>rfl
 |c::l,m,hm,a=>by
  have:=a c (.head _);have e:lB m c=min m c:=by unfold lB;split<;>omega
  rw[S8,S8,e];exact Gu l _ Ω λc h=>a c (.tail _ h)
def SI{x:bC}(h:∀v∈aE x,0<=x.un.getD v.toNat 0):((aE x).map λv=>x.un.getD v.toNat 0).foldl lB (-1)=lz x:=by
 unfold lz;have a:∀c∈(aE x).map (λv=>x.un.getD v.toNat 0),0<=c:=λc e=>by
  obtain⟨v,ae,rfl⟩:=c7.1 e;exact h v ae
 generalize (aE x).map (λv=>x.un.getD v.toNat 0)=l at a;cases l with
 |nil=>rfl
 |cons c l=>exact Gu l c (a c (.head _)) λc h=>a c (.tail _ h)
section
variable{aC:List aD}{w:x3}{ag gT:Nat}{A R:ak}{n:aH}{s:aq}{t:aD}{a:iZ}
def Gv{i:Int}(h:bz w ag gT A R n s t):an x7 Jg [Γ ag,Δ i] w λr J=>Ext w J/\r=Δ (if(ie s i).isSome=true then 0 else 1):=by
 have p:=h.2.2.2.1;have:=p.vars;refine aA func145 ?_;rw[dh dm.u];simp only[Y0,a8];refine aV (λr aa=>r= .bool (!(ie s i).isSome)/\Ext w aa) ?_ ?_
 .rintro _ aa ⟨rfl,C⟩;rw[cd];exact⟨λq=>⟨C,by rw[if_neg (by simpa using q)]⟩,λq=>⟨C,by rw[if_pos (by simpa using q)]⟩⟩
 intro aB E;refine(yJ h).mono ?_;rintro _ ab _ ⟨rfl,y⟩;rw[cd];refine⟨λa=>E _ _ ⟨?_,y⟩,λa=>?_⟩
 .rw[V9,decide_eq_true_eq]at a;have K:ie s i=ν:=by
   unfold ie;rw[if_pos a.1];have B:=a.2;unfold jO at B;cases U:s.vars[i.toNat]? with
   |none=>rfl
   |some x=>
    rw[U]at B;simp only;rw[if_neg λh=>by simp[h]at B]
  rw[K];rfl
 refine(kN (i:=i) (h.ext y)).mono ?_;rintro _ P _ ⟨⟨b,m,rfl,G⟩,L⟩;refine(xk).mono ?_;rintro _ Q _ ⟨rfl,M⟩;rw[bf];refine E _ _ ⟨?_,(y.trans L).trans M⟩;congr 1;by_cases f:0<=i/\i<n.sizes.length
 .obtain⟨x,U⟩:=aI (l:=s.vars) (i:=i.toNat) Ω;obtain⟨z,H⟩:=aI (l:=n.sizes) (i:=i.toNat) Ω;have:=p.fT.2.2 z (x5 H);have:=(p.var _ x z U H).1;have:=(G.2.2 x f.1 U).1;have N:x.gone=0:=by
   rw[decide_eq_true f.1,T9]at a;unfold jO at a;rw[U]at a;simpa using a
  have e:ie s i=σ x:=by
   unfold ie;rw[if_pos f.1,U];simp only;rw[if_pos N]
  rw[e,decide_eq_false Ω];rfl
 .obtain⟨rfl,rfl⟩:=G.2.1 f;have e:ie s i=ν:=by
   unfold ie;by_cases I:0<=i
   .rw[if_pos I,Z7 Ω]
   .rw[if_neg I]
  rw[e];rfl
def Gw{u:Nat}{c:Int}{x:bC}{F1 F2:Q4}{g z:Int->Int}(h:bz w ag gT A R n s t)(aA:Laid w)(a1:¬A 0)(a2:fC aC t)(U:s.vars[u]?=σ x)(h1:∀v∈aE x,(0<=g (x.un.getD v.toNat 0)/\g (x.un.getD v.toNat 0)<=n.k)/\∀{w:x3}{A:ak}{s:aq}{t:aD},bz w ag gT A R n s t->an x7 F1 [Γ ag,Δ (x.un.getD v.toNat 0),Δ c] w λr J=>r=Δ (g (x.un.getD v.toNat 0))/\Ext w J)(aB:(0<=z s.zero/\z s.zero<=n.k)/\∀{w:x3}{A:ak}{s':aq}{t:aD},bz w ag gT A R n s' t->an x7 F2 [Γ ag,Δ s.zero,Δ c] w λr J=>r=Δ (z s.zero)/\Ext w J):
  an x7 Jh [Γ ag,Δ (u:Int),Δ c,.func (.func F1) #[] #[],.func (.func F2) #[] #[]] w λ_ J=>eJ aC w ag gT A R n (ma s u x g z) J:=by
 have a7:=h.2.2.2.1;have S:=(x4.1 U).1;refine iG func146 ?_;refine bh λg1 aa bw aF a=>?_;refine bh λa8 ab bx V p=>?_;refine bh λbA bB bD H B=>?_;refine bh λbE q bF I K=>?_;have a:ah q g1 dm [Γ ag]:=((ah.ext a V).ext H).ext I;have p:ah q a8 aj [Δ (u:Int)]:=(ah.ext p H).ext I;have B:=ah.ext B I;have K:=K;have L:=((aF.trans V).trans H).trans I;have bG:=aF.size;have bH:=V.size;have z3:=H.size;have bI:=L.size;have M:=a.lt;have aG:=p.lt;have aH:=B.lt;have ba:=K.lt;rw[ax Ψ (a.cell F),ax Ψ (p.cell F)];refine(kN (i:=(u:Int)) (h.ext L)).mono ?_;rintro _ bJ _ ⟨⟨b,bK,rfl,aI⟩,aJ⟩;refine(oa).mono ?_;rintro _ W _ ⟨bb,aK,rfl,bL,aL⟩;have aM:=nA aI Ω (show s.vars[(u:Int).toNat]?=σ x by rw[u7];exact U);have C:=aJ.trans bb;have z5:=aJ.size;have z46:=C.size;have bM:=aL.lt;have aN:=sT x;have bc:eQ s u x (eg g x.un ((aE x).take 0))=s:=by
  unfold eQ;show{s with vars:=s.vars.set u x}=s;have:s.vars.set u x=s.vars:=by
   apply Y9;intro i;by_cases e:u=i
   .subst e;rw[b8 S,U]
   .rw[Y6 e]
  rw[this]
 refine k0.old ⟨_,false,jW,#[Γ aK],_,_,_,_,λj J=>fD aC w ag gT A R n w.heap.size (λr=>W.heap.size<=r) (eQ s u x (eg g x.un ((aE x).take j))) J/\ai (λr=>r<w.heap.size\/W.heap.size<=r) W J,λ_ _ _=>False,F,(n8 (g:=aK) aI.1).s,?_,
  λ_ _ U h=>⟨h.1.ext U,h.2.ext U⟩,λ_ _ _ U h=>⟨h.1.ext U,h.2.trans (U.ac _)⟩,λ_ _ _ _ _ h=>h,⟨aL,aA.ext (L.trans C)⟩,?_,?_,?_,λ_ _ h=>h.elim,λ_ _ _ h=>h.elim⟩
 .rintro _ _ _ _ ⟨_,_,_,_,rfl⟩;rfl
 .refine⟨?_,ai.refl _ _⟩;rw[bc];exact fD.start h aA a1 a2 (L.trans C) (o4 _)
 .rintro _ j _ bd ⟨be,bN⟩ ⟨bO,rfl,v,ae,bf⟩ ⟨N,E⟩;cases bf;intro bP O _ _;have X:(aE x)[j]?=σ (v:Int):=by rw[<-aM,x8,ae];rfl
  have aO:=x5 X;have a6:∀{G:x3}{g:Nat}{e:p8}{cs:List x1},Ext bd G->w.heap.size<=g->g<q.heap.size->ah q g e cs->ah G g e cs:=λU aP aQ Y=>((Y.ext C).ac E Ω).ext U;obtain⟨bQ,bR,Z,aR,ad⟩:=N.open;have aS:fz n (u:Int) (v:Int):=pS a7 U aO;have bg:∀y∈aE x,0<=y/\y<x.un.length:=λy af=>(gp.1 af).1;have al:=vD (g:=g) ((aE x).take j) x.un (v:Int) (aN.sublist (List.take_sublist _ _)) (λy af=>bg y (S4 af)) Ω;rw[if_neg (zl aN X)]at al;have bi:jP (eQ s u x (eg g x.un ((aE x).take j))) (u:Int).toNat (v:Int).toNat=x.un.getD (v:Int).toNat 0:=by
   unfold jP eQ;rw[u7,b8 S];exact al
  rw[ax Ψ ((a6 O Ω M a).cell F),ax Ψ ((a6 O Ω aG p).cell F)];refine(qT (Z.ext O)).mono ?_;rintro _ bS _ ⟨rfl,bj⟩;rw[if_pos aS,bi,bq,br];intro bk bl _ _;have f:=(O.trans bj).trans bl;rw[ax Ψ ((a6 f Ω M a).cell F),ax Ψ ((a6 f Ω aG p).cell F),
   ax Ψ ((a6 f Ω ba K).cell F),ax Ψ ((a6 f Ω M a).cell F),ax Ψ ((a6 f Ω aH B).cell F)]
  show an x7 F1 [Γ ag,Δ (x.un.getD (v:Int).toNat 0),Δ c] bk _;obtain⟨bm,bn⟩:=h1 v aO;refine(bn (Z.ext f)).mono ?_;rintro _ bT _ ⟨rfl,aT⟩;have am:=f.trans aT;refine⟨.inl aT,(Fv (Z.ext am) aR.room).mono ?_⟩;rintro r bU _ ⟨_,_,ao⟩;obtain⟨_,ap,aU,bo,bp,au,P⟩:=ao aS bm;have e:l5 (eQ s u x (eg g x.un ((aE x).take j))) (u:Int).toNat (v:Int).toNat (g (x.un.getD (v:Int).toNat 0))=eQ s u x (eg g x.un ((aE x).take (j+1))):=by
   rw[Gs X,al];unfold l5 eQ;rw[u7,b8 S];simp only[List.set_set]
  rw[e]at P;have bV:=E.size;obtain⟨aV,aW,bW⟩:=ad (lk am ap) ((Grow.ext am).trans au) P aR.set (λr h=>h) λr aP aQ=>Ω
  exact⟨⟨be.ac aW Ω,aV.2.1.1⟩,⟨aV,E.trans aW⟩,λh=>by cases h⟩
 .rintro k bs rfl ⟨N,E⟩;rw[Z2 (by rw[<-aM,r9];exact o4 _)]at N;obtain⟨bX,bY,av,aX,ad⟩:=N.open;have a6:∀{G:x3}{g:Nat}{e:p8}{cs:List x1},Ext bs G->w.heap.size<=g->g<q.heap.size->ah q g e cs->ah G g e cs:=λU aP aQ Y=>((Y.ext C).ac E Ω).ext U;intro bZ Q _ _;have aw:=a6 Q Ω M a;rw[ax Ψ (aw.cell F),ax Ψ (aw.cell F),ax Ψ (aw.cell F),ax Ψ ((a6 Q Ω aH B).cell F)];refine(vr (av.ext Q)).mono ?_;rintro _ bt _ ⟨rfl,ay⟩;have aY:=Q.trans ay;refine⟨.inl ay,?_⟩;show an x7 F2 [Γ ag,Δ s.zero,Δ c] bt _;refine(aB.2 (av.ext aY)).mono ?_;rintro _ b0 _ ⟨rfl,aZ⟩;have az:=aY.trans aZ;refine⟨.inl (ay.trans aZ),(QL (av.ext az) aX.room).mono ?_⟩;rintro r b1 _ ⟨_,ao⟩;obtain⟨_,ap,aU,bo,bp,au,P⟩:=ao aB.1;intro b2 bu _;exact(ad (lk az ap) ((Grow.ext az).trans au) P aX.set (λ_ _=>trivial) λ_ _ _=>trivial).1.done bu
end
section
variable{w:x3}{ag gT ap:Nat}{A R:ak}{A9:Nat->ak}{aJ:ak}{n:aH}{s u:aq}{t:aD}{h:List aD}{cs:List x1}{a:iZ}
def SJ(hk:a.kind<2):cC n.k u a=match ew u a.i a.pos a.v with
  |none=>(u,1)
  |some (f,v,x)=>if dt n.k a.c (if a.kind=1 then x.un.getD a.v.toNat 0 else nG n.k u f a.pos.toNat a.v)≠0 then(u,dt n.k a.c (if a.kind=1 then x.un.getD a.v.toNat 0 else nG n.k u f a.pos.toNat a.v))
   else(km u a.i.toNat f a.pos.toNat v.toNat x a.v (λg=>if a.kind=0 then dQ n.k g a.c else dR n.k g a.c) λg=>if a.kind=0 then dR n.k g a.c else dQ n.k g a.c,0):=by
 unfold cC;by_cases e:a.kind=0
 .rw[if_pos e];simp only[e];cases ew u a.i a.pos a.v<;>rfl
 .have h1:a.kind=1:=Ω
  rw[if_neg e,if_pos h1];simp only[h1];cases ew u a.i a.pos a.v<;>rfl
def getD_some{i:Nat}(h:i<l.length):l[i]?=σ (l.getD i 0):=by
 rw[u4,x6 h];rfl
def SK(p:cg w ag gT ap A R A9 aJ n s u t h cs)(G:bk n.k n.sizes u)(bN:dg u)(hk:a.kind<2):an x7 wJ [Γ ap,Δ (a.kind:Int),Δ a.i,Δ a.pos,Δ a.v,Δ a.c] w λr J=>r=Δ (cC n.k u a).2/\dw w ag gT ap A R A9 aJ n s t h (cC n.k u a).1 J:=by
 have C:=SJ (n:=n) (u:=u) hk;have cZ:=G.vars;have bO:=G.en;refine aA func64 ?_;have bQ:cs[0]?=σ (Δ n.k):=by obtain⟨_,_,_,_,_,_,rfl,_⟩:=p.pO;rfl
 rw[aT aY.p 0 p.box bQ,aP,am];refine⟨λ_=>?_,λh=>Ω⟩;rw[bZ];refine p.look.load λdJ bR=>?_;refine(Si bR G bN).mono ?_;rintro _ aa _ ⟨aC,rfl⟩;cases aR:ew u a.i a.pos a.v with
 |none=>
  rw[aR]at C;simp only;rw[bq,br,bM,V8,bX];exact⟨by rw[C],by rw[C];exact dw.same p aC⟩
 |some q=>
 obtain⟨f,O,x⟩:=q;rw[aR]at C;simp only;rw[bq,br,bM,X2,a8];obtain⟨j,pos,O,bT,bU,bV,af,c0,hu,U,ae,aS⟩:=zq aR;have aD:=x5 af;simp only[bT,bU,bV,u7]at C ⊢;have bW:=(x4.1 af).1;have bm:=(x4.1 U).1;have bY:=(x4.1 hu).1;obtain⟨b1,c1⟩:=ly G aD;have b2:=Gd G aD aS;have b3:=(gp.1 ae).1;obtain⟨v,P⟩:=W6 b3.1;have bn:=iz (v:=a.v.toNat) G U;have aE:=p.ext aC;have bp:∀{ab:x3}{fb:aq}{bs:List x1}{bt:Nat->ak}{f2:bS},cg ab ag gT ap A R bt aJ n s fb t h bs->fb.funs[j]?=σ f2->∃Q cap V aU y,bs[6]?=σ (.slice (σ ⟨Q,0,ν⟩) fb.funs.length cap)/\j<fb.funs.length/\ab.cell? ⟨Q,0+j*4+0+0,ν⟩=σ V/\ab.cell? ⟨Q,0+j*4+0+2,ν⟩=σ y/\aK .i64 ab V f2.sc/\aK .i64 ab y f2.cs/\
   ∀{J:x3}{m:Nat}{c:Int}{K:Unit->x3->Prop},Ext ab J->m<f2.cs.length->(∀bu,dw ab ag gT ap A R bt aJ n s t h (dZ fb j f2 (f2.cs.set m c)) bu->K () bu)->ad x7 (c9 az y (Δ (m:Int))) J λa=>aF x7 (l9 av a (Δ c)) J K:=λb5 aG=>by
  obtain⟨Q,cap,V,aU,y,b6,bw,b7,b9,S⟩:=Sk b5 aG;exact⟨Q,cap,V,aU,y,b6,(x4.1 aG).1,by rw[W0];exact bw 0 _ F,by rw[W0];exact bw 2 _ F,b7,b9,S⟩
 obtain⟨Q,c2,V,aU,c3,cb,cc,ce,_,cf,_,_⟩:=bp aE af;rw[aT aY.p 6 aE.box cb,fe eR.u du.i cc λ_=>rfl,aW du.p F,aW a1.p F,ax Ψ ce,be ao.u aj.i Ψ cf hu];generalize bx:(if a.kind=1 then x.un.getD a.v.toNat 0 else nG n.k u f pos a.v)=most at C;refine aV (λr ab=>r=Δ most/\Ext w ab) ?_ λaB bz=>?_
 rotate_left
 .rw[bf,am];refine⟨λh1=>?_,λh1=>bz _ _ ⟨by rw[<-bx,if_neg Ω],aC⟩⟩;have h1:a.kind=1:=Ω
  obtain⟨aZ,bA,y,a2,a6,aH,_⟩:=zp aE U;rw[aT aY.p 5 aE.box a2,fe dW.u az.i bm λ_=>rfl,ax Ψ (by rw[W0,U7];exact a6),P,be az.u av.i Ψ aH (getD_some Ω)];refine bz _ _ ⟨?_,aC⟩;rw[<-bx,if_pos h1,P,u7]
 rintro _ ab ⟨rfl,ch⟩;refine BL.mono ?_;rintro _ c4 _ ⟨rfl,ci⟩;have W:=ch.trans ci;have bC:ct a.c n.k↔0<=a.c/\a.c<=n.k:=⟨λh=>h.2,λaG=>⟨bO,aG⟩⟩;rw[bM,cd];refine⟨λX=>?_,λX=>?_⟩
 .have cj:¬ct a.c n.k:=by simpa using X
  have E:dt n.k a.c most=3:=by unfold dt;rw[if_pos λh=>cj (bC.2 h)]
  rw[if_pos (by rw[E];decide),E]at C;exact⟨by rw[C],by rw[C];exact dw.same p W⟩
 have bD:=bC.1 (show ct a.c n.k by simpa using X);rw[bL,am];refine⟨λck=>?_,λcl=>?_⟩
 .have E:dt n.k a.c most=7:=by unfold dt;rw[if_neg (λh=>h bD),if_pos ck]
  rw[if_pos (by rw[E];decide),E]at C;exact⟨by rw[C],by rw[C];exact dw.same p W⟩
 have E:dt n.k a.c most=0:=by unfold dt;rw[if_neg (λh=>h bD),if_neg cl]
 rw[if_neg (λh=>h E)]at C;have cm:=p.ext W;rw[bZ];refine cm.look.load λc5 cn=>?_;refine(zo cn G af bY aS).mono ?_;rintro aN a7 _ ⟨cp,ba,cr⟩;have bE:=W.trans cp;rw[aX ao.u ba];have bF:(kp u f pos a.v).length=(b0 u f.sc pos a.v).length:=by unfold kp;rw[r9]
 rw[bF];obtain⟨tup,bb⟩:∃tup:Int->Int,tup=λg=>if a.kind=0 then dQ n.k g a.c else dR n.k g a.c:=⟨_,F⟩;obtain⟨un,bc⟩:∃un:Int->Int,un=λg=>if a.kind=0 then dR n.k g a.c else dQ n.k g a.c:=⟨_,F⟩;rw[<-bb,<-bc]at C;have cu:=p.olds.ext bE;have c6:=p.box.lt;have c7:=W.size;have cw:∀{J:x3},ai (λr=>(∃q,A9 q r/\r<w.heap.size)\/r=ap) a7 J->aK .i64 J aN (kp u f pos a.v):=λcz=>ji ba cz λr E b n c e X=>by
  have:=cr r ⟨b,n,c,e,X⟩;rcases E with⟨q,E⟩|E
  .have:=E.2;omega
  .omega
 refine cq.range (b0 u f.sc pos a.v).length (λq J=>dw a7 ag gT ap A R (λq r=>A9 q r/\r<w.heap.size) aJ n s t h (dZ u j f (dF tup ((b0 u f.sc pos a.v).take q) f.al f.cs)) J) (by rw[<-bF];exact ba.le) ?_ ?_ ?_
 .rw[List.take_zero,Gq G af];exact dw.same cu (Ext.refl _)
 .rintro q Y cA cB aL cD;obtain⟨tl,bd⟩:=aI (l:=b0 u f.sc pos a.v) cB;obtain⟨m,hm⟩:=pQ G aD aS (x5 bd);have cE:(kp u f pos a.v)[q]?=σ (m:Int):=by
   unfold kp;rw[x8,bd];unfold nH;rw[Y1,hm];rfl
  obtain⟨bG,bH⟩:=Gf G af b2 bd hm;have cF:=(x4.1 (lS b1 hm)).1;have c8:m<f.cs.length:=by rw[u7]at cF;omega
  obtain⟨S,cG,bI,N,bg⟩:=id aL;obtain⟨b4,bJ⟩:∃b4,b4=dF tup ((b0 u f.sc pos a.v).take q) f.al f.cs:=⟨_,F⟩;have db:b4.length=f.cs.length:=by rw[bJ,pF _ _ _ _ Ω]
  rw[<-bJ]at N bG bH;have bK:(dZ u j f b4).funs[j]?=σ {f with cs:=b4}:=b8 bW;obtain⟨aO,cH,dc,dd,cI,cJ,cK,_,bh,_,cL,cM⟩:=bp N bK;have cN:b4[m]?=σ (bo f.al f.cs tl):=by
   rw[getD_some Ω,<-bG];unfold bo;rw[hm];simp
  have de:=oD (t:=tl) G aD;have df:bI[0]?=σ (Δ n.k):=by obtain⟨_,_,_,_,_,_,rfl,_⟩:=N.pO;rfl
  have cO:=cw S;refine bB Ω ?_;refine da (λH=>dw a7 ag gT ap A R (λq r=>A9 q r/\r<w.heap.size) aJ n s t h (dZ u j f (dF tup ((b0 u f.sc pos a.v).take (q+1)) f.al f.cs)) H) (λH M=>by rw[aM];exact cD _ M) λcP cQ=>?_;have Z:∀{I:x3},Ext Y I->ad x7 (c9 az cI (Δ (m:Int))) I λa'=>aF x7 (l9 av a' (Δ (tup (bo f.al f.cs tl)))) I λ(_:Unit)H=>cP H:=λbi=>by
   refine cM bi (by show m<b4.length;omega) λH M=>cQ _ (dw.comp S bg ?_);have cR:dZ (dZ u j f b4) j {f with cs:=b4} (b4.set m (tup (bo f.al f.cs tl)))=l6 (dZ u j f b4) j m (tup (bo f.al f.cs tl)):=by unfold l6;rw[bK];rfl
   rw[cR,bH]at M;exact M
  have row:∀{z:x3}{K:x1->x1->x1->x1->x1->x1->Prop},Ext Y z->K (Γ ap) (.pointer (σ ⟨ap,0+6,ν⟩)) (.slice (σ ⟨aO,0,ν⟩) (dZ u j f b4).funs.length cH) (.pointer (σ ⟨aO,0+j*4,ν⟩)) (.pointer (σ ⟨aO,0+j*4+0,ν⟩)) (.pointer (σ ⟨aO,0+j*4+0+2,ν⟩))->
    ad x7 (bP (Γ ap)) z λah=>ad x7 (u6 aY ah 6) z λau=>ad x7 (u5 eR au) z λaw=>ad x7 (c9 eR aw (Δ (j:Int))) z λay=>ad x7 (u6 du ay 0) z λaQ=>ad x7 (u6 a1 aQ 2) z λcS=>K ah au aw ay aQ cS:=λU bj=>by
   rw[aT aY.p 6 (N.box.ext U) cJ,fe eR.u du.i cK λ_=>rfl,aW du.p F,aW a1.p F];exact bj
  rw[be ao.u aj.i Ψ cO cE];refine row (Ext.refl _) ?_;rw[ax Ψ bh,be az.u av.i Ψ cL cN,bf,am];refine⟨λbl=>?_,λbl=>?_⟩
  .intro z B _ _;refine row B ?_;rw[ax Ψ (j1 B bh)];refine(vL Ω Ω).mono ?_;rintro _ I _ ⟨rfl,L⟩;refine⟨.inl L,?_⟩;have:=Z (B.trans L);rw[bb]at this;simp only[if_pos (show a.kind=0 by omega)]at this;exact this
  .intro z B _ _;refine row B ?_;rw[ax Ψ (j1 B bh)];refine(nr Ω Ω).mono ?_;rintro _ I _ ⟨rfl,L⟩;refine⟨.inl L,?_⟩;have:=Z (B.trans L);rw[bb]at this;simp only[if_neg (show¬a.kind=0 by omega)]at this;exact this
 .rintro Y cA aL;rw[o9]at aL;refine ca Ω ?_;obtain⟨S,cG,bI,N,bg⟩:=id aL;have cT:(dZ u j f (dF tup (b0 u f.sc pos a.v) f.al f.cs)).vars[O]?=σ x:=U;obtain⟨aZ,bA,y,a2,a6,aH,cU⟩:=zp N cT;refine da (λH=>dw w ag gT ap A R A9 aJ n s t h (km u j f pos O x a.v tup un) H) (λH M=>⟨by rw[C],by rw[C];exact M⟩) λcV cW=>?_;have cX:O<(dZ u j f (dF tup (b0 u f.sc pos a.v) f.al f.cs)).vars.length:=bm;have row:∀{z:x3}{K:x1->x1->x1->x1->x1->Prop},Ext Y z->K (Γ ap) (.pointer (σ ⟨ap,0+5,ν⟩)) (.slice (σ ⟨aZ,0,ν⟩) (dZ u j f (dF tup (b0 u f.sc pos a.v) f.al f.cs)).vars.length bA) (.pointer (σ ⟨aZ,0+O*1,ν⟩)) y->
    ad x7 (bP (Γ ap)) z λah=>ad x7 (u6 aY ah 5) z λau=>ad x7 (u5 dW au) z λaw=>ad x7 (c9 dW aw (Δ (O:Int))) z λay=>ad x7 (u5 az ay) z λaQ=>K ah au aw ay aQ:=λU bj=>by
   rw[aT aY.p 5 (N.box.ext U) a2,fe dW.u az.i cX λ_=>rfl,ax Ψ (by rw[W0,U7];exact j1 U a6)];exact bj
  have Z:∀{I:x3},Ext Y I->ad x7 (c9 az y (Δ (v:Int))) I λa'=>aF x7 (l9 av a' (Δ (un (x.un.getD v 0)))) I λ(_:Unit)H=>cV H:=λbi=>by
   refine cU bi Ω λH M=>cW _ ?_;have cY:=dw.comp S bg M.Gk;have:=dw.comp (bE.ac _) (λq r E=>.inl ⟨q,E.1⟩) cY;unfold km;rw[show a.v.toNat=v by omega];exact this
  rw[bf,am];refine⟨λbl=>?_,λbl=>?_⟩
  .intro z B _ _;refine row B (row B ?_);rw[P,be az.u av.i Ψ (aH.ext B) (getD_some Ω)];rw[P,u7]at bn;refine(nr Ω Ω).mono ?_;rintro _ I _ ⟨rfl,L⟩;refine⟨.inl L,?_⟩;have:=Z (B.trans L);rw[bc]at this;simp only[if_pos (show a.kind=0 by omega)]at this;exact this
  .intro z B _ _;refine row B (row B ?_);rw[P,be az.u av.i Ψ (aH.ext B) (getD_some Ω)];rw[P,u7]at bn;refine(vL Ω Ω).mono ?_;rintro _ I _ ⟨rfl,L⟩;refine⟨.inl L,?_⟩;have:=Z (B.trans L);rw[bc]at this;simp only[if_neg (show¬a.kind=0 by omega)]at this;exact this
end
section
variable{aC:List aD}{w:x3}{ag gT:Nat}{A R:ak}{n:aH}{s:aq}{t:aD}{a:iZ}
def eJ.step{aU:ak}{s':aq}{bt:aD}(h:bz w ag gT A R n s t)(f:Laid w)(e:¬A 0)(U:Ext w aa)(p:ai (eA aa) aa ab)(a:Grow A aa aU ab)(q:bz ab ag gT aU R n s' bt)(r:fC aC bt):eJ aC w ag gT A R n s' ab:=by
 refine⟨lk U p,kw a.1 e (f.ext U),aU,bt,(Grow.ext U).trans a,q,r,λx=>(a.2.1 0 x).elim e λy=>?_⟩;obtain⟨z,B,C,E,⟨h1,_⟩,_⟩:=h.1;have:=h.lt (.inl h1);have:=U.size;omega
def zs(hk:a.kind=2):cC n.k s a=match ie s a.i with
  |none=>(s,1)
  |some x=>if dt n.k a.c (lz x)≠0 then(s,dt n.k a.c (lz x))else(ma s a.i.toNat x (λg=>dQ n.k g a.c) λg=>dR n.k g a.c,0):=by
 unfold cC ie;rw[if_neg Ω,if_neg Ω,if_pos hk];cases (if 0<=a.i then s.vars[a.i.toNat]? else ν)with
 |none=>rfl
 |some x=>
  simp only;by_cases e:x.gone=0
  .rw[if_neg Ω,if_pos e]
  .rw[if_pos e,if_neg e]
def zt(hk:a.kind=3):cC n.k s a=match ie s a.i with
  |none=>(s,1)
  |some x=>if dt n.k a.c (if aE x=[]then-1 else s.zero)≠0 then(s,dt n.k a.c (if aE x=[]then-1 else s.zero))else(ma s a.i.toNat x (λg=>dR n.k g a.c) λg=>dQ n.k g a.c,0):=by
 unfold cC ie;rw[if_neg Ω,if_neg Ω,if_neg Ω,if_pos hk];cases (if 0<=a.i then s.vars[a.i.toNat]? else ν)with
 |none=>rfl
 |some x=>
  simp only;by_cases e:x.gone=0
  .rw[if_neg Ω,if_pos e]
  .rw[if_pos e,if_neg e]
def SL(hk:a.kind=2)(h:bz w ag gT A R n s t)(K:Laid w)(V:¬A 0)(W:fC aC t):an x7 Iq [Γ ag,Δ a.i,Δ a.c] w (pT aC w ag gT A R n s a):=by
 have B:=h.2.2.2.1;have e:=zs (n:=n) (s:=s) hk;refine iG func67 ?_;refine bh λg1 aa bC aw C=>?_;refine bh λay ab bD X E=>?_;have C:=ah.ext C X;have E:=E;have Y:=aw.trans X;have:=aw.size;have:=X.size;have:=C.lt;have:=E.lt;rw[ax Ψ (C.cell F),ax Ψ (E.cell F)];refine(Gv (h.ext Y)).mono ?_;rintro _ bI _ ⟨Z,rfl⟩;have aZ:=Y.trans Z;have:=Z.size;cases ae:ie s a.i with
 |none=>
  rw[ae]at e;rw[if_neg Ξ,bA,am];refine⟨λ_=>?_,λh=>absurd Φ h⟩;intro a1 a2 _;exact⟨by rw[e],by rw[e];exact eJ.same h K V W (aZ.trans a2)⟩
 |some x=>
 rw[ae]at e;simp only at e;obtain⟨az,U,bJ⟩:=zr ae;obtain⟨u,hu⟩:=W6 az;rw[hu,u7]at U;rw[hu,u7]at e;rw[if_pos (by rfl),bA,am];refine⟨λh=>absurd F h,λ_=>?_⟩;refine bu av.i λaA bK bL aD aF=>?_;refine bp av.i F rfl aF (by simp[x1.cells]) λaG ad bM L=>?_;have L:=L;have:=aD.size;have:=aF.lt;have af:=Z.trans aD;have ak:ah aG g1 dm [Γ ag]:=(C.ext af).ac ad Ω;have al:ah aG ay aj [Δ a.i]:=(E.ext af).ac ad Ω;have M:=(Y.trans af).then ad (by rintro r aH rfl;omega);rw[ax Ψ (ak.cell F),ax Ψ (al.cell F)];refine(kN (i:=a.i) (h.ext M)).mono ?_;rintro _ bO _ ⟨⟨b,bP,rfl,aI⟩,aJ⟩;refine(oa).mono ?_;rintro _ a6 _ ⟨a7,aK,rfl,bQ,aL⟩;have aM:=nA aI az (show s.vars[a.i.toNat]?=σ x by rw[hu,u7];exact U);have f:=aJ.trans a7;have:=aJ.size;have:=aL.lt;have:=L.lt;have aN:∀j (v:Nat),(aE x)[j]?=σ (v:Int)->(((aE x).take (j+1)).map λv=>x.un.getD v.toNat 0).foldl lB (-1)=lB ((((aE x).take j).map λv=>x.un.getD v.toNat 0).foldl lB (-1)) (x.un.getD v 0):=λj v aO=>by
  rw[u9,aO,j4,Z9,R3];rfl
 refine k0.old ⟨_,false,jW,#[Γ aK],_,_,_,_,λj J=>ai (λr=>r=aA) a6 J/\ah J aA av [Δ ((((aE x).take j).map λv=>x.un.getD v.toNat 0).foldl lB (-1))],λ_ _ _=>False,F,(n8 (g:=aK) aI.1).s,?_,
  λ_ _ U h=>⟨h.1.ext U,h.2.ext U⟩,λ_ _ _ U h=>⟨h.1.trans (U.ac _),h.2.ext U⟩,λ_ _ _ _ _ h=>h,⟨aL,K.ext (M.trans f)⟩,⟨ai.refl _ _,L.ext f⟩,?_,?_,λ_ _ h=>h.elim,λ_ _ _ h=>h.elim⟩
 .rintro _ _ _ _ ⟨_,_,_,_,rfl⟩;rfl
 .rintro _ j _ bU ⟨aQ,aR⟩ ⟨aO,rfl,v,a8,ba⟩ ⟨q,N⟩;cases ba;intro bV aS _ _;have ao:(aE x)[j]?=σ (v:Int):=by rw[<-aM,x8,a8];rfl
  have bb:=pS B U (x5 ao);have ap:=q.trans (aS.ac _);have bc:=(M.trans f).then ap (by rintro r aH rfl;omega);rw[ax Ψ (((ak.ext f).ac ap Ω).cell F),ax Ψ (((al.ext f).ac ap Ω).cell F)];refine(qT (h.ext bc)).mono ?_;rintro _ bd _ ⟨rfl,be⟩;have bg:jP s a.i.toNat (v:Int).toNat=x.un.getD v 0:=by
   unfold jP;rw[hu,u7,U];rfl
  rw[if_pos (by rw[hu];exact bb),bg,bq,br];have G:=aS.trans be;have H:=N.ext G;refine aV (λr bi=>(r= .bool (decide ((((aE x).take j).map λv=>x.un.getD v.toNat 0).foldl lB (-1)<0\/x.un.getD v 0<(((aE x).take j).map λv=>x.un.getD v.toNat 0).foldl lB (-1))))/\bi=bd) ?_ λaB I=>?_
  .rintro _ _ ⟨rfl,rfl⟩;rw[am];refine⟨λO=>?_,λP=>?_⟩
   .refine bp av.i F rfl H Ξ λbW bj bX bk=>?_;have p:=(G.ac _).trans bj;refine⟨⟨aQ.ac p Ω,kw p Ω aR⟩,⟨q.trans p,?_⟩,λh=>by cases h⟩;rw[aN j v ao];unfold lB at O ⊢;rw[if_pos O];exact bk
   .refine⟨⟨aQ.ext G,aR.ext G⟩,⟨q.trans (G.ac _),?_⟩,λh=>by cases h⟩;rw[aN j v ao];unfold lB at P H ⊢;rw[if_neg P];exact H
  rw[ax Ψ (H.cell F),aP,am];refine⟨λO=>I _ _ ⟨by rw[decide_eq_true (Or.inl O)],F⟩,λP=>?_⟩;rw[ax Ψ (H.cell F),aP];refine I _ _ ⟨?_,F⟩;congr 1;exact decide_eq_decide.2 ⟨.inr,λh=>h.resolve_left P⟩
 .rintro k aT rfl ⟨q,N⟩;rw[Z2 (by rw[<-aM,r9];exact o4 _),SI λv _=>(iz B U).1]at N;have aW:=(M.trans f).then q (by rintro r aH rfl;omega);have aX:ah aT g1 dm [Γ ag]:=(ak.ext f).ac q Ω;have bl:ah aT ay aj [Δ a.i]:=(al.ext f).ac q Ω;rw[ax Ψ (aX.cell F),ax Ψ (N.cell F)];refine(vJ (h.ext aW)).mono ?_;rintro _ bY _ ⟨aq,rfl⟩;have Q:=aW.trans aq;refine da (λJ=>eJ aC w ag gT A R n (cC n.k s a).1 J) ?_ λaB I=>?_
  .intro J bm bZ S _;obtain⟨bn,bo,aU,bt,bs,bw,bx⟩:=bm;refine⟨?_,bn.trans (S.ac _),bo.ext S,aU,bt,bs.trans (Grow.ext S),bw.ext S,bx⟩;rw[e];split
   .rfl
   .rename_i y;rw[Y3.1 y]
  rw[bf,am];refine⟨λy=>?_,λy=>I _ ?_⟩
  .obtain⟨p,hm⟩:=oz (λh=>h y);rw[ax Ψ ((aX.ext aq).cell F),ax Ψ ((bl.ext aq).Qz F),hu];refine(Gw (t:=t) (u:=u) (F1:=oW) (F2:=oX) (g:=λg=>dQ n.k g a.c) (z:=λg=>dR n.k g a.c) (h.ext Q) (K.ext Q) V W U (λv ae=>?_) ⟨oC B.zero p.1,λ{w A s' t}au=>sV au B.zero p⟩).mono ?_
   .have aY:=iz (v:=v.toNat) B U;exact⟨oB aY ⟨p.1,zh ae hm⟩,λ{w A s t}au=>vK au aY p (.inr (zh ae hm))⟩
   .rintro _ a1 _ bB;refine I _ ?_;rw[e,if_neg (λh=>h y)];exact bB.before Q
  .rw[e,if_pos y];exact eJ.same h K V W Q
def SM{b m:Nat}{i:Int}{x:bC}(f:vt s n i b m)(hi:0<=i)(U:s.vars[i.toNat]?=σ x):b=0↔aE x=[]:=by
 have a:=nA f hi U;constructor
 .rintro rfl;rw[<-a];have:fS 0 m=[]:=List.eq_nil_iff_forall_not_mem.2 λv ae=>by
   have:=(xi.1 ae).2;simp at this
  rw[this];rfl
 .intro he;rw[he]at a;have ae:=List.map_eq_nil_iff.1 a;refine Nat.eq_of_testBit_eq λj=>?_;rw[Nat.zero_testBit];cases e:b.testBit j with
  |false=>rfl
  |true=>
   have p:j<m:=by
    rcases Nat.lt_or_ge j m with h|h
    .exact h
    .have:=Nat.testBit_lt_two_pow (Q7 f.1.2 (S7 Ω h));rw[this]at e;cases e
   have:j∈fS b m:=xi.2 ⟨p,e⟩;rw[ae]at this;cases this
def SN(hk:a.kind=3)(h:bz w ag gT A R n s t)(E:Laid w)(G:¬A 0)(H:fC aC t):an x7 Ir [Γ ag,Δ a.i,Δ a.c] w (pT aC w ag gT A R n s a):=by
 have I:=h.2.2.2.1;have f:=zt (n:=n) (s:=s) hk;refine aA func68 ?_;refine(Gv h).mono ?_;rintro _ aa _ ⟨K,rfl⟩;cases ae:ie s a.i with
 |none=>
  rw[ae]at f;rw[if_neg Ξ,bA,am];exact⟨λ_=>⟨by rw[f],by rw[f];exact eJ.same h E G H K⟩,λh=>absurd Φ h⟩
 |some x=>
 rw[ae]at f;simp only at f;obtain⟨M,U,ah⟩:=zr ae;rw[if_pos (by rfl),bA,am];refine⟨λh=>absurd F h,λ_=>?_⟩;refine(vr (h.ext K)).mono ?_;rintro _ ab _ ⟨rfl,X⟩;have N:=K.trans X;refine aV (λr J=>r=Δ (if aE x=[]then-1 else s.zero)/\Ext w J) ?_ λaB y=>?_
 .rintro _ ai ⟨rfl,O⟩;refine(vJ (h.ext O)).mono ?_;rintro _ aj _ ⟨Y,rfl⟩;have B:=O.trans Y;refine da (λJ=>eJ aC w ag gT A R n (cC n.k s a).1 J) ?_ λaB y=>?_
  .intro J Z;refine⟨?_,Z⟩;rw[f];generalize (if aE x=[]then(-1:Int)else s.zero)=ak;split
   .rfl
   .rename_i p;rw[Y3.1 p]
  rw[bf,am];refine⟨λp=>?_,λp=>y _ ?_⟩
  .obtain⟨C,hm⟩:=oz (λh=>h p);have P:a.c<=s.zero:=by
    split at hm
    .omega
    .exact hm
   obtain⟨u,hu⟩:=W6 M;rw[hu,u7]at U;rw[hu];refine(Gw (t:=t) (u:=u) (F1:=oX) (F2:=oW) (g:=λg=>dR n.k g a.c) (z:=λg=>dQ n.k g a.c) (h.ext B) (E.ext B) G H U (λv ae=>?_) ⟨oB I.zero ⟨C.1,P⟩,λ{w A s' t}L=>vK L I.zero C (.inr P)⟩).mono ?_
   .have Q:=iz (v:=v.toNat) I U;exact⟨oC Q C.1,λ{w A s t}L=>sV L Q C⟩
   .rintro _ al _ ac;refine y _ ?_;rw[f,if_neg (λh=>h p),hu,u7];exact ac.before B
  .rw[f,if_pos p];exact eJ.same h E G H B
 refine(kN (i:=a.i) (h.ext N)).mono ?_;rintro _ ao _ ⟨⟨b,ap,rfl,S⟩,ad⟩;refine(jg S.1).mono ?_;rintro _ aq _ ⟨⟨q,rfl,T⟩,af⟩;have V:=(N.trans ad).trans af;have W:=SM S M U;rw[bf,am];refine⟨λh=>y _ _ ⟨by rw[if_pos (W.1 (T.1 h))],V⟩,λh=>y _ _ ⟨by rw[if_neg λe=>h (T.2 (W.2 e))],V⟩⟩
def SO(hk:a.kind=4)(h:bz w ag gT A R n s t)(p:Laid w)(q:¬A 0)(f:fC aC t):an x7 Is [Γ ag,Δ a.i,Δ a.v] w (pT aC w ag gT A R n s a):=by
 have z:=h.2.2.2.1;have e:cC n.k s a=match ev s a.i a.v with
  |none=>(s,1)
  |some x=>if dR n.k s.zero (x.un.getD a.v.toNat 0)<n.k then(s,7)else(eu s a.i.toNat a.v.toNat,0):=by
  unfold cC;rw[if_neg Ω,if_neg Ω,if_neg Ω,if_neg Ω,if_pos hk]<;>cases ev s a.i a.v<;>rfl
 refine aA func69 ?_;refine(zm h).mono ?_;rintro _ aa _ ⟨B,rfl⟩;cases ae:ev s a.i a.v with
 |none=>
  rw[ae]at e;rw[if_neg Ξ,bA,am];exact⟨λ_=>⟨by rw[e],by rw[e];exact eJ.same h p q f B⟩,λh=>absurd Φ h⟩
 |some x=>
 rw[ae]at e;simp only at e;obtain⟨X,U,Y,J⟩:=mb ae;rw[if_pos (by rfl),bA,am];refine⟨λh=>absurd F h,λ_=>?_⟩;have E:fz n a.i a.v:=by
  have:=pS z U J;rwa [show((a.i.toNat:Nat):Int)=a.i by omega]at this
 refine(qT (h.ext B)).mono ?_;rintro _ ab _ ⟨rfl,K⟩;have L:jP s a.i.toNat a.v.toNat=x.un.getD a.v.toNat 0:=by
  unfold jP;rw[U]
 rw[if_pos E,L,bq,br];have G:=B.trans K;refine(vr (h.ext G)).mono ?_;rintro _ Z _ ⟨rfl,M⟩;have H:=G.trans M;refine(sV (h.ext H) z.zero (iz z U)).mono ?_;rintro _ ac _ ⟨rfl,N⟩;have I:=H.trans N;refine(lp (h.ext I)).mono ?_;rintro _ ad _ ⟨rfl,O⟩;have C:=I.trans O;rw[aP,am];refine⟨λP=>?_,λQ=>?_⟩
 .rw[if_pos P]at e;exact⟨by rw[e],by rw[e];exact eJ.same h p q f C⟩
 .rw[if_neg Q]at e;refine(yN (h.ext C) f.room).mono ?_;rintro r af _ ⟨_,S⟩;obtain⟨rfl,T,aU,y,V,W⟩:=S E;refine⟨by rw[e],?_⟩;rw[e];exact eJ.step h p q C T V W f.set
def SP(hk:5<=a.kind)(h:bz w ag gT A R n s t)(M:Laid w)(Q:¬A 0)(S:fC aC t):an x7 It [Γ ag,Δ a.i,Δ a.v] w (pT aC w ag gT A R n s a):=by
 have au:=h.2.2.2.1;have p:cC n.k s a=match ev s a.i a.v with
  |none=>(s,1)
  |some x=>(gq s a.i.toNat a.v (aE x),0):=by
  unfold cC;rw[if_neg Ω,if_neg Ω,if_neg Ω,if_neg Ω,if_neg Ω]<;>cases ev s a.i a.v<;>rfl
 refine iG func70 ?_;refine bh λg1 aa aV V q=>?_;refine bh λaW ab aX N z=>?_;refine bh λaY O aZ H B=>?_;have q:ah O g1 dm [Γ ag]:=(ah.ext q N).ext H;have z:=ah.ext z H;have B:=B;have I:=(V.trans N).trans H;have a1:=V.size;have a2:=N.size;have z3:=H.size;have av:=q.lt;have aw:=z.lt;have ay:=B.lt;rw[ax Ψ (q.cell F),ax Ψ (z.cell F),ax Ψ (B.cell F)];refine(zm (h.ext I)).mono ?_;rintro _ a7 _ ⟨C,rfl⟩;have W:=I.trans C;have z4:=C.size;cases ae:ev s a.i a.v with
 |none=>
  rw[ae]at p;rw[if_neg Ξ,bA,am];refine⟨λ_=>?_,λh=>absurd Φ h⟩;intro a8 az _;exact⟨by rw[p],by rw[p];exact eJ.same h M Q S (W.trans az)⟩
 |some x=>
 rw[ae]at p;simp only at p;obtain⟨aA,U,ba,bb⟩:=mb ae;rw[if_pos (by rfl),bA,am];refine⟨λh=>absurd F h,λ_=>?_⟩;rw[ax Ψ ((q.ext C).cell F),ax Ψ ((z.ext C).Qz F)];refine(kN (i:=a.i) (h.ext W)).mono ?_;rintro _ bc _ ⟨⟨b,aB,rfl,X⟩,Y⟩;refine(oa (b:=b) (n:=aB)).mono ?_;rintro _ P _ ⟨aD,Z,rfl,bd,ad⟩;have af:=nA X aA U;have K:=(C.trans Y).trans aD;have be:=Y.size;have bf:=K.size;have bg:=ad.lt;refine k0.old ⟨_,false,jW,#[Γ Z],_,_,_,_,λj J=>fD aC w ag gT A R n w.heap.size (λr=>P.heap.size<=r) (gq s a.i.toNat a.v ((aE x).take j)) J/\ai (λr=>r<w.heap.size\/P.heap.size<=r) P J,λ_ _ _=>False,F,(n8 (g:=Z) X.1).s,?_,
  λ_ _ U h=>⟨h.1.ext U,h.2.ext U⟩,λ_ _ _ U h=>⟨h.1.ext U,h.2.trans (U.ac _)⟩,λ_ _ _ _ _ h=>h,⟨ad,M.ext (I.trans K)⟩,⟨fD.start h M Q S (I.trans K) (o4 _),ai.refl _ _⟩,?_,?_,λ_ _ h=>h.elim,λ_ _ _ h=>h.elim⟩
 .rintro _ _ _ _ ⟨_,_,_,_,rfl⟩;rfl
 .rintro _ j _ bi ⟨aj,aF⟩ ⟨bj,rfl,v,aG,aH⟩ ⟨E,G⟩;cases aH;intro aI f _ _;have ak:(aE x)[j]?=σ (v:Int):=by rw[<-af,x8,aG];rfl
  have aJ:fz n a.i (v:Int):=by
   have:=pS au U (x5 ak);rwa [show((a.i.toNat:Nat):Int)=a.i by omega]at this
  have a6:∀{g:Nat}{e:p8}{cs:List x1},w.heap.size<=g->g<O.heap.size->ah O g e cs->ah aI g e cs:=λaK aL aM=>((aM.ext K).ac G Ω).ext f;have L:=SH (s:=s) (i:=a.i.toNat) (v:=a.v) ak;obtain⟨bk,bl,aN,al,aO⟩:=E.open;rw[ax Ψ ((a6 Ω ay B).cell F),bA,am];refine⟨λaP=>?_,λhe=>?_⟩
  .rw[if_pos aP]at L;rw[ax Ψ ((a6 Ω av q).cell F),ax Ψ ((a6 Ω aw z).cell F)];refine(yN (aN.ext f) al.room).mono ?_;rintro r bm _ ⟨_,aQ⟩;obtain⟨rfl,aR,aU,y,aS,ao⟩:=aQ aJ;rw[<-L]at ao;have bn:=G.size;obtain⟨ap,aq,bo⟩:=aO (lk f aR) ((Grow.ext f).trans aS) ao al.set (λr h=>h) λr aK aL=>Ω
   exact⟨⟨aj.ac aq Ω,ap.2.1.1⟩,⟨ap,G.trans aq⟩,λh=>by cases h⟩
  .rw[if_neg he]at L;exact⟨⟨aj.ext f,aF.ext f⟩,⟨by rw[L];exact E.ext f,G.trans (f.ac _)⟩,λh=>by cases h⟩
 .rintro k bp rfl ⟨E,G⟩;rw[Z2 (by rw[<-af,r9];exact o4 _)]at E;intro bq aT _;exact⟨by rw[p],by rw[p];exact E.done aT⟩
end
def SQ{cR:x1}(h:aK .i64 w cR l)(P:l.length<=1000000):an x7 Jb [cR,Δ v] w λr J=>Ext w J/\(∃g,ay .i64 aj J g r (l.filter λy=>!decide (y=v)))/\∀q,leads r q->w.heap.size<=q:=by
 refine aA func138 ?_;rw[aX ao.u h];refine bV.range l.length (λi out f=>Ext w f/\(∃g,ay .i64 aj f g out ((l.take i).filter λy=>!decide (y=v)))/\∀r,leads out r->w.heap.size<=r) h.le ⟨Ext.refl _,⟨0,ay.nil _ _ _ _⟩,λr C=>by obtain⟨_,_,_,e,_⟩:=C;cases e⟩ ?_ ?_
 .rintro q out f E G ⟨a,⟨g,hm⟩,p⟩ H;obtain⟨y,s⟩:=aI (l:=l) G;have x:(l.take (q+1)).filter (λy=>!decide (y=v))=(l.take q).filter (λy=>!decide (y=v))++(if y≠v then[y]else[]):=by
   rw[u9,s,j4,List.filter_append];congr 1;by_cases aC:y=v<;>simp[aC]
  refine bB Ω ?_;refine aV (λz A=>Ext w A/\(∃g,ay .i64 aj A g z ((l.take (q+1)).filter λy=>!decide (y=v)))/\∀r,leads z r->w.heap.size<=r) (λ_ _ I=>by rw[aM];exact H _ _ I) λaB B=>?_;rw[be ao.u aj.i Ψ (h.ext a) s,bA,am];refine⟨λK=>?_,λhe=>B _ _ ⟨a,⟨g,by rw[x,if_neg he,Y8];exact hm⟩,p⟩⟩;refine Gi a hm p ?_ λQ J L M N O=>B _ _ ⟨M,⟨L,by rw[x,if_pos K];exact N⟩,O⟩;have h1:=Q2 (λy=>!decide (y=v)) (l.take q);rw[j6]at h1;omega
 .rintro out f E ⟨a,hm,p⟩;rw[o9]at hm;refine ca Ω ?_;exact⟨a,hm,p⟩
theorem zu{i:Nat}{v:Int}:∀(L:Λ)(s:aq)(x:bC),s.vars[i]?=σ x->(∀y∈L,0<=y)->∃m,gq s i v L={s with vars:=s.vars.set i {x with mask:=m}}/\aE {x with mask:=m}=(aE x).filter λy=>!(decide (y∈L)&& !decide (y=v))
 |[],s,x,U,_=>by
  refine⟨x.mask,?_,(List.filter_eq_self.2 λy _=>Ξ).symm⟩;have:s.vars.set i x=s.vars:=by
   apply Y9;intro q;by_cases e:i=q
   .subst e;rw[b8 (x4.1 U).1,U]
   .rw[Y6 e]
  show s={s with vars:=s.vars.set i x};rw[this]
 |w::L,s,x,U,f=>by
  have hw:=f w (.head _);have z:=(x4.1 U).1;rw[gq];by_cases e:w≠v
  .rw[if_pos e];have r:eu s i w.toNat={s with vars:=s.vars.set i {x with mask:=((x.mask.toNat ||| 2 ^ w.toNat:Nat):Int)}}:=by unfold eu;rw[U]
   obtain⟨m,h1,p⟩:=zu L (eu s i w.toNat) {x with mask:=((x.mask.toNat ||| 2 ^ w.toNat:Nat):Int)} (by rw[r];exact b8 z) λy a=>f y (.tail _ a);refine⟨m,?_,?_⟩
   .rw[h1,r];simp only[List.set_set]
   .rw[p,zg hw,List.filter_filter];refine List.filter_congr λy _=>?_;by_cases a:y=w
    .subst a;simp[e]
    .simp[a]
  .rw[if_neg e];obtain⟨m,h1,p⟩:=zu L s x U λy a=>f y (.tail _ a);refine⟨m,h1,?_⟩;rw[p];have e:=Y3.1 e;refine List.filter_congr λy _=>?_;by_cases a:y=v
   .simp[a]
   .have:y≠w:=λh=>a (h.trans e);simp[a,this]
def filter_one(h:l.Nodup)(ae:v∈l):l.filter (λy=>decide (y=v))=[v]:=by
 induction l with
 |nil=>cases ae
 |cons a l p=>
  have f:=List.nodup_cons.1 h;by_cases e:a=v
  .subst e;rw[List.filter_cons_of_pos Ξ,List.filter_eq_nil_iff.2 λx U=>by simp;intro q;exact f.1 (q▸U)]
  .rw[List.filter_cons_of_neg (by simpa using e)];exact p f.2 ((V5.1 ae).resolve_left (Ne.symm e))
def kT(u:aq)(a:iZ):Option bC:=if 3<a.kind then ev u a.i a.v else ie u a.i
section
variable{w:x3}{ag gT ap:Nat}{A R:ak}{A9:Nat->ak}{aJ:ak}{n:aH}{s u:aq}{t:aD}{h:List aD}{cs:List x1}{a:iZ}
def Gx{x:bC}(h:kT u a=σ x):0<=a.i/\u.vars[a.i.toNat]?=σ x/\x.gone=0/\(3<a.kind->a.v∈aE x):=by
 unfold kT at h;split at h
 .obtain⟨h1,e,f,p⟩:=mb h;exact⟨h1,e,f,λ_=>p⟩
 .rename_i hk;obtain⟨h1,e,f⟩:=zr h;exact⟨h1,e,f,λh=>absurd h hk⟩
def SR(h:¬(0<=a.i/\a.i<u.vars.length)):kT u a=ν:=by
 cases he:kT u a with
 |none=>rfl
 |some x=>
  obtain⟨h1,e,_⟩:=Gx he;exact absurd ⟨h1,by have:=(x4.1 e).1;omega⟩ h
def SS{x:bC}(e:0<=a.i)(U:u.vars[a.i.toNat]?=σ x):kT u a=if x.gone=0/\(3<a.kind->a.v∈aE x)then σ x else ν:=by
 unfold kT;by_cases hk:3<a.kind
 .rw[if_pos hk];unfold ev;rw[if_pos e,U];simp only[hk,true_implies]
 .rw[if_neg hk];unfold ie;rw[if_pos e,U];simp only[hk,false_implies,and_true]
def SU(hk:2<=a.kind/\a.kind<=5)(h:kT u a=ν):cC n.k u a=(u,1):=by
 unfold kT at h;by_cases e:3<a.kind
 .rw[if_pos e]at h;unfold cC;rw[if_neg Ω,if_neg Ω,if_neg Ω,if_neg Ω,h];split<;>rfl
 .rw[if_neg e]at h;by_cases f:a.kind=2
  .rw[zs f,h]
  .rw[zt Ω,h]
def Gy{x:bC}{c:Int}(q:0<=c):lz x<c↔aE x=[]\/∃v∈aE x,x.un.getD v.toNat 0<c:=by
 unfold lz;constructor
 .intro h;cases a:aE x with
  |nil=>exact .inl F
  |cons b l=>
   refine .inr ?_;rw[a]at h;simp only[T3]at h;by_cases e:∀v∈b::l,c<=x.un.getD v.toNat 0
   .have:=(q1 (l.map λv=>x.un.getD v.toNat 0) (x.un.getD b.toNat 0) c).2 ⟨e b (.head _),λy f=>by obtain⟨v,ae,rfl⟩:=c7.1 f;exact e v (.tail _ ae)⟩;omega
   .simp only[Classical.not_forall]at e;obtain⟨v,ae,r⟩:=e;exact⟨v,ae,Ω⟩
 .rintro (h|⟨v,ae,s⟩)
  .rw[h];show(-1:Int)<c;omega
  .cases a:aE x with
   |nil=>rw[a]at ae;cases ae
   |cons b l=>
    rw[a]at ae;simp only[T3];rcases Int.lt_or_le ((l.map λv=>x.un.getD v.toNat 0).foldl min (x.un.getD b.toNat 0)) c with aC|aC
    .exact aC
    .obtain⟨w,p⟩:=(q1 _ _ _).1 aC;rcases V5.1 ae with rfl|ae
     .omega
     .have:=p _ (c7.2 ⟨v,ae,F⟩);omega
def zv(n:aH)(u:aq)(x:bC)(a:iZ):Prop:=aE x=[]\/(a.kind=3/\u.zero<a.c)\/(a.kind=2/\∃v∈aE x,x.un.getD v.toNat 0<a.c)
def SV{x:bC}(hk:a.kind=2\/a.kind=3)(h:kT u a=σ x):(¬(0<=a.c/\a.c<=n.k)->cC n.k u a=(u,3))/\((0<=a.c/\a.c<=n.k)->zv n u x a->cC n.k u a=(u,7))/\
  ((0<=a.c/\a.c<=n.k)->¬zv n u x a->cC n.k u a=(ma u a.i.toNat x (λg=>if a.kind=2 then dQ n.k g a.c else dR n.k g a.c) (λg=>if a.kind=2 then dR n.k g a.c else dQ n.k g a.c),0)/\(a.kind=2->∀v∈aE x,a.c<=x.un.getD v.toNat 0)/\(a.kind=3->a.c<=u.zero)):=by
 have ae:ie u a.i=σ x:=by unfold kT at h;rwa [if_neg Ω]at h
 rcases hk with hk|hk
 .have e:=zs (n:=n) (s:=u) hk;rw[ae]at e;simp only at e;simp only[hk];refine⟨λf=>?_,λf hi=>?_,λf hi=>?_⟩
  .have p:∀m,dt n.k a.c m=3:=λm=>by unfold dt;rw[if_pos f]
   rw[p,if_pos Φ]at e;exact e
  .have q:=(Gy f.1).2 (hi.elim .inl λh=>h.elim (λh=>Ω) λh=>.inr h.2);have p:∀m,m<a.c->dt n.k a.c m=7:=λm hm=>by unfold dt;rw[if_neg (λh=>h f),if_pos hm]
   rw[p _ q,if_pos Φ]at e;exact e
  .have q:¬lz x<a.c:=λh=>hi (((Gy f.1).1 h).elim .inl λh=>.inr (.inr ⟨hk,h⟩));have p:dt n.k a.c (lz x)=0:=by unfold dt;rw[if_neg (λh=>h f),if_neg q]
   rw[p,if_neg Φ]at e;refine⟨by rw[e];simp,λ_ v ae=>?_,λh=>absurd h Φ⟩;rcases Int.lt_or_le (x.un.getD v.toNat 0) a.c with aC|aC
   .exact absurd (.inr (.inr ⟨hk,v,ae,aC⟩)) hi
   .exact aC
 .have e:=zt (n:=n) (s:=u) hk;rw[ae]at e;simp only at e;simp only[hk];refine⟨λf=>?_,λf hi=>?_,λf hi=>?_⟩
  .have p:∀m,dt n.k a.c m=3:=λm=>by unfold dt;rw[if_pos f]
   rw[p,if_pos Φ]at e;exact e
  .have q:(if aE x=[]then-1 else u.zero)<a.c:=by
    by_cases r:aE x=[]
    .rw[if_pos r];omega
    .rw[if_neg r];rcases hi with hi|hi|hi
     .exact absurd hi r
     .exact hi.2
     .omega
   have p:∀m,m<a.c->dt n.k a.c m=7:=λm hm=>by unfold dt;rw[if_neg (λh=>h f),if_pos hm]
   rw[p _ q,if_pos Φ]at e;exact e
  .have r:¬aE x=[]:=λh=>hi (.inl h);have w:¬u.zero<a.c:=λh=>hi (.inr (.inl ⟨hk,h⟩));have p:dt n.k a.c u.zero=0:=by unfold dt;rw[if_neg (λh=>h f),if_neg w]
   rw[if_neg r,p,if_neg Φ]at e;exact⟨by rw[e];simp,λh=>absurd h Φ,λ_=>Ω⟩
end
section
variable{w:x3}{ag gT ap:Nat}{A R:ak}{A9:Nat->ak}{aJ:ak}{n:aH}{s u:aq}{t:aD}{h:List aD}{cs:List x1}{a:iZ}
def SX(p:cg w ag gT ap A R A9 aJ n s u t h cs)(au:bk n.k n.sizes u)(hk:2<=a.kind/\a.kind<=5):an x7 wJ [Γ ap,Δ (a.kind:Int),Δ a.i,Δ a.pos,Δ a.v,Δ a.c] w λr J=>r=Δ (cC n.k u a).2/\dw w ag gT ap A R A9 aJ n s t h (cC n.k u a).1 J:=by
 have cr:=au.vars;have cu:=au.en;refine aA func64 ?_;have bN:cs[0]?=σ (Δ n.k):=by obtain⟨_,_,_,_,_,_,rfl,_⟩:=p.pO;rfl
 rw[aT aY.p 0 p.box bN,aP,am];refine⟨λh=>Ω,λ_=>?_⟩;refine aV (λr J=>r= .bool (!(kT u a).isSome)/\Ext w J) ?_ λaB ba=>?_
 rotate_left
 .rw[bZ];refine p.look.load λdJ cw=>?_;refine(RO cw).mono ?_;rintro _ aa _ ⟨rfl,W⟩;rw[bM,cd];refine⟨λO=>ba _ _ ⟨by rw[SR (λh=>by rw[cr]at h;rw[decide_eq_true h]at O;cases O)];rfl,W⟩,λO=>?_⟩;have bb:0<=a.i/\a.i<n.sizes.length:=by simpa using O
  obtain⟨x,U⟩:=aI (l:=u.vars) (i:=a.i.toNat) Ω;have bp:=SS bb.1 U;obtain⟨szv,cz,dl,aU,dm,bq,bO,_,_,cA,cB,dn,dp,dq⟩:=(p.look).ext W;rw[aT aY.p 4 bO F];refine il (i:=a.i.toNat) F Ω k1.u jd.i Ψ cB (by rw[x8,U];rfl) λbQ br=>?_;have br:[bQ]=[x1.bool (decide (x.gone≠0))]:=br;obtain rfl:bQ=x1.bool (decide (x.gone≠0)):=by simpa using br
  rw[am];refine⟨λP=>ba _ _ ⟨by rw[bp,if_neg λh=>P h.1];rfl,W⟩,λP=>?_⟩;have P:=Y3.1 P;rw[bL,am];refine⟨λbs=>?_,λbs=>ba _ _ ⟨by rw[bp,if_pos ⟨P,λh=>absurd h Ω⟩];rfl,W⟩⟩;rw[aT aY.p 3 bO F];refine il (a:=aE x) (i:=a.i.toNat) F Ω db.u ao.i Ψ cA (by rw[x8,U];rfl) λdr cD=>?_;refine(yO (c3 cD)).mono ?_;rintro _ ab _ ⟨rfl,I⟩;rw[bM];refine ba _ _ ⟨?_,W.trans I⟩;rw[bp];by_cases ae:a.v∈aE x
  .rw[if_pos ⟨P,λ_=>ae⟩,decide_eq_true ae];rfl
  .rw[if_neg λh=>ae (h.2 Ω),decide_eq_false ae];rfl
 rintro _ aa ⟨rfl,W⟩;cases hm:kT u a with
 |none=>
  have f:=SU (n:=n) hk hm;rw[R7,V8,bX];exact⟨by rw[f],by rw[f];exact dw.same p W⟩
 |some x=>
 rw[S1,X2,a8];obtain⟨cE,U,ds,cF⟩:=Gx hm;obtain⟨E,aL⟩:=W6 cE;rw[aL,u7]at U;have bt:=(x4.1 U).1;have G:∀y∈aE x,0<=y/\y<x.un.length:=λy N=>(gp.1 N).1;simp only[aL];have bS:∀v:Nat,0<=x.un.getD v 0/\x.un.getD v 0<=n.k:=λv=>iz au U;have M:=p.ext W;have dt:=bN;have bu:∀{ab:x3}{fb:aq}{bT:List x1}{bw:Nat->ak}{aN:bC},cg ab ag gT ap A R bw aJ n s fb t h bT->fb.vars[E]?=σ aN->∃aU aw y,aK .i64 ab y aN.un/\(∀{B:x3}{K:x1->x1->x1->x1->x1->Prop},Ext ab B->K (Γ ap) (.pointer (σ ⟨ap,0+5,ν⟩)) aU (.pointer (σ ⟨aw,0+E*1,ν⟩)) y->
    ad x7 (bP (Γ ap)) B λay=>ad x7 (u6 aY ay 5) B λaD=>ad x7 (u5 dW aD) B λaO=>ad x7 (c9 dW aO (Δ (E:Int))) B λbc=>ad x7 (u5 az bc) B λcG=>K ay aD aO bc cG)/\
   ∀{J:x3}{v:Nat}{c:Int}{K:Unit->x3->Prop},Ext ab J->v<aN.un.length->(∀bU,kR ab ag gT ap A R bw aJ n s t h (eQ fb E aN (aN.un.set v c)) bU->K () bU)->ad x7 (c9 az y (Δ (v:Int))) J λa=>aF x7 (l9 av a (Δ c)) J K:=λ{ab fb bT bw aN}bW C=>by
  obtain⟨aw,cH,y,cI,cJ,Z,bx⟩:=zp bW C;have cK:=(x4.1 C).1;refine⟨.slice (σ ⟨aw,0,ν⟩) fb.vars.length cH,aw,y,Z,λ{B K}aG aZ=>?_,bx⟩;rw[aT aY.p 5 (bW.box.ext aG) cI,fe dW.u az.i cK λ_=>rfl,ax Ψ (by rw[W0,U7];exact j1 aG cJ)];exact aZ
 obtain⟨cL,cM,bz,bY,cN,ah,cO,b0⟩:=Sm M U;have b1:∀{B:x3}{K:x1->x1->x1->Prop},Ext aa B->K (Γ ap) (.pointer (σ ⟨ap,0+3,ν⟩)) (.slice (σ ⟨cL,0,ν⟩) u.vars.length cM)->
   ad x7 (bP (Γ ap)) B λay=>ad x7 (u6 aY ay 3) B λaD=>ad x7 (u5 db aD) B λaO=>K ay aD aO:=λaG aZ=>by
  rw[aT aY.p 3 (M.box.ext aG) bY];exact aZ
 have pP:∀{B:x3}{K:x1->Prop},Ext aa B->K bz->
   ad x7 (bP (Γ ap)) B λay=>ad x7 (u6 aY ay 3) B λaD=>ad x7 (u5 db aD) B λaO=>ad x7 (c9 db aO (Δ (E:Int))) B λbc=>ad x7 (u5 ao bc) B K:=λaG aZ=>by
  rw[aT aY.p 3 (M.box.ext aG) bY,fe db.u ao.i bt λ_=>rfl,ax Ψ (by rw[W0,U7];exact j1 aG cN)];exact aZ
 have low:∀{u':aq}{J:x3},dw aa ag gT ap A R A9 aJ n s t h u' J->dw w ag gT ap A R A9 aJ n s t h u' J:=λbd=>dw.comp (W.ac _) (λq r G=>.inl ⟨q,G⟩) bd;refine aV (λ_ J=>dw w ag gT ap A R A9 aJ n s t h (cC n.k u a).1 J/\(cC n.k u a).2=0) (λ_ J bd=>⟨by rw[bd.2],bd.1⟩) λcP bA=>?_;refine aV (λr J=>r= .bool (decide (a.kind=2\/a.kind=3))/\aa=J) ?_ λdu b2=>?_
 rotate_left
 .rw[bf,am];refine⟨λC=>b2 _ _ ⟨?_,F⟩,λC=>?_⟩
  .congr 1;exact decide_eq_decide.2 ⟨λ_=>.inl Ω,λ_=>C⟩
  .rw[bf];refine b2 _ _ ⟨?_,F⟩;congr 1;exact decide_eq_decide.2 ⟨λh=>.inr Ω,λh=>Ω⟩
 rintro _ _ ⟨rfl,rfl⟩;rw[am];refine⟨λcQ=>?_,λdv=>?_⟩
 .
  obtain⟨cR,bg,bD⟩:=SV cQ hm;refine BL.mono ?_;rintro _ ab _ ⟨rfl,I⟩;have dx:=I;have b3:ct a.c n.k↔0<=a.c/\a.c<=n.k:=⟨λh=>h.2,λC=>⟨cu,C⟩⟩;rw[bM,cd];refine⟨λO=>?_,λO=>?_⟩
  .have f:=cR λh=>absurd (b3.2 h) (by simpa using O);exact⟨by rw[f],by rw[f];exact low (dw.same M I)⟩
  have bb:=b3.1 (show ct a.c n.k by simpa using O);have bg:=bg bb;have bD:=bD bb;refine aV (λr J=>Ext aa J/\∃b,r= .bool b/\(b=true↔aE x=[]\/(a.kind=3/\u.zero<a.c))) ?_ λdy bE=>?_
  rotate_left
  .refine pP I ?_;rw[aX ao.u (ah.ext I),bf,am];refine⟨λhe=>bE _ _ ⟨I,true,F,⟨λ_=>.inl (b6 Ω),λ_=>rfl⟩⟩,λbh=>?_⟩;have bh:aE x≠[]:=λh=>bh (by rw[h];rfl);rw[bf,am];refine⟨λbs=>?_,λbs=>bE _ _ ⟨I,false,F,⟨(λh=>by cases h),λh=>h.elim (λh=>absurd h bh) λh=>Ω⟩⟩⟩;have bF:cs[2]?=σ (Δ u.zero):=by obtain⟨_,_,_,_,_,_,rfl,_⟩:=p.pO;rfl
   rw[aT aY.p 2 (M.box.ext I) bF,bL];exact bE _ _ ⟨I,_,F,by rw[decide_eq_true_eq];exact⟨λh=>.inr ⟨Ω,h⟩,λh=>h.elim (λh=>absurd h bh) λh=>h.2⟩⟩
  rintro _ cS ⟨aQ,b,rfl,b4⟩;rw[cd];refine⟨λcT=>?_,λaf=>?_⟩
  .have f:=bg ((b4.1 cT).elim .inl λh=>.inr (.inl h));exact⟨by rw[f],by rw[f];exact low (dw.same M aQ)⟩
  have b5:¬(aE x=[]\/(a.kind=3/\u.zero<a.c)):=λh=>by rw[b4.2 h]at af;cases af
  refine pP aQ ?_;rw[aX ao.u (ah.ext aQ)];refine bV.range (aE x).length (λq _ J=>Ext aa J/\(a.kind=2->∀v∈(aE x).take q,a.c<=x.un.getD v.toNat 0)) ah.le ⟨aQ,λ_ v ae=>by simp at ae⟩ ?_ ?_
  .rintro q b7 aH cU bG ⟨L,bi⟩ cV;obtain⟨v,ae⟩:=aI (l:=aE x) bG;have al:=x5 ae;have bj:=G v al;obtain⟨H,rfl⟩:=W6 bj.1;refine bB Ω ?_;rw[be ao.u aj.i Ψ (ah.ext L) ae];refine aV (λr J=>aH=J/\r= .bool (decide (a.kind=2/\x.un.getD H 0<a.c))) ?_ λdz b9=>?_
   .rintro _ _ ⟨rfl,rfl⟩;rw[am];refine⟨λa1=>?_,λbH=>?_⟩
    .have f:=bg (.inr (.inr ⟨a1.1,_,al,a1.2⟩));exact⟨by rw[f],by rw[f];exact low (dw.same M L)⟩
    .rw[aM];refine cV _ _ ⟨L,λC y N=>?_⟩;rw[u9,ae,j4,p9,j5]at N;rcases N with N|rfl
     .exact bi C y N
     .rcases Int.lt_or_le (x.un.getD H 0) a.c with aC|aC
      .exact absurd ⟨C,aC⟩ bH
      .exact aC
   rw[bf,am];refine⟨λC=>?_,λC=>b9 _ _ ⟨F,by rw[decide_eq_false λh=>C Ω]⟩⟩;obtain⟨aU,aw,y,Z,look,_⟩:=bu (M.ext L) U;refine look (Ext.refl _) ?_;rw[be az.u av.i Ψ Z (getD_some (i:=H) Ω),bL];refine b9 _ _ ⟨F,?_⟩;congr 1;exact decide_eq_decide.2 ⟨λh=>⟨Ω,h⟩,λh=>h.2⟩
  rintro b7 aH cU ⟨L,bi⟩;rw[o9]at bi;have cW:¬zv n u x a:=λhi=>hi.elim (λh=>b5 (.inl h)) λh=>h.elim (λh=>b5 (.inr h)) λ⟨C,v,ae,a1⟩=>by have:=bi C v ae;omega
  obtain⟨f,dA,dC⟩:=bD cW;rw[aL,u7]at f;refine ca Ω ?_;refine pP L ?_;rw[aX ao.u (ah.ext L)];obtain⟨g,P⟩:∃g:Int->Int,g=λg=>if a.kind=2 then dQ n.k g a.c else dR n.k g a.c:=⟨_,F⟩;obtain⟨z,bI⟩:∃z:Int->Int,z=λg=>if a.kind=2 then dR n.k g a.c else dQ n.k g a.c:=⟨_,F⟩;rw[<-P,<-bI]at f;have cX:=M.ext L;have cY:=ah.ext L;have cb:=sT x;obtain⟨cc,dD⟩:∃cc,bz=cc:=⟨_,F⟩;have cZ:eQ u E x (eg g x.un ((aE x).take 0))=u:=by
   unfold eQ;show{u with vars:=u.vars.set E x}=u;have:u.vars.set E x=u.vars:=by
    apply Y9;intro i;by_cases e:E=i
    .subst e;rw[b8 bt,U]
    .rw[Y6 e]
   rw[this]
  have c0:∀{J:x3},ai (A9 2) aH J->aK .i64 J bz (aE x):=λc1=>ji cY c1 λr G b n c e O=>M.gP.1 0 2 r Φ (cO r ⟨b,n,c,e,O⟩) G;refine cq.range (aE x).length (λq J=>kR aH ag gT ap A R A9 aJ n s t h (eQ u E x (eg g x.un ((aE x).take q))) J) ah.le (by rw[cZ];exact kR.same cX (Ext.refl _)) ?_ ?_
  .rintro q bl c2 bG aR c4;obtain⟨bm,c5,ce,aS,bJ,c6⟩:=id aR;obtain⟨v,ae⟩:=aI (l:=aE x) bG;have al:=x5 ae;have bj:=G v al;obtain⟨H,rfl⟩:=W6 bj.1;have bn:(eQ u E x (eg g x.un ((aE x).take q))).vars[E]?=σ {x with un:=eg g x.un ((aE x).take q)}:=b8 bt;have dE:(eg g x.un ((aE x).take q)).length=x.un.length:=vC _ _;have bK:=vD (g:=g) ((aE x).take q) x.un (H:Int) (cb.sublist (List.take_sublist _ _)) (λy N=>G y (S4 N)) Ω;rw[if_neg (zl cb ae),u7]at bK;have c7:=bS H;obtain⟨aU,aw,y,Z,look,bx⟩:=bu aS bn;refine bB Ω ?_;refine da (λQ=>kR aH ag gT ap A R A9 aJ n s t h (eQ u E x (eg g x.un ((aE x).take (q+1)))) Q) (λQ S=>by rw[aM];exact c4 _ S) λc8 dc=>?_;have a2:∀{V:x3},Ext bl V->ad x7 (c9 az y (Δ (H:Int))) V λa'=>aF x7 (l9 av a' (Δ (g (x.un.getD H 0)))) V λ(_:Unit)Q=>c8 Q:=λbo=>by
    refine bx bo (by show H<(eg g x.un ((aE x).take q)).length;omega) λQ S=>dc _ (kR.comp bm bJ c6 ?_);have e:eQ (eQ u E x (eg g x.un ((aE x).take q))) E {x with un:=eg g x.un ((aE x).take q)} ((eg g x.un ((aE x).take q)).set H (g (x.un.getD H 0)))=eQ u E x (eg g x.un ((aE x).take (q+1))):=by
     rw[Gs ae,u7,bK];unfold eQ;simp only[List.set_set]
    rw[e]at S;exact S
   have cf:(eg g x.un ((aE x).take q))[H]?=σ (x.un.getD H 0):=by rw[getD_some Ω,bK]
   rw[be ao.u aj.i Ψ (c0 bm) ae,bf,am];refine⟨λC=>?_,λC=>?_⟩
   .intro B X _ _;refine look X (look X ?_);rw[be az.u av.i Ψ (Z.ext X) cf];refine(vL Ω Ω).mono ?_;rintro _ V _ ⟨rfl,Y⟩;refine⟨.inl Y,?_⟩;have:=a2 (X.trans Y);rw[P]at this;simp only[if_pos (show a.kind=2 by omega)]at this;exact this
   .intro B X _ _;refine look X (look X ?_);rw[be az.u av.i Ψ (Z.ext X) cf];refine(nr Ω Ω).mono ?_;rintro _ V _ ⟨rfl,Y⟩;refine⟨.inl Y,?_⟩;have:=a2 (X.trans Y);rw[P]at this;simp only[if_neg (show¬a.kind=2 by omega)]at this;exact this
  .rintro bl c2 aR;rw[o9]at aR;refine ca Ω ?_;have aR:=aR.Gk;obtain⟨bm,c5,ce,aS,bJ⟩:=id aR;have ch:ce[2]?=σ (Δ u.zero):=by obtain⟨_,_,_,_,_,_,rfl,_⟩:=aS.pO;rfl
   have dd:=au.zero;have a2:∀{V:x3},Ext bl V->aF x7 (l9 av (.pointer (σ ⟨ap,0+2,ν⟩)) (Δ (z u.zero))) V λ(_:Unit)Q=>cP b7 Q:=λbo=>by
    refine Sl (aS.ext bo) λQ S=>bA _ _ ⟨?_,by rw[f]⟩;rw[f];have ci:=dw.comp (bo.ac _) (λq r G=>.inl ⟨q,G⟩) S;have a6:=dw.comp bm bJ ci;exact low (dw.comp (L.ac _) (λq r G=>.inl ⟨q,G⟩) a6)
   rw[bf,am];refine⟨λC=>?_,λC=>?_⟩
   .rw[aT aY.p 2 aS.box ch];refine(nr Ω Ω).mono ?_;rintro _ V _ ⟨rfl,Y⟩;rw[bZ,aW aY.p F];have:=a2 Y;rw[bI]at this;simp only[if_pos (show a.kind=2 by omega)]at this;exact this
   .rw[aT aY.p 2 aS.box ch];refine(vL Ω Ω).mono ?_;rintro _ V _ ⟨rfl,Y⟩;rw[bZ,aW aY.p F];have:=a2 Y;rw[bI]at this;simp only[if_neg (show¬a.kind=2 by omega)]at this;exact this
 .
  have cj:3<a.kind:=Ω
  have al:=cF cj;obtain⟨H,bq⟩:=W6 (G _ al).1;have bj:=(G _ al).2;have ck:ev u a.i a.v=σ x:=by unfold kT at hm;rwa [if_pos cj]at hm
  rw[bf,am];refine⟨λa6=>?_,λa6=>?_⟩
  .have a6:a.kind=4:=Ω
   have f:cC n.k u a=if dR n.k u.zero (x.un.getD a.v.toNat 0)<n.k then(u,7)else(eu u a.i.toNat a.v.toNat,0):=by
    unfold cC;rw[if_neg Ω,if_neg Ω,if_neg Ω,if_neg Ω,if_pos a6,ck]
   have dd:=au.zero;have c7:=bS H;intro ab I _ _;have bF:cs[2]?=σ (Δ u.zero):=by obtain⟨_,_,_,_,_,_,rfl,_⟩:=p.pO;rfl
   obtain⟨aU,aw,y,Z,look,_⟩:=bu (M.ext I) U;rw[aT aY.p 2 (M.box.ext I) bF];refine look (Ext.refl _) ?_;rw[bq,be az.u av.i Ψ Z (getD_some Ω)];refine(nr Ω Ω).mono ?_;rintro _ cS _ ⟨rfl,aQ⟩;have cl:=I.trans aQ;rw[bq,u7]at f;unfold dR at f;rw[aP,am];refine⟨λa1=>?_,λbH=>?_⟩
   .rw[if_pos a1]at f;exact⟨by rw[f],by rw[f];exact low (dw.same M cl)⟩
   .rw[if_neg bH]at f;intro aH L _ _;have a7:=cl.trans L;refine b1 a7 ?_;refine pP a7 ?_;have dF:=q3 x;have de:=au.fT.2.2;refine(SQ (ah.ext a7) (by
     obtain⟨cm,cn⟩:=aI (l:=n.sizes) (i:=E) Ω;have h1:=(au.var E x cm U cn).1;have C:=de cm (x5 cn);omega)).mono ?_
    rintro cz bl _ ⟨bn,⟨gz,df⟩,dg⟩;refine⟨.inl bn,?_⟩;have dh:=a7.trans bn;have dG:=a7.size;refine b0 (m:=((x.mask.toNat ||| 2 ^ H:Nat):Int)) dh (gz:=gz) (by rw[show H=(H:Int).toNat from F,zg Ω];exact df) (λr G=>by have:=dg r G;omega) λQ S=>bA _ _ ⟨?_,by rw[f]⟩;rw[f,aL,u7];unfold eu;rw[U];exact low S
  .have ci:a.kind=5:=Ω
   obtain⟨m,di,dj⟩:=zu (i:=a.i.toNat) (v:=a.v) (aE x) u x (by rw[aL,u7];exact U) λy N=>(G y N).1;have f:cC n.k u a=(gq u a.i.toNat a.v (aE x),0):=by
    unfold cC;rw[if_neg Ω,if_neg Ω,if_neg Ω,if_neg Ω,if_neg Ω,ck]
   have dk:aE {x with mask:=m}=[a.v]:=by
    rw[dj,<-filter_one (sT x) al];refine List.filter_congr λy N=>?_;rw[decide_eq_true N,T9,Bool.not_not]
   rw[bf,am];refine⟨λ_=>?_,λh=>Ω⟩;refine b1 (Ext.refl _) ?_;refine eE ao.u aj.i F λv4 dH aH dI L cp=>?_;refine b0 L (by rw[dk];exact cp) (λr G=>by have:=bR cp G;omega) λQ S=>bA _ _ ⟨?_,by rw[f]⟩;rw[f,di,aL,u7];exact low S
end
def zw(T:Nat)(acc:List cj)(s:aG):Prop:=∃M,(∀x∈acc,x.lines.length<=M)/\(∀q∈s.shared,q.2.length<=M)/\3*acc.length+M+s.toks.length<=T
def SY{sizes:Λ}{s s':aG}{l:List (Λ×Int)}{M:Nat}(x:∀q∈s.shared,q.2.length<=M)(h:dz sizes s=σ (l,s')):
  s'.shared=s.shared/\∃e,M<=e/\l.length<=e/\e+s'.toks.length+1<=M+s.toks.length:=by
 unfold dz at h;cases f:bi (-aw) aw s with
 |none=>rw[f]at h;cases h
 |some q=>
  obtain⟨n,s1⟩:=q;rw[f]at h;simp only at h;have h1:=dj f;obtain⟨A,B,p⟩:=h1.eqs;have C:=h1.1;split at h
  .cases V:s1.shared[(-n-1).toNat]? with
   |none=>rw[V]at h;cases h
   |some q=>
    obtain⟨z,fI⟩:=q;rw[V]at h;simp only at h;split at h
    .simp only[Y7,T6]at h;obtain⟨rfl,rfl⟩:=h;have hm:=x5 V;rw[p]at hm;exact⟨p,M,o4 _,x _ hm,Ω⟩
    .cases h
  .have:=j7 (λacc t=>t.shared=s.shared/\t.toks.length+acc.length<=s1.toks.length) (λacc t a bt ⟨r,y⟩ g=>by
    obtain⟨E,F,G,w⟩:=pn g;obtain⟨f1,f2,f3⟩:=w.eqs;exact⟨by rw[f3,r],by have:=w.1;simp only[r8,T7];omega⟩) n.toNat [] (bc (decide (16384<min (s1.told+n) aw)) {s1 with told:=min (s1.told+n) aw}) l s' ⟨p,by simp[bc]⟩ h
   obtain⟨⟨r,y⟩,_⟩:=this;exact⟨r,M+l.length,Ω,Ω,Ω⟩
def SZ{all:Λ}{T:Nat}{acc:List cj}{s s':aG}{f:cj}(J:zw T acc s)(h:dd all s=σ (f,s')):zw T (acc++[f]) s':=by
 obtain⟨M,K,B,L⟩:=J;unfold dd at h;cases y:bi (-aw) aw s with
 |none=>rw[y]at h;cases h
 |some q=>
 obtain⟨a,s1⟩:=q;rw[y]at h;simp only at h;have t0:=dj y;cases h1:eU all.length a.natAbs s1 with
 |none=>rw[h1]at h;cases h
 |some q=>
 obtain⟨sc,r⟩:=q;rw[h1]at h;simp only at h;obtain⟨C,_⟩:=uv h1;generalize sc.map (λv=>all.getD v.toNat 0)=sizes at h;cases z:bi 0 aw (bc (decide (6<a.natAbs)||dn sizes) r)with
 |none=>rw[z]at h;cases h
 |some q=>
 obtain⟨other,A⟩:=q;rw[z]at h;simp only at h;have E:=dj z;have F:A.shared=s.shared:=by rw[E.eqs.2.2];show r.shared=_;rw[C.eqs.2.2,t0.eqs.2.2]
 have N:A.toks.length+2<=s.toks.length:=by
  have:=t0.1;have:=C.1;have w:=E.1;have:(bc (decide (6<a.natAbs)||dn sizes) r).toks.length=r.toks.length:=rfl;omega
 cases w:dz sizes A with
 |none=>rw[w]at h;cases h
 |some q=>
 obtain⟨lines,p⟩:=q;rw[w]at h;simp only[Y7,T6]at h;obtain⟨rfl,rfl⟩:=h;obtain⟨g1,G,O,H,P⟩:=SY (by rw[F];exact B) w;have I:∀q∈p.shared,q.2.length<=G:=λq e=>by rw[g1,F]at e;have:=B q e;omega
 refine⟨G,λx U=>?_,λq e=>?_,?_⟩
 .rcases p9.1 U with U|U
  .have:=K x U;omega
  .rw[j5.1 U];exact H
 .split at e
  .rcases p9.1 e with e|e
   .exact I q e
   .rw[j5.1 e];exact H
  .exact I q e
 .have:(if a<0 then{p with shared:=p.shared++[(sizes,lines)]}else p).toks=p.toks:=by split<;>rfl
  rw[this,r8,T7];omega
theorem Gz{M:Nat}:∀(l:List cj),(∀x∈l,x.lines.length<=M)->kc l<=l.length*M
 |[],_=>by simp[kc]
 |x::l,h=>by
  have h1:=Gz l λy a=>h y (.tail _ a);have:=h x (.head _);unfold kc at h1 ⊢;rw[T3,List.sum_cons,b9,U8,Nat.one_mul];omega
def Ta{q:Λ}{f:b3}(V:q.length<=300)(h:fR q=σ f):kc f.funs<=16384/\f.funs.length<=100:=by
 have W:=ql q.length q (o4 _);unfold fR at h;rw[if_neg Ω]at h;cases af:iI ⟨(lex q).1,0,false,[]⟩with
 |none=>rw[af]at h;cases h
 |some p=>
 obtain⟨X,s'⟩:=p;rw[af]at h;simp only at h;split at h
 rotate_left
 .cases h
 cases h;have r:(⟨(lex q).1,0,false,[]⟩:aG).toks.length<=300:=by show(lex q).1.length<=300;omega
 have H:(⟨(lex q).1,0,false,[]⟩:aG).shared=[]:=rfl;generalize (⟨(lex q).1,0,false,[]⟩:aG)=s at af r H;unfold iI at af;cases w:dK s with
 |none=>rw[w]at af;cases af
 |some p=>
 obtain⟨name,s0⟩:=p;rw[w]at af;simp only at af;obtain⟨aa,ab⟩:=rU w;have a0:s0.toks.length<=300/\s0.shared=[]:=⟨by rw[aa]at r;simp at r;omega,by rw[ab];exact H⟩;have num:∀{lo hi n:Int}{b:Bool}{s t:aG},(s.toks.length<=300/\s.shared=[])->bi lo hi (bc b s)=σ (n,t)->t.toks.length<=300/\t.shared=[]:=λ{lo hi n b s t}L N=>by
  have:=dj N;have h1:(bc b s).toks.length=t.toks.length+1:=this.1;have e:s.toks.length=t.toks.length+1:=h1;exact⟨Ω,by rw[this.eqs.2.2];exact L.2⟩
 cases h1:bi 1 aw (bc (decide (64<name.length)) s0)with
 |none=>rw[h1]at af;cases af
 |some p=>
 obtain⟨n,s1⟩:=p;rw[h1]at af;simp only at af;have O:=num a0 h1;cases e:bi 1 aw (bc (decide (64<n)) s1)with
 |none=>rw[e]at af;cases af
 |some p=>
 obtain⟨most,P⟩:=p;rw[e]at af;simp only at af;have Q:=num O e;cases x:bi 0 aw P with
 |none=>rw[x]at af;cases af
 |some p=>
 obtain⟨y,A⟩:=p;rw[x]at af;simp only at af;have a3:A.toks.length<=300/\A.shared=[]:=by
  have:=dj x;exact⟨by have:=this.1;omega,by rw[this.eqs.2.2];exact Q.2⟩
 cases B:bi 1 aw (bc (decide (256<y)) A)with
 |none=>rw[B]at af;cases af
 |some p=>
 obtain⟨k,I⟩:=p;rw[B]at af;simp only at af;have a4:=num a3 B;cases C:cP (fQ most) n.toNat [] (bc (decide (2147483648<k)) I)with
 |none=>rw[C]at af;cases af
 |some p=>
 obtain⟨sizes,E⟩:=p;rw[C]at af;simp only at af;have J:=j7 (λ(acc:Λ)t=>t.toks.length<=300/\t.shared=[]) (λacc t a bt g1 g=>by
  unfold fQ at g;cases F:bi 1 most t with
  |none=>rw[F]at g;cases g
  |some p=>
   obtain⟨z,K⟩:=p;rw[F]at g;simp only[Y7,T6]at g;obtain⟨rfl,rfl⟩:=g;have:=dj F;exact⟨by show K.toks.length<=300;have:=this.1;omega,by show K.shared=[];rw[this.eqs.2.2];exact g1.2⟩) n.toNat [] (bc (decide (2147483648<k)) I) sizes E a4 C
 cases G:cP (λ_ s=>dd sizes s) y.toNat [] E with
 |none=>rw[G]at af;cases af
 |some p=>
 obtain⟨funs,R⟩:=p;rw[G]at af;simp only[Y7,T6]at af;obtain⟨rfl,rfl⟩:=af;obtain⟨⟨M,S,_,Y⟩,_⟩:=j7 (zw 300) (λacc t a bt T g=>SZ T g) y.toNat [] E funs R ⟨0,Ξ,by rw[J.1.2];simp,by have:=J.1.1;simp;omega⟩ G;have Z:=Gz funs S;show kc funs<=16384/\funs.length<=100;refine⟨?_,Ω⟩;have U:∀k<101,k*(300-3*k)<=16384:=Φ
 have ac:=Nat.mul_le_mul_left funs.length (show M<=300-3*funs.length by omega);have:=U funs.length Ω;omega
def kU(A R:ak)(A9:Nat->ak)(aJ:ak)(ap:Nat)(r:Nat):Prop:=A r\/R r\/(∃q,A9 q r)\/aJ r\/r=ap
section
variable{P:ak}{ik w J:x3}{ag gT ap UM UN UO:Nat}{A R aU R':ak}{A9 cr:Nat->ak}{aJ F8:ak}{n:aH}{s s':aq}{t bt:aD}{h a7:List aD}{cs b4:List x1}{m cm:Nat}
variable{Z oG:ak}
end
def GA(h:Laid w):0<w.heap.size:=by
 rcases Q8 w.heap.size with e|e
 .have a:=h 0 _ F;unfold x3.cell? at a;rw[Array.getElem?_eq_none Ω]at a;cases a
 .exact e
def fE(Z aJ:ak)(w:x3)(ag gT ap:Nat)(n:aH)(s:aq):Prop:=∃A R A9 t cs,cg w ag gT ap A R A9 aJ n s s t [] cs/\(Laid w/\¬Z 0)/\(dg s/\e3 (df n) s/\n.funs.length<=256)/\(∀r,Z r↔kU A R A9 aJ ap r)/\∀q r,A9 q r->r<w.heap.size
section
variable{Z aJ S:ak}{w J aa:x3}{ag gT ap:Nat}{A R:ak}{A9:Nat->ak}{n:aH}{s u:aq}{t:aD}{cs:List x1}
def fE.ext(h:fE Z aJ w ag gT ap n s)(U:Ext w J):fE Z aJ J ag gT ap n s:=by
 obtain⟨A,R,A9,t,cs,p,⟨a,e⟩,f,x,y⟩:=h;exact⟨A,R,A9,t,cs,p.ext U,⟨a.ext U,e⟩,f,x,λq r z=>by have:=y q r z;have:=U.size;omega⟩
def fE.side(h:fE Z aJ w ag gT ap n s)(e:ai S w J)(z:∀r,Z r->¬S r)(B:¬S 0):fE Z aJ J ag gT ap n s:=by
 obtain⟨A,R,A9,t,cs,p,⟨C,E⟩,F,x,G⟩:=h;refine⟨A,R,A9,t,cs,p.side e λr _ f=>?_,⟨kw e B C,E⟩,F,x,λq r f=>by have:=G q r f;have:=e.size;omega⟩;have a:∀{y:Prop},(y->kU A R A9 aJ ap r)->¬y:=λH h=>z r ((x r).2 (H h)) f;exact⟨a .inl,a λh=>.inr (.inl h),λq=>a λh=>.inr (.inr (.inl ⟨q,h⟩)),a λh=>.inr (.inr (.inr (.inl h))),a λh=>.inr (.inr (.inr (.inr h)))⟩
def fE.ok(h:fE Z aJ w ag gT ap n s):bk n.k n.sizes s/\dg s/\e3 (df n) s/\n.funs.length<=256:=by
 obtain⟨A,R,A9,t,cs,p,_,a,_⟩:=h;exact⟨p.fx.2.2.2.1,a⟩
def fE.step{aa:x3}(p:cg w ag gT ap A R A9 aJ n s u t [] cs)(f:∀r,Z r↔kU A R A9 aJ ap r){u':aq}(F:dg u'/\e3 (df n) u'/\n.funs.length<=256)(G:¬Z 0)(H:dw w ag gT ap A R A9 aJ n s t [] u' aa)(U:Ext aa J)(hm:eJ [] J ag gT A R n u' ab):ai (λr=>Z r/\¬aJ r) w ab/\∃oG,(∀r,oG r->Z r\/w.heap.size<=r)/\fE oG aJ ab ag gT ap n u':=by
 obtain⟨B,cr,b4,I,K⟩:=H;obtain⟨x,L,aU,bt,y,M,N,V⟩:=hm;have:=B.size;have:=U.size;have:=x.size;have z:=I.ext U;have O:=z.prog x y M N.1 (λ_ h=>.inl h) (λ_ _ _ h=>h) z.box.lt;have P:=p.Gh;have Q:ai (λr=>Z r/\¬aJ r) w ab:=(((B.mono (T:=λr=>Z r/\¬aJ r) λr _ h=>⟨(f r).2 (h.elim (λh=>.inr (.inr (.inl h))) λh=>.inr (.inr (.inr (.inr h)))),h.elim (λ⟨q,h⟩=>P q r h) λh a7=>(p.read r a7).2.2 h⟩)).trans (U.ac _)).trans
  ((zc y.1 x).mono λr _ h=>⟨(f r).2 (.inl h.1),λa7=>(z.read r a7).1 h.2⟩)
 have:=p.box.lt;have e:∀{r:Nat}{C:Prop},(C->kU A R A9 aJ ap r)->C->Z r\/w.heap.size<=r:=λS h=>.inl ((f _).2 (S h));have E:∀r,kU aU R (λq r=>cr q r/\r<J.heap.size) aJ ap r->Z r\/w.heap.size<=r:=by
  intro r a;rcases a with a|a|⟨q,a,_⟩|a|a
  .exact (y.2.1 r a).elim (e .inl) λh=>.inr Ω
  .exact e (λh=>.inr (.inl h)) a
  .exact (K q r a).elim (e λh=>.inr (.inr (.inl h))) .inr
  .exact e (λh=>.inr (.inr (.inr (.inl h)))) a
  .exact e (λh=>.inr (.inr (.inr (.inr h)))) a
 exact⟨Q,λr=>kU aU R (λq r=>cr q r/\r<J.heap.size) aJ ap r,E,aU,R,_,bt,b4,O,⟨L,λh=>(E 0 h).elim G λh=>Ω⟩,F,λr=>Iff.rfl,λq r a=>by have:=a.2;omega⟩
def Tb(h:dg s/\e3 (df n) s/\n.funs.length<=256)(a:bk n.k n.sizes s)(m:iZ):dg (cC n.k s m).1/\e3 (df n) (cC n.k s m).1/\n.funs.length<=256:=
 ⟨(RV a h.1).2.1,h.2.1.trans (R1 a),h.2.2⟩
def Tc{m:iZ}(p:cg w ag gT ap A R A9 aJ n s u t [] cs)(a:bk n.k n.sizes u)(e:dg u)(hk:m.kind<=5):an x7 wJ [Γ ap,Δ (m.kind:Int),Δ m.i,Δ m.pos,Δ m.v,Δ m.c] w λr J=>r=Δ (cC n.k u m).2/\dw w ag gT ap A R A9 aJ n s t [] (cC n.k u m).1 J:=by
 by_cases h:m.kind<2
 .exact SK p a e h
 .exact SX p a ⟨Ω,hk⟩
def Td{B:Nat}{e:x3}{ap:Nat}{s:x1}{cs:List x1}{f:b3}(x:vI B ab s cs f)(U:Ext ab e)(y:ah e ap aY cs)(z:ab.heap.size<=ap)(K:B<=ab.heap.size)(L:0<B)(C:Laid e):
  ∃ag gT Z aJ,s=Γ ag/\fE Z aJ e ag gT ap (c4 f) (df (c4 f))/\∀r,Z r->B<=r:=by
 obtain⟨ag,gT,A,R,A9,aJ,t,rfl,p,_,E,F,_,_,G,_,H,I⟩:=Se x U y z;have J:=p.olds;have w:∀r,kU A R (λq r=>A9 q r/\r<e.heap.size) aJ ap r->B<=r:=by
  intro r a;rcases a with a|a|⟨q,a,_⟩|a|a
  .exact E r a
  .exact I r a
  .exact F q r a
  .exact H r a
  .omega
 exact⟨ag,gT,_,aJ,rfl,⟨A,R,_,t,cs,J,⟨C,λh=>by have:=w 0 h;omega⟩,⟨Sd _,e3.rfl,G⟩,λr=>Iff.rfl,λq r a=>a.2⟩,w⟩
end
def q4(s:aq):Prop:=∀f∈s.funs,f.live≠0
def Te(n:aH):q4 (df n):=by
 intro f af;unfold df at af;obtain⟨g,_,rfl⟩:=c7.1 af;exact(by decide:(1:Int)≠0)
def Tf{a b:aq}(h:e3 a b)(k:q4 a):q4 b:=by
 intro g p;obtain⟨j,e⟩:=List.getElem?_of_mem p;have:=(x4.1 e).1;obtain⟨f,af⟩:=aI (l:=a.funs) (i:=j) (by have:=h.funs;omega);rw[(h.fn j f g af e).2.2.1];exact k f (x5 af)
section
variable{w:x3}{ag gT:Nat}{A R:ak}{n:aH}{s:aq}{t:aD}{dJ:x1}
end
def eh{c:Prop}[Decidable c]{a b:bJ}:b∈er c a↔c/\b=a:=by
 refine⟨qX,λ⟨h,e⟩=>?_⟩;unfold er;rw[if_pos h,e];exact .head _
section
variable{n:aH}{s:aq}
def q5{i:Int}{a:bJ}:a∈jQ n s i↔fW n s i=true/\(a∈gI n s i\/(∃v∈bj s i,a∈dV n s i v)\/a∈ju n s i):=by
 unfold jQ;by_cases h:fW n s i=true
 .rw[if_pos h,p9,p9,X9];exact⟨λk=>⟨h,k⟩,λk=>k.2⟩
 .rw[if_neg h];exact⟨λk=>(by cases k),λk=>absurd k.1 h⟩
def s4{a:bJ}:a∈kl n s j↔ ∃f,s.funs[j]?=σ f/\f.live≠0/\∃p,p<f.sc.length/\∃v∈bj s (f.sc.getD p 0),a∈ds n s j f p (f.sc.getD p 0) v\/a∈dP n s j f p (f.sc.getD p 0) v:=by
 unfold kl;cases af:s.funs[j]? with
 |none=>exact⟨λh=>(by cases h),λ⟨f,h,_⟩=>by cases h⟩
 |some f=>
  simp only;by_cases q:f.live≠0
  .rw[if_pos q,X9];constructor
   .rintro⟨p,r,h⟩;unfold ib at h;obtain⟨v,ae,h⟩:=X9.1 h;exact⟨f,F,q,p,W8.1 r,v,ae,p9.1 h⟩
   .rintro⟨_,e,_,p,r,v,ae,h⟩;cases e;refine⟨p,W8.2 r,?_⟩;unfold ib;exact X9.2 ⟨v,ae,p9.2 h⟩
  .rw[if_neg q];exact⟨λh=>(by cases h),λ⟨_,e,h,_⟩=>by cases e;exact absurd h q⟩
def s5{a:bJ}:a∈l8 n s↔(∃i:Nat,i<n.sizes.length/\a∈jQ n s (i:Int))\/∃j,a∈kl n s j:=by
 unfold l8 mL mM;rw[p9,X9,X9];refine or_congr ⟨λ⟨i,h1,e⟩=>⟨i,W8.1 h1,e⟩,λ⟨i,h1,e⟩=>⟨i,W8.2 h1,e⟩⟩ ⟨λ⟨j,_,h⟩=>⟨j,h⟩,λ⟨j,h⟩=>⟨j,W8.2 ?_,h⟩⟩;obtain⟨f,af,_⟩:=s4.1 h;exact(x4.1 af).1
def zx{i:Nat}(hi:i<n.sizes.length):fW n s (i:Int)=true↔jO s i=false:=by
 unfold fW;rw[decide_eq_true Ω,T9,u7,Bool.not_eq_true']
end
section
variable{n:aH}{s:aq}
def GB{i j:Int}(a:bk n.k n.sizes s):0<=gH n s i v j/\gH n s i v j<=n.k:=by
 have:=a.en;unfold gH;split
 .split
  .split
   .exact yW Ω λu _=>yX a
   .omega
  .omega
 .omega
end
section
variable{n:aH}{s:aq}
def jT(n:aH)(s:aq)(i v:Int)(c:Int)(j:Nat):Int:=if lq s i j=true then(if ow s (j:Int)=true then min (c+gH n s i v (j:Int)) n.k else c)else c
def Tg{i:Int}:nB n s i v=(Z4 s.funs.length).foldl (jT n s i v) (eI n s i v):=by
 unfold nB lr jt;rw[List.foldl_filter,List.foldl_map,List.foldl_filter];rfl
def Th{i:Int}(a:bk n.k n.sizes s):∀(l:List Nat),0<=l.foldl (jT n s i v) (eI n s i v)/\l.foldl (jT n s i v) (eI n s i v)<=n.k:=by
 have:=a.en;have key:∀(l:List Nat)(c:Int),0<=c/\c<=n.k->0<=l.foldl (jT n s i v) c/\l.foldl (jT n s i v) c<=n.k:=by
  intro l;induction l with
  |nil=>intro c h;exact h
  |cons j l e=>
   intro c h;refine e _ ?_;unfold jT;have:=GB (i:=i) (v:=v) (j:=(j:Int)) a;split
   .split
    .omega
    .exact h
   .exact h
 exact λl=>key l _ (sL a)
def GC{i:Int}{f:bS}{b:Int}{x:bC}(af:s.funs[j]?=σ f)(p:f.sc=[a,b])(q:a≠b):
  (i=a->s.vars[b.toNat]?=σ x->gH n s i v (j:Int)=(cp n.k (aE x) (js n s j 0 v b)).1)/\(i=b->s.vars[a.toNat]?=σ x->gH n s i v (j:Int)=(cp n.k (aE x) (js n s j 1 v a)).1):=by
 unfold gH;rw[u7,af];simp only;rw[p];refine⟨λh U=>?_,λh U=>?_⟩
 .subst h;have e:fu [i,b] i=0:=by unfold fu;rw[if_pos Ξ];simp
  rw[e];simp only[show((1:Int)-0).toNat=1 by decide,List.getElem?_cons_succ,List.getElem?_cons_zero,U]
 .subst h;have e:fu [a,i] i=1:=by
   unfold fu;rw[if_pos Ξ,List.idxOf_cons,show(a == i)=false by simp[q]];simp
  rw[e];simp only[show((1:Int)-1).toNat=0 by decide,List.getElem?_cons_zero,U]
end
def GD{f g:Int->Int}:∀{l:Λ},(∀v∈l,f v=g v)->cp k l f=cp k l g:=by
 intro l;unfold cp;generalize (k,(-1:Int))=p;induction l generalizing p with
 |nil=>intro _;rfl
 |cons v l a=>
  intro h;rw[S8,S8,show ix f p v=ix g p v by unfold ix;rw[h v (.head _)]];exact a _ λu hu=>h u (.tail _ hu)
def Ti{f:Int->Int}:∀(l:Λ)(p:Int×Int),(∀v∈l,0<=v)->(p.2= -1\/0<=p.2)->((l.foldl (ix f) p).2= -1\/0<=(l.foldl (ix f) p).2)/\(k=k):=by
 intro l;induction l with
 |nil=>intro p _ h;exact⟨h,F⟩
 |cons v l e=>
  intro p a h;refine e _ (λu hu=>a u (.tail _ hu)) ?_;unfold ix;split
  .exact .inr (a v (.head _))
  .exact h
section
variable{w:x3}{dJ:x1}{k:Int}{sizes:Λ}{s:aq}
def zy{f:Int->Int}{q:Nat}(ae:l[q]?=σ v):cp k (l.take (q+1)) f=ix f (cp k (l.take q) f) v:=by
 unfold cp;rw[u9,ae,j4,R3];rfl
def zz{f:Int->Int}(a:∀v∈l,0<=v):(cp k l f).2= -1\/0<=(cp k l f).2:=(Ti (k:=k) l (k,-1) a (.inl F)).1
def Tj{i:Nat}{x:bC}(h:iY w dJ k sizes s)(ap:bk k sizes s)(U:s.vars[i]?=σ x):
  an x7 H1 [dJ,Δ (i:Int)] w λr J=>Ext w J/\r= .tuple #[Δ (cp k (aE x) λv=>x.un.getD v.toNat 0).1,Δ (cp k (aE x) λv=>x.un.getD v.toNat 0).2]:=by
 have:=q3 x;refine aA func30 ?_;refine bh λg1 aa au G N=>?_;obtain⟨szv,aw,ax,ay,aC,aD,C,aF,_,O,aG,P,aH,aJ⟩:=h.box G N;rw[aL aY.p 0 C F,aL aY.p 3 C F];refine il (α:=Λ) (a:=aE x) (i:=i) F rfl db.u ao.i Ψ O (by rw[x8,U];rfl) λaK Q=>?_;have E:=c3 Q;rw[aX ao.u E];obtain⟨f,af⟩:∃f:Int->Int,f=λv=>x.un.getD v.toNat 0:=⟨_,F⟩;rw[<-af];refine mg.range (aE x).length (λq b a ab=>Ext aa ab/\b=Δ (cp k ((aE x).take q) f).1/\a=Δ (cp k ((aE x).take q) f).2) E.le ⟨Ext.refl _,F,F⟩ ?_ ?_
 .rintro q _ _ ab R S ⟨y,rfl,rfl⟩ V;obtain⟨v,ae⟩:=aI (l:=aE x) S;have W:=(gp.1 (x5 ae)).1;obtain⟨z,rfl⟩:=W6 W.1;have A:=zy (k:=k) (f:=f) ae;have:=zz (k:=k) (f:=f) (l:=(aE x).take q) λv ae=>(gp.1 (S4 ae)).1.1;have X:f (z:Int)=x.un.getD z 0:=by rw[af];rfl
  refine bB Ω ?_;refine iC (λb a J=>Ext aa J/\b=Δ (cp k ((aE x).take (q+1)) f).1/\a=Δ (cp k ((aE x).take (q+1)) f).2) (λb a J Y=>by rw[aM];exact V _ _ _ Y) λaB H=>?_;rw[be ao.u aj.i Ψ (E.ext y) ae];have I:∀{K:x1->Prop}{e:x3},Ext aa e->K (Δ (f (z:Int)))->ad x7 (u6 aY (Γ g1) 5) e λZ=>ad x7 (u5 dW Z) e λac=>ad x7 (c9 dW ac (Δ (i:Int))) e λt39=>ad x7 (u5 az t39) e λag=>ad x7 (c9 az ag (Δ (z:Int))) e λah=>ad x7 (u5 av ah) e K:=λ{K e}L ai=>by
   rw[aL aY.p 5 (C.ext L) F];refine il (a:=x.un) (i:=i) F rfl dW.u az.i Ψ (bE P L) (by rw[x8,U];rfl) λaO ak=>?_;rw[be az.u av.i Ψ (c3 ak) (getD_some (i:=z) Ω),<-X];exact ai
  refine aV (λr J=>ab=J/\r= .bool (decide ((cp k ((aE x).take q) f).2= -1\/f (z:Int)<(cp k ((aE x).take q) f).1))) ?_ λaQ M=>?_
  .rintro _ _ ⟨rfl,rfl⟩;unfold ix at A;rw[am];refine⟨λB=>I y (H _ _ _ ⟨y,?_,?_⟩),λB=>H _ _ _ ⟨y,?_,?_⟩⟩
   .rw[A,if_pos B]
   .rw[A,if_pos B]
   .rw[A,if_neg B]
   .rw[A,if_neg B]
  .rw[aP,am];refine⟨λal=>M _ _ ⟨F,by rw[decide_eq_true (.inl Ω)]⟩,λal=>?_⟩;refine I y ?_;rw[aP];refine M _ _ ⟨F,?_⟩;congr 1;exact decide_eq_decide.2 ⟨.inr,λh=>h.resolve_left λh=>Ω⟩
 .rintro _ _ ab R ⟨y,rfl,rfl⟩;rw[o9];exact ca Ω ⟨G.trans y,F⟩
def GF{y:x1}{f:bS}(C:Seen eL w [y] (s.funs.map ko))(af:s.funs[j]?=σ f)(E:∀g e h v3 J,Ext w J->ah J g a1 [e,h,v3]->aK .i64 J e f.sc->aK .i64 J h f.al->aK .i64 J v3 f.cs->K (Γ g) J):
  ad x7 (c9 eR y (Δ (j:Int))) w λF=>ad x7 (u6 du F 0) w λG=>ad x7 (u5 a1 G) w λH=>aF x7 (Q6 a1 true (.tuple #[])) w λf ab=>aF x7 (l9 a1 f H) ab λ(_:Unit)z=>K f z:=by
 refine lN (i:=j) rfl eR.u du.i C (by rw[x8,af];rfl) λb o cs x I=>?_;obtain⟨e,h,v3,rfl,h1,A,B⟩:=nF I;rw[aW du.p rfl,bN (cs:=[e,h,v3]) a1.p a1.i rfl (λq u a=>by
  have:q<3:=(x4.1 a).1
  match q,this,a with
  |0,_,a=>cases a;exact x 0 _ rfl
  |1,_,a=>cases a;exact x 1 _ rfl
  |2,_,a=>cases a;exact x 2 _ rfl)]
 refine bu a1.i λQ ab R L M=>?_;have N:∀u∈[e,h,v3],u.oneCell'=true:=λu hu=>by
  simp only[V5,List.not_mem_nil,or_false]at hu;rcases hu with rfl|rfl|rfl
  .exact gQ h1
  .exact gQ A
  .exact gQ B
 refine b7 (vs:=[e,h,v3]) a1.i rfl rfl N M λz O S P=>?_;have r:=L.put O Ω;exact E _ _ _ _ _ r P ((c3 h1).ext r) ((c3 A).ext r) ((c3 B).ext r)
def Tk{of:Λ->Int}{l:List (Λ)}{q:Nat}{t:Λ}(a:l[q]?=σ t):ep k of (l.take (q+1))=simpStep of (ep k of (l.take q)) t:=by
 unfold ep;rw[u9,a,j4,R3];rfl
def q6(w:x3)(v:x1)(o:Option (Λ)):Prop:=match o with
 |none=>v= .slice ν 0 0
 |some tl=>tl≠[]/\aK .i64 w v tl
def q6.nil{v:x1}{o:Option (Λ)}(h:q6 w v o):∃a n c,v= .slice a n c/\a.isNone=decide (o=ν):=by
 cases o with
 |none=>exact⟨ν,0,0,h,Ξ⟩
 |some tl=>
  obtain⟨h1,_,b,o,base,cap,rfl,_,_,e,_⟩:=h;exact⟨_,_,_,F,by rw[e (List.length_pos_iff.2 h1)];simp⟩
end
def Tl{f g:Λ->Int}:∀{l:List (Λ)},(∀t∈l,f t=g t)->ep k f l=ep k g l:=by
 intro l;unfold ep;generalize (k,(ν:Option (Λ)))=p;induction l generalizing p with
 |nil=>intro _;rfl
 |cons v l a=>
  intro h;rw[S8,S8,show simpStep f p v=simpStep g p v by unfold simpStep;rw[h v (.head _)]];exact a _ λu hu=>h u (.tail _ hu)
def zA{al cs t:Λ}{m:Nat}(hi:cn al t 0=σ (m:Int)):bo al cs t=cs.getD m 0:=by
 unfold bo;rw[hi];rfl
def Tm{al t:Λ}{m:Nat}(hi:cn al t 0=σ (m:Int)):nH al t=m:=by
 unfold nH;rw[hi];rfl
section
variable{w:x3}{dJ:x1}{k:Int}{sizes:Λ}{s:aq}
def Tn{f:bS}(h:iY w dJ k sizes s)(B:bk k sizes s)(af:s.funs[j]?=σ f)(aw:pos<f.sc.length)(ae:∀u,f.sc[pos]?=σ u->v∈bj s u):
  an x7 H5 [dJ,Δ (j:Int),Δ (pos:Int),Δ v] w λr J=>Ext w J/\∃E,r= .tuple #[Δ (ep k (bo f.al f.cs) (b0 s f.sc pos v)).1,E]/\q6 J E (ep k (bo f.al f.cs) (b0 s f.sc pos v)).2:=by
 have G:=x5 af;obtain⟨P,Q,_⟩:=B.funs f G;have H:=(ly B G).1;have R:f.al.length=f.sc.length:=by rw[Q];simp[b2]
 have aW:=jC H;have aZ:f.cs.length=(aR f.al).toNat:=by rw[Q];exact P.len
 refine aA func34 ?_;refine bh λg1 aa a2 S ax=>?_;have U:=h.box S ax;obtain⟨szv,a6,a7,a8,E,ba,V,bb,_,bc,bd,bf,ay,bg⟩:=id U;rw[aL aY.p 6 V F];refine GF ay af λbi bl bm v3 bn I W s1 aC aD=>?_;rw[aL aY.p 0 (V.ext I) F,aL a1.p 1 W F];refine(ul f.al aC ⟨by rw[R];exact P.scope.2,H⟩).mono ?_;rintro bp bq _ ⟨X,aE⟩;have aF:=I.trans X;refine(U.ext aF).load λbr aG=>?_;refine(zo aG B af aw ae).mono ?_;rintro cR Y _ ⟨Z,K,_⟩;have L:=X.trans Z;have aH:=I.trans L;have ab:(kp s f pos v).length=(b0 s f.sc pos v).length:=by unfold kp;rw[r9]
 rw[aX ao.u K,ab];obtain⟨of,ac⟩:∃of,of=bo f.al f.cs:=⟨_,F⟩;rw[<-ac];refine mg.range (b0 s f.sc pos v).length (λq b a x=>Ext Y x/\b=Δ (ep k of ((b0 s f.sc pos v).take q)).1/\q6 x a (ep k of ((b0 s f.sc pos v).take q)).2) (by rw[<-ab];exact K.le) ⟨Ext.refl _,F,F⟩ ?_ ?_
 .rintro q _ ad x aJ aK ⟨e,rfl,y⟩ aN;obtain⟨tl,M⟩:=aI (l:=b0 s f.sc pos v) aK;have aO:=x5 M;obtain⟨m,hm⟩:=pQ B G ae aO;have z:=Tk (k:=k) (of:=of) M;have C:=lS H hm;rw[u7]at C;have ag:m<f.cs.length:=by have:=(x4.1 C).1;omega
  have ah:of tl=f.cs.getD m 0:=by rw[ac];exact zA hm
  have aQ:tl≠[]:=λhe=>by
   have:=w5 C;rw[he,R,List.length_nil]at this;omega
  have aS:(kp s f pos v)[q]?=σ (m:Int):=by unfold kp;rw[x8,M,Y1,Tm hm]
  refine bB Ω ?_;refine iC (λb a J=>Ext Y J/\b=Δ (ep k of ((b0 s f.sc pos v).take (q+1))).1/\q6 J a (ep k of ((b0 s f.sc pos v).take (q+1))).2) (λb a J aT=>by rw[aM];exact aN _ _ _ aT) λaB ai=>?_;rw[be ao.u aj.i Ψ (K.ext e) aS];have ak:=W.ext (L.trans e);have ap:=aD.ext (L.trans e);refine aV (λr J=>x=J/\r= .bool (decide ((ep k of ((b0 s f.sc pos v).take q)).2=ν\/of tl<(ep k of ((b0 s f.sc pos v).take q)).1))) ?_ λbs aq=>?_
  .rintro _ _ ⟨rfl,rfl⟩;unfold simpStep at z;rw[am];refine⟨λA=>?_,λA=>ai _ _ _ ⟨e,by rw[z,if_neg A],by rw[z,if_neg A];exact y⟩⟩;intro bt N _ _;have au:=e.trans N;rw[aL a1.p 2 (ak.ext N) F,be az.u av.i Ψ (ap.ext N) (getD_some ag),<-ah];refine il F rfl db.u ao.i Ψ (bE aE (Z.trans au)) C λu hu=>?_;exact ai _ _ _ ⟨au,by rw[z,if_pos A],by rw[z,if_pos A];exact⟨aQ,c3 (kB hu)⟩⟩
  .obtain⟨bu,fn,bw,rfl,aU⟩:=y.nil;rw[nX ao.u,aU,am];refine⟨λO=>aq _ _ ⟨F,by rw[decide_eq_true (.inl O)]⟩,λO=>?_⟩;rw[aL a1.p 2 ak F,be az.u av.i Ψ ap (getD_some ag),<-ah,aP];refine aq _ _ ⟨F,?_⟩;congr 1;exact decide_eq_decide.2 ⟨.inr,λh=>h.resolve_left O⟩
 .rintro _ ad x aJ ⟨e,rfl,y⟩;rw[o9]at y ⊢;exact ca Ω ⟨(S.trans aH).trans e,ad,F,y⟩
def GG{f:bS}{b:Int}{u:Int}(p:bk k sizes s)(af:f∈s.funs)(e:f.sc=[a,b])(h:pos=0\/pos=1)(ae:v∈bj s (if pos=1 then b else a))(hu:u∈bj s (if pos=1 then a else b)):∃m:Nat,cn f.al (if pos=1 then[u,v]else[v,u]) 0=σ (m:Int):=by
 refine pQ (pos:=pos) (v:=v) p af (λx U=>?_) ?_
 .rw[e]at U;rcases h with rfl|rfl
  .cases U;exact ae
  .cases U;exact ae
 .rw[e];rcases h with rfl|rfl
  .simp only[show¬((0:Nat)=1) by decide,if_false]at hu ⊢;simp[b0,iy,gG,hu]
  .simp only[if_true]at hu ⊢;simp[b0,iy,gG,hu]
def GH{b:Int}{f:bS}{y:bC}(h:iY w dJ k sizes s)(x:bk k sizes s)(af:s.funs[j]?=σ f)(G:f.sc=[a,b])(U:pos=0\/pos=1)(ae:v∈bj s (if pos=1 then b else a))(z:s.vars[(if pos=1 then a else b).toNat]?=σ y):
  an x7 H6 [dJ,Δ (j:Int),Δ (pos:Int),Δ v] w λr J=>Ext w J/\r= .tuple #[Δ (cp k (aE y) λu=>min (bo f.al f.cs (if pos=1 then[u,v]else[v,u])+y.un.getD u.toNat 0) k).1,Δ (cp k (aE y) λu=>min (bo f.al f.cs (if pos=1 then[u,v]else[v,u])+y.un.getD u.toNat 0) k).2]:=by
 have H:=x5 af;have:=x.en;obtain⟨I,V,_⟩:=x.funs f H;have K:=(ly x H).1;have ay:f.al.length=f.sc.length:=by rw[V];simp[b2]
 have:=jC K;have bu:f.cs.length=(aR f.al).toNat:=by rw[V];exact I.len
 have W:0<=(if pos=1 then a else b):=by
  have:=(I.scope.1 a (by rw[G];exact .head _)).1;have:=(I.scope.1 b (by rw[G];exact .tail _ (.head _))).1;split<;>omega
 obtain⟨o,M⟩:∃o,o=(if pos=1 then a else b):=⟨_,F⟩;rw[<-M]at z W;obtain⟨on,rfl⟩:=W6 W;rw[u7]at z;have aC:bj s (on:Int)=aE y:=by unfold bj;rw[u7,z]
 refine aA func35 ?_;refine bh λg1 aa bx X aD=>?_;have aF:=h.box X aD;obtain⟨szv,bz,bA,bD,bF,bG,B,bH,_,aG,bI,aH,aJ,bJ⟩:=id aF;rw[aL aY.p 6 B F];refine GF aJ af λbK bL bM v3 N C O s1 aO aQ=>?_;have aS:f.sc[1-pos]?=σ (on:Int):=by rw[M,G];rcases U with rfl|rfl<;>rfl
 rw[aL a1.p 0 O F,dI,wrap_i64 Ω Ω,show(1:Int)-(pos:Int)=((1-pos:Nat):Int) by omega,be ao.u aj.i Ψ s1 aS,aL aY.p 0 (B.ext C) F,aL aY.p 3 (B.ext C) F];refine il F rfl db.u ao.i Ψ (bE aG C) (by rw[x8,z];rfl) λbN Y=>?_;have Z:=c3 Y;have:=q3 y;rw[aX ao.u Z];obtain⟨of,ac⟩:∃of:Int->Int,of=λu=>min (bo f.al f.cs (if pos=1 then[u,v]else[v,u])+y.un.getD u.toNat 0) k:=⟨_,F⟩;rw[<-ac];refine mg.range (aE y).length (λq b a ab=>Ext N ab/\b=Δ (cp k ((aE y).take q) of).1/\a=Δ (cp k ((aE y).take q) of).2) Z.le ⟨Ext.refl _,F,F⟩ ?_ ?_
 .rintro q _ _ bP aT aU ⟨P,rfl,rfl⟩ aW;obtain⟨u,hu⟩:=aI (l:=aE y) aU;have ad:=x5 hu;have aZ:=(gp.1 ad).1;obtain⟨un,rfl⟩:=W6 aZ.1;have E:=zy (k:=k) (f:=of) hu;have:=zz (k:=k) (f:=of) (l:=(aE y).take q) λv ae=>(gp.1 (S4 ae)).1.1;obtain⟨tl,L⟩:∃tl:Λ,tl=(if pos=1 then[(un:Int),v]else[v,(un:Int)]):=⟨_,F⟩;obtain⟨m,hm⟩:=GG x H G U ae (by rw[<-M,aC];exact ad);rw[<-L]at hm;have ag:=lS K hm;rw[u7]at ag;have a2:m<f.cs.length:=by have:=(x4.1 ag).1;omega
  have a6:=oD (t:=tl) x H;have:=iz (v:=un) x z;have a7:of (un:Int)=min (f.cs.getD m 0+y.un.getD un 0) k:=by
   rw[ac];simp only;rw[<-L,zA hm,u7]
  rw[zA hm]at a6;refine bB Ω ?_;refine iC (λb a J=>Ext N J/\b=Δ (cp k ((aE y).take (q+1)) of).1/\a=Δ (cp k ((aE y).take (q+1)) of).2) (λb a J a8=>by rw[aM];exact aW _ _ _ a8) λaB ah=>?_;rw[be ao.u aj.i Ψ (c3 (bE Y P)) hu];refine pg (l:=[v,(un:Int)]) ao.u aj.i Ω F Ψ λbT bU bV bW ai ba=>?_;refine aV (λr J=>Ext N J/\aK .i64 J r tl) ?_ λbX ak=>?_
  rotate_left
  .rw[bf,am];refine⟨λh1=>?_,λh1=>ak _ _ ⟨P.trans ai,by rw[L,if_neg Ω];exact ba.ls⟩⟩;refine pg (l:=[(un:Int),v]) ao.u aj.i Ω F Ψ λbY bZ bb b0 Q bc=>?_;exact ak _ _ ⟨(P.trans ai).trans Q,by rw[L,if_pos Ω];exact bc.ls⟩
  rintro aN bb ⟨Q,bd⟩;intro b1 ap _ _;have A:=Q.trans ap;have R:=C.trans A;rw[aL a1.p 2 (O.ext A) F,aL a1.p 1 (O.ext A) F,aL aY.p 5 (B.ext R) F];refine lN (a:=y.un) (i:=on) F dW.u az.i (bE aH R) (by rw[x8,z];rfl) λb o cs bg e=>?_;obtain⟨bi,rfl⟩:∃u,cs=[u]:=by obtain⟨u,hu,_⟩:=e;exact⟨u,hu⟩
  have bl:=c3 e;have aq:=bg 0 _ F;rw[Nat.add_zero]at aq;rw[ax (v:=bi) Ψ aq];refine qm F az.u av.i bl (getD_some (i:=un) Ω) λb3 b4 bm=>?_;rw[ax Ψ bm,aL aY.p 0 (B.ext R) F];refine(LU (aO.ext A) ⟨by rw[ay];exact I.scope.2,K⟩ (bd.ext ap)).mono ?_;rintro _ b5 _ ⟨rfl,S⟩;refine⟨.inl S,?_⟩;rw[Mw K,hm];simp only;rw[be az.u av.i Ψ (aQ.ext (A.trans S)) (getD_some a2)];refine(nr Ω Ω).mono ?_;rintro _ bn _ ⟨rfl,bp⟩;have au:=(A.trans S).trans bp;rw[<-a7];refine aV (λr J=>bn=J/\r= .bool (decide ((cp k ((aE y).take q) of).2= -1\/of (un:Int)<(cp k ((aE y).take q) of).1))) ?_ λb6 aw=>?_
  .rintro _ _ ⟨rfl,rfl⟩;unfold ix at E;rw[am];exact⟨λe=>ah _ _ _ ⟨au,by rw[E,if_pos e],by rw[E,if_pos e]⟩,λe=>ah _ _ _ ⟨au,by rw[E,if_neg e],by rw[E,if_neg e]⟩⟩
  .rw[aP,am];refine⟨λbq=>aw _ _ ⟨F,by rw[decide_eq_true (.inl Ω)]⟩,λbq=>?_⟩;rw[aP];refine aw _ _ ⟨F,?_⟩;congr 1;exact decide_eq_decide.2 ⟨.inr,λh=>h.resolve_left λh=>Ω⟩
 .rintro _ _ ab aT ⟨br,rfl,rfl⟩;rw[o9];exact ca Ω ⟨(X.trans C).trans br,F⟩
end
abbrev nI:Type:=nk .u8×Int×Int×Int×Int
structure gv where
 d:Int
 i:Int
 pos:Int
 v:Int
 c:Int
def gv.ok(a:gv):Prop:=0<=a.d/\a.d<256
def gv.kind(a:gv):Nat:=(a.d % 7).toNat
def gv.bY(a:gv):List x1:=[.int .u8 a.d,Δ a.i,Δ a.pos,Δ a.v,Δ a.c]
def oH(x:nI):gv:=⟨x.1.val,x.2.1,x.2.2.1,x.2.2.2.1,x.2.2.2.2⟩
def To{R:ak}{cs:List x1}{x:nI}(h:Seen R w cs x):cs=(oH x).bY:=by
 obtain⟨r,_,_,_,rfl,_,_,_,a,s,_,_,_,rfl,_,_,_,e,y,_,_,_,rfl,_,_,_,f,z,A,_,_,rfl,_,_,_,p,q⟩:=h;have a:=a;have e:=e;have f:=f;have p:=p;have q:=q;subst a e f p q;rfl
def Tp{x:nI}(h:(n9.u8.min<=x.1.val/\x.1.val<=n9.u8.max)/\(W5.min<=x.2.1/\x.2.1<=W5.max)/\(W5.min<=x.2.2.1/\x.2.2.1<=W5.max)/\(W5.min<=x.2.2.2.1/\x.2.2.2.1<=W5.max)/\(W5.min<=x.2.2.2.2/\x.2.2.2.2<=W5.max)):(oH x).ok:=by
 have a:n9.u8.min=0:=Φ
 have e:n9.u8.max=255:=Φ
 rw[a,e]at h;exact⟨h.1.1,by have:=h.1.2;show x.1.val<256;omega⟩
def gv.one(a:gv):∀u∈a.bY,u.oneCell'=true:=by
 intro u hu;unfold gv.bY at hu;simp only[V5,List.not_mem_nil,or_false]at hu;rcases hu with rfl|rfl|rfl|rfl|rfl<;>rfl
def gv.Tq(a:gv):a.kind<7:=by
 unfold gv.kind;have:=Int.emod_lt_of_pos a.d (show(0:Int)<7 by decide);omega
def GI(k:Int)(a:gv):Int:=a.c.emod 18446744073709551616 % (k+1)
def s6(k:Int)(a:gv):iZ:=⟨a.kind,a.i,a.pos,a.v,GI k a⟩
def mR(n:aH)(s:aq)(a:gv):aq:=if a.kind=6 then(if fz n a.i a.v then eu s a.i.toNat a.v.toNat else s)else(cC n.k s (s6 n.k a)).1
def zB{d:Int}{K:x1->Prop}(h:0<=d):ad x7 (aO .rem cI false true (.int .u8 d) (.int .u8 7)) w K=K (.int .u8 (((d % 7).toNat:Nat):Int)):=by
 rw[tR Φ,Int.tmod_eq_emod_of_nonneg h];have:=Int.emod_nonneg d (show(7:Int)≠0 by decide);rw[Int.toNat_of_nonneg this]
section
variable{w:x3}{ag gT ap:Nat}{A R:ak}{A9:Nat->ak}{aJ:ak}{n:aH}{s u:aq}{t:aD}{h:List aD}{cs:List x1}{a:gv}
def GJ(a:bk n.k n.sizes s){i:Int}(h:fz n i v):0<=i/\∃x,s.vars[i.toNat]?=σ x/\0<=v/\v<x.un.length:=by
 obtain⟨x,U,h1,_,e⟩:=h.var a;exact⟨h.1,x,U,h.2.2.1,by have:=h.2.2.2;omega⟩
def Tr(f:dg s/\e3 (df n) s/\n.funs.length<=256)(p:bk n.k n.sizes s):dg (mR n s a)/\e3 (df n) (mR n s a)/\n.funs.length<=256:=by
 unfold mR;split
 .split
  .rename_i h;obtain⟨r,x,U,ae,_⟩:=GJ p h;have e:=nE (v:=a.v) U;have q:e3 s (eu s a.i.toNat a.v.toNat):=zj (v:=a.v);exact⟨by rw[e];exact dg.vars f.1 U F,f.2.1.trans q,f.2.2⟩
  .exact f
 .exact Tb f p _
def Ts(p:cg w ag gT ap A R A9 aJ n s u t h cs){i:Nat}{x:bC}(U:u.vars[i]?=σ x):∃g cap y gy e,cs[3]?=σ (.slice (σ ⟨g,0,ν⟩) u.vars.length cap)/\w.cell? ⟨g,0+i*1,ν⟩=σ y/\ay .i64 e w gy y (aE x)/\(∀r,leads y r->A9 0 r)/\
  ∀{aa ab:x3}{m:Int}{z:x1}{K:Unit->x3->Prop},Ext w aa->ai (λr=>leads y r) aa ab->ay .i64 e ab gy z (aE {x with mask:=m})->(∀r,leads z r->leads y r)->(∀I,dw w ag gT ap A R A9 aJ n s t h {u with vars:=u.vars.set i {x with mask:=m}} I->K () I)->
   aF x7 (l9 ao (.pointer (σ ⟨g,0+i*1,ν⟩)) z) ab K:=by
 have J:=p.olds;have aI:=(x4.1 U).1;obtain⟨szv,ae,aK,aL,aM,aN,L,_,af,_,_,_,_,aj⟩:=id J.doc;obtain⟨g,cap,full,ak,c,al,e,C,am,E,M,N,O,an,aq⟩:=F6 af (by rw[x8,U];rfl) λr _ h=>(aj rfl).2 0 r h;obtain⟨y,rfl⟩:=V7.1 (au.len N);rw[r9]at e;have av:full[i]?=σ y:=by have:=M 0 y rfl;simpa[show au.n (Λ)=1 from rfl]using this
 obtain⟨gy,aw,P,ax⟩:=BJ N;have f:∀r,leads y r->al r:=λr a=>by
  rcases ax with rfl|az
  .obtain⟨_,_,_,e,_⟩:=a;cases e
  .obtain⟨e,_⟩:=bR P a;rw[e];exact az
 refine⟨g,cap,y,gy,aw,by rw[L,<-e];rfl,by have:=C.cell av;rw[W0,U7];exact this,P,λr a=>(O r (f r a)).1,λ{aa ab m Q K}F G S V aA=>?_⟩;have aO:=F.size;have aP:=G.size;have E:i*1+1<=full.length:=E;obtain⟨_,_,_,W⟩:=c6 S.ls;have X:¬leads y g:=λh=>an (f g h);refine bp (o:=0+i*1) ao.i (by rw[W];rfl) (by rw[W];rfl) ((C.ext F).ac G X) Ω λY Z aQ B=>?_;have B:ah Y g ak (over full (i*1) [Q]):=by
  have e:=F7 (o:=i*1) (q:=0) (x:=Q) M E Ξ;rw[W0]at B;rw[Nat.add_zero]at e;rw[e]at B;exact B
 have aR:g<w.heap.size:=C.lt;have H:ai (λr=>leads y r\/r=g) w Y:=((F.ac _).trans (G.mono λr _ h=>.inl h)).trans (Z.mono λr _ h=>.inr h);have aB:=bw S Z λr a he=>by have he:r=g:=he;exact X (he▸V r a)
 have aC:=aq H (λr _ h=>h.imp (f r) id) B (oy aB) λr a=>.inl (f r (V r a));have ad:∀r,r<w.heap.size->(leads y r\/r=g)->A9 0 r/\r<w.heap.size:=λr a h=>h.elim (λh=>O r (f r h)) λh=>by rw[h];exact am
 obtain⟨cr,aD,aG⟩:=J.pP (u':={u with vars:=u.vars.set i {x with mask:=m}}) (λq r h=>h.2) (v:=ae) (by rw[L];rfl) H ad (by show bG _ _ _ _ ((u.vars.set i {x with mask:=m}).map aE);rw[T0];exact aC) rfl (q0 U rfl) (q0 U rfl) rfl rfl;refine aA _ ⟨H.mono λr a h=>.inl ⟨0,(ad r a h).1⟩,cr,cs,aD,λq r a=>?_⟩;rcases aG q r a with⟨aH,h⟩|h
 .exact .inl ⟨aH,h.1⟩
 .exact .inr h
end
section
variable{Z aJ:ak}{w J:x3}{ag gT ap:Nat}{A R:ak}{A9:Nat->ak}{n:aH}{s s':aq}{t:aD}{cs:List x1}{a:gv}
def lC(Z aJ:ak)(w:x3)(ag gT ap:Nat)(n:aH)(s':aq)(J:x3):Prop:=ai (λr=>Z r/\¬aJ r) w J/\∃oG,(∀r,oG r->Z r\/w.heap.size<=r)/\fE oG aJ J ag gT ap n s'
def fE.Tt{aU:ak}{cr:Nat->ak}{bt:aD}(p:cg w ag gT ap A R A9 aJ n s s t [] cs)(f:∀r,Z r↔kU A R A9 aJ ap r)(J:dg s'/\e3 (df n) s'/\n.funs.length<=256)(y:¬Z 0)(K:Laid w)(z:ai (eA w) w aa)(B:Grow A w aU aa)(x:∀q r,cr q r->A9 q r)(L:dw aa ag gT ap aU R cr aJ n s' bt [] s' ab):lC Z aJ w ag gT ap n s' ab:=by
 obtain⟨C,E,b4,M,N⟩:=L;have:=z.size;have:=C.size;have O:=p.Gh;have F:ai (λr=>Z r/\¬aJ r) w ab:=((zc B.1 z).mono (T:=λr=>Z r/\¬aJ r) λr _ h=>⟨(f r).2 (.inl h.1),λa7=>(p.read r a7).1 h.2⟩).trans
  (C.mono λr _ h=>⟨(f r).2 (h.elim (λ⟨q,h⟩=>.inr (.inr (.inl ⟨q,x q r h⟩))) λh=>.inr (.inr (.inr (.inr h)))),h.elim (λ⟨q,h⟩=>O q r (x q r h)) λh a7=>(p.read r a7).2.2 h⟩)
 have:=p.box.lt;have e:∀{r:Nat}{G:Prop},(G->kU A R A9 aJ ap r)->G->Z r\/w.heap.size<=r:=λP h=>.inl ((f _).2 (P h));have H:∀r,kU aU R (λq r=>E q r/\r<ab.heap.size) aJ ap r->Z r\/w.heap.size<=r:=by
  intro r a;rcases a with a|a|⟨q,a,_⟩|a|a
  .exact (B.2.1 r a).elim (e .inl) .inr
  .exact e (λh=>.inr (.inl h)) a
  .exact (N q r a).elim (λ⟨I,h⟩=>e (λh=>.inr (.inr (.inl h))) ⟨I,x I r h⟩) λh=>.inr Ω
  .exact e (λh=>.inr (.inr (.inr (.inl h)))) a
  .exact e (λh=>.inr (.inr (.inr (.inr h)))) a
 exact⟨F,λr=>kU aU R (λq r=>E q r/\r<ab.heap.size) aJ ap r,H,aU,R,_,bt,b4,M.olds,⟨kw F (λh=>y h.1) K,λh=>(H 0 h).elim y λh=>Ω⟩,J,λr=>Iff.rfl,λq r a=>a.2⟩
def lC.same(h:fE Z aJ w ag gT ap n s)(U:Ext w J):lC Z aJ w ag gT ap n s J:=⟨U.ac _,Z,λ_ h=>.inl h,h.ext U⟩
def lC.before(U:Ext w aa)(h:lC Z aJ aa ag gT ap n s J):lC Z aJ w ag gT ap n s J:=by
 obtain⟨c,oG,a,e⟩:=h;have:=U.size;exact⟨(U.ac _).trans c,oG,λr f=>(a r f).imp id λh=>Ω,e⟩
end
def mS(w0 w:x3)(ag gT ap:Nat)(n:aH):Prop:=Ext w0 w/\∃s Z aJ,fE Z aJ w ag gT ap n s/\∀r,Z r->w0.heap.size<=r
section
variable{w0 w J:x3}{ag gT ap:Nat}{n:aH}{s:aq}{Z aJ:ak}
def mS.ext(h:mS w0 w ag gT ap n)(U:Ext w J):mS w0 J ag gT ap n:=by
 obtain⟨a,s,Z,aJ,e,f⟩:=h;exact⟨a.trans U,s,Z,aJ,e.ext U,f⟩
end
def fE.live{Z aJ:ak}{ag gT ap:Nat}{n:aH}{s:aq}(h:fE Z aJ w ag gT ap n s):q4 s/\s.funs.length<=256:=by
 obtain⟨_,_,a,af⟩:=h.ok;refine⟨Tf a (Te n),?_⟩;rw[a.funs];unfold df;rw[r9];exact af
section
variable{w:x3}{ag gT:Nat}{A R:ak}{n:aH}{s:aq}{t:aD}
def vR{i:Nat}{x:bC}(a:bk n.k n.sizes s)(U:s.vars[i]?=σ x)(ae:v∈aE x):eI n s (i:Int) v=x.un.getD v.toNat 0:=by
 unfold eI;rw[if_pos (pS a U ae),u7];unfold jP;rw[U]
def oI{i:Nat}{x:bC}(U:s.vars[i]?=σ x):bj s (i:Int)=aE x:=by
 unfold bj;rw[u7,U]
def Tu{i:Nat}{x:bC}(a:bk n.k n.sizes s)(U:s.vars[i]?=σ x):mK n s (i:Int)=cp n.k (aE x) λv=>x.un.getD v.toNat 0:=by
 unfold mK;rw[oI U];exact GD λv ae=>vR a U ae
end
section
variable{w:x3}{dJ:x1}{n:aH}{s:aq}
def GK{b:Int}{f:bS}{y:bC}(h:bk n.k n.sizes s)(af:s.funs[j]?=σ f)(x:f.live≠0)(p:f.sc=[a,b])(r:pos=0\/pos=1)(ae:v∈bj s (if pos=1 then b else a))(e:s.vars[(if pos=1 then a else b).toNat]?=σ y):
  (cp n.k (aE y) λu=>min (bo f.al f.cs (if pos=1 then[u,v]else[v,u])+y.un.getD u.toNat 0) n.k)=cp n.k (aE y) (js n s j (pos:Int) v (if pos=1 then a else b)):=by
 refine GD λu hu=>?_;obtain⟨w,_,_⟩:=h.funs f (x5 af);obtain⟨o,q⟩:∃o,o=(if pos=1 then a else b):=⟨_,F⟩;have z:0<=o:=by
  have:=(w.scope.1 a (by rw[p];exact .head _)).1;have:=(w.scope.1 b (by rw[p];exact .tail _ (.head _))).1;rw[q];split<;>omega
 rw[<-q]at e ⊢;obtain⟨on,rfl⟩:=W6 z;rw[u7]at e;obtain⟨m,hm⟩:=GG h (x5 af) p r ae (by rw[<-q,oI e];exact hu);unfold js;rw[vR h e hu,show((if(pos:Int)=1 then[u,v]else[v,u]):Λ)=if pos=1 then[u,v]else[v,u] by
  rcases r with rfl|rfl<;>rfl,(Ge af x hm).1]
def Tv{i:Int}{q:Nat}:(Z4 (q+1)).foldl (jT n s i v) (eI n s i v)=jT n s i v ((Z4 q).foldl (jT n s i v) (eI n s i v)) q:=by
 rw[List.range_succ,R3];rfl
def Tw{i:Nat}{x:bC}(h:iY w dJ n.k n.sizes s)(A:bk n.k n.sizes s)(aN:q4 s)(U:s.vars[i]?=σ x):
  an x7 H2 [dJ,Δ (i:Int)] w λr J=>Ext w J/\r= .tuple #[Δ (lv n s (i:Int)).1,Δ (lv n s (i:Int)).2]:=by
 have bX:=q3 x;have bY:=A.vars;have bZ:=A.en;refine aA func31 ?_;refine bh λg1 aa b0 ag aO=>?_;have ah:=h.box ag aO;obtain⟨szv,b1,b2,b3,b4,b5,K,b6,_,aR,b8,aS,R,b9⟩:=id ah;rw[aL aY.p 0 K F,aL aY.p 3 K F];refine il (α:=Λ) (a:=aE x) (i:=i) F rfl db.u ao.i Ψ aR (by rw[x8,U];rfl) λcb aT=>?_;have S:=c3 aT;rw[aX ao.u S];have aU:lv n s (i:Int)=cp n.k (aE x) (nB n s (i:Int)):=by unfold lv;rw[oI U]
 obtain⟨f,af⟩:∃f:Int->Int,f=nB n s (i:Int):=⟨_,F⟩;rw[aU,<-af];refine mg.range (aE x).length (λq b a ab=>Ext aa ab/\b=Δ (cp n.k ((aE x).take q) f).1/\a=Δ (cp n.k ((aE x).take q) f).2) S.le ⟨Ext.refl _,F,F⟩ ?_ ?_
 rotate_left
 .rintro _ _ ab aZ ⟨C,rfl,rfl⟩;rw[o9];exact ca Ω ⟨ag.trans C,F⟩
 rintro q _ _ ab aZ a2 ⟨C,rfl,rfl⟩ a6;obtain⟨v,ae⟩:=aI (l:=aE x) a2;have V:=x5 ae;have a7:=(gp.1 V).1;obtain⟨e,rfl⟩:=W6 a7.1;have L:=zy (k:=n.k) (f:=f) ae;have cc:=zz (k:=n.k) (f:=f) (l:=(aE x).take q) λv ae=>(gp.1 (S4 ae)).1.1;refine bB Ω ?_;refine iC (λb a J=>Ext aa J/\b=Δ (cp n.k ((aE x).take (q+1)) f).1/\a=Δ (cp n.k ((aE x).take (q+1)) f).2) (λb a J M=>by rw[aM];exact a6 _ _ _ M) λaB ai=>?_;rw[be ao.u aj.i Ψ (S.ext C) ae,aL aY.p 5 (K.ext C) F];refine il (α:=Λ) (a:=x.un) (i:=i) F rfl dW.u az.i Ψ (bE aS C) (by rw[x8,U];rfl) λcd ba=>?_;rw[be az.u av.i Ψ (c3 ba) (getD_some (i:=e) Ω),aL aY.p 6 (K.ext C) F,jh eR.u (bE R C),r9];have ak:=vR A U V;rw[u7]at ak;rw[<-ak];refine bV.range s.funs.length (λj c P=>Ext aa P/\c=Δ ((Z4 j).foldl (jT n s (i:Int) (e:Int)) (eI n s (i:Int) (e:Int)))) (by have:=rC R;rw[r9]at this;exact this) ⟨C,F⟩ ?_ ?_
 .rintro j _ P bc bd ⟨N,rfl⟩ bg;obtain⟨fn,z⟩:=aI (l:=s.funs) bd;have W:=aN fn (x5 z);obtain⟨O,_,_⟩:=A.funs fn (x5 z);have bi:=Th (i:=(i:Int)) (v:=(e:Int)) A (Z4 j);have al:=Tv (n:=n) (s:=s) (i:=(i:Int)) (v:=(e:Int)) (q:=j);obtain⟨c,G⟩:∃c,(Z4 j).foldl (jT n s (i:Int) (e:Int)) (eI n s (i:Int) (e:Int))=c:=⟨_,F⟩;rw[G]at al bi ⊢;refine bB Ω ?_;refine aV (λr J=>Ext aa J/\r=Δ ((Z4 (j+1)).foldl (jT n s (i:Int) (e:Int)) (eI n s (i:Int) (e:Int)))) (λr J M=>by rw[aM];exact bg _ _ M) λce Q=>?_;rw[al]at Q;refine nl du.p F eR.u du.i (bE R N) (by rw[x8,z];rfl) λcs bl=>?_;obtain⟨aQ,bm,bb,rfl,ap,bn,bo⟩:=nF bl;refine bu du.i λga cf cg bp bs=>?_;refine b7 (vs:=[aQ,bm,bb,.bool (decide (fn.live≠0))]) du.i F rfl (Gj ap bn bo) bs λX bt bw Y=>?_;have aq:=bp.put bt Ω;have Z:=N.trans aq;have au:=c3 (bE ap aq);have aw:ow s (j:Int)=decide (fn.sc.length=2):=by unfold ow;rw[u7,z]
  have bx:lq s (i:Int) j=decide ((i:Int)∈fn.sc):=by unfold lq;rw[z];simp only;rw[decide_eq_true W,T9]
  refine aV (λr J=>X=J/\r= .bool (decide (fn.sc.length≠2))) ?_ λch bz=>?_
  rotate_left
  .rw[aL du.p 1 Y F,decide_eq_true W,bM,X2,a8,aW du.p F,aW a1.p F,ax Ψ (Y.cell (o:=0+0+0) F),aX ao.u au,bA];refine bz _ _ ⟨F,?_⟩;congr 1;exact decide_eq_decide.2 ⟨λh=>Ω,λh=>Ω⟩
  rintro _ _ ⟨rfl,rfl⟩;rw[am];refine⟨λI=>Q _ _ ⟨Z,?_⟩,λI=>?_⟩
  .unfold jT;rw[aw,decide_eq_false I];split<;>rfl
  have I:fn.sc.length=2:=Y3.1 I;obtain⟨a,b,y⟩:∃a b,fn.sc=[a,b]:=by
   match bw:fn.sc,I with
   |[a,b],_=>exact⟨a,b,F⟩
  have ci:a<b:=by
   have h:fn.sc.Pairwise (·< ·):=O.up;rw[y]at h;exact(List.pairwise_cons.1 h).1 b (.head _)
  have cj:=O.vars a (by rw[y];exact .head _);have ck:=O.vars b (by rw[y];exact .tail _ (.head _));have cl:=(O.scope.1 a (by rw[y];exact .head _)).1;have cm:=(O.scope.1 b (by rw[y];exact .tail _ (.head _))).1;obtain⟨ay,bD⟩:=aI (l:=s.vars) (i:=a.toNat) Ω;obtain⟨aC,bF⟩:=aI (l:=s.vars) (i:=b.toNat) Ω;have bG:(e:Int)∈bj s (i:Int):=by rw[oI U];exact V
  have bH:=GB (i:=(i:Int)) (v:=(e:Int)) (j:=(j:Int)) A;obtain⟨B,ac⟩:∃B,gH n s (i:Int) (e:Int) (j:Int)=B:=⟨_,F⟩;rw[ac]at bH;have bI:jT n s (i:Int) (e:Int) c j=if(i:Int)=a\/(i:Int)=b then min (c+B) n.k else c:=by
   unfold jT;rw[aw,decide_eq_true I,bx,ac,y];simp
  rw[bI]at Q;obtain⟨cn,bJ⟩:=GC z y (show a≠b by omega);obtain⟨bK,cq⟩:=GC z y (show a≠b by omega);refine bV.range 2 (λp bL ad=>Ext X ad/\bL=Δ (if p=0 then c else if p=1 then(if(i:Int)=a then min (c+B) n.k else c)else(if(i:Int)=a\/(i:Int)=b then min (c+B) n.k else c))) Ω ⟨Ext.refl _,F⟩ ?_ ?_
  rotate_left
  .rintro _ ad bN ⟨H,rfl⟩;rw[show((2:Nat):Int)=2 from F,aP,am];exact⟨λh=>Ω,λ_=>Q _ _ ⟨Z.trans H,F⟩⟩
  rintro p _ ad bN cr ⟨H,rfl⟩ bO;have aD:=Z.trans H;have E:p=0\/p=1:=Ω
  refine bB Ω ?_;refine aV (λr J=>Ext X J/\r=Δ (if p+1=0 then c else if p+1=1 then(if(i:Int)=a then min (c+B) n.k else c)else(if(i:Int)=a\/(i:Int)=b then min (c+B) n.k else c))) (λr J M=>by rw[aM];exact bO _ _ M) λct aF=>?_;rw[aW du.p F,aW a1.p F,ax Ψ ((Y.ext H).cell F),be ao.u aj.i Ψ (au.ext H) (x:=if p=1 then b else a) (by rw[y];rcases E with rfl|rfl<;>rfl),bf,am];refine⟨λhe=>?_,λhe=>aF _ _ ⟨H,?_⟩⟩
  rotate_left
  .rcases E with rfl|rfl
   .have he:¬(i:Int)=a:=λh=>he h.symm;simp[he]
   .have he:¬(i:Int)=b:=λh=>he h.symm;simp[he]
  have aG:s.vars[(if p=1 then a else b).toNat]?=σ (if p=1 then ay else aC):=by rcases E with rfl|rfl<;>assumption
  have aH:(e:Int)∈bj s (if p=1 then b else a):=by rw[he];exact bG
  have bP:B=(cp n.k (aE (if p=1 then ay else aC)) (js n s j (p:Int) (e:Int) (if p=1 then a else b))).1:=by
   rw[<-ac];rcases E with rfl|rfl
   .exact bK he.symm bF
   .exact bJ he.symm bD
  refine(ah.ext aD).load λcu bQ=>?_;refine(GH bQ A z y E aH aG).mono ?_;rintro _ cw _ ⟨aJ,rfl⟩;rw[GK A z W y E aH aG,<-bP,bq,br,aL aY.p 0 (K.ext (aD.trans aJ)) F];refine(nr (by rcases E with rfl|rfl<;>simp only[if_true]<;>first|omega|(split<;>omega)) Ω).mono ?_;rintro _ cz _ ⟨rfl,bR⟩;refine aF _ _ ⟨(H.trans aJ).trans bR,?_⟩;congr 1;rcases E with rfl|rfl
  .have he:(i:Int)=a:=he.symm;simp[he]
  .have bS:(i:Int)=b:=he.symm;have bT:¬(i:Int)=a:=Ω
   simp[bS,bT,show¬b=a by omega]
 .rintro _ P bc ⟨N,rfl⟩;refine ca Ω ?_;rw[<-Tg];have bU:nB n s (i:Int) (e:Int)=f (e:Int):=by rw[af]
  rw[bU];refine aV (λr J=>P=J/\r= .bool (decide ((cp n.k ((aE x).take q) f).2= -1\/f (e:Int)<(cp n.k ((aE x).take q) f).1))) ?_ λcA aK=>?_
  .rintro _ _ ⟨rfl,rfl⟩;unfold ix at L;rw[am];exact⟨λG=>ai _ _ _ ⟨N,by rw[L,if_pos G],by rw[L,if_pos G]⟩,λG=>ai _ _ _ ⟨N,by rw[L,if_neg G],by rw[L,if_neg G]⟩⟩
  .rw[aP,am];refine⟨λbW=>aK _ _ ⟨F,by rw[decide_eq_true (.inl Ω)]⟩,λbW=>?_⟩;rw[aP];refine aK _ _ ⟨F,?_⟩;congr 1;exact decide_eq_decide.2 ⟨.inr,λh=>h.resolve_left λh=>Ω⟩
end
section
variable{w:x3}{dJ:x1}{n:aH}{s:aq}
def Tx{p:Nat}{f:bS}(a:bk n.k n.sizes s)(af:s.funs[j]?=σ f)(e:f.live≠0)(h:p<f.sc.length)(ae:v∈bj s (f.sc.getD p 0)):nC n s j f p v=ep n.k (bo f.al f.cs) (b0 s f.sc p v):=by
 unfold nC;rw[Rw h];refine Tl λtl q=>?_;obtain⟨m,hm⟩:=pQ a (x5 af) (λu hu=>by rw[u4,hu]at ae;exact ae) q;exact(Ge af e hm).1
def Ty{f:bS}{b:Int}{y:bC}(q:bk n.k n.sizes s)(af:s.funs[j]?=σ f)(r:f.live≠0)(e:f.sc=[a,b])(ae:v∈bj s a)(p:s.vars[b.toNat]?=σ y):nD n s j f v=cp n.k (aE y) λu=>min (bo f.al f.cs [v,u]+y.un.getD u.toNat 0) n.k:=by
 have h:=GK q af r e (.inl F) ae p;simp only[show¬(0:Nat)=1 by decide,if_false]at h;rw[h];unfold nD;rw[e];show cp n.k (bj s b) _=_;unfold bj;rw[p];rfl
def Tz{f:x1}{o:Option (Λ)}{K:x1->Prop}(h:q6 w f o):ad x7 (aO .eql ao false true f (.slice ν 0 0)) w K=K (.bool (decide (o=ν))):=by
 obtain⟨a,n,c,rfl,e⟩:=h.nil;rw[nX ao.u,e]
end
def e4(l:Λ)(i:Int):Int:=match l with
 |[]=>-1
 |a::l=>if a=i then 0 else if e4 l i<0 then-1 else e4 l i+1
theorem q7{i:Int}:∀{l:Λ},(e4 l i= -1/\i∉l)\/∃p:Nat,e4 l i=p/\l[p]?=σ i/\∀q,q<p->l[q]? ≠σ i
 |[]=>.inl ⟨F,λh=>by cases h⟩
 |a::l=>by
  unfold e4;by_cases h:a=i
  .rw[if_pos h];exact .inr ⟨0,F,by rw[h];rfl,λq r=>absurd r (Nat.not_lt_zero _)⟩
  .rw[if_neg h];rcases q7 with⟨h1,f⟩|⟨p,h1,f,s⟩
   .rw[h1,if_pos Φ];refine .inl ⟨F,λhm=>?_⟩;rcases V5.1 hm with e|hm
    .exact h e.symm
    .exact f hm
   .rw[h1,if_neg Ω];refine .inr ⟨p+1,Ω,f,λq r=>?_⟩;cases q with
    |zero=>exact λe=>h (Z3 e)
    |succ q=>exact s q Ω
theorem GL{α:Type}{f:α->Int}:∀{l m:List α},l.Pairwise (λa b=>f a<f b)->m.Pairwise (λa b=>f a<=f b)->m.Perm l->m=l
 |[],m,_,_,h=>h.eq_nil
 |a::l,[],_,_,h=>by have:=h.length_eq;simp at this
 |a::l,b::m,p,hm,h=>by
  obtain⟨h1,q⟩:=List.pairwise_cons.1 p;obtain⟨r,s⟩:=List.pairwise_cons.1 hm;have w:a=b:=by
   rcases V5.1 (h.mem_iff.1 (.head _))with e|x
   .exact e.symm
   .have z:=h1 b x;rcases V5.1 (h.mem_iff.2 (.head _))with e|y
    .exact e
    .have:=r a y;omega
  subst w;rw[GL q s ((List.perm_cons _).1 h)]
section
variable{n:aH}{s:aq}
def ig(n:aH)(s:aq)(l i:Int)(j:Nat):List bJ:=match s.funs[j]? with
 |some f=>if f.live=0\/e4 f.sc i<0 then[]else(bj s i).flatMap λv=>(if l=2 then ds n s j f (e4 f.sc i).toNat i v else[])++(if l=3 then dP n s j f (e4 f.sc i).toNat i v else[])
 |none=>[]
def fi(n:aH)(s:aq)(l i:Int):List bJ:=if fW n s i=true then(if l=1 then gI n s i else[])++((if l=4 then ju n s i else[])++(((bj s i).flatMap λv=>if l=1 then dV n s i v else[])++(Z4 s.funs.length).flatMap (ig n s l i)))else[]
def jw(n:aH)(s:aq)(level:Nat):List bJ:=(Z4 level).flatMap λq:Nat=>(Z4 n.sizes.length).flatMap λi:Nat=>fi n s ((q:Int)+1) (i:Int)
def kV{c:Prop}[Decidable c]{l:List bJ}{a:bJ}:a∈(if c then l else[])↔c/\a∈l:=by
 by_cases h:c
 .rw[if_pos h];exact⟨λk=>⟨h,k⟩,λk=>k.2⟩
 .rw[if_neg h];exact⟨λk=>(by cases k),λk=>absurd k.1 h⟩
def s7{l i:Int}{a:bJ}:a∈ig n s l i j↔ ∃f,s.funs[j]?=σ f/\f.live≠0/\0<=e4 f.sc i/\∃v∈bj s i,(l=2/\a∈ds n s j f (e4 f.sc i).toNat i v)\/(l=3/\a∈dP n s j f (e4 f.sc i).toNat i v):=by
 unfold ig;cases af:s.funs[j]? with
 |none=>exact⟨λh=>(by cases h),λ⟨f,h,_⟩=>by cases h⟩
 |some f=>
  simp only;by_cases p:f.live=0\/e4 f.sc i<0
  .rw[if_pos p];exact⟨λh=>(by cases h),λ⟨_,e,h1,q,_⟩=>by cases e;omega⟩
  .rw[if_neg p,X9];constructor
   .rintro⟨v,ae,h⟩;refine⟨f,F,Ω,Ω,v,ae,?_⟩;rcases p9.1 h with h|h
    .exact .inl (kV.1 h)
    .exact .inr (kV.1 h)
   .rintro⟨_,e,_,_,v,ae,h⟩;cases e;exact⟨v,ae,p9.2 (h.imp kV.2 kV.2)⟩
def pU{l i:Int}{a:bJ}:a∈fi n s l i↔fW n s i=true/\((l=1/\a∈gI n s i)\/(l=4/\a∈ju n s i)\/(∃v∈bj s i,l=1/\a∈dV n s i v)\/∃j,a∈ig n s l i j):=by
 unfold fi;by_cases h:fW n s i=true
 .rw[if_pos h,p9,p9,p9,X9,X9,kV,kV];refine⟨λk=>⟨h,k.imp id λk=>k.imp id λk=>k.imp (λ⟨v,h1,e⟩=>⟨v,h1,kV.1 e⟩) λ⟨j,_,e⟩=>⟨j,e⟩⟩,λk=>k.2.imp id λk=>k.imp id λk=>k.imp (λ⟨v,h1,e⟩=>⟨v,h1,kV.2 e⟩) λ⟨j,e⟩=>⟨j,W8.2 ?_,e⟩⟩;obtain⟨f,af,_⟩:=s7.1 e;exact(x4.1 af).1
 .rw[if_neg h];exact⟨λk=>(by cases k),λk=>absurd k.1 h⟩
def oJ{l i:Int}{a:bJ}(h:a∈fi n s l i):a.dr=l/\a.i=i:=by
 obtain⟨_,h⟩:=pU.1 h;rcases h with⟨e,h⟩|⟨e,h⟩|⟨v,_,e,h⟩|⟨j,h⟩
 .obtain⟨_,rfl⟩:=eh.1 h;exact⟨e.symm,F⟩
 .obtain⟨_,rfl⟩:=eh.1 h;exact⟨e.symm,F⟩
 .obtain⟨_,rfl⟩:=eh.1 h;exact⟨e.symm,F⟩
 .obtain⟨f,_,_,_,v,_,⟨e,h⟩|⟨e,h⟩⟩:=s7.1 h
  .obtain⟨_,rfl⟩:=eh.1 h;exact⟨e.symm,F⟩
  .obtain⟨_,rfl⟩:=eh.1 h;exact⟨e.symm,F⟩
def zC{l i:Int}{a:bJ}(h:a∈ig n s l i j):a.j=j/\a.v∈bj s i:=by
 obtain⟨f,_,_,_,v,ae,⟨e,h⟩|⟨e,h⟩⟩:=s7.1 h
 .obtain⟨_,rfl⟩:=eh.1 h;exact⟨F,ae⟩
 .obtain⟨_,rfl⟩:=eh.1 h;exact⟨F,ae⟩
def TA{sizes:Λ}{f:bS}(w:bk k sizes s)(af:f∈s.funs){p:Nat}(x:p<f.sc.length):e4 f.sc (f.sc.getD p 0)=p:=by
 have y:=(w.funs f af).1.up;obtain⟨i,hi⟩:=aI (l:=f.sc) x;rw[u4,hi,V2];rcases q7 with⟨_,h⟩|⟨q,h1,e,E⟩
 .exact absurd (x5 hi) h
 .rw[h1];have r:∀{a b:Nat},a<b->f.sc[a]?=σ i->f.sc[b]? ≠σ i:=λ{a b}z A B=>by
   obtain⟨ga,F⟩:=x4.1 A;obtain⟨C,G⟩:=x4.1 B;have h:f.sc[a]<f.sc[b]:=V3.1 y a b ga C z;omega
  rcases Nat.lt_trichotomy q p with h|h|h
  .exact absurd hi (r h e)
  .rw[h]
  .exact absurd e (r h hi)
def GM{a:bJ}(A:bk n.k n.sizes s)(K:dg s):a∈jw n s level↔a∈lx n s (level:Int):=by
 unfold jw lx;rw[X9,T2];constructor
 .rintro⟨q,w,h⟩;obtain⟨i,hi,h⟩:=X9.1 h;have w:=W8.1 w;have hi:=W8.1 hi;refine⟨?_,decide_eq_true (by rw[(oJ h).1];omega)⟩;obtain⟨ae,h⟩:=pU.1 h;rcases h with⟨e,h⟩|⟨e,h⟩|⟨v,y,e,h⟩|⟨j,h⟩
  .exact s5.2 (.inl ⟨i,hi,q5.2 ⟨ae,.inl h⟩⟩)
  .exact s5.2 (.inl ⟨i,hi,q5.2 ⟨ae,.inr (.inr h)⟩⟩)
  .exact s5.2 (.inl ⟨i,hi,q5.2 ⟨ae,.inr (.inl ⟨v,y,h⟩)⟩⟩)
  .obtain⟨f,af,B,F,v,y,h⟩:=s7.1 h;rcases q7 (i:=(i:Int)) (l:=f.sc)with⟨h1,_⟩|⟨p,h1,G,_⟩
   .omega
   have z:=(x4.1 G).1;have H:f.sc.getD p 0=(i:Int):=by rw[u4,G];rfl
   rw[h1,u7]at h;refine s5.2 (.inr ⟨j,s4.2 ⟨f,af,B,p,z,v,by rw[H];exact y,?_⟩⟩);rw[H];exact h.imp (λh=>h.2) λh=>h.2
 .rintro⟨r,I⟩;have I:=of_decide_eq_true I;have M:=(yZ A r).1;obtain⟨q,w⟩:=W6 (show 0<=a.dr-1 by omega);have w:a.dr=(q:Int)+1:=Ω
  refine⟨q,W8.2 Ω,X9.2 ?_⟩;rcases s5.1 r with⟨i,hi,r⟩|⟨j,r⟩
  .obtain⟨ae,r⟩:=q5.1 r;refine⟨i,W8.2 hi,pU.2 ⟨ae,?_⟩⟩;rcases r with r|⟨v,y,r⟩|r
   .obtain⟨_,rfl⟩:=eh.1 r;exact .inl ⟨w.symm,r⟩
   .obtain⟨_,rfl⟩:=eh.1 r;exact .inr (.inr (.inl ⟨v,y,w.symm,r⟩))
   .obtain⟨_,rfl⟩:=eh.1 r;exact .inr (.inl ⟨w.symm,r⟩)
  .obtain⟨f,af,B,p,z,v,y,r⟩:=s4.1 r;have C:=x5 af;have hu:f.sc.getD p 0∈f.sc:=by rw[u4,x6 z,V2];exact S3 z
   have F:=((A.funs f C).1.scope.1 _ hu).1;have L:=(A.funs f C).1.vars _ hu;have J:=TA A C z;have E:jO s (f.sc.getD p 0).toNat=false:=by
    have:=K f C B _ hu;unfold jO;cases U:s.vars[(f.sc.getD p 0).toNat]? with
    |none=>rfl
    |some x=>simp[this x U]
   obtain⟨i,hi⟩:=W6 F;rw[hi]at r y L J E;rw[u7]at E;refine⟨i,W8.2 Ω,pU.2 ⟨(zx Ω).2 E,.inr (.inr (.inr ⟨j,s7.2 ⟨f,af,B,Ω,v,y,?_⟩⟩))⟩⟩;rw[J,u7];rcases r with r|r
   .obtain⟨_,rfl⟩:=eh.1 r;exact .inl ⟨w.symm,r⟩
   .obtain⟨_,rfl⟩:=eh.1 r;exact .inr ⟨w.symm,r⟩
def zD(s:aq)(i:Int):(bj s i).Pairwise (·< ·):=by
 unfold bj;split
 .unfold aE;refine List.Pairwise.filter _ ?_;exact List.Pairwise.map _ (λa b e=>Ω) List.pairwise_lt_range
 .exact .nil
theorem q8{α:Type}{R:α->α->Prop}:∀{l:List α},l.length<=1->l.Pairwise R
 |[],_=>.nil
 |[a],_=>List.pairwise_singleton R a
 |_::_::_,h=>by simp at h
def i9{c:Prop}[Decidable c]{l:List bJ}(h:l.length<=1):(if c then l else[]).length<=1:=by
 by_cases a:c
 .rw[if_pos a];exact h
 .rw[if_neg a];exact X8 _
def zE{a b:bJ}(h1:a.dr=b.dr)(e:a.i=b.i)(f:a.j=b.j)(h:a.v<b.v):fY a<fY b:=by
 unfold fY;rw[h1,e,f];omega
def vS{a b:bJ}(h1:a.dr=b.dr)(e:a.i=b.i)(f:a.j<b.j)(h: -1<=a.v/\a.v<32)(p: -1<=b.v/\b.v<32):fY a<fY b:=by
 unfold fY;rw[h1,e];omega
def TB{l i:Int}(B:bk n.k n.sizes s):(ig n s l i j).Pairwise λa b=>fY a<fY b:=by
 unfold ig;split
 .rename_i f af;split
  .exact .nil
  .refine List.pairwise_flatMap.2 ⟨λv ae=>?_,(zD s i).imp λ{v u}C a p b q=>?_⟩
   .by_cases r:l=2
    .rw[if_neg (show¬l=3 by omega),Y8];exact q8 (i9 dY)
    .rw[if_neg r,List.nil_append];exact q8 (i9 dY)
   .have key:∀{a:bJ}{v:Int},a∈(if l=2 then ds n s j f (e4 f.sc i).toNat i v else[])++(if l=3 then dP n s j f (e4 f.sc i).toNat i v else[])->a.dr=l/\a.i=i/\a.j=j/\a.v=v:=λ{a v}h=>by
     rcases p9.1 h with h|h
     .obtain⟨e,h⟩:=kV.1 h;obtain⟨_,rfl⟩:=eh.1 h;exact⟨e.symm,F,F,F⟩
     .obtain⟨e,h⟩:=kV.1 h;obtain⟨_,rfl⟩:=eh.1 h;exact⟨e.symm,F,F,F⟩
    obtain⟨w,x,a3,a4⟩:=key p;obtain⟨y,z,A,E⟩:=key q;exact zE (by rw[w,y]) (by rw[x,z]) (by rw[a3,A]) Ω
 .exact .nil
def TC{l i:Int}(y:bk n.k n.sizes s):(fi n s l i).Pairwise λa b=>fY a<fY b:=by
 unfold fi;split
 .rename_i B;have H:∀{a},a∈(if l=1 then gI n s i else[])->l=1/\a=⟨1,i,-1,-1⟩:=λh=>by
   obtain⟨e,h⟩:=kV.1 h;exact⟨e,(eh.1 h).2⟩
  have G:∀{a},a∈(if l=4 then ju n s i else[])->l=4/\a=⟨4,i,-1,-1⟩:=λh=>by
   obtain⟨e,h⟩:=kV.1 h;exact⟨e,(eh.1 h).2⟩
  have z:∀{a v},a∈(if l=1 then dV n s i v else[])->l=1/\a=⟨1,i,-1,v⟩:=λh=>by
   obtain⟨e,h⟩:=kV.1 h;exact⟨e,(eh.1 h).2⟩
  have C:∀{a},a∈((bj s i).flatMap λv=>if l=1 then dV n s i v else[])->l=1/\∃v∈bj s i,a=⟨1,i,-1,v⟩:=λh=>by
   obtain⟨v,ae,h⟩:=X9.1 h;exact⟨(z h).1,v,ae,(z h).2⟩
  have E:∀{a},a∈(Z4 s.funs.length).flatMap (ig n s l i)->a.dr=l/\a.i=i/\0<=a.j/\ -1<=a.v/\a.v<32:=λh=>by
   obtain⟨j,_,h⟩:=X9.1 h;obtain⟨h1,I⟩:=oJ (pU.2 ⟨B,.inr (.inr (.inr ⟨j,h⟩))⟩);obtain⟨N,J⟩:=zC h;have:=ox y J;exact⟨h1,I,Ω,Ω,Ω⟩
  refine List.pairwise_append.2 ⟨q8 (i9 dY),List.pairwise_append.2 ⟨q8 (i9 dY),List.pairwise_append.2 ⟨List.pairwise_flatMap.2 ⟨λv _=>q8 (i9 dY),(zD s i).imp λ{v u}K a r b f=>?_⟩,List.pairwise_flatMap.2 ⟨λj _=>TB y,List.pairwise_lt_range.imp λ{p q}O a r b f=>?_⟩,λa r b f=>?_⟩,λa r b f=>?_⟩,λa r b f=>?_⟩
  .obtain⟨_,rfl⟩:=z r;obtain⟨_,rfl⟩:=z f;exact zE rfl rfl rfl K
  .obtain⟨L,M⟩:=oJ (pU.2 ⟨B,.inr (.inr (.inr ⟨p,r⟩))⟩);obtain⟨A,w⟩:=oJ (pU.2 ⟨B,.inr (.inr (.inr ⟨q,f⟩))⟩);obtain⟨a3,a4⟩:=zC r;obtain⟨F,x⟩:=zC f;have:=ox y a4;have:=ox y x;exact vS (by rw[L,A]) (by rw[M,w]) Ω ⟨Ω,Ω⟩ ⟨Ω,Ω⟩
  .obtain⟨e,v,ae,rfl⟩:=C r;obtain⟨A,w,F,x⟩:=E f;have:=ox y ae;exact vS (by simp only;omega) w.symm (by simp only;omega) ⟨by simp only;omega,by simp only;omega⟩ x
  .obtain⟨e,rfl⟩:=G r;rcases p9.1 f with f|f
   .have:=(C f).1;omega
   .obtain⟨A,w,F,x⟩:=E f;exact vS (by simp only;omega) w.symm (by simp only;omega) ⟨by simp only;omega,by simp only;omega⟩ x
  .obtain⟨e,rfl⟩:=H r;rcases p9.1 f with f|f
   .have:=(G f).1;omega
   rcases p9.1 f with f|f
   .obtain⟨_,v,ae,rfl⟩:=C f;have:=ox y ae;exact zE rfl rfl rfl (by simp only;omega)
   .obtain⟨A,w,F,x⟩:=E f;exact vS (by simp only;omega) w.symm (by simp only;omega) ⟨by simp only;omega,by simp only;omega⟩ x
 .exact .nil
def TD(r:bk n.k n.sizes s)(x:dg s)(F:s.funs.length<=100000000):(jw n s level).Pairwise λa b=>fY a<fY b:=by
 have ok:∀{q i:Nat}{a:bJ},i<n.sizes.length->a∈fi n s ((q:Int)+1) (i:Int)->qZ n s a:=λ{q i a}hi h=>by
  refine yZ r (T2.1 ((GM (level:=q+1) r x).1 ?_)).1;unfold jw;exact X9.2 ⟨q,W8.2 (Nat.lt_succ_self _),X9.2 ⟨i,W8.2 hi,h⟩⟩
 unfold jw;refine List.pairwise_flatMap.2 ⟨λq _=>List.pairwise_flatMap.2 ⟨λi _=>TC r,?_⟩,List.pairwise_lt_range.imp λ{p q}G a e b f=>?_⟩
 .refine List.Pairwise.imp_of_mem (λ{i j}hi w H a e b f=>?_) List.pairwise_lt_range;obtain⟨y,z⟩:=oJ e;obtain⟨A,B⟩:=oJ f;obtain⟨-,-,a3,a4⟩:=ok (W8.1 hi) e;obtain⟨-,-,C,E⟩:=ok (W8.1 w) f;unfold fY;omega
 .obtain⟨i,hi,e⟩:=X9.1 e;obtain⟨j,w,f⟩:=X9.1 f;obtain⟨y,z⟩:=oJ e;obtain⟨A,B⟩:=oJ f;obtain⟨-,a5,a3,a4⟩:=ok (W8.1 hi) e;obtain⟨-,I,C,E⟩:=ok (W8.1 w) f;unfold fY;omega
def TE(B:bk n.k n.sizes s):(l8 n s).Nodup:=by
 have one:∀{l:List bJ},l.length<=1->l.Nodup:=λh=>q8 h;have C:∀i,(bj s i).Nodup:=λi=>(zD s i).imp λh=>Ω
 unfold l8 mL mM;refine List.pairwise_append.2 ⟨List.pairwise_flatMap.2 ⟨λi _=>?_,List.nodup_range.imp λ{p q}A a w b r e=>?_⟩,List.pairwise_flatMap.2 ⟨λj _=>?_,List.nodup_range.imp λ{p q}A a w b r e=>?_⟩,λa w b r e=>?_⟩
 .unfold jQ;split
  .refine List.pairwise_append.2 ⟨one dY,List.pairwise_append.2 ⟨List.pairwise_flatMap.2 ⟨λv _=>one dY,(C _).imp λ{u v}E a w b r e=>?_⟩,one dY,λa w b r e=>?_⟩,λa w b r e=>?_⟩
   .obtain⟨_,rfl⟩:=eh.1 w;obtain⟨_,rfl⟩:=eh.1 r;exact E (congrArg bJ.v e)
   .obtain⟨v,_,w⟩:=X9.1 w;obtain⟨_,rfl⟩:=eh.1 w;obtain⟨_,rfl⟩:=eh.1 r;exact absurd (congrArg bJ.dr e) (show¬(1:Int)=4 by decide)
   .obtain⟨_,rfl⟩:=eh.1 w;rcases p9.1 r with r|r
    .obtain⟨v,ae,r⟩:=X9.1 r;obtain⟨_,rfl⟩:=eh.1 r;have h1:(-1:Int)=v:=congrArg bJ.v e;have:=ox B ae;omega
    .obtain⟨_,rfl⟩:=eh.1 r;exact absurd (congrArg bJ.dr e) (show¬(1:Int)=4 by decide)
  .exact .nil
 .have key:∀{a:bJ}{i:Int},a∈jQ n s i->a.i=i:=λ{a i}h=>by
   obtain⟨_,h|⟨v,_,h⟩|h⟩:=q5.1 h<;>obtain⟨_,rfl⟩:=eh.1 h<;>rfl
  have h1:=key w;have x:=key r;rw[e]at h1;omega
 .unfold kl;split
  .rename_i f af;split
   .have F:=(B.funs f (x5 af)).1.up;refine List.pairwise_flatMap.2 ⟨λp _=>?_,List.Pairwise.imp_of_mem (λ{p q}y z A a w b r e=>?_) List.pairwise_lt_range⟩
    .unfold ib;refine List.pairwise_flatMap.2 ⟨λv _=>List.pairwise_append.2 ⟨one dY,one dY,λa w b r e=>?_⟩,(C _).imp λ{u v}E a w b r e=>?_⟩
     .obtain⟨_,rfl⟩:=eh.1 w;obtain⟨_,rfl⟩:=eh.1 r;exact absurd (congrArg bJ.dr e) (show¬(2:Int)=3 by decide)
     .have key:∀{a:bJ}{v:Int},a∈ds n s j f p (f.sc.getD p 0) v++dP n s j f p (f.sc.getD p 0) v->a.v=v:=λ{a v}h=>by
       rcases p9.1 h with h|h<;>obtain⟨_,rfl⟩:=eh.1 h<;>rfl
      have h1:=key w;have x:=key r;rw[e]at h1;omega
    .have key:∀{a:bJ}{p:Nat},a∈ib n s j f p->a.i=f.sc.getD p 0:=λ{a p}h=>by
      unfold ib at h;obtain⟨v,_,h⟩:=X9.1 h;rcases p9.1 h with h|h<;>obtain⟨_,rfl⟩:=eh.1 h<;>rfl
     have h1:=key w;have x:=key r;rw[e]at h1;have y:=W8.1 y;have z:=W8.1 z;have h:f.sc[p]<f.sc[q]:=V3.1 F p q y z A;rw[u4,x6 y,V2]at h1;rw[u4,x6 z,V2]at x;omega
   .exact .nil
  .exact .nil
 .have key:∀{a:bJ}{j:Nat},a∈kl n s j->a.j=j:=λ{a j}h=>by
   obtain⟨f,_,_,p,_,v,_,h|h⟩:=s4.1 h<;>obtain⟨_,rfl⟩:=eh.1 h<;>rfl
  have h1:=key w;have x:=key r;rw[e]at h1;omega
 .obtain⟨i,_,w⟩:=X9.1 w;obtain⟨j,_,r⟩:=X9.1 r;have h1:a.dr=1\/a.dr=4:=by
   obtain⟨_,h|⟨v,_,h⟩|h⟩:=q5.1 w<;>obtain⟨_,rfl⟩:=eh.1 h
   .exact .inl rfl
   .exact .inl rfl
   .exact .inr rfl
  have x:b.dr=2\/b.dr=3:=by
   obtain⟨f,_,_,p,_,v,_,h|h⟩:=s4.1 r<;>obtain⟨_,rfl⟩:=eh.1 h
   .exact .inl rfl
   .exact .inr rfl
  rw[e]at h1;omega
open Classical in
def TF{M:List bJ}(f:bk n.k n.sizes s)(p:dg s)(r:s.funs.length<=100000000)(w:M.Perm (lx n s (level:Int)))(V:y1 M):M=jw n s level:=by
 have q:=TD (level:=level) f p r;have x:(jw n s level).Nodup:=q.imp λh e=>by rw[e]at h;omega
 have y:(lx n s (level:Int)).Nodup:=by unfold lx;exact List.Pairwise.filter _ (TE f)
 have z:M.Perm (jw n s level):=w.trans (xS y x λa=>(GM f p).symm);have A:M.Pairwise λa b=>fY a<=fY b:=V3.2 λi j hi B C=>V i j _ _ C (x6 hi) (x6 B);refine GL q A z
end
def TG{i:Int}{p:Nat}(h:l[p]?=σ i)(e:∀q,q<p->l[q]? ≠σ i):e4 l i=p:=by
 rcases q7 with⟨_,f⟩|⟨q,h1,r,s⟩
 .exact absurd (x5 h) f
 .rcases Nat.lt_trichotomy q p with a|a|a
  .exact absurd r (e q a)
  .rw[h1,a]
  .exact absurd h (s p a)
def TH{i:Int}(e:∀q,q<l.length->l[q]? ≠σ i):e4 l i= -1:=by
 rcases q7 with⟨h,_⟩|⟨q,h1,a,f⟩
 .exact h
 .exact absurd a (e q (x4.1 a).1)
def TI{cR:x1}{i:Int}(h:aK .i64 w cR l):an x7 H4 [cR,Δ i] w λr J=>Ext w J/\r=Δ (e4 l i):=by
 refine aA func33 ?_;rw[aX ao.u h];refine bV.range l.length (λp _ aa=>Ext w aa/\∀q,q<p->l[q]? ≠σ i) h.le ⟨Ext.refl _,λq x=>absurd x (Nat.not_lt_zero _)⟩ ?_ ?_
 .rintro p t4 aa z A ⟨f,s⟩ B;obtain⟨a,y⟩:=aI (l:=l) A;refine bB Ω ?_;rw[be ao.u aj.i Ψ (h.ext f) y,bf,am];refine⟨λe=>⟨f,by rw[TG (by rw[y,e]) s]⟩,λe=>?_⟩;rw[aM];refine B _ _ ⟨f,λq x=>?_⟩;rcases Nat.lt_or_eq_of_le (Nat.le_of_lt_succ x)with a7|rfl
  .exact s q a7
  .rw[y];exact λh=>e (Z3 h)
 .rintro t4 aa z ⟨f,s⟩;refine ca Ω ?_;exact⟨f,by rw[TH s]⟩
abbrev TJ(w:x3)(g:Nat)(v:x1)(l:List bJ):Prop:=bm fh 4 jY w g v l
def gK(w0 w:x3)(v:x1)(l:List bJ):Prop:=Ext w0 w/\∃g,TJ w g v l/\∀r,leadsTo v r->w0.heap.size<=r
section
variable{w0 w J:x3}{v:x1}{l:List bJ}
def gK.ext(h:gK w0 w v l)(U:Ext w J):gK w0 J v l:=by
 obtain⟨h1,g,a,e⟩:=h;exact⟨h1.trans U,g,a.ext U,e⟩
def Aside(w0 w J:x3):Prop:=ai (λr=>w0.heap.size<=r) w J/\∀b e cs,ah w b e cs->e≠jY->ah J b e cs
def Aside.ext(U:Ext w J):Aside w0 w J:=⟨U.ac _,λ_ _ _ a _=>a.ext U⟩
def Aside.trans{a:x3}(h:Aside w0 w J)(k:Aside w0 J a):Aside w0 w a:=⟨h.1.trans k.1,λb e cs f he=>k.2 b e cs (h.2 b e cs f he) he⟩
def TK{x:x1}(a:bJ)(h:gK w0 w v l)(B:x.cells=(fh a).toArray)(I:l.length<=1000000000)(C:∀z ab,gK w0 ab z (l++[a])->Aside w0 w ab->K z ab):
  aF x7 (Y5 jX 1 #[(0,x)]) w λy ab=>aF x7 (Z5 #[jX,jX] jX #[v,y]) ab K:=by
 obtain⟨h1,g,hm,q⟩:=h;refine im jX.u jY.i Ω B rfl λy gy ab J f E=>?_;refine jo jX.u jY.i rfl (hm.ext f) (by simpa using E.sl) (pI a) Ω Ω λz gz L F G s=>?_;have:=h1.size;have:=f.size;refine C _ _ ⟨(h1.trans f).then s λr p he=>by have:=q r he;omega,gz,F,λr p=>(G r p).elim (q r) λh=>Ω⟩ ⟨(f.ac _).trans (s.mono λr _ h=>q r h),λb e cs A he=>(A.ext f).ac s λp=>?_⟩;obtain⟨rfl,b4,H⟩:=dM hm p;exact he (eG A H)
def s8{p:Prop}[Decidable p]{x:x1}(a:bJ)(h:gK w0 w v l)(q:x.cells=(fh a).toArray)(r:l.length<=1000000000)(f:∀z ab,gK w0 ab z (l++er p a)->Aside w0 w ab->K z ab):
  Split (.bool (decide p)) (aF x7 (Y5 jX 1 #[(0,x)]) w λy ab=>aF x7 (Z5 #[jX,jX] jX #[v,y]) ab K) (K v w):=by
 rw[am];refine⟨λe=>TK a h q r λz ab s A=>f z ab (by unfold er;rw[if_pos e];exact s) A,λe=>f v w (by unfold er;rw[if_neg e,Y8];exact h) (Aside.ext (Ext.refl _))⟩
def GN{α:Type}[au α]{cs:List x1}{a:α}(h:Seen (λr=>r<w0.heap.size) w cs a)(e:Aside w0 w J):Seen (λr=>r<w0.heap.size) J cs a:=au.ac h e.1 λr _ h a7=>by
 have h:=h.elim False.elim id;omega
end
def zF{p q:Prop}[Decidable p][Decidable q]{a:bJ}:(if p then er q a else[])=er (p/\q) a:=by
 unfold er;by_cases e:p
 .rw[if_pos e];by_cases f:q
  .rw[if_pos f,if_pos ⟨e,f⟩]
  .rw[if_neg f,if_neg λh=>f h.2]
 .rw[if_neg e,if_neg λh=>e h.1]
def GO{n:aH}{s:aq}{l i:Int}(a:bk n.k n.sizes s):(ig n s l i j).length<=64:=by
 unfold ig;split
 .split
  .exact X8 _
  .rename_i f af _;have h1:=gJ (l:=bj s i) (f:=λv=>(if l=2 then ds n s j f (e4 f.sc i).toNat i v else[])++(if l=3 then dP n s j f (e4 f.sc i).toNat i v else[])) (k:=2) λv _=>by
    have h1:(if l=2 then ds n s j f (e4 f.sc i).toNat i v else[]).length<=1:=i9 dY;have e:(if l=3 then dP n s j f (e4 f.sc i).toNat i v else[]).length<=1:=i9 dY;rw[r8];omega
   have:=pH (i:=i) a;omega
 .exact X8 _
def GP{n:aH}{s:aq}{l i:Int}(a:bk n.k n.sizes s)(h:s.funs.length<=160):(fi n s l i).length<=10300:=by
 unfold fi;split
 .have h1:(if l=1 then gI n s i else[]).length<=1:=i9 dY;have p:(if l=4 then ju n s i else[]).length<=1:=i9 dY;have:=gJ (l:=bj s i) (f:=λv=>if l=1 then dV n s i v else[]) (k:=1) λv _=>i9 dY;have e:=gJ (l:=Z4 s.funs.length) (f:=ig n s l i) (k:=64) λj _=>GO a;have:=pH (i:=i) a;rw[S0]at e;rw[r8,r8,r8];omega
 .exact X8 _
section
variable{w:x3}{dJ:x1}{n:aH}{s:aq}
def TL(h:iY w dJ n.k n.sizes s)(A:bk n.k n.sizes s)(bA:q4 s)(bC:s.funs.length<=160)(dz:level<=4):an x7 HP [dJ,Δ (level:Int)] w λr J=>∃w0,Ext w w0/\gK w0 J r (jw n s level):=by
 have dA:=A.vars;have dC:=A.en;have E:=A.zero;have dD:=A.fT.2.1;refine aA func10 ?_;refine bh λg1 aa dE bD ck=>?_;have V:=h.box bD ck;obtain⟨szv,dF,dG,dH,dI,dK,R,cl,_,cm,cn,cp,bF,dL⟩:=id V;have bG:=qh cm λr aK _=>aK;refine⟨λbH cR ab=>∃q:Nat,cR=Δ ((q:Int)+1)/\q<=level/\gK aa ab bH (jw n s q),λ_ cR _=>level+2-(bT cR).toNat,⟨0,F,Ω,Ext.refl _,0,bm.nil _ _ _ _ _,λr aK=>(eW aK).elim⟩,?_⟩;rintro bH _ ab ⟨q,rfl,cq,W⟩;rw[nf,am];refine⟨λcr=>?_,λcr=>?_⟩
 rotate_left
 .obtain rfl:q=level:=Ω
  exact⟨aa,bD,W⟩
 have ct:∀i:Nat,(fi n s ((q:Int)+1) (i:Int)).length<=10300:=λi=>GP A bC;have cu:∀q:Nat,q<=4->(jw n s q).length<=3000000:=λq cq=>by
  have h1:=gJ (l:=Z4 q) (f:=λq:Nat=>(Z4 n.sizes.length).flatMap λi:Nat=>fi n s ((q:Int)+1) (i:Int)) (k:=700000) λq _=>by
   have:=gJ (l:=Z4 n.sizes.length) (f:=λi:Nat=>fi n s ((q:Int)+1) (i:Int)) (k:=10300) λi _=>GP A bC;rw[S0]at this;omega
  rw[S0]at h1;unfold jw;omega
 have bI:jw n s (q+1)=jw n s q++(Z4 n.sizes.length).flatMap λi:Nat=>fi n s ((q:Int)+1) (i:Int):=by
  unfold jw;rw[qY]
 have cw:=cu q Ω;generalize jw n s q=X at W bI cw;rw[aL aY.p 1 (R.ext W.1) F,aX ao.u (cl.ext W.1)];refine bV.range n.sizes.length (λi o aN=>gK aa aN o (X++(Z4 i).flatMap λi:Nat=>fi n s ((q:Int)+1) (i:Int))) Ω (by rw[List.range_zero,List.flatMap_nil,Y8];exact W) ?_ ?_
 rotate_left
 .rintro o aN cz S;refine ca Ω ?_;rw[aM,wrap_i64 Ω Ω];exact⟨⟨q+1,Ξ,Ω,by rw[bI];exact S⟩,by simp only[bT];omega⟩
 rintro i o aN cz hi S cA;obtain⟨x,U⟩:=aI (l:=s.vars) (i:=i) Ω;have dM:=q3 x;have dN:(aE x).length<=32:=by have:=pH (i:=(i:Int)) A;rw[oI U]at this;exact this
 have cB:(X++(Z4 i).flatMap λi:Nat=>fi n s ((q:Int)+1) (i:Int)).length<=4000000:=by
  have:=gJ (l:=Z4 i) (f:=λi:Nat=>fi n s ((q:Int)+1) (i:Int)) (k:=10300) λi _=>ct i;rw[S0]at this;rw[r8];omega
 have bK:(X++(Z4 (i+1)).flatMap λi:Nat=>fi n s ((q:Int)+1) (i:Int))=(X++(Z4 i).flatMap λi:Nat=>fi n s ((q:Int)+1) (i:Int))++fi n s ((q:Int)+1) (i:Int):=by rw[qY,X6]
 generalize (X++(Z4 i).flatMap λi:Nat=>fi n s ((q:Int)+1) (i:Int))=ai at S cB bK;refine bB Ω ?_;refine aV (λo bN=>gK aa bN o (ai++fi n s ((q:Int)+1) (i:Int))) (λo bN K=>by rw[aM];exact cA _ _ (by rw[bK];exact K)) λaB G=>?_;have aO:=S.1;rw[aL aY.p 4 (R.ext aO) F];refine il F rfl k1.u jd.i Ψ (bE cn aO) (by rw[x8,U];rfl) λcC cD=>?_;obtain rfl:cC= .bool (decide (x.gone≠0)):=(List.cons.inj cD).1;have bO:jO s i=decide (x.gone≠0):=by unfold jO;rw[U]
 rw[am];refine⟨λcE=>G _ _ ?_,λcF=>?_⟩
 .have ae:¬fW n s (i:Int)=true:=λh=>by have:=(zx hi).1 h;rw[bO,decide_eq_true cE]at this;cases this
  unfold fi;rw[if_neg ae,Y8];exact S
 have ae:=(zx hi).2 (by rw[bO];exact decide_eq_false cF);have kd:fi n s ((q:Int)+1) (i:Int)=(if(q:Int)+1=1 then gI n s i else[])++((if(q:Int)+1=4 then ju n s i else[])++(((aE x).flatMap λv=>if(q:Int)+1=1 then dV n s i v else[])++(Z4 s.funs.length).flatMap (ig n s ((q:Int)+1) i))):=by
  conv=>lhs;unfold fi
  rw[if_pos ae,oI U]
 rw[kd]at G;refine aV (λo bP=>gK aa bP o (ai++(if(q:Int)+1=1 then gI n s i else[]))) ?_ λdO cG=>?_
 rotate_left
 .refine (V.ext aO).load λaR M=>?_;refine(Tj M A U).mono ?_;rintro _ cH _ ⟨cI,rfl⟩;rw[<-Tu A U,bq,br];have cK:=S.ext cI;refine aV (λr cL=>cL=cH/\r= .bool (decide ((q:Int)+1=1/\(0<(mK n s (i:Int)).1\/(mK n s (i:Int)).2<0)))) ?_ λdQ aS=>?_
  .rintro _ _ ⟨rfl,rfl⟩;rw[cJ (cs:=#[Δ 1,Δ (i:Int),Δ (-1),Δ (-1)]) Ψ];refine s8 ⟨1,i,-1,-1⟩ cK F Ω λz ak E _=>cG _ _ ?_;unfold gI;rw[zF];exact E
  .rw[bf,am];refine⟨λh1=>?_,λh1=>aS _ _ ⟨F,by rw[decide_eq_false λh=>h1 h.1]⟩⟩;rw[bL,am];refine⟨λB=>aS _ _ ⟨F,by rw[decide_eq_true ⟨h1,.inl B⟩]⟩,λB=>?_⟩;rw[aP];refine aS _ _ ⟨F,?_⟩;congr 1;exact decide_eq_decide.2 ⟨λh=>⟨h1,.inr h⟩,λh=>h.2.resolve_left B⟩
 rintro dR bP aT;have cM:(ai++(if(q:Int)+1=1 then gI n s i else[])).length<=4000001:=by
  have:(if(q:Int)+1=1 then gI n s i else[]).length<=1:=i9 dY;rw[r8];omega
 rw[<-X6]at G;generalize ai++(if(q:Int)+1=1 then gI n s i else[])=aU at aT cM G;refine aV (λo al=>gK aa al o (aU++(if(q:Int)+1=4 then ju n s i else[]))) ?_ λdS cN=>?_
 rotate_left
 .refine (V.ext aT.1).load λaR M=>?_;refine(Tw M A bA U).mono ?_;rintro _ cO _ ⟨cP,rfl⟩;rw[bq,br];have cQ:=aT.ext cP;refine aV (λr cS=>cS=cO/\r= .bool (decide ((q:Int)+1=4/\(0<(lv n s (i:Int)).1\/(lv n s (i:Int)).2<0)))) ?_ λdT aZ=>?_
  .rintro _ _ ⟨rfl,rfl⟩;rw[cJ (cs:=#[Δ 4,Δ (i:Int),Δ (-1),Δ (-1)]) Ψ];refine s8 ⟨4,i,-1,-1⟩ cQ F Ω λz ak E _=>cN _ _ ?_;unfold ju;rw[zF];exact E
  .rw[bf,am];refine⟨λh1=>?_,λh1=>aZ _ _ ⟨F,by rw[decide_eq_false λh=>h1 h.1]⟩⟩;rw[bL,am];refine⟨λB=>aZ _ _ ⟨F,by rw[decide_eq_true ⟨h1,.inl B⟩]⟩,λB=>?_⟩;rw[aP];refine aZ _ _ ⟨F,?_⟩;congr 1;exact decide_eq_decide.2 ⟨λh=>⟨h1,.inr h⟩,λh=>h.2.resolve_left B⟩
 rintro dU al ap;have cT:(aU++(if(q:Int)+1=4 then ju n s i else[])).length<=4000002:=by
  have:(if(q:Int)+1=4 then ju n s i else[]).length<=1:=i9 dY;rw[r8];omega
 rw[<-X6]at G;generalize aU++(if(q:Int)+1=4 then ju n s i else[])=N at ap cT G;have cU:=bE bG ap.1;rw[aL aY.p 3 (R.ext ap.1) F];refine il (i:=i) F rfl db.u ao.i Ψ cU (by rw[x8,U];rfl) λdX a2=>?_;rw[aX ao.u (c3 a2)];refine bV.range (aE x).length (λk o Y=>gK aa Y o (N++((aE x).take k).flatMap λv=>if(q:Int)+1=1 then dV n s i v else[])/\Aside aa al Y) (c3 a2).le ⟨by rw[List.take_zero,List.flatMap_nil,Y8];exact ap,Aside.ext (Ext.refl _)⟩ ?_ ?_
 .rintro k cV Y cW hk ⟨H,a6⟩ a7;obtain⟨v,O⟩:=aI (l:=aE x) hk;have aq:=x5 O;have cX:=(gp.1 aq).1;have bQ:=vR A U aq;obtain⟨P,rfl⟩:=W6 cX.1;rw[u7]at bQ;have dZ:=iz (v:=P) A U;have cY:=H.1;have ba:(N++((aE x).take k).flatMap λv=>if(q:Int)+1=1 then dV n s i v else[]).length<=4000100:=by
   have:=gJ (l:=(aE x).take k) (f:=λv=>if(q:Int)+1=1 then dV n s i v else[]) (k:=1) λv _=>i9 dY;rw[j6]at this;rw[r8];omega
  have cZ:(N++((aE x).take (k+1)).flatMap λv=>if(q:Int)+1=1 then dV n s i v else[])=(N++((aE x).take k).flatMap λv=>if(q:Int)+1=1 then dV n s i v else[])++(if(q:Int)+1=1 then dV n s i (P:Int)else[]):=by
   rw[u9,O,j4,List.flatMap_append,List.flatMap_singleton,X6]
  rw[cZ]at a7;generalize (N++((aE x).take k).flatMap λv=>if(q:Int)+1=1 then dV n s i v else[])=Z at H ba a7;refine bB Ω ?_;refine aV (λo bc=>gK aa bc o (Z++(if(q:Int)+1=1 then dV n s i (P:Int)else[]))/\Aside aa al bc) (λo bc K=>by rw[aM];exact a7 _ _ K) λea c0=>?_;rw[be ao.u aj.i Ψ (c3 (GN a2 a6)) O];refine aV (λr bR=>Ext Y bR/\r= .bool (decide ((q:Int)+1=1/\min (s.zero+eI n s (i:Int) (P:Int)) n.k=n.k))) ?_ λeb bS=>?_
  .rintro _ bR ⟨bU,rfl⟩;rw[cJ (cs:=#[Δ 1,Δ (i:Int),Δ (-1),Δ (P:Int)]) Ψ];refine s8 ⟨1,i,-1,P⟩ (H.ext bU) F Ω λz ak E ac=>c0 _ _ ⟨?_,(a6.trans (Aside.ext bU)).trans ac⟩;unfold dV;rw[zF];exact E
  .intro ec bd _ _;have bW:=cY.trans bd;have au:=R.ext bW;rw[bf,am];refine⟨λh1=>?_,λh1=>⟨.inl (Ext.refl _),bS _ _ ⟨bd,by rw[decide_eq_false λh=>h1 h.1]⟩⟩⟩;rw[aL aY.p 2 au F,aL aY.p 5 au F];refine il (a:=x.un) (i:=i) F rfl dW.u az.i Ψ (bE cp bW) (by rw[x8,U];rfl) λed c1=>?_;rw[be az.u av.i Ψ (c3 c1) (getD_some (i:=P) Ω),aL aY.p 0 au F,aL aY.p 0 au F];refine(nr Ω Ω).mono ?_;rintro _ ee _ ⟨rfl,bX⟩;refine⟨.inl bX,?_⟩;rw[bf,<-bQ];refine bS _ _ ⟨bd.trans bX,?_⟩;congr 1;exact decide_eq_decide.2 ⟨λh=>⟨h1,h⟩,λh=>h.2⟩
 rintro cV Y cW ⟨H,a6⟩;rw[o9]at H;refine ca Ω ?_;have ba:(N++(aE x).flatMap λv=>if(q:Int)+1=1 then dV n s i v else[]).length<=4000100:=by
  have:=gJ (l:=aE x) (f:=λv=>if(q:Int)+1=1 then dV n s i v else[]) (k:=1) λv _=>i9 dY;rw[r8];omega
 rw[<-X6]at G;generalize (N++(aE x).flatMap λv=>if(q:Int)+1=1 then dV n s i v else[])=Z at H ba G;rw[aL aY.p 6 (R.ext H.1) F,jh eR.u (bE bF H.1),r9];refine bV.range s.funs.length (λj o bg=>gK aa bg o (Z++(Z4 j).flatMap (ig n s ((q:Int)+1) i))) Ω (by rw[List.range_zero,List.flatMap_nil,Y8];exact H) ?_ ?_
 rotate_left
 .rintro c2 bg c4 ad;refine ca Ω ?_;exact G _ _ ad
 rintro j c2 bg c4 c5 ad bi;obtain⟨fn,L⟩:=aI (l:=s.funs) c5;have bl:=bA fn (x5 L);obtain⟨bY,_,_⟩:=A.funs fn (x5 L);have c6:(Z++(Z4 j).flatMap (ig n s ((q:Int)+1) i)).length<=5000000:=by
  have:=gJ (l:=Z4 j) (f:=ig n s ((q:Int)+1) i) (k:=64) λj _=>GO A;rw[S0]at this;rw[r8];omega
 rw[qY,<-X6]at bi;generalize Z++(Z4 j).flatMap (ig n s ((q:Int)+1) i)=aw at ad c6 bi;have bZ:ig n s ((q:Int)+1) i j=if fn.live=0\/e4 fn.sc i<0 then[]else(aE x).flatMap λv=>(if(q:Int)+1=2 then ds n s j fn (e4 fn.sc i).toNat i v else[])++(if(q:Int)+1=3 then dP n s j fn (e4 fn.sc i).toNat i v else[]):=by
  unfold ig;rw[L,oI U]
 refine bB Ω ?_;refine aV (λo b0=>gK aa b0 o (aw++ig n s ((q:Int)+1) i j)) (λo b0 K=>by rw[aM];exact bi _ _ K) λef ay=>?_;refine nl du.p F eR.u du.i (bE bF ad.1) (by rw[x8,L];rfl) λcs c7=>?_;obtain⟨aQ,c8,bb,rfl,b1,c9,da⟩:=nF c7;refine bu du.i λga eg eh dc dd=>?_;refine b7 (vs:=[aQ,c8,bb,.bool (decide (fn.live≠0))]) du.i F rfl (Gj b1 c9 da) dd λei de df b2=>?_;have b3:=dc.put de Ω;have bn:=c3 (bE b1 b3);obtain⟨ej,dg,ek,b4⟩:∃a n c,aQ= .slice a n c:=by obtain⟨_,b,o,base,cap,e,_⟩:=bn;exact⟨_,_,_,e⟩
 rw[aW du.p F,aW a1.p F,ax Ψ (b2.cell F)];refine(TI bn).mono ?_;rintro _ dh _ ⟨bo,rfl⟩;have aC:=ad.ext (b3.trans bo);have b5:=b2.ext bo;have di:=bn.ext bo;refine aV (λr af=>af=dh/\r= .bool (decide (e4 fn.sc (i:Int)<0))) ?_ λem dj=>?_
 rotate_left
 .rw[aW du.p F,ax Ψ (b5.cell F),decide_eq_true bl,bM,X2,a8,aP];exact dj _ _ ⟨F,F⟩
 rintro _ af ⟨rfl,rfl⟩;rw[am];refine⟨λb6=>ay _ _ ?_,λb6=>?_⟩
 .rw[bZ,if_pos (.inr b6),Y8];exact aC
 rw[bZ,if_neg Ω]at ay;rcases q7 (i:=(i:Int)) (l:=fn.sc)with⟨eo,_⟩|⟨p,b8,b9,_⟩
 .omega
 have cb:=(x4.1 b9).1;have dk:fn.sc.getD p 0=(i:Int):=by rw[u4,b9];rfl
 rw[b8,u7]at ay;rw[b8];have dl:=bE bG aC.1;rw[aL aY.p 3 (R.ext aC.1) F];refine il F rfl db.u ao.i Ψ dl (by rw[x8,U];rfl) λep bp=>?_;rw[aX ao.u (c3 bp)];refine bV.range (aE x).length (λk o aD=>gK aa aD o (aw++((aE x).take k).flatMap λv=>(if(q:Int)+1=2 then ds n s j fn p i v else[])++(if(q:Int)+1=3 then dP n s j fn p i v else[]))/\Aside aa af aD) (c3 bp).le ⟨by rw[List.take_zero,List.flatMap_nil,Y8];exact aC,Aside.ext (Ext.refl _)⟩ ?_ ?_
 rotate_left
 .rintro dm aD dn ⟨Q,_⟩;rw[o9]at Q;refine ca Ω ?_;exact ay _ _ Q
 rintro k dm aD dn hk ⟨Q,bs⟩ bt;obtain⟨v,O⟩:=aI (l:=aE x) hk;have aq:=x5 O;have ag:v∈bj s (fn.sc.getD p 0):=by rw[dk,oI U];exact aq
 have dp:(aw++((aE x).take k).flatMap λv=>(if(q:Int)+1=2 then ds n s j fn p i v else[])++(if(q:Int)+1=3 then dP n s j fn p i v else[])).length<=5000100:=by
  have:=gJ (l:=(aE x).take k) (f:=λv=>(if(q:Int)+1=2 then ds n s j fn p i v else[])++(if(q:Int)+1=3 then dP n s j fn p i v else[])) (k:=2) λv _=>by
   have h1:(if(q:Int)+1=2 then ds n s j fn p i v else[]).length<=1:=i9 dY;have B:(if(q:Int)+1=3 then dP n s j fn p i v else[]).length<=1:=i9 dY;rw[r8];omega
  rw[j6]at this;rw[r8];omega
 rw[u9,O,j4,List.flatMap_append,List.flatMap_singleton,<-X6]at bt;generalize (aw++((aE x).take k).flatMap λv=>(if(q:Int)+1=2 then ds n s j fn p i v else[])++(if(q:Int)+1=3 then dP n s j fn p i v else[]))=aF at Q dp bt;refine bB Ω ?_;refine aV (λo bw=>gK aa bw o (aF++((if(q:Int)+1=2 then ds n s j fn p i v else[])++(if(q:Int)+1=3 then dP n s j fn p i v else[])))/\Aside aa af bw) (λo bw K=>by rw[aM];exact bt _ _ ⟨K.1,K.2⟩) λes aG=>?_;rw[be ao.u aj.i Ψ (c3 (GN bp bs)) O];refine aV (λo aH=>gK aa aH o (aF++(if(q:Int)+1=2 then ds n s j fn p i v else[]))/\Aside aa af aH) ?_ λet cc=>?_
 rotate_left
 .rw[bf,am];refine⟨λB=>?_,λB=>cc _ _ ⟨by rw[if_neg B,Y8];exact Q,bs⟩⟩;refine(V.ext Q.1).load λaR M=>?_;refine(Tn M A L cb λu' dq=>by rw[u4,dq]at ag;exact ag).mono ?_;rintro _ dr _ ⟨cd,fv2,rfl,ce⟩;rw[<-Tx A L bl cb ag]at ce ⊢;rw[bq,br];refine aV (λr dt=>dt=dr/\r= .bool (decide (0<(nC n s j fn p v).1\/(nC n s j fn p v).2=ν))) ?_ λeu cf=>?_
  .rintro _ _ ⟨rfl,rfl⟩;rw[cJ (cs:=#[Δ 2,Δ (i:Int),Δ (j:Int),Δ v]) Ψ];refine s8 ⟨2,i,j,v⟩ (Q.ext cd) F Ω λz ak E ac=>cc _ _ ⟨?_,(bs.trans (Aside.ext cd)).trans ac⟩;rw[if_pos B];exact E
  .rw[bL,am];refine⟨λC=>cf _ _ ⟨F,by rw[decide_eq_true (.inl C)]⟩,λC=>?_⟩;rw[Tz ce];refine cf _ _ ⟨F,?_⟩;congr 1;exact decide_eq_decide.2 ⟨λh=>.inr h,λh=>h.resolve_left C⟩
 rintro ev aH ⟨aJ,bx⟩;have dv:(aF++(if(q:Int)+1=2 then ds n s j fn p i v else[])).length<=5000200:=by
  have h1:(if(q:Int)+1=2 then ds n s j fn p i v else[]).length<=1:=i9 dY;rw[r8];omega
 rw[<-X6]at aG;generalize aF++(if(q:Int)+1=2 then ds n s j fn p i v else[])=ew at aJ dv aG;refine aV (λr cg=>cg=aH/\r= .bool (decide ((q:Int)+1=3/\fn.sc.length=2/\p=0))) ?_ λey bz=>?_
 rotate_left
 .rw[bf,am];refine⟨λI=>?_,λI=>bz _ _ ⟨F,by rw[decide_eq_false λh=>I h.1]⟩⟩;have dw:=bx.2 _ _ _ b5 Φ;have dx:dg=fn.sc.length:=by
   subst b4;obtain⟨_,b,o,base,cap,e,_⟩:=di;cases e;rfl
  rw[aW du.p F,aW a1.p F,ax Ψ (dw.cell F),b4,ii ao.u,dx,bf,am];refine⟨λB=>?_,λB=>bz _ _ ⟨F,by rw[decide_eq_false λh=>B Ω]⟩⟩;rw[bf];refine bz _ _ ⟨F,?_⟩;congr 1;exact decide_eq_decide.2 ⟨λh=>⟨I,Ω,Ω⟩,λh=>Ω⟩
 rintro _ cg ⟨rfl,rfl⟩;rw[am];refine⟨λC=>?_,λC=>aG _ _ ⟨?_,bx⟩⟩
 rotate_left
 .have:(if(q:Int)+1=3 then dP n s j fn p i v else[])=[]:=by
   by_cases I:(q:Int)+1=3
   .rw[if_pos I];unfold dP er;rw[if_neg λh=>C ⟨I,h.1,h.2.1⟩]
   .rw[if_neg I]
  rw[this,Y8];exact aJ
 obtain⟨I,B,rfl⟩:=C;obtain⟨a,b,ah⟩:∃a b,fn.sc=[a,b]:=by
  match df:fn.sc,B with
  |[a,b],_=>exact⟨a,b,F⟩
 have ez:=bY.vars b (by rw[ah];exact .tail _ (.head _));have eA:=(bY.scope.1 b (by rw[ah];exact .tail _ (.head _))).1;obtain⟨y,ch⟩:=aI (l:=s.vars) (i:=b.toNat) Ω;have ci:v∈bj s a:=by rw[ah]at ag;exact ag
 have dy:=Ty A L bl ah ci ch;refine(V.ext aJ.1).load λaR M=>?_;refine(GH M A L ah (.inl F) ci ch).mono ?_;rintro _ eB _ ⟨cj,rfl⟩;simp only[show¬(0:Nat)=1 by decide,if_false];rw[bq,br,<-dy,bL];rw[cJ (cs:=#[Δ 3,Δ (i:Int),Δ (j:Int),Δ v]) Ψ];refine s8 ⟨3,i,j,v⟩ (aJ.ext cj) F Ω λz ak E ac=>aG _ _ ⟨?_,(bx.trans (Aside.ext cj)).trans ac⟩;rw[if_pos I];unfold dP;have e:er (0<(nD n s j fn v).1) (⟨3,i,j,v⟩:bJ)=er (fn.sc.length=2/\(0:Nat)=0/\0<(nD n s j fn v).1) ⟨3,i,j,v⟩:=by
  unfold er;by_cases C:0<(nD n s j fn v).1
  .rw[if_pos C,if_pos ⟨B,F,C⟩]
  .rw[if_neg C,if_neg λh=>C h.2.2]
 rw[<-e];exact E
end
section
variable{aC:List aD}{w aa ab:x3}{ag gT ap:Nat}{A R S Z aJ:ak}{n:aH}{s s0 s1:aq}{cs:List x1}
def mT(aC:List aD)(Z aJ:ak)(w:x3)(ag gT ap:Nat)(n:aH)(s s0:aq)(cs:List x1):Prop:=∃A R A9 t,cg w ag gT ap A R A9 aJ n s s0 t aC cs/\(Laid w/\¬Z 0/\sY t)/\(∀r,Z r↔kU A R A9 aJ ap r)/\∀q r,A9 q r->r<w.heap.size
def mT.ext(h:mT aC Z aJ w ag gT ap n s s0 cs)(U:Ext w aa):mT aC Z aJ aa ag gT ap n s s0 cs:=by
 obtain⟨A,R,A9,t,p,⟨a,e⟩,f,x⟩:=h;exact⟨A,R,A9,t,p.ext U,⟨a.ext U,e⟩,f,λq r y=>by have:=x q r y;have:=U.size;omega⟩
def mT.side(h:mT aC Z aJ w ag gT ap n s s0 cs)(e:ai S w aa)(z:∀r,Z r->¬S r)(B:¬S 0):mT aC Z aJ aa ag gT ap n s s0 cs:=by
 obtain⟨A,R,A9,t,p,⟨C,E⟩,x,F⟩:=h;refine⟨A,R,A9,t,p.side e λr _ f=>?_,⟨kw e B C,E⟩,x,λq r f=>by have:=F q r f;have:=e.size;omega⟩;have a:∀{y:Prop},(y->kU A R A9 aJ ap r)->¬y:=λG h=>z r ((x r).2 (G h)) f;exact⟨a .inl,a λh=>.inr (.inl h),λq=>a λh=>.inr (.inr (.inl ⟨q,h⟩)),a λh=>.inr (.inr (.inr (.inl h))),a λh=>.inr (.inr (.inr (.inr h)))⟩
def mT.ok(h:mT aC Z aJ w ag gT ap n s s0 cs):bk n.k n.sizes s/\iY w (.agg cs.toArray) n.k n.sizes s0:=by
 obtain⟨A,R,A9,t,p,_⟩:=h;exact⟨p.fx.2.2.2.1,p.doc.F0⟩
def fE.cR(h:fE Z aJ w ag gT ap n s):∃cs,mT [] Z aJ w ag gT ap n s s cs/\ah w ap aY cs:=by
 obtain⟨A,R,A9,t,cs,p,⟨a,e⟩,r,f,q⟩:=h;exact⟨cs,⟨A,R,A9,t,p,⟨a,e,p.jr.m.2⟩,f,q⟩,p.box⟩
end
def GQ{p:x1}{y:Λ}(aG:aK .u8 w p y)(U:Bytes y)(a1:fg w):an x7 HS [p] w (R8 w (y.take 300)):=by
 refine aA func18 ?_;refine bu aY.i λC aa bO ak Y=>?_;have Y:ah aa C aY z12:=Y;rw[aX cM.u (aG.ext ak),nh];refine Lq (i:=min y.length 300) Ω cM.u cI.i (aG.ext ak) Ω λbP al=>?_;have a2:y.take (min y.length 300)=y.take 300:=by
  by_cases h:y.length<=300
  .rw[Nat.min_eq_left h,o9,Z2 h]
  .rw[Nat.min_eq_right Ω]
 rw[a2]at al;have Z:Bytes (y.take 300):=λb a=>U b (S4 a);have a7:(y.take 300).length<=300:=by rw[j6];omega
 generalize y.take 300=q at al Z a7;refine(QH al Ω).mono ?_;rintro bQ ab _ ⟨ao,bR,ap⟩;have aH:=ak.trans ao;refine(Ot ap.ls Z Ω (a1.ext aH)).mono ?_;rintro bS bT _ ⟨W,E⟩;have aI:=aH.trans W;cases H:fR q with
 |none=>
  rw[H]at E;obtain⟨n,e,rfl,he⟩:=E;rw[fN,fO,fP];refine(E3 (ap.ext W).ls Z Ω).mono ?_;rintro ba aq _ ⟨M,bb,bc,au,_⟩;obtain rfl:=au H;rw[fN,fO,fP];refine aV (λv X=>v= .bool true/\Ext aq X) ?_ ?_
  .rintro _ X ⟨rfl,J⟩;rw[bX,cJ (cs:=#[Δ 0,.slice ν 0 0,Δ 0,.slice ν 0 0,.slice ν 0 0,.slice ν 0 0,.slice ν 0 0,.slice ν 0 0]) Ψ];obtain⟨_,_,x,G⟩:=Fs;refine b7 (vs:=z12) aY.i F rfl (by intro u hu;simp[z12]at hu;rcases hu with rfl|rfl|rfl|rfl<;>rfl) ((((Y.ext ao).ext W).ext M).ext J) λbU bd bV be=>?_;rw[fM aY.p aY.i F be.range];refine⟨((aI.trans M).trans J).then bd λr E he=>by have he:r=C:=he;omega,_,_,false,F,⟨F,(Fs).elim λ_ h=>by obtain⟨_,_,h⟩:=h;exact λu hu=>by simp[z12]at hu;rcases hu with rfl|rfl|rfl|rfl<;>rfl⟩,.inl ⟨F,F⟩,λf af=>?_⟩;rw[H]at af;cases af
  .intro aB K;rw[bA,am];exact⟨λ_=>K _ _ ⟨F,Ext.refl _⟩,λh=>absurd he h⟩
 |some f=>
  rw[H]at E;obtain⟨bW,n,rfl,bg⟩:=E;obtain⟨N,bh,O,bi,bj⟩:=QF Ω H;have P:=DT O;have ad:=yP O;rw[fN,fO,fP];refine(E3 (ap.ext W).ls Z Ω).mono ?_;rintro ba aq _ ⟨M,bb,bc,_,au⟩;obtain⟨bY,rfl,bk⟩:=au f H;rw[fN,fO,fP];refine aV (λv X=>v= .bool false/\Ext aq X) ?_ ?_
  rotate_left
  .intro aB K;rw[bA,am];refine⟨λh=>absurd F h,λ_=>?_⟩;rw[dh wW.u];exact K _ _ ⟨F,Ext.refl _⟩
  rintro _ X ⟨rfl,J⟩;rw[a8];have aL:=(aI.trans M).trans J;refine(PA ((bg.ext M).ext J) O bh ⟨bi,bj⟩).mono ?_;rintro bZ bl _ ⟨av,bm⟩;have ai:=aL.trans av;have Q:=((((Y.ext ao).ext W).ext M).ext J).ext av;have aM:=(bk.ext J).ext av;have:=ai.size;have b1:w.heap.size<=C:=Ω
  have:=Q.lt;rcases bm with⟨bn,e,he,rfl⟩|⟨b3,rfl,bo⟩
  .rw[bq,br];refine QG.mono ?_;rintro _ aN _ ⟨rfl,s⟩;refine iC (λaw t4 z=>aw= .pointer ν/\t4= .bool false/\Ext w z/\∃cs:List x1,ah z C aY cs/\cs.length=8/\∀u∈cs,u.oneCell'=true) ?_ ?_
   .rintro _ _ z ⟨rfl,rfl,ax,cs,ay,x,G⟩;rw[fM aY.p aY.i x ay.range];exact⟨ax,_,cs,false,F,⟨x,G⟩,.inl ⟨F,F⟩,λb4 aO bp=>absurd bp (by rw[H]at aO;cases aO;exact bn)⟩
   .intro aB K;have bs:=s.size;refine(Fe (aM.ext s) O).mono ?_;rintro bt az _ ⟨B,aC⟩;refine(F4 (R:=λr=>w.heap.size<=r/\∃c,ah az r aj c) (λr h=>h.2.elim λc a=>a.lt) (λr c U a=>⟨Ω,c,a⟩) aC P.1 ad).mono ?_;rintro bw bx _ ⟨I,A9,cs,rfl,S,aD⟩;obtain⟨x,G⟩:=S.len;rw[bf,am];refine⟨λh=>absurd h he,λ_=>?_⟩;refine b7 (vs:=cs) aY.i x F G (((Q.ext s).ext B).ext I) λbB L aP aE=>?_;exact K _ _ _ ⟨F,F,(((ai.trans s).trans B).trans I).then L λr E he=>by have he:r=C:=he;omega,cs,aE,x,G⟩
  .rw[bq,br];obtain⟨b5,bC,aQ,bD⟩:=bo;have:=aL.size;refine(PX (R0:=λr=>w.heap.size<=r/\r<bl.heap.size) bC aQ (λr o h V=>⟨by have:=bD r o h V;omega,(j9.1 (aQ.a6 r o h V)).1⟩) (λr h=>h.2) P.1 ad).mono ?_;rintro _ aN _ ⟨s,ag,gT,A,R,t,rfl,bE,ae,aR,aS,bF⟩;have aT:bz aN ag gT A R (c4 f) (df (c4 f)) t:=⟨bE,ae,QJ P.1 ad ae aR,PJ P.1,P.1⟩;refine iC (λaw t4 z=>aw=Γ ag/\t4= .bool true/\Ext w z/\∃cs:List x1,ah z C aY cs/\cs.length=8/\(∀u∈cs,u.oneCell'=true)/\∃R' A9 aJ,bz z ag gT A R' (c4 f) (df (c4 f)) t/\jR true A9 aJ z cs (c4 f).k (c4 f).sizes (df (c4 f))/\(∀q r,A9 q r->¬A r/\¬R' r/\w.heap.size<=r)/\(∀r,aJ r->¬eA z r/\r<z.heap.size/\w.heap.size<=r)/\∀r,R' r->w.heap.size<=r) ?_ ?_
   .rintro _ _ z ⟨rfl,rfl,ax,cs,ay,x,G,R',A9,aJ,bG,S,bH,bI⟩;rw[fM aY.p aY.i x ay.range];exact⟨ax,_,cs,true,F,⟨x,G⟩,.inr ⟨F,f,H,ag,gT,A,R',t,N,A9,aJ,O,F,bG,aR,λr E=>by have:=aS r E;omega,S,bH,bI⟩,λ_ _ _=>rfl⟩
   .intro aB K;have bs:=s.size;refine(Fe (aM.ext s) O).mono ?_;rintro bt az _ ⟨B,aC⟩;refine(F4 (R:=λr=>w.heap.size<=r/\∃c,ah az r aj c) (λr h=>h.2.elim λc a=>a.lt) (λr c U a=>⟨Ω,c,a⟩) aC P.1 ad).mono ?_;rintro bw bx _ ⟨I,A9,cs,rfl,S,aD⟩;obtain⟨x,G⟩:=S.len;rw[bf,am];refine⟨λ_=>?_,λh=>absurd F h⟩;rw[Bv dm.u];have aU:=((Q.ext s).ext B).ext I;have bJ:=((ai.trans s).trans B).trans I;refine b7 (vs:=cs) aY.i x F G aU λbB L aP aE=>?_;have aW:=(aT.ext B).ext I;obtain⟨R',aZ,bK⟩:=aW.1.put aU L λh=>by have:=aS C h;omega
    have:=((ai.trans s).trans B).size;have:=I.size;obtain⟨_,_,_,_,⟨_,_,bL,bM⟩,_⟩:=(aT.ext B).1;have:=Q.lt;have:=(s.trans B).size;have bN:=S.ac L λr E h he=>by
     have he:r=C:=he;rcases h with⟨q,h⟩|⟨_,c,a⟩
     .have:=aD q r h;omega
     .subst he;exact absurd (eG a (((Q.ext s).ext B))) Φ
    refine K _ _ _ ⟨F,F,bJ.then L λr E he=>by have he:r=C:=he;omega,cs,aE,x,G,R',A9,_,⟨bK,aW.2⟩,bN,λq r h=>?_,λr h=>?_,λr h=>?_⟩
    .have cb:=aD q r h;refine⟨λaF=>by have:=bM r aF;omega,λaF=>by have:=bL r (aZ r aF).1;omega,Ω⟩
    .obtain⟨U,c,a⟩:=h;have:=a.lt;have aP:=L.size;refine⟨QD ((a.ext I).ac L λhe=>?_) Φ,Ω,U⟩;have he:r=C:=he;subst he;exact absurd (eG a (((Q.ext s).ext B))) Φ
    .rcases bF r (aZ r h).1 with h|h
     .exact h.1
     .omega
section
variable{Z aJ:ak}{w J:x3}{ag gT ap:Nat}{A R:ak}{A9:Nat->ak}{n:aH}{s s':aq}{t:aD}{cs:List x1}{a:gv}
def TM(h:fE Z aJ w ag gT ap n s)(W:a.ok):an x7 wH [Γ ag,Γ ap,.agg a.bY.toArray] w λ_ J=>lC Z aJ w ag gT ap n (mR n s a) J:=by
 obtain⟨A,R,A9,t,cs,p,⟨ay,Q⟩,az,S,aC⟩:=id h;have O:=p.fx.2.2.2.1;have:=O.en;have:=a.Tq;have H:¬A 0:=λh=>Q ((S 0).2 (.inl h));have X:=Tr (a:=a) az O;refine aA func20 ?_;refine bh λga aa bt aD Y=>?_;have Y:ah aa ga c0 [.int .u8 a.d,Δ a.i,Δ a.pos,Δ a.v,Δ a.c]:=Y;intro ab aE _ _;have E:=aD.trans aE;have C:=Y.ext aE;have:=aD.size;have:=E.size;have:=C.lt;have ad:(a.d % 7).toNat=a.kind:=rfl;obtain⟨szv,bz,bA,bB,bC,bD,aQ,_⟩:=p.pO;have aR:cs[0]?=σ (Δ n.k):=by rw[aQ];rfl
 have hu:T1.wrap a.c=a.c.emod 18446744073709551616:=rfl;have aS:0<=a.c.emod 18446744073709551616:=Int.emod_nonneg _ Φ;have:=Int.emod_nonneg (a.c.emod 18446744073709551616) (show n.k+1≠0 by omega);have:=Int.emod_lt_of_pos (a.c.emod 18446744073709551616) (show 0<n.k+1 by omega);have aV:a.c.emod 18446744073709551616 % (n.k+1)=GI n.k a:=rfl;rw[aL c0.p 4 C F,fm av.u fK.u,aT aY.p 0 (p.box.ext E) aR,aM,wrap_i64 Ω Ω,fm av.u fK.u,wrap_u64 (x:=n.k+1) Ω Ω,hu,tR Ω,Int.tmod_eq_emod_of_nonneg aS,fm fK.u av.u,wrap_i64 Ω Ω,aV,
  aL c0.p 0 C F,zB W.1,ad,bf,am]
 have G:=p.ext E;refine⟨λae=>?_,λae=>?_⟩
 .have ae:a.kind=6:=Ω
  have I:mR n s a=if fz n a.i a.v then eu s a.i.toNat a.v.toNat else s:=by unfold mR;rw[if_pos ae]
  refine da (λJ=>lC Z aJ w ag gT ap n (mR n s a) J) (λJ h=>h) λaB aF=>?_;rw[aL c0.p 1 C F,aL c0.p 3 C F];refine(yN G.fx (.inl p.jr.1)).mono ?_;rintro bG bH _ ⟨aX,aZ⟩;by_cases L:fz n a.i a.v
  rotate_left
  .obtain⟨rfl,a1⟩:=aX L;rw[bf,am];exact⟨λh=>absurd h Φ,λ_=>aF _ (by rw[I,if_neg L];exact lC.same h (E.trans a1))⟩
  obtain⟨rfl,aG,aU,y,af,a2⟩:=aZ L;rw[if_pos L]at I;rw[bf,am];refine⟨λ_=>?_,λh=>absurd F h⟩;have a6:=G.prog aG af a2 G.jr.set (λ_ h=>.inl h) (λ_ _ _ h=>h) G.box.lt;obtain⟨a7,x,U,a8,bI⟩:=GJ O L;obtain⟨ba,V⟩:=W6 a7;rw[V,u7]at U;intro aH ai _ _;have z:=a6.ext ai;have ak:∀r,A r->r<w.heap.size:=λr h=>zd p.fx r (.inl h);have P:=(C.ac af.1 λh=>by have:=ak ga h;omega).ext ai;rw[V]at P;have aI:=(x4.1 U).1;obtain⟨g,cap,bb,gy,e,al,bc,bd,be,bg⟩:=Ts z U;have:=q3 x;have bK:x.un.length<=32:=by obtain⟨bL,aK,bM,bi,_⟩:=L.var O;rw[V,u7,U]at aK;cases aK;exact bi
  have aq:∀r,leads bb r->r≠ga/\r≠ap:=λr f=>by
   have h1:=be r f;exact⟨λhe=>by have:=aC 0 r h1.1;omega,λhe=>(p.apart 0 r h1.1).2.2 he⟩
  rw[aT aY.p 3 z.box al,aL c0.p 1 P F,aT aY.p 3 z.box al,aL c0.p 1 P F,fe db.u ao.i aI λ_=>rfl,ax Ψ bc,jB];refine(FG (p:=λy=>decide (y=a.v)) bd Ω λJ y bj bN=>?_).mono ?_
  .refine aA func63 ?_;rw[aL c0.p 3 (P.ac bj λh=>(aq ga h).1 F) F,bf];exact⟨F,Ext.refl _⟩
  rintro bO au _ ⟨aw,bk,bl⟩;have bm:=P.ac aw λh=>(aq ga h).1 F;have bn:=z.box.ac aw λh=>(aq ap h).2 F;refine⟨.inr ⟨uh Ψ (bm.cell F),Go.Vc.mz λK=>aW c0.p F,uh Ψ (bn.cell al),Go.Vc.mz λK=>aW aY.p F,Go.Vc.mz λK=>bZ,trivial⟩,?_⟩;rw[fe db.u ao.i aI λ_=>rfl];refine bg (Ext.refl _) aw (by rw[zg a8];exact bk) bl λbP aN=>aF _ ?_;have bo:eu s a.i.toNat a.v.toNat={s with vars:=s.vars.set ba {x with mask:=((x.mask.toNat ||| 2 ^ a.v.toNat:Nat):Int)}}:=by rw[V,u7];unfold eu;rw[U]
  rw[I];rw[<-bo]at aN;have bp:=dw.comp (ai.ac _) (λq r f=>.inl ⟨q,f⟩) aN;exact lC.before E (fE.Tt G S (by rw[<-I];exact X) Q (ay.ext E) aG af (λq r (f:A9 q r/\r<ab.heap.size)=>f.1) bp)
 have bQ:(s6 n.k a).kind=a.kind:=rfl;have I:mR n s a=(cC n.k s (s6 n.k a)).1:=by unfold mR;rw[if_neg Ω]
 rw[aL c0.p 0 C F,zB W.1,ad,fm cI.u aj.u,wrap_i64 Ω Ω,aL c0.p 1 C F,aL c0.p 2 C F,aL c0.p 3 C F];refine(Tc (m:=s6 n.k a) G O az.1 Ω).mono ?_;rintro _ aH _ ⟨rfl,aO⟩;obtain⟨aP,bR,bS,z,bT⟩:=id aO;have ak:∀r,(∃q,A9 q r)\/r=ap->r<w.heap.size:=λr f=>f.elim (λ⟨q,h⟩=>aC q r h) λh=>by rw[h];exact p.box.lt
 have B:=C.ac aP λf=>by have:=ak ga f;omega
 have M:=kw aP (λh=>Q ((S 0).2 (h.elim (λh=>.inr (.inr (.inl h))) λh=>.inr (.inr (.inr (.inr h)))))) (ay.ext E);have N:∀{r:x1}{au:x3},pT [] aH ag gT A R n s (s6 n.k a) r au->lC Z aJ w ag gT ap n (mR n s a) au:=λbq=>by
  rw[I]at X ⊢;exact lC.before E (fE.step G S X Q aO (Ext.refl _) bq.2)
 rw[aL c0.p 0 B F,zB W.1,ad,bf,am];refine⟨λhk=>?_,λbU=>?_⟩
 .rw[aL c0.p 1 B F,aL c0.p 2 B F,aL c0.p 3 B F];exact(SF Ω z.fx M H z.jr.m).mono λr J _ f=>N f
 rw[bf,am];refine⟨λhk=>?_,λbV=>?_⟩
 .rw[aL c0.p 1 B F,aL c0.p 2 B F,aL c0.p 3 B F];exact(SG Ω z.fx M H z.jr.m).mono λr J _ f=>N f
 rw[bf,am];refine⟨λhk=>?_,λbW=>?_⟩
 .rw[aL c0.p 1 B F];exact(SL Ω z.fx M H z.jr.m).mono λr J _ f=>N f
 rw[bf,am];refine⟨λhk=>?_,λbX=>?_⟩
 .rw[aL c0.p 1 B F];exact(SN Ω z.fx M H z.jr.m).mono λr J _ f=>N f
 rw[bf,am];refine⟨λhk=>?_,λb0=>?_⟩
 .rw[aL c0.p 1 B F,aL c0.p 3 B F];exact(SO Ω z.fx M H z.jr.m).mono λr J _ f=>N f
 .rw[aL c0.p 1 B F,aL c0.p 3 B F];exact(SP Ω z.fx M H z.jr.m).mono λr J _ f=>N f
end
section
variable{w0 w J:x3}{ag gT ap:Nat}{n:aH}{s:aq}{Z aJ:ak}
def mS.TN{a:gv}(h:mS w0 w ag gT ap n)(q:a.ok):an x7 wH [Γ ag,Γ ap,.agg a.bY.toArray] w λ_ J=>mS w0 J ag gT ap n:=by
 obtain⟨e,s,Z,aJ,x,f⟩:=h;refine(TM x q).mono ?_;rintro v aa _ ⟨y,A,B,C⟩;have:=e.size;exact⟨e.then y λr p h=>by have:=f r h.1;omega,_,A,aJ,C,λr p=>(B r p).elim (f r) λh=>Ω⟩
def TO{e:x1}{L:List nI}{i:Nat}{x:nI}(q:Seen eL w [e] L)(U:L[i]?=σ x)(r:∀g J,Ext w J->w.heap.size<=g->ah J g c0 (oH x).bY->K (Γ g) J):
  ad x7 (c9 oZ e (Δ (i:Int))) w λs=>
  ad x7 (u5 c0 s) w λy=>
  aF x7 (Q6 c0 true (.tuple #[])) w λa f=>
  aF x7 (l9 c0 a y) f λ(_:Unit)h=>K a h:=by
 refine nl c0.p rfl oZ.u c0.i q U λcs z=>?_;obtain rfl:=To z;refine bu c0.i λgy f F A B=>?_;refine b7 (vs:=(oH x).bY) c0.i rfl rfl (gv.one _) B λh C G E=>?_;exact r _ _ (A.put C Ω) Ω E
def TP{s:x1}{L:List nI}{m:Int}{K:x3->Prop}(h:mS w0 w ag gT ap n)(e:Seen eL w0 [s] L)(I:∀x∈L,(oH x).ok)(M:∀J,mS w0 J ag gT ap n->K J):
  ad x7 (U1 #[oZ] aj #[s]) w λN=>
 cq (Δ 0) w λq a k=>
  ad x7 (aO .lss aj false false q N) a λO=>
  Split O (cw (α:=x3->Prop) (λ(z:x3)=>
   ad x7 (aO .add aj false true q (Δ 1)) z λP=>
   k P z) λA=>
  ad x7 (c9 oZ s q) a λQ=>
  ad x7 (u5 c0 Q) a λR=>
  aF x7 (Q6 c0 true (.tuple #[])) a λb B=>
  aF x7 (l9 c0 b R) B λ(_:Unit)r=>
  ad x7 (aO .lss aj false true q (Δ m)) r λS=>
  Split S (ad x7 (u5 c0 b) r λU=>
   an x7 wH [Γ ag,Γ ap,U] r λaa C=>
   A C)
   (A r))
   (K a):=by
 rw[jh oZ.u (bE e h.1)];refine cq.range L.length (λi y=>mS w0 y ag gT ap n) (rC e) h ?_ ?_
 .rintro i y V hi f W;obtain⟨x,E⟩:=aI (l:=L) hi;have X:=I x (x5 E);refine bB Ω ?_;refine da (λa=>mS w0 a ag gT ap n) (λa Y=>by rw[aM];exact W _ Y) λaB G=>?_;refine TO (bE e f.1) E λgy B H _ Z=>?_;rw[aP,am];refine⟨λ_=>?_,λ_=>G _ (f.ext H)⟩;rw[bN c0.p c0.i F Z.range];exact((f.ext H).TN X).mono λv C _ e=>G _ e
 .rintro y V f;exact ca Ω (M _ f)
end
def TQ{N:Nat}{q:Λ}{f:b3}(a:e9 N f)(e:q.length<=300)(h:fR q=σ f):(df (c4 f)).funs.length<=100:=by
 have:=(qI a).2.length_eq;have:=(lY a).2.2;have:=Q2 fp (fq f);have:=(Ta e h).2;have p:=(py f (fs f).length).2.2.2;rw[su]at p;have x:(df (c4 f)).funs.length=(c4 f).funs.length:=r9 _;omega
def GR(w:x3)(a:Λ)(r:x1)(J:x3):Prop:=Ext w J/\((∃cs:List x1,r= .tuple #[.pointer ν,.agg cs.toArray,.bool false]/\cs.length=8/\∀u∈cs,u.oneCell'=true)\/∃f ag gT ap Z aJ s cs,r= .tuple #[Γ ag,.agg cs.toArray,.bool true]/\fR (a.take 300)=σ f/\(df (c4 f)).funs.length<=100/\
 fE Z aJ J ag gT ap (c4 f) s/\mT [] Z aJ J ag gT ap (c4 f) s s cs/\∀r,Z r->w.heap.size<=r)
def TR{p W:x1}{C:Λ}{L:List nI}(ax:aK .u8 w p C)(ay:∀b∈C,0<=b/\b<256)(az:Seen eL w [W] L)(aB:∀x∈L,(oH x).ok)(aC:fg w)(E:Laid w):an x7 HN [p,W] w (GR w C):=by
 have:=GA E;refine aA func8 ?_;refine bu aY.i λq aa a2 y X=>?_;have:=X.lt;have:=y.size;refine(GQ (ax.ext y) ay (aC.ext y)).mono ?_;rintro _ ab _ ⟨G,ba,cs,ok,rfl,⟨H,I⟩,aD,_⟩;rw[fN,fO,fP];refine bu aY.i λap bb bc aE aG=>?_;refine b7 (vs:=cs) aY.i H F I aG λY aH bd ac=>?_;have ae:Ext ab Y:=aE.put aH Ω;have J:=G.trans ae;have aj:=y.trans J;have:=G.size;have out:∀{a:x3}{z:List x1}{K:x1->x3->Prop},Ext aa a->ah a ap aY z->z.length=8->(∀u∈z,u.oneCell'=true)->(∀e,ai (λr=>r=q) a e->K (.agg z.toArray) e)->
   ad x7 (u5 aY (Γ ap)) a λt25=>aF x7 (l9 aY (Γ q) t25) a λ(_:Unit)e=>ad x7 (do loadVar aY (<-asAddr (Γ q))) e λr=>K r e:=λ{a z K}U aI M aL aM=>by
  rw[bN aY.p aY.i M aI.range];refine b7 (vs:=z) aY.i M F aL (X.ext U) λe O bf aN=>?_;rw[fM aY.p aY.i M aN.range];exact aM _ O
 have no:∀{e:x3},(∃a,Ext Y a/\ai (λr=>r=q) a e)->GR w C (.tuple #[.pointer ν,.agg cs.toArray,.bool false]) e:=λ⟨a,aO,aP⟩=>⟨(aj.trans aO).then aP λr B h=>by have h:r=q:=h;omega,.inl ⟨cs,F,H,I⟩⟩;rcases aD with⟨rfl,rfl⟩|⟨rfl,f,af,ak⟩
 .rw[bM,V8,bX];intro aQ P _ _;exact out (J.trans P) (ac.ext P) H I λe O=>no ⟨aQ,P,O⟩
 have aR:(df (c4 f)).funs.length<=100:=by
  obtain⟨_,_,_,_,_,N,_,_,aS,_⟩:=id ak;exact TQ aS (by rw[j6];omega) af
 obtain⟨ag,gT,Z,aJ,rfl,aT,aU⟩:=Td ak ae ac Ω G.size (GA (E.ext y)) (E.ext aj);rw[bM,X2,a8];refine TP (w0:=aa) ⟨J,_,Z,aJ,aT,aU⟩ (bE az y) aB λbg aV=>?_;obtain⟨al,s,am,aW,aX,ao⟩:=aV;intro bh Q _ _;have aq:=aX.ext Q;obtain⟨S,au,aZ⟩:=aq.cR;have av:S.length=8/\∀u∈S,u.oneCell'=true:=by
  obtain⟨A,R,A9,t,p,_⟩:=id au;exact ce.len p.doc
 have aw:∀r,am r->¬r=q:=λr B h=>by have:=ao r B;omega
 refine out (al.trans Q) aZ av.1 av.2 λbi V=>⟨((y.trans al).trans Q).then V λr B h=>by have h:r=q:=h;omega,.inr ⟨f,ag,gT,ap,am,aW,s,S,F,af,aR,aq.side V aw (λh=>by have h:0=q:=h;omega),au.side V aw (λh=>by have h:0=q:=h;omega),λr B=>by have:=ao r B;omega⟩⟩
def md:Λ:=[116,32,49,32,50,32,49,32,57,32,50,32,49,32,48,32,48,32,50,32,48,32,49,32,49,32,50]
def iB:b3:=⟨[116],9,[2],[⟨[0],[2],0,[([0],1),([1],2)]⟩]⟩
def TS:fR md=σ iB:=by
 have h:(match fR md with
  |some f=>decide (f.name=iB.name/\f.k=iB.k/\f.sizes=iB.sizes)&&decide (f.funs.map (λx=>(x.scope,x.sizes,x.other,x.lines))=iB.funs.map λx=>(x.scope,x.sizes,x.other,x.lines))
  |none=>false)=true:=by decide+kernel
 cases q:fR md with
 |none=>rw[q]at h;cases h
 |some f=>
  rw[q]at h;simp only[V9,decide_eq_true_eq]at h;obtain⟨⟨h1,r,s⟩,e⟩:=h;obtain⟨nm,k,y,p⟩:=f;simp only at h1 r s e;subst h1;subst r;subst s;have:p=iB.funs:=by
   have w:p.length=1:=by have:=congrArg R2 e;simpa[iB]using this
   match p,w with
   |[x],_=>
    obtain⟨a,b,c,d⟩:=x;simp[iB]at e;obtain⟨rfl,rfl,rfl,rfl⟩:=e;rfl
  subst this;rfl
def TT:kc iB.funs<=16384:=by decide+kernel
def GS(a:bJ):Int×Int×Int×Int:=(a.dr,a.i,a.j,a.v)
def TU:lx (c4 iB) (df (c4 iB)) 1=[⟨1,0,-1,-1⟩]:=by
 have h:(lx (c4 iB) (df (c4 iB)) 1).map GS=[(1,0,-1,-1)]:=by decide+kernel
 generalize lx (c4 iB) (df (c4 iB)) 1=l at h;have e:l.length=1:=by have:=congrArg R2 h;simpa using this
 match l,e with
 |[⟨a,b,c,d⟩],_=>
  simp[GS]at h;obtain⟨rfl,rfl,rfl,rfl⟩:=h;rfl
def s9:bJ:=⟨1,0,-1,-1⟩
def TV{g1 r:Nat}{f p:x1}(h1:jv w g1 f [s9])(q:jv w r p [s9]):an x7 HT [f,p] w λv J=>v= .bool true/\Ext w J:=by
 refine aA func19 ?_;rw[et dB.u h1,et dB.u q,bA,am];refine⟨λh=>absurd F h,λ_=>?_⟩;rw[et dB.u h1];refine bV.range 1 (λ_ _ aa=>Ext w aa) Ω (Ext.refl _) ?_ ?_
 .rintro i t4 aa k hi a hk;refine bB Θ ?_;intro ab s _ _;have e:=a.trans s;obtain rfl:i=0:=Ω
  rw[sN (h1.ext e) F,sN (q.ext e) F];have x:∀{y:x3}{K:x1->Prop},ad x7 (aO .neq dc false false (.agg (fh s9).toArray) (.agg (fh s9).toArray)) y K=K (.bool false):=ad.of λJ _=>Ψ
  rw[x,a8,aM];exact hk _ _ e
 .rintro t4 aa k a;refine ca Ξ ?_;exact⟨F,a⟩
def TW:(df (c4 iB)).funs.length<=160:=by decide+kernel
def TX(I:fg w)(K:Laid w):an x7 HM [] w λv J=>v= .bool true/\Ext w J:=by
 refine aA func7 ?_;refine lK (k:=1) (cs:=(ints .u8 md).toArray) cM.u cI.i Ω Ψ λg aa aC e p=>?_;have q:ay .u8 cI aa g (.slice (σ ⟨g,0,ν⟩) 27 27) md:=ay.of (n:=27) (b1.full (by simpa using p) (by simp[md]) (by simp[maxLen]));refine Sc p λs x z=>?_;have e:=e.put x Ω;have L:aK .u8 s (.slice (σ ⟨g,0,ν⟩) 27 27) md:=by
  obtain⟨O,b,o,base,cap,P,Q,S,U,V⟩:=q.ls;cases P;cases U (by simp[md]);exact⟨O,g,0,_,27,F,Q,S,λ_=>rfl,z _ _ V⟩
 clear q p z x;refine(GQ L (by intro b W;simp[md]at W;omega) (I.ext e)).mono ?_;rintro _ ab _ ⟨X,Y,cs,ok,rfl,⟨Z,ac⟩,ad,ae⟩;have B:fR (md.take 300)=σ iB:=by
  rw[Z2 Φ];exact TS
 have ah:=ae iB B TT;subst ah;obtain⟨f,af,ag,gT,A,R,t,N,A9,aJ,aD,rfl,ai,_⟩:∃f,fR (md.take 300)=σ f/\vI s.heap.size ab Y cs f:=by
  rcases ad with⟨h,_⟩|⟨_,h⟩
  .cases h
  .exact h
 rw[B]at af;cases af;have aj:=e.trans X;rw[fN,fO,fP];refine bu aY.i λap aE aF ak al=>?_;refine b7 (vs:=cs) aY.i Z F ac al λaG ao aH aI=>?_;have C:=ak.put ao Ω;have E:=aj.trans C;refine(FK (ai.ext C) (K.ext E) TW).mono ?_;rintro r aL _ ⟨aq,_,au⟩;obtain⟨v,ba,M,rfl,hm,G,_⟩:=au Ω;rw[TU]at G;obtain rfl:=List.perm_singleton.1 G;rw[bq,br];refine aV (λv av=>v= .bool true/\Ext w av) (λ_ _ h=>h) λaB aw=>?_;rw[bX,bf,am];refine⟨λ_=>?_,λh=>absurd F h⟩;rw[cJ (cs:=#[Δ 1,Δ 0,Δ (-1),Δ (-1)]) Ψ];refine im (f:=fh) (a:=s9) dB.u dc.i Ω F rfl λy gy aM aN H ax=>?_;refine(TV (hm.ext H) ax).mono ?_;rintro _ aO _ ⟨rfl,az⟩;exact aw _ _ ⟨F,((E.trans aq).trans H).trans az⟩
def TY{a:bJ}{cx cy:Bool}{K:x1->Prop}:ad x7 (aO .neq jY cx cy (.agg (fh a).toArray) (.agg (fh a).toArray)) w K=K (.bool false):=by
 have h:=KX (P:=x7) (w:=w) (t:=jY) (n:=4) (cx:=cx) (cy:=cy) Ψ (k:=.i64) (xs:=[a.dr,a.i,a.j,a.v]) (ys:=[a.dr,a.i,a.j,a.v]) F rfl (K:=K);rw[decide_eq_true F]at h;exact h
def TZ{p Y:x1}{ac:Λ}{L:List nI}{Q:x1->x3->Prop}(y:∀J,Ext w J->Q (.bool true) J)(aC:aK .u8 w p ac)(aD:∀b∈ac,0<=b/\b<256)(aE:Seen eL w [Y] L)(aF:∀x∈L,(oH x).ok)(ad:fg w)(ae:Laid w):
  an x7 AR [p,Y] w Q:=by
 refine aA func3 ?_;refine(TX ad ae).mono ?_;rintro _ aa _ ⟨rfl,e⟩;rw[bM,X2,a8];refine(TR (aC.ext e) aD (bE aE e) aF (ad.ext e) (ae.ext e)).mono ?_;rintro _ ab _ ⟨aG,aH⟩;have ah:=e.trans aG;rcases aH with⟨cs,rfl,aL,aN⟩|⟨f,ag,gT,bt,Z,aJ,s,cs,rfl,af,aO,E,z,_⟩
 .rw[fN,fO,fP];refine bu aY.i λap aP aQ G H=>?_;refine b7 (vs:=cs) aY.i aL F aN H λI K aR ai=>?_;rw[bM,V8,bX,dh dm.u];exact y _ (ah.trans (G.put K Ω))
 rw[fN,fO,fP];have aj:cs.length=8/\∀u∈cs,u.oneCell'=true:=by
  obtain⟨A,R,A9,t,B,_⟩:=id z;exact ce.len B.doc
 refine bu aY.i λap aP aQ G H=>?_;refine b7 (vs:=cs) aY.i aj.1 F aj.2 H λI K aR ai=>?_;have N:=G.put K Ω;have aS:=ah.trans N;rw[bM,X2,a8];have aT:=iY.box (z.ext N).ok.2 (Ext.refl _) ai;obtain⟨ak,aU,aW,_⟩:=E.ok;have aX:=E.live.1;obtain⟨A,R,A9,t,B,⟨aZ,_⟩,_⟩:=z.ext N;have a1:=B.fx;have al:s.funs.length<=160:=by have:=aW.funs;omega
 have y:∀J,Ext I J->Q (.bool true) J:=λJ U=>y J (aS.trans U);clear z E B af aO;generalize c4 f=n at*;refine bV.range 5 (λ_ _ O=>Ext I O) Ω (Ext.refl _) ?_ ?_
 rotate_left
 .rintro t4 O a2 r;refine ca Ω ?_;exact y _ r
 rintro l t4 O a2 bw r a6;refine bB Ω ?_;refine(FK (a1.ext r) (aZ.ext r) al).mono ?_;rintro _ bx _ ⟨a7,_,bb⟩;obtain⟨v,ba,M,rfl,hm,bc,bd,_⟩:=bb ⟨Ω,Ω⟩;have be:=TF ak aU Ω bc bd;have ao:=r.trans a7;rw[bq,br];refine(aT.ext ao).load λbz bf=>?_;refine(TL bf ak aX al Ω).mono ?_;rintro bC bg _ ⟨w0,bh,bi,bD,P,_⟩;rw[<-be]at P;have aq:=bh.trans bi;have au:=hm.ext aq;refine aV (λv S=>v= .bool false/\Ext bg S) ?_ λaB bj=>?_
 rotate_left
 .rw[bA,am];refine⟨λh=>absurd F h,λ_=>?_⟩;rw[et dB.u au,et jX.u P,bA];exact bj _ _ ⟨by rw[decide_eq_false λh=>h F],Ext.refl _⟩
 rintro _ S ⟨rfl,V⟩;have W:=au.ext V;rw[a8,et dB.u W];refine bV.range M.length (λ_ _ X=>Ext S X) W.le (Ext.refl _) ?_ ?_
 rotate_left
 .rintro t5 X bk C;refine ca Ω ?_;rw[aM];exact a6 _ _ (((ao.trans aq).trans V).trans C)
 rintro q t5 X bk av C bl;obtain⟨a,aw⟩:=aI (l:=M) av;refine bB Ω ?_;rw[sN (W.ext C) aw];refine bu dc.i λbF bG bH bm bn=>?_;refine b7 (vs:=fh a) dc.i F rfl (pI a) bn λbI bo bJ bp=>?_;have bs:=bm.put bo Ω;intro bK ax _ _;have ay:=(C.trans bs).trans ax;have az:=P.ext (V.trans ay);rw[bN dc.p dc.i F (bp.ext ax).range,dp F jX.u jY.i az av,bN jY.p jY.i F (az.range aw),TY,a8,aM];exact bl _ _ ay
def Ua{p a:x1}{e:Λ}{L:List nI}(f:aK .u8 w p e)(h:∀b∈e,0<=b/\b<256)(q:Seen eL w [a] L)(r:∀x∈L,(oH x).ok)(s:fg w)(y:Laid w):
  an x7 AR [p,a] w λv J=>v= .bool true/\Ext w J:=TZ (λJ U=>⟨F,U⟩) f h q r s y
end Go.Proofs.YtikkpokkcdocoabGreatDoor
