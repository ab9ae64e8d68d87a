/- own texts, made small by a tool (wip/ holds them as they were written): no statement of the seat. -/
import Derived.Test.YtikkpokkcdocoabGreatDoorZd
set_option linter.defProp false
set_option linter.unusedVariables false
set_option linter.unusedSimpArgs false
set_option linter.unnecessarySimpa false
open Array renaming getElem?_eq_some_iff→j9
open Bool renaming not_true→X2,not_false→V8,and_eq_true→V9,eq_iff_iff→U6,true_and→T9
open Decidable renaming not_not→Y3
open Go renaming Value→x1,World→x3,TypeId→p8,IntKind→n9,Program→W9,FuncId→Q4
open Go.Addr renaming add_mid→T4
open Go.Builtin renaming append_→Z5
open Go.Instr renaming loadAt→u5,fieldAt→u6,storeAt→l9,indexAt→c9,buildSlice→Y5
open Go.Proofs.Tryz renaming prog→x7
open Int renaming toNat_natCast→u7,eq_ofNat_of_zero_le→W6
open List renaming getElem?_eq_some_iff→x4,mem_of_getElem?→x5,getElem?_eq_getElem→x6,getElem?_map→x8,getD_eq_getElem?_getD→u4,take_add_one→u9,length_append→r8,length_map→r9,mem_append→p9,replicate→o8,take_length→o9,mem_singleton→j5,length_take→j6,mem_map→c7,eq_nil_of_length_eq_zero→b6,getElem?_set_self→b8,length_cons→b9,length_set→Z0,take_of_length_le→Z2,range→Z4,getElem?_eq_none→Z7,map_append→Z9,getElem?_take_of_lt→Y2,getElem?_set_ne→Y6,append_nil→Y8,ext_getElem?→Y9,getElem?_append_left→X0,getElem?_append_right→X1,getElem?_set→X4,drop_eq_getElem_cons→X5,append_assoc→X6,mem_flatMap→X9,mem_iff_getElem?→W3,mem_range→W8,flatMap_cons→V0,pairwise_iff_getElem→V3,mem_or_eq_of_mem_set→V4,mem_cons→V5,length_eq_one_iff→V7,map_set→T0,mem_filter→T2,map_cons→T3,length_singleton→T7,length_range→S0,getElem_mem→S3,map_map→S6,foldl_cons→S8,length→R2,foldl_append→R3,length_filter_le→Q2
open Nat renaming le_refl→o4,le_trans→X3,zero_add→W0,mul_le_mul_right→V1,mul_one→U7,add_mul→U8,sub_self→U9,pow_le_pow_right→S7,add_assoc→Q1,add_sub_cancel_left→Q3,lt_of_lt_of_le→Q7
open Option renaming toList_some→j4,some→c8,isNone_some→Y0,map_some→Y1,map_eq_some_iff→X7,getD_some→V2,map→U4,isSome_some→S1,isSome_none→R7
open Option.some renaming inj→Z3
set_option maxHeartbeats 16000000
open Option renaming some→σ,none→ν
variable{c k pos v:Int}{a al cs l sc sizes t tl:Λ}{B ag fX g1 ga gt gtb gy j:Nat}{K:x1->x3->Prop}{aQ sv:x1}{J aa ab w:x3}{Q e:p8}{L:List (Λ)}{D:Nat->Prop}
namespace Go.Proofs.YtikkpokkcdocoabGreatDoor
open Go Go.Vc Go.RowKit Go.Proofs Go.Proofs.Tryz
set_option maxRecDepth 100000
def Fy{x:bC}(h:v∈aE x):0<=v/\v<x.un.length:=by
 unfold aE at h;obtain⟨h,_⟩:=T2.1 h;obtain⟨q,a,rfl⟩:=c7.1 h;have:=W8.1 a;omega
def Fz{s:aq}{n:aH}{i:Int}{b m:Nat}{x:bC}(h:vt s n i b m)(e:0<=i)(U:s.vars[i.toNat]?=σ x):(decide (0<=v/\v<m)&&b.testBit v.toNat)=decide (v∈aE x):=by
 obtain⟨_,_,f⟩:=h;obtain⟨rfl,p⟩:=f x e U;by_cases ae:0<=v/\v<x.un.length
 .rw[decide_eq_true ae,T9,p,decide_eq_true (show v.toNat<x.un.length by omega),T9,show((v.toNat:Nat):Int)=v by omega];have:=QE ae;cases a:dropped x.mask v with
  |false=>rw[decide_eq_true (this.2 a)];rfl
  |true=>rw[decide_eq_false λh=>by rw[this.1 h]at a;cases a];rfl
 .rw[decide_eq_false ae,decide_eq_false λh=>ae (Fy h)];rfl
def e1(s:aq)(j:Nat)(tl:Λ):Int:=if(ia s j tl).isSome then nz s j tl else 0
def eI(n:aH)(s:aq)(i v:Int):Int:=if fz n i v then jP s i.toNat v.toNat else 0
def FA{s:aq}(a:bk k sizes s):0<=e1 s j tl/\e1 s j tl<=k:=by
 have:=a.en;unfold e1;cases q:ia s j tl with
 |none=>simp;omega
 |some p=>
  obtain⟨r,f,af,w,m,hm,h,rfl⟩:=yL a q;rw[S1,if_pos F];have e:nz s j tl=f.cs.getD m 0:=by
   unfold nz bo;rw[af];simp only;rw[hm];rfl
  rw[e,u4,x6 h];exact(a.funs f (x5 af)).1.jp _ (S3 h)
def sL{n:aH}{s:aq}{i:Int}(a:bk n.k n.sizes s):0<=eI n s i v/\eI n s i v<=n.k:=by
 have hk:=a.en;have q:=a.vars;unfold eI;split
 .rename_i h;obtain⟨x,e,f,_⟩:=h.var a;obtain⟨z,p⟩:∃z,n.sizes[i.toNat]?=σ z:=⟨_,x6 (by have:=(x4.1 e).1;omega)⟩;have:=(a.var i.toNat x z e p).2.1;unfold jP;rw[e];simp only;rw[u4,x6 f];exact this _ (S3 f)
 .omega
section
variable{w:x3}{ag gT:Nat}{A R:ak}{n:aH}{s:aq}{t:aD}
def FB{aN:x1}(h:bz w ag gT A R n s t)(f:aK .i64 w aN tl)(p:∀e J,Ext w J->K (.tuple #[Δ (e1 s j tl),Δ e]) J):an x7 AX [Γ ag,Δ (j:Int),aN] w K:=by
 refine(yM h f).mono ?_;rintro _ aa _ ⟨rfl,a⟩;have:=p;unfold e1 at this;split
 .rename_i V;rw[if_pos V]at this;exact this 0 aa a
 .rename_i V;rw[if_neg V]at this;exact this 1 aa a
def yT{i:Int}(h:bz w ag gT A R n s t)(f:∀e J,Ext w J->K (.tuple #[Δ (eI n s i v),Δ e]) J):an x7 AW [Γ ag,Δ i,Δ v] w K:=by
 refine(qT h).mono ?_;rintro _ aa _ ⟨rfl,a⟩;have:=f;unfold eI at this;split
 .rename_i V;rw[if_pos V]at this;exact this 0 aa a
 .rename_i V;rw[if_neg V]at this;exact this 1 aa a
def FC{i:Int}(h:bz w ag gT A R n s t):an x7 Jm [Γ ag,Δ i] w λr J=>Ext w J/\∃cap,r= .func (.func wO) #[] cap/\∀l,qV J wO cap l (eI n s i):=by
 refine aA func151 ?_;refine bh λg1 aa B y a=>?_;refine bh λC ab E q f=>?_;rw[jB];have x:=y.trans q;refine⟨x,_,F,λl J v p _=>?_⟩;refine aA func224 ?_;have a:=a;have f:=f;rw[ax Ψ (((a.ext q).ext p).cell F),ax Ψ ((f.ext p).cell F)];refine yT (h.ext (x.trans p)) λe G z=>?_;rw[bq,br];exact⟨F,z⟩
def yU{i:Int}(f:bk n.k n.sizes s)(h:fW n s i=true):0<=i/\∃x,s.vars[i.toNat]?=σ x/\x.gone=0:=by
 unfold fW at h;rw[V9]at h;have h1:=of_decide_eq_true h.1;have:=f.vars;obtain⟨x,e⟩:=aI (l:=s.vars) (i:=i.toNat) Ω;have a:=h.2;unfold jO at a;rw[e]at a;exact⟨h1.1,x,e,by simpa using a⟩
def QN{i:Int}(h:bz w ag gT A R n s t)(q:Laid w):an x7 Iu [Γ ag,Δ i] w λr J=>Ext w J/\(fW n s i=false->r= .tuple #[Δ 0,Δ (-1),Δ 1])/\
  ∀x,fW n s i=true->s.vars[i.toNat]?=σ x->r= .tuple #[Δ (cp n.k (aE x) (eI n s i)).1,Δ (cp n.k (aE x) (eI n s i)).2,Δ 0]:=by
 refine aA func71 ?_;refine(Fx h).mono ?_;rintro _ aa _ ⟨rfl,a⟩;cases ae:fW n s i with
 |false=>
  rw[if_neg Φ,bA,am];exact⟨λ_=>⟨a,λ_=>rfl,λ_ h=>by cases h⟩,λh=>absurd Φ h⟩
 |true=>
  obtain⟨y,x,f,_⟩:=yU h.2.2.2.1 ae;rw[if_pos F,bA,am];refine⟨λh=>absurd F h,λ_=>?_⟩;refine(FC (h.ext a)).mono ?_;rintro _ ab _ ⟨z,cap,rfl,B⟩;have e:=a.trans z;refine(yS (h.ext e) (q.ext e) y f (B _)).mono ?_;rintro _ E _ ⟨C,rfl⟩;rw[bq,br];exact⟨e.trans C,(λh=>by cases h),λG _ p=>by rw[f]at p;cases p;rfl⟩
def l7{f:bS}(h:bz w ag gT A R n s t)(af:s.funs[j]?=σ f):an x7 rq [Γ ag,Δ (j:Int)] w λr J=>Ext w J/\∃g,w.heap.size<=g/\ay .i64 aj J g r f.sc:=by
 have:=(x4.1 af).1;refine aA func76 ?_;refine aV (λv aa=>v= .bool false/\Ext w aa) ?_ ?_
 .rintro _ aa ⟨rfl,a⟩;rw[a8];obtain⟨I,K,M,N,ba,O,L,P,z,Q,S,U,q,e⟩:=(h.ext a).1.parts;obtain⟨y,x⟩:∃y,L[j]?=σ y:=⟨_,x6 (by rw[e.1];omega)⟩;obtain⟨B,_,_⟩:=e.2 j y f x af;rw[aT cN.p 3 z F,dp F fJ.u fk.i q (by rw[e.1];omega),aW fk.p F,ax Ψ (q.range x 0 _ F)];have V:f.sc.length<=6:=(h.2.2.2.1.funs f (x5 af)).1.scope.2;refine(lP B.ls Ω).mono ?_;rintro v ab _ ⟨C,g,W,hm⟩;have:=a.size;exact⟨a.trans C,g,Ω,hm⟩
 intro aB E;rw[aP,am];refine⟨λX=>Ω,λ_=>?_⟩;refine(sH h).mono ?_;rintro _ Y _ ⟨rfl,G⟩;rw[cO];exact E _ _ ⟨by rw[decide_eq_false Ω],G⟩
structure kO(s:aq)(j pos v:Int)(f:bS)(u:Int)(x:bC):Prop where
 yV:0<=j
 af:s.funs[j.toNat]?=σ f
 live:f.live≠0
 eo:0<=pos
 hu:f.sc[pos.toNat]?=σ u
 pG:0<=u
 U:s.vars[u.toNat]?=σ x
 ae:v∈aE x
def FD{j:Int}(h:bz w ag gT A R n s t):an x7 Jt [Γ ag,Δ j,Δ pos,Δ v] w λr J=>Ext w J/\∃e:Int,r=Δ e/\(e=0\/e=1)/\(e=0↔ ∃f u x,kO s j pos v f u x):=by
 have aq:=h.2.2.2.1.vars;refine aA func160 ?_;rw[dh dm.u];simp only[Y0,a8];have key:∀(K:x1->x3->Prop),(∀r J,Ext w J->(∀f,0<=j->s.funs[j.toNat]?=σ f->aK .i64 J r f.sc)->K r J)->an x7 rq [Γ ag,Δ j] w K:=λK M=>by
  by_cases N:0<=j/\j<s.funs.length
  .obtain⟨f,af⟩:=aI (l:=s.funs) (i:=j.toNat) Ω;have:=l7 h af;rw[show((j.toNat:Nat):Int)=j by omega]at this;refine this.mono ?_;rintro r aa _ ⟨p,g,_,hm⟩;exact M r aa p λq _ O=>by rw[af]at O;cases O;exact hm.ls
  .refine (Ft h N).mono ?_;rintro r aa _ ⟨rfl,p⟩;exact M _ aa p λf C af=>absurd ⟨C,by have:=(x4.1 af).1;omega⟩ N
 refine key _ λr aa p ah=>?_;refine aV (λai ab=>∃b,ai= .bool b/\(b=false↔ ∃f u x,kO s j pos v f u x)/\Ext w ab) ?_ ?_
 .rintro _ ab ⟨b,rfl,E,P⟩;rw[cd];refine⟨λQ=>⟨P,1,F,.inr F,⟨(λh=>by cases h),λh=>by rw[E.2 h]at Q;cases Q⟩⟩,λaf=>⟨P,0,F,.inl F,⟨λ_=>E.1 af,λ_=>rfl⟩⟩⟩
 intro aB G;refine(sI (h.ext p)).mono ?_;rintro _ au _ ⟨rfl,S⟩;have z:=p.trans S;rw[bM,cd];refine⟨λH=>G _ _ ⟨true,F,⟨(λh=>by cases h),λ⟨f,u,x,a⟩=>?_⟩,z⟩,λI=>?_⟩
 .rw[decide_eq_true a.yV,T9]at H;unfold fd at H;rw[a.af]at H;simp[a.live]at H
 have I:0<=j/\fd s j.toNat=true:=by simpa using I
 obtain⟨C,B⟩:=I;obtain⟨f,af,ak⟩:∃f,s.funs[j.toNat]?=σ f/\f.live≠0:=by
  unfold fd at B;cases af:s.funs[j.toNat]? with
  |none=>rw[af]at B;cases B
  |some f=>rw[af]at B;exact⟨f,F,by simpa using B⟩
 have V:=(ah f C af).ext S;have W:=(h.2.2.2.1.funs f (x5 af)).1;have same:∀{q u x},kO s j pos v q u x->q=f:=λa=>by have:=a.af;rw[af]at this;cases this;rfl
 rw[aP,am];refine⟨λav=>G _ _ ⟨true,F,⟨(λh=>by cases h),λ⟨f,u,x,a⟩=>by have:=a.eo;omega⟩,z⟩,λaw=>?_⟩;rw[aX ao.u V,cO,am];refine⟨λax=>G _ _ ⟨true,F,⟨(λh=>by cases h),λ⟨q,u,x,a⟩=>?_⟩,z⟩,λay=>?_⟩
 .obtain rfl:=same a;have:=(x4.1 a.hu).1;omega
 obtain⟨u,hu⟩:=aI (l:=f.sc) (i:=pos.toNat) Ω;have X:=x5 hu;have Y:=(W.scope.1 u X).1;have az:=W.vars u X;obtain⟨x,L⟩:=aI (l:=s.vars) (i:=u.toNat) Ω;rw[gf (y:=pos) (i:=pos.toNat) Ω ao.u aj.i Ψ V hu];refine(kN (i:=u) (h.ext z)).mono ?_;rintro _ aC _ ⟨⟨b,m,rfl,Z⟩,al⟩;refine(Fj Z.1).mono ?_;rintro _ aD _ ⟨rfl,ap⟩;rw[Fz Z Y L,bM];refine G _ _ ⟨_,F,⟨λE=>⟨f,u,x,C,af,ak,Ω,hu,Y,L,by simpa using E⟩,λ⟨q,u',aE,a⟩=>?_⟩,(z.trans al).trans ap⟩;obtain rfl:=same a;have ac:=a.hu;rw[hu]at ac;cases ac;have ad:=a.U;rw[L]at ad;cases ad;rw[decide_eq_true a.ae];rfl
end
def js(n:aH)(s:aq)(j:Nat)(pos v o u:Int):Int:=min (e1 s j (if pos=1 then[u,v]else[v,u])+eI n s o u) n.k
section
variable{w:x3}{ag gT:Nat}{A R:ak}{n:aH}{s:aq}{t:aD}
def QO{o:Int}{E G H I:Nat}(h:bz w ag gT A R n s t)(h1:ah w g1 aj [Δ v])(M:ah w E aj [Δ pos])(q:ah w G dm [Γ ag])(N:ah w H aj [Δ (j:Int)])(O:ah w I aj [Δ o])(l:Λ):
  qV w Ka #[Γ g1,Γ E,Γ G,Γ H,Γ I] l (js n s j pos v o):=λJ u f _=>by
 have h:=h.ext f;refine aA func226 ?_;rw[ax Ψ ((h1.ext f).cell F)];refine pg (l:=[v,u]) ao.u aj.i Ξ F Ψ λW ga aa X x P=>?_;have K:=f.trans x;refine aV (λr ab=>Ext J ab/\aK .i64 ab r (if pos=1 then[u,v]else[v,u])) ?_ ?_
 .rintro aN ab ⟨a,Q⟩;have y:=f.trans a;rw[ax Ψ ((q.ext y).cell F),ax Ψ ((N.ext y).cell F)];refine FB (h.ext a) Q λe Y p=>?_;have z:=y.trans p;rw[bq,br,ax Ψ ((q.ext z).cell F),ax Ψ ((O.ext z).cell F)];refine yT (h.ext (a.trans p)) λZ ac B=>?_;have S:=z.trans B;rw[bq,br,ax Ψ ((q.ext S).cell F)];refine(Fw (h.ext ((a.trans p).trans B)) (FA h.2.2.2.1) (sL h.2.2.2.1)).mono ?_;rintro _ ad _ ⟨rfl,U⟩;exact⟨F,((a.trans p).trans B).trans U⟩
 intro aB L;rw[ax Ψ ((M.ext K).cell F),bf,am];refine⟨λC=>?_,λC=>L _ _ ⟨x,by rw[if_neg C];exact P.ls⟩⟩;rw[ax Ψ ((h1.ext K).cell F)];refine pg (l:=[u,v]) ao.u aj.i Ξ F Ψ λae af ab ai a V=>?_;exact L _ _ ⟨x.trans a,by rw[if_pos C];exact V.ls⟩
def FE{o:Int}{f:bS}{x:bC}(h:bz w ag gT A R n s t)(ad:Laid w)(af:s.funs[j]?=σ f)(aH:0<=pos/\pos<=1)(aI:f.sc.length=2)(M:f.sc[(1-pos).toNat]?=σ o)(U:s.vars[o.toNat]?=σ x):
  an x7 Jr [Γ ag,Δ (j:Int),Δ pos,Δ v] w λr J=>Ext w J/\r= .tuple #[Δ (cp n.k (aE x) (js n s j pos v o)).1,Δ (cp n.k (aE x) (js n s j pos v o)).2]:=by
 have ae:=((h.2.2.2.1.funs f (x5 af)).1.scope.1 o (x5 M)).1;have:j<4611686018427387904:=by
  have:=qS h.2.1 h.2.2.1;have:=yH af;have:=(x4.1 af).1;have aM:j<=eZ s j:=by
   unfold eZ;have:j<=((s.funs.take j).flatMap fv).length:=by
    have ai:∀(L:List bS),L.length<=(L.flatMap fv).length:=λL=>by
     induction L with
     |nil=>exact o4 _
     |cons a L aN=>rw[V0,r8,b9];have:(fv a).length=a.cs.length+1:=rfl;omega
    have ak:=ai (s.funs.take j);rw[j6]at ak;omega
   omega
  omega
 refine aA func157 ?_;refine bh λal aa aO am E=>?_;refine bh λap ab aP X G=>?_;refine bh λaQ aR aS N H=>?_;refine bh λg1 O aT I P=>?_;have Y:=((am.trans X).trans N).trans I;have E:ah O al dm [Γ ag]:=((E.ext X).ext N).ext I;have G:ah O ap aj [Δ (j:Int)]:=(G.ext N).ext I;have H:=H.ext I;have P:=P;refine aV (λr Q=>Ext O Q/\∃e,r=Γ e/\ah Q e aj [Δ o]) ?_ ?_
 .rintro _ Q ⟨B,e,rfl,C⟩;have K:=Y.trans B;rw[ax Ψ ((E.ext B).cell F),ax Ψ (C.cell F),jB];refine(yS (h.ext K) (ad.ext K) ae U (QO (h.ext K) (P.ext B) (H.ext B) (E.ext B) (G.ext B) C _)).mono ?_;rintro _ aU _ ⟨aq,rfl⟩;rw[bq,br];exact⟨K.trans aq,F⟩
 intro aB Z aW p _ _;have ac:=Y.trans p;rw[ax Ψ ((E.ext p).cell F),ax Ψ ((G.ext p).cell F),ax Ψ ((H.ext p).cell F),dI,wrap_i64 Ω Ω];refine⟨?_,?_⟩
 .refine (l7 (h.ext ac) af).mono ?_;rintro r au _ ⟨q,av,aw,S⟩;refine⟨.inl q,?_⟩;refine qm Ω ao.u aj.i S.ls M λaX co ay=>?_;rw[ax Ψ ay];refine bu aj.i λe az aC z C=>?_;refine⟨.inl z,.inl (q.trans z),?_⟩;have:=((p.trans q).trans z).size;refine bp aj.i F rfl C Φ λaD V aF W=>?_;have:=(p.trans q).size;exact Z _ _ ⟨((p.trans q).trans z).then V λr aG he=>by have he:r=e:=he;omega,e,F,W⟩
 .refine bu aj.i λe az aC z C=>?_;refine⟨.inl z,?_⟩;refine(l7 (h.ext (ac.trans z)) af).mono ?_;rintro r au _ ⟨q,av,aw,S⟩;refine⟨.inl (z.trans q),?_⟩;rw[gf (y:=1-pos) (i:=(1-pos).toNat) Ω ao.u aj.i Ψ S.ls M];have:=p.size;refine bp aj.i F rfl (C.ext q) Φ λaD V aF W=>?_;exact Z _ _ ⟨((p.trans z).trans q).then V λr aG he=>by have he:r=e:=he;omega,e,F,W⟩
def FF(n:aH)(s:aq)(j pos v:Int)(r:x1):Prop:=((¬∃f u x,kO s j pos v f u x)->r= .tuple #[Δ 0,Δ (-1),Δ 1])/\∀f u x,kO s j pos v f u x->(f.sc.length≠2->r= .tuple #[Δ 0,Δ (-1),Δ 1])/\
 (f.sc.length=2->∀o y,f.sc[(1-pos).toNat]?=σ o->s.vars[o.toNat]?=σ y->r= .tuple #[Δ (cp n.k (aE y) (js n s j.toNat pos v o)).1,Δ (cp n.k (aE y) (js n s j.toNat pos v o)).2,Δ 0])
def kO.same{j:Int}{f a:bS}{u u':Int}{x e:bC}(h:kO s j pos v f u x)(k:kO s j pos v a u' e):a=f/\u'=u/\e=x:=by
 have p:=h.af;rw[k.af]at p;cases p;have q:=h.hu;rw[k.hu]at q;cases q;have r:=h.U;rw[k.U]at r;cases r;exact⟨F,F,F⟩
def QP{j:Int}(h:bz w ag gT A R n s t)(O:Laid w):an x7 Iz [Γ ag,Δ j,Δ pos,Δ v] w λr J=>Ext w J/\FF n s j pos v r:=by
 refine aA func78 ?_;refine(FD h).mono ?_;rintro _ aa _ ⟨C,e,rfl,he,G⟩;rw[bA,am];refine⟨λp=>⟨C,λ_=>by rw[he.resolve_left p],λf u x a=>absurd (G.2 ⟨f,u,x,a⟩) p⟩,λP=>?_⟩;obtain⟨f,u,x,a⟩:=G.1 (Y3.1 P);have H:=l7 (h.ext C) a.af;have:=a.yV;rw[show((j.toNat:Nat):Int)=j by omega]at H;refine H.mono ?_;rintro r ab _ ⟨Q,Z,_,S⟩;have q:=C.trans Q;rw[aX ao.u S.ls,bA,am];refine⟨λp=>⟨q,λ_=>rfl,λU u' V E=>⟨λ_=>rfl,λz=>?_⟩⟩,λz=>?_⟩
 .obtain⟨rfl,_⟩:=a.same E;omega
 have z:f.sc.length=2:=Ω
 have:=(x4.1 a.hu).1;have:=a.eo;obtain⟨o,B⟩:=aI (l:=f.sc) (i:=(1-pos).toNat) Ω;have I:=(h.2.2.2.1.funs f (x5 a.af)).1;have:=h.2.2.2.1.vars;have:=I.vars o (x5 B);have:=(I.scope.1 o (x5 B)).1;obtain⟨y,K⟩:=aI (l:=s.vars) (i:=o.toNat) Ω;have L:=FE (v:=v) (h.ext q) (O.ext q) a.af ⟨a.eo,Ω⟩ z B K;rw[show((j.toNat:Nat):Int)=j by omega]at L;refine L.mono ?_;rintro _ aj _ ⟨W,rfl⟩;rw[bq,br];refine⟨q.trans W,λX=>absurd ⟨f,u,x,a⟩ X,λU u' V E=>?_⟩;obtain⟨rfl,_⟩:=a.same E;refine⟨λp=>absurd z p,λ_ o' ak M N=>?_⟩;rw[B]at M;cases M;rw[K]at N;cases N;rfl
end
def QQ{x:Int}(h:aK .i64 w sv l):an x7 wI [sv,Δ x] w λv J=>Ext w J/\∃r:Int,v=Δ r/\(x∉l->r= -1)/\(x∈l->0<=r/\l[r.toNat]?=σ x):=by
 refine aA func53 ?_;rw[aX ao.u h];refine bV.range l.length (λi _ aa=>Ext w aa/\x∉l.take i) h.le ⟨Ext.refl _,Ξ⟩ ?_ ?_
 .rintro i _ aa k hi ⟨a,e⟩ hk;refine bB Ω ?_;obtain⟨y,f⟩:=aI (l:=l) hi;rw[be ao.u aj.i Ψ (h.ext a) f,bf,am];refine⟨λhe=>⟨a,i,F,λhm=>absurd (he▸x5 f) hm,λ_=>⟨Ω,by rw[he,u7];exact f⟩⟩,λhe=>?_⟩;rw[aM];refine hk _ _ ⟨a,λhm=>?_⟩;rw[u9,f]at hm;rcases p9.1 hm with hm|hm
  .exact e hm
  .simp at hm;exact he hm
 .rintro _ aa k ⟨a,e⟩;rw[o9]at e;rw[aP,am];exact⟨λh=>Ω,λ_=>⟨a,-1,F,λ_=>rfl,λh=>absurd h e⟩⟩
def QR{x:Int}(h:aK .i64 w sv l):an x7 HR [sv,Δ x] w λv J=>v= .bool (decide (x∈l))/\Ext w J:=by
 refine aA func16 ?_;refine(QQ h).mono ?_;rintro _ aa _ ⟨U,r,rfl,a,e⟩;rw[cO];refine⟨?_,U⟩;congr 1;refine decide_eq_decide.2 ⟨λp=>?_,λhm=>(e hm).1⟩;exact Y3.1 λf=>by have:=a f;omega
def QS{cap:Array x1}{p:Int->Bool}(h:aK .i64 w sv l)(s:∀J x,Ext w J->x∈l->an x7 fX (Δ x::cap.toList) J λr z=>r= .bool (p x)/\Ext J z):
  an x7 wM [sv,.func (.func fX) #[] cap] w λv J=>Ext w J/\((v=Δ (-1)/\∀x∈l,p x=false)\/∃i:Nat,v=Δ (i:Int)/\i<l.length/\(∀x∈l.take i,p x=false)/\∀x,l[i]?=σ x->p x=true):=by
 refine aA func133 ?_;rw[aX ao.u h];refine bV.range l.length (λi _ aa=>Ext w aa/\∀x∈l.take i,p x=false) h.le ⟨Ext.refl _,Ξ⟩ ?_ ?_
 .rintro i _ aa k hi ⟨a,e⟩ hk;refine bB Ω ?_;obtain⟨y,f⟩:=aI (l:=l) hi;rw[be ao.u aj.i Ψ (h.ext a) f];refine an.mono (s aa y a (x5 f)) ?_;rintro _ ab _ ⟨rfl,q⟩;rw[cd];refine⟨λA=>⟨a.trans q,.inr ⟨i,F,hi,e,λx U=>by rw[f]at U;cases U;exact A⟩⟩,λaf=>?_⟩;rw[aM];refine hk _ _ ⟨a.trans q,λx U=>?_⟩;rw[u9,f]at U;rcases p9.1 U with U|U
  .exact e x U
  .simp at U;subst U;exact af
 .rintro _ aa k ⟨a,e⟩;rw[o9]at e;rw[aP,am];exact⟨λh=>Ω,λ_=>⟨a,.inl ⟨F,e⟩⟩⟩
def FG{g:Nat}{cap:Array x1}{p:Int->Bool}(h:ay .i64 e w g sv l)(aJ:l.length<=100000000)(Q:∀J x,ai (λr=>leads sv r) w J->x∈l->an x7 fX (Δ x::cap.toList) J λr Y=>r= .bool (p x)/\Ext J Y):
  an x7 In [sv,.func (.func fX) #[] cap] w λv J=>ai (λr=>leads sv r) w J/\ay .i64 e J g v (l.filter λx=>!p x)/\∀r,leads v r->leads sv r:=by
 refine aA func62 ?_;refine(QS h.ls λJ x U=>Q J x (U.ac _)).mono ?_;rintro _ aa _ ⟨B,⟨rfl,K⟩|⟨i,rfl,hi,K,Z⟩⟩
 .rw[bf,am];refine⟨λ_=>⟨B.ac _,?_⟩,λh=>absurd F h⟩;rw[List.filter_eq_self.2 λx U=>by rw[K x U];rfl];exact⟨h.ext B,λ_ h=>h⟩
 rw[bf,am];refine⟨λh=>Ω,λ_=>?_⟩;rw[aM,wrap_i64 Ω Ω];obtain⟨n,L⟩:∃n,l.length=n:=⟨_,F⟩;obtain⟨s,rfl⟩:∃s,sv= .slice (σ ⟨g,0,ν⟩) n s:=by
  obtain⟨_,⟨_,h1⟩|⟨s,cs,h1,_⟩⟩:=id h
  .omega
  .exact⟨s,by rw[h1,L]⟩
 obtain⟨_,_,_,_,aK,ab,_⟩:=si h Ω;have R:∀r,r=g->leads (.slice (σ ⟨g,0,ν⟩) n s) r:=λr M=>⟨_,_,_,F,M.symm⟩;have ad:(l.take (i+1)).filter (λx=>!p x)=l.take i:=by
  obtain⟨y,z⟩:=aI (l:=l) hi;rw[u9,z,List.filter_append,List.filter_eq_self.2 λx U=>by rw[K x U];rfl];simp[Z y z]
 refine⟨λN O C=>∃(q j:Nat)(f:Λ),N=Δ (q:Int)/\O=Δ (j:Int)/\q<j/\j<=n/\ai (λr=>r=g) w C/\ay .i64 e C g (.slice (σ ⟨g,0,ν⟩) n s) f/\f.length=n/\f.take q=(l.take j).filter (λx=>!p x)/\∀k,j<=k->f[k]?=l[k]?,
  λ_ O _=>n-(bT O).toNat,⟨i,i+1,l,F,F,Ω,Ω,B.ac _,h.ext B,L,ad.symm,λ_ _=>rfl⟩,?_⟩
 rintro _ _ C ⟨q,j,f,rfl,rfl,aL,aN,E,G,S,A,P⟩;have aO:q=((l.take j).filter λx=>!p x).length:=by rw[<-A,j6];omega
 rw[ii ao.u,aP,am];refine⟨λae=>?_,λaQ=>?_⟩
 .have ae:j<n:=Ω
  obtain⟨y,z⟩:=aI (l:=l) (i:=j) Ω;have ag:f[j]?=σ y:=by rw[P j (o4 _),z]
  refine aV (λN H=>∃(q:Nat)(f:Λ),N=Δ (q:Int)/\q<j+1/\ai (λr=>r=g) w H/\ay .i64 e H g (.slice (σ ⟨g,0,ν⟩) n s) f/\f.length=n/\f.take q=(l.take (j+1)).filter (λx=>!p x)/\∀k,j+1<=k->f[k]?=l[k]?) ?_ ?_
  .rintro _ H ⟨q,f,rfl,h1,ah,ak,al,ap,aq⟩;rw[aM,wrap_i64 Ω Ω];exact⟨⟨q,j+1,f,F,F,h1,Ω,ah,ak,al,ap,aq⟩,by simp only[bT];omega⟩
  intro aB V;rw[be ao.u aj.i Ψ G.ls ag];refine an.mono (Q C y (E.mono λr _=>R r) (x5 z)) ?_;rintro _ H _ ⟨rfl,I⟩;have W:(l.take (j+1)).filter (λx=>!p x)=(l.take j).filter (λx=>!p x)++[y].filter (λx=>!p x):=by rw[u9,z,List.filter_append];rfl
  rw[bM,cd];refine⟨λau=>?_,λaf=>?_⟩
  .have X:=G.ext I;rw[iK F ao.u aj.i X Ω];refine iL aj.i X Ω λaR av aS aw=>?_;rw[aM,wrap_i64 Ω Ω];refine V _ _ ⟨q+1,_,F,Ω,(E.trans (I.ac _)).trans av,aw,by simpa using S,?_,λk hk=>?_⟩
   .rw[W,u9,b8 Ω,List.take_set_of_le (o4 _),A];simp only[j4];rw[show[y].filter (λx=>!p x)=[y] by simpa using au]
   .rw[Y6 Ω];exact P k Ω
  .refine V _ _ ⟨q,f,F,Ω,E.trans (I.ac _),G.ext I,S,?_,λk hk=>P k Ω⟩;rw[W,show[y].filter (λx=>!p x)=[] by simpa using af,Y8];exact A
 .have ax:j=n:=Ω
  subst ax;rw[<-L,o9]at A;obtain⟨_,_,cs,az,_,_,aT,aC⟩:=si G Ω;simp only[maxLen]at ab;rw[ij ao.u aj.i qf ky ff Ω Ω Ω,if_neg Ω];have aD:U4 (λx:Addr=>x.add (q*1)) (σ ⟨g,0,ν⟩)=σ ⟨g,q,ν⟩:=by simp[T4]
  rw[aD];refine BZ ao.u aj.i F rfl az Ω Ω λaU aE aW aF=>?_;rw[ij ao.u aj.i kx qg ff Ω Ω Ω,if_neg Ω];have aG:U4 (λx:Addr=>x.add (0*1)) (σ ⟨g,0,ν⟩)=σ ⟨g,0,ν⟩:=by simp[T4]
  rw[aG];refine⟨(E.trans aE).mono λr _=>R r,?_⟩;have aX:(l.filter λx=>!p x).length=q:=by rw[<-A,j6];omega
  rw[<-A,Nat.sub_zero];refine⟨?_,λr M=>by obtain⟨a,_,_,e,aH⟩:=M;cases e;exact⟨_,_,_,F,aH⟩⟩;refine ay.of (n:=q) ⟨Θ,.inr ⟨s,_,Ξ,aF,Ω,by simp only[maxLen];omega,by rw[mp];omega,?_⟩⟩;rw[U7];apply Y9;intro k;by_cases hk:k<q
  .rw[Y2 hk,nY _ _ _ Θ,if_neg Ω,ints,x8,Y2 hk];have:(cs.take j)[k]?=(ints .i64 f)[k]?:=by rw[aC]
   rw[Y2 Ω,ints,x8]at this;exact this
  .rw[Z7 Θ,Z7 Θ]
def lq(s:aq)(i:Int)(j:Nat):Bool:=match s.funs[j]? with
 |some f=>decide (f.live≠0)&&decide (i∈f.sc)
 |none=>false
def jt(s:aq)(i:Int)(m:Nat):Λ:=((Z4 m).filter (lq s i)).map λj:Nat=>(j:Int)
def QT{gT:Nat}{A R:ak}{n:aH}{s:aq}{t:aD}{i:Int}(h:bz w ag gT A R n s t):an x7 Jp [Γ ag,Δ i] w λv J=>Ext w J/\∃g,ay .i64 aj J g v (jt s i s.funs.length)/\∀r,leads v r->w.heap.size<=r:=by
 have aw:=qS h.2.1 h.2.2.1;have az:s.funs.length<=100000000:=by
  have h1:=sy s;have O:∀(L:List bS),L.length<=(L.flatMap fv).length:=λL=>by
   induction L with
   |nil=>exact o4 _
   |cons a L aC=>rw[V0,r8,b9];have:(fv a).length=a.cs.length+1:=rfl;omega
  have aE:=O s.funs;omega
 refine aA func154 ?_;refine(sH h).mono ?_;rintro _ aa _ ⟨rfl,P⟩;refine bV.range s.funs.length (λj out ab=>Ext w ab/\∃g,ay .i64 aj ab g out (jt s i j)/\∀r,leads out r->w.heap.size<=r) Ω ⟨P,0,ay.nil _ _ _ _,λr C=>by obtain⟨a,n,c,Q,aF⟩:=C;cases Q⟩ ?_ ?_
 .rintro j out ab S U ⟨q,g,hm,z⟩ V;obtain⟨f,af⟩:=aI (l:=s.funs) U;have H:jt s i (j+1)=if lq s i j=true then jt s i j++[(j:Int)]else jt s i j:=by
   unfold jt;rw[List.range_succ,List.filter_append];cases W:lq s i j<;>simp[W]
  refine bB Ω ?_;refine aV (λout x=>Ext w x/\∃g,ay .i64 aj x g out (jt s i (j+1))/\∀r,leads out r->w.heap.size<=r) ?_ ?_
  .rintro out x X;rw[aM];exact V _ _ X
  intro aB I;refine aV (λr x=>r= .bool (lq s i j)/\Ext ab x) ?_ ?_
  .rintro _ x ⟨rfl,e⟩;rw[cd];refine⟨λY=>?_,λaf=>I _ _ ⟨q.trans e,g,by rw[H,if_neg (by rw[af];decide)];exact hm.ext e,z⟩⟩;refine eE ao.u aj.i F λv4 aG Z aJ B ac=>?_;have aK:(jt s i j).length<=j:=by unfold jt;rw[r9];have:=Q2 (lq s i) (Z4 j);rw[S0]at this;exact this
   refine iU ao.u aj.i F ((hm.ext e).ext B) ac.ls Θ Θ λv5 ad aL ae ah ai=>?_;have z3:=q.size;have al:=((q.trans e).trans B).then ai λr C he=>by have:=z r he;omega
   have z4:=((q.trans e).trans B).size;exact I _ _ ⟨al,ad,by rw[H,if_pos Y];exact ae,λr C=>(ah r C).elim (z r) λh=>Ω⟩
  intro aN K;refine(sI (h.ext q)).mono ?_;rintro _ x _ ⟨rfl,e⟩;rw[decide_eq_true Ω,T9,u7];have ap:fd s j=decide (f.live≠0):=by unfold fd;rw[af]
  rw[ap,am];refine⟨λE=>?_,λE=>K _ _ ⟨by unfold lq;rw[af];simp only;rw[decide_eq_false E];rfl,e⟩⟩;obtain⟨aO,aQ,aR,aS,ba,aU,L,aX,au,aY,aZ,a1,M,G⟩:=(h.ext (q.trans e)).1.parts;obtain⟨y,N⟩:∃y,L[j]?=σ y:=⟨_,x6 (by rw[G.1];omega)⟩;obtain⟨av,_,_⟩:=G.2 j y f N af;rw[aT cN.p 3 au F,dp F fJ.u fk.i M (by rw[G.1];omega),aW fk.p F,ax Ψ (M.range N 0 _ F)];refine(QR av.ls).mono ?_;rintro _ Z _ ⟨rfl,B⟩;exact K _ _ ⟨by unfold lq;rw[af];simp only;rw[decide_eq_true E,T9],e.trans B⟩
 .rintro out ab S ⟨q,g,hm,z⟩;rw[aP,am];exact⟨λh=>Ω,λ_=>⟨q,g,hm,z⟩⟩
def ow(s:aq)(j:Int):Bool:=match s.funs[j.toNat]? with
 |some f=>decide (f.sc.length=2)
 |none=>false
def lr(s:aq)(i:Int):Λ:=(jt s i s.funs.length).filter (ow s)
def gH(n:aH)(s:aq)(i v j:Int):Int:=match s.funs[j.toNat]? with
 |some f=>match f.sc[(1-fu f.sc i).toNat]? with
  |some o=>match s.vars[o.toNat]? with
   |some x=>(cp n.k (aE x) (js n s j.toNat (fu f.sc i) v o)).1
   |none=>0
  |none=>0
 |none=>0
def nB(n:aH)(s:aq)(i v:Int):Int:=(lr s i).foldl (λc j=>min (c+gH n s i v j) n.k) (eI n s i v)
def yW{of:Int->Int}(hk:0<=k)(h:∀v∈l,0<=of v/\of v<=k):0<=(cp k l of).1/\(cp k l of).1<=k:=by
 unfold cp;have:∀(l:Λ)(p:Int×Int),(0<=p.1/\p.1<=k)->(∀v∈l,0<=of v/\of v<=k)->0<=(l.foldl (ix of) p).1/\(l.foldl (ix of) p).1<=k:=λl=>by
  induction l with
  |nil=>exact λp a _=>a
  |cons v l f=>
   intro p a e;refine f _ ?_ λu hu=>e u (.tail _ hu);unfold ix;split
   .exact e v (.head _)
   .exact a
 exact this l (k,-1) ⟨hk,Int.le_refl _⟩ h
def yX{n:aH}{s:aq}{o u:Int}(a:bk n.k n.sizes s):0<=js n s j pos v o u/\js n s j pos v o u<=n.k:=by
 have:=FA (j:=j) (tl:=if pos=1 then[u,v]else[v,u]) a;have:=sL (i:=o) (v:=u) a;have:=a.en;unfold js;omega
def QU{n:aH}{s:aq}{i j:Int}(p:bk n.k n.sizes s)(h:j∈lr s i):0<=j/\∃f,s.funs[j.toNat]?=σ f/\f.live≠0/\i∈f.sc/\f.sc.length=2:=by
 unfold lr jt at h;obtain⟨h1,e⟩:=T2.1 h;obtain⟨q,a,rfl⟩:=c7.1 h1;obtain⟨_,a⟩:=T2.1 a;unfold lq at a;unfold ow at e;rw[u7]at e;cases af:s.funs[q]? with
 |none=>rw[af]at a;cases a
 |some f=>
  rw[af]at a e;simp only[V9,decide_eq_true_eq]at a e;exact⟨Ω,f,by rw[u7];exact af,a.1,a.2,e⟩
section
variable{w:x3}{ag gT:Nat}{A R:ak}{n:aH}{s:aq}{t:aD}
def QV{i:Int}(a:bk n.k n.sizes s)(m:Nat):0<=((lr s i).take m).foldl (λc j=>min (c+gH n s i v j) n.k) (eI n s i v)/\((lr s i).take m).foldl (λc j=>min (c+gH n s i v j) n.k) (eI n s i v)<=n.k:=by
 have hk:=a.en;have e:∀j,0<=gH n s i v j/\gH n s i v j<=n.k:=λj=>by
  unfold gH;split
  .split
   .split
    .exact yW Ω λu _=>yX a
    .omega
   .omega
  .omega
 have:∀(l:Λ)(c:Int),(0<=c/\c<=n.k)->0<=l.foldl (λc j=>min (c+gH n s i v j) n.k) c/\l.foldl (λc j=>min (c+gH n s i v j) n.k) c<=n.k:=λl=>by
  induction l with
  |nil=>exact λc h=>h
  |cons j l f=>exact λc h=>f (min (c+gH n s i v j) n.k) (by have:=e j;omega)
 exact this _ _ (sL a)
def QW{i:Int}{N O P aq:Nat}{Q:x1}{cap:Array x1}(h:bz w ag gT A R n s t)(au:Laid w)(h1:ah w g1 rv [.func (.func fX) #[] cap])(av:∀l,qV w fX cap l (eI n s i))(aw:ah w N ao [Q])(S:ay .i64 aj w aq Q (lr s i))(C:ah w O dm [Γ ag])(az:ah w P aj [Δ i])(l:Λ):
  qV w Jq #[Γ g1,Γ N,Γ O,Γ P] l (nB n s i):=λJ v E ae=>by
 refine aA func156 ?_;rw[ax Ψ ((h1.ext E).cell F)];refine an.mono (av [v] J v E (.head _)) ?_;rintro _ aa _ ⟨rfl,U⟩;have G:=E.trans U;have H:=S.ext G;obtain⟨_,_,_,aK⟩:=c6 H.ls;rw[ax Ψ ((aw.ext G).cell F),aX ao.u H.ls];have a:=h.2.2.2.1;refine bV.range (lr s i).length (λq bb ab=>Ext aa ab/\bb=Δ (((lr s i).take q).foldl (λc j=>min (c+gH n s i v j) n.k) (eI n s i v))) H.ls.le ⟨Ext.refl _,F⟩ ?_ ?_
 .rintro q _ ab aB aC ⟨x,rfl⟩ aD;obtain⟨j,I⟩:=aI (l:=(lr s i)) aC;obtain⟨aL,f,af,aN,aF,aG⟩:=QU a (x5 I);have K:=(a.funs f (x5 af)).1;have V:=yc K.up;obtain⟨p,W⟩:=W3.1 aF;have:=(x4.1 W).1;have X:=xZ V W;obtain⟨o,z⟩:=aI (l:=f.sc) (i:=(1-(p:Int)).toNat) Ω;have:=a.vars;have:=K.vars o (x5 z);have:=(K.scope.1 o (x5 z)).1;obtain⟨y,Y⟩:=aI (l:=s.vars) (i:=o.toNat) Ω;have Z:=G.trans x;refine bB Ω ?_;rw[be ao.u aj.i Ψ (S.ext Z).ls I];intro aT ac _ _;have e:=Z.trans ac;rw[ax Ψ ((C.ext e).cell F),ax Ψ ((C.ext e).cell F),ax Ψ ((az.ext e).cell F)];have ad:=l7 (h.ext e) af;rw[show((j.toNat:Nat):Int)=j by omega]at ad;refine ad.mono ?_;rintro r aU _ ⟨B,aV,_,aH⟩;refine⟨.inl B,?_⟩;refine(u1 aH.ls V).mono ?_;rintro _ aW _ ⟨rfl,L⟩;refine⟨.inl (B.trans L),?_⟩;rw[X];have M:=(e.trans B).trans L;have ai:=FE (v:=v) (h.ext M) (au.ext M) af ⟨Ω,Ω⟩ aG z Y;rw[show((j.toNat:Nat):Int)=j by omega]at ai;refine ai.mono ?_;rintro _ aY _ ⟨ak,rfl⟩;have al:=M.trans ak;have ap:gH n s i v j=(cp n.k (aE y) (js n s j.toNat (p:Int) v o)).1:=by
   unfold gH;rw[af];simp only;rw[X,z];simp only;rw[Y]
  rw[bq,br,ax Ψ ((C.ext al).cell F),<-ap];refine(Fw (h.ext al) (QV a q) (by rw[ap];exact yW (by have:=a.en;omega) λu _=>yX a)).mono ?_;rintro _ aZ _ ⟨rfl,aJ⟩;rw[aM];refine aD _ _ ⟨((((x.trans ac).trans B).trans L).trans ak).trans aJ,?_⟩;rw[u9,I,j4,R3];rfl
 .rintro _ ab aB ⟨x,rfl⟩;rw[aP,am];refine⟨λh=>Ω,λ_=>⟨?_,U.trans x⟩⟩;rw[o9];rfl
def QX{i:Int}(h:bz w ag gT A R n s t)(ad:Laid w):an x7 Iw [Γ ag,Δ i] w λr J=>Ext w J/\(fW n s i=false->r= .tuple #[Δ 0,Δ (-1),Δ 1])/\
  ∀x,fW n s i=true->s.vars[i.toNat]?=σ x->r= .tuple #[Δ (cp n.k (aE x) (nB n s i)).1,Δ (cp n.k (aE x) (nB n s i)).2,Δ 0]:=by
 refine aA func74 ?_;refine bh λbb aa bc aF z=>?_;refine bh λbd ab be aj B=>?_;have z:=z.ext aj;have B:=B;have S:=aF.trans aj;rw[ax Ψ (z.cell F),ax Ψ (B.cell F)];refine(Fx (h.ext S)).mono ?_;rintro _ aG _ ⟨rfl,C⟩;have U:=S.trans C;cases ae:fW n s i with
 |false=>
  rw[if_neg Φ,bA,am];exact⟨λ_=>⟨U,λ_=>rfl,λ_ h=>by cases h⟩,λh=>absurd Φ h⟩
 |true=>
  obtain⟨aH,x,ak,_⟩:=yU h.2.2.2.1 ae;rw[if_pos F,bA,am];refine⟨λh=>absurd F h,λ_=>?_⟩;rw[ax Ψ ((z.ext C).cell F),ax Ψ ((B.ext C).cell F)];refine(QT (h.ext U)).mono ?_;rintro al V _ ⟨M,bf,aI,ap⟩;have aq:=U.trans M;rw[jB];have au:=(z.ext C).ext M;have aJ:=(B.ext C).ext M;have bg:=S.size;have z3:=C.size;have z4:=M.size;have aK:(jt s i s.funs.length).length<=100000000:=by
   have h1:=(h.ext aq).2.2.1.1;have W:=sy s;have bi:t.cells.length=s.cells.length:=by have:=congrArg R2 h.2.1;unfold aD.bY at this;rw[r9]at this;exact this
   have aL:∀(L:List bS),L.length<=(L.flatMap fv).length:=λL=>by
    induction L with
    |nil=>exact o4 _
    |cons a L bj=>rw[V0,r8,b9];have:(fv a).length=a.cs.length+1:=rfl;omega
   have bk:=aL s.funs;unfold jt;rw[r9];have:=Q2 (lq s i) (Z4 s.funs.length);rw[S0]at this;omega
  have low:∀{G:x3},ai (λr=>leads al r) V G->Ext w G:=λE=>aq.then E λr bl he=>by have:=ap r he;omega
  have X:∀{G:x3}{g:Nat}{e:p8}{cs:List x1},g<aG.heap.size->ah V g e cs->ai (λr=>leads al r) V G->ah G g e cs:=λbm aM E=>aM.ac E λhe=>by have:=ap _ he;omega
  have bn:=z.lt;have bo:=B.lt;refine(FG (p:=λj=>!ow s j) aI aK λJ j E N=>?_).mono ?_
  .have N:0<=j/\∃f,s.funs[j.toNat]?=σ f:=by
    unfold jt at N;obtain⟨q,H,rfl⟩:=c7.1 N;obtain⟨H,_⟩:=T2.1 H;have H:=W8.1 H;exact⟨Ω,_,x6 (by rw[u7];exact H)⟩
   obtain⟨bs,f,af⟩:=N;refine aA func155 ?_;have aN:=low E;rw[ax Ψ ((X Ω au E).cell F)];have av:=l7 (h.ext aN) af;rw[show((j.toNat:Nat):Int)=j by omega]at av;refine av.mono ?_;rintro r aO _ ⟨aP,bt,_,I⟩;rw[aX ao.u I.ls,bA];refine⟨?_,aP⟩;unfold ow;rw[af];simp only;congr 1;by_cases W:f.sc.length=2
   .rw[decide_eq_true W,decide_eq_false Ω];rfl
   .rw[decide_eq_false W,decide_eq_true Ω];rfl
  rintro bw aO _ ⟨O,I,_⟩;have aQ:(jt s i s.funs.length).filter (λj=>!!ow s j)=lr s i:=by unfold lr;congr 1;funext j;rw[Bool.not_not]
  rw[aQ]at I;have aR:=low O;have aS:=X Ω au O;have aT:=X Ω aJ O;refine bu ao.i λbx bB bC aw aU=>?_;obtain⟨_,_,_,ay⟩:=c6 I.ls;have z5:=O.size;have bD:=aw.size;refine bp ao.i (by rw[ay];rfl) (by rw[ay];rfl) aU Φ λbE aV bF aW=>?_;have P:=aw.put aV Ω;have az:=aR.trans P;have Y:=aS.ext P;have Z:=aT.ext P;rw[ax Ψ (Y.cell F),ax Ψ (Z.cell F)];refine(FC (h.ext az)).mono ?_;rintro _ bG _ ⟨aB,cap,rfl,aY⟩;refine bu rv.i λgo bH bI aZ a1=>?_;have bJ:=aB.size;refine bp rv.i F rfl a1 Φ λa2 a6 bK a7=>?_;have aC:=aZ.put a6 Ω;have y:=aB.trans aC;have K:=az.trans y;rw[ax Ψ ((Y.ext y).cell F),ax Ψ ((Z.ext y).cell F),jB];have a8:∀l,qV a2 wO cap l (eI n s i):=λl J v Q ae=>aY l J v (aC.trans Q) ae;refine(yS (h.ext K) (ad.ext K) aH ak (QW (h.ext K) (ad.ext K) a7 a8 (aW.ext y) (I.ext (P.trans y)) (Y.ext y) (Z.ext y) _)).mono ?_;rintro _ bL _ ⟨ba,rfl⟩;rw[bq,br];exact⟨K.trans ba,(λh=>by cases h),λbM _ Q=>by rw[ak]at Q;cases Q;rfl⟩
end
def bj(s:aq)(i:Int):Λ:=match s.vars[i.toNat]? with
 |some x=>aE x
 |none=>[]
def e2(s:aq)(sc:Λ)(pos:Int):Nat->Nat->Λ->List (Λ)
 |0,_,tl=>[tl]
 |m+1,p,tl=>if(p:Int)=pos then e2 s sc pos m (p+1) tl else(bj s (sc.getD p 0)).flatMap λv=>e2 s sc pos m (p+1) (tl.set p v)
def qW(p:Nat)(pos:Int)(a b:Λ):Prop:=a.length=b.length/\∀q:Nat,q<p\/(q:Int)=pos->a[q]?=b[q]?
def qW.set{p:Nat}{b:Λ}(h:qW p pos a b)(f:(p:Int)≠pos)(v:Int):qW (p+1) pos (a.set p v) (b.set p v):=by
 refine⟨by rw[Z0,Z0,h.1],λq r=>?_⟩;rw[X4,X4,h.1];by_cases e:p=q
 .rw[if_pos e,if_pos e]
 .rw[if_neg e,if_neg e];exact h.2 q Ω
theorem yY{s:aq}{sc:Λ}{pos:Int}:∀(m p:Nat)(a b:Λ),a.length=p+m->qW p pos a b->e2 s sc pos m p a=e2 s sc pos m p b
 |0,p,a,b,r,h=>by
  unfold e2;congr 1;refine Y9 λq=>?_;by_cases e:q<p
  .exact h.2 q (.inl e)
  .rw[Z7 Ω,Z7 (by have:=h.1;omega)]
 |m+1,p,a,b,r,h=>by
  unfold e2;split
  .rename_i f;refine yY m (p+1) a b Ω ⟨h.1,λq e=>h.2 q ?_⟩;omega
  .rename_i f;congr 1;funext v;exact yY m (p+1) _ _ (by rw[Z0];omega) (h.set f v)
section
variable{ag gT:Nat}{A R:ak}{n:aH}{s:aq}{t:aD}
def QY{aN:x1}{cap:Array x1}{M:ak}{I:List (Λ)->x3->Prop}(bw:bk n.k n.sizes s)(bx:∀u∈sc,0<=u/\u<n.sizes.length)(b3:sc.length<=6)(aY:∃c,aN= .slice (σ ⟨gt,0,ν⟩) sc.length c)(bA:M gt)(aH:∀d w,I d w->bz w ag gT A R n s t/\Laid w/\aK .i64 w aQ sc/\∀r,M r->r<w.heap.size)(U:∀d w J,Ext w J->I d w->I d J)(bB:∀d w J,ai (λr=>r=gt) w J->I d w->I d J)(bC:∀d tl w,I d w->ay .i64 aj w gt aN tl->tl.length=sc.length->an x7 fX cap.toList w λ_ J=>I (d++[tl]) J/\ay .i64 aj J gt aN tl/\ai M w J):
  ∀(m p:Nat)(tl:Λ)(d:List (Λ))(w:x3),sc.length=p+m->tl.length=sc.length->I d w->ay .i64 aj w gt aN tl->
   an x7 Ju [Γ ag,aQ,aN,Δ (p:Int),Δ pos,.func (.func fX) #[] cap] w λ_ J=>∃Y,qW p pos Y tl/\I (d++e2 s sc pos m p tl) J/\ay .i64 aj J gt aN Y/\ai M w J:=by
 intro m;induction m with
 |zero=>
  intro p tl d w bD aJ Z hm;obtain⟨aZ,a1,V,a2⟩:=aH d w Z;obtain⟨_,_,_,aL⟩:=c6 V;obtain⟨c,a7⟩:=id aY;refine iG func161 ?_;refine bh λg1 aa bE aB af=>?_;refine bh λaq ab bF au a=>?_;refine bh λaC bG bH P Q=>?_;refine bh λaO bI bJ L f=>?_;refine bh λbK bL bM E al=>?_;refine bh λbN y bO z N=>?_;have B:=((((aB.trans au).trans P).trans L).trans E).trans z;have a:ah y aq ao [aQ]:=by rw[aL]at a ⊢;exact(((a.ext P).ext L).ext E).ext z
  have f:ah y aO aj [Δ (p:Int)]:=(f.ext E).ext z;have N:=N;rw[ax Ψ (f.cell F),ax Ψ (a.cell F),aX ao.u (V.ext B),bf,am];refine⟨λ_=>?_,λh=>absurd Ω h⟩;rw[ax Ψ (N.cell F)];refine an.mono (bC d tl y (U d w y B Z) (hm.ext B) aJ) ?_;rintro _ a8 _ ⟨h1,C,S⟩;intro bb G _;exact⟨tl,⟨F,λ_ _=>rfl⟩,U _ _ _ G h1,C.ext G,((B.ac M).trans S).trans (G.ac M)⟩
 |succ m bc=>
  intro p tl d w bD aJ Z hm;obtain⟨aZ,a1,V,a2⟩:=aH d w Z;obtain⟨_,_,_,aL⟩:=c6 V;obtain⟨c,a7⟩:=id aY;refine iG func161 ?_;refine bh λg1 aa bE aB af=>?_;refine bh λaq ab bF au a=>?_;refine bh λaC bG bH P Q=>?_;refine bh λaO bI bJ L f=>?_;refine bh λbK bL bM E al=>?_;refine bh λbN y bO z N=>?_;have B:=((((aB.trans au).trans P).trans L).trans E).trans z;have af:ah y g1 dm [Γ ag]:=((((af.ext au).ext P).ext L).ext E).ext z;have a:ah y aq ao [aQ]:=by rw[aL]at a ⊢;exact(((a.ext P).ext L).ext E).ext z
  have Q:ah y aC ao [aN]:=by rw[a7]at Q ⊢;exact((Q.ext L).ext E).ext z
  have f:ah y aO aj [Δ (p:Int)]:=(f.ext E).ext z;have al:=al.ext z;have N:=N;have aD:∀{O:x3}{K:x1->Prop},ah O aq ao [aQ]->K aQ->ad x7 (u5 ao (Γ aq)) O K:=λav aP=>by rw[ax Ψ (av.cell F)];exact aP
  have aR:∀{O:x3}{K:x1->Prop},ah O aC ao [aN]->K aN->ad x7 (u5 ao (Γ aC)) O K:=λav aP=>by rw[ax Ψ (av.cell F)];exact aP
  rw[ax Ψ (f.cell F)];refine aD a ?_;rw[aX ao.u (V.ext B),bf,am];refine⟨λh=>Ω,λ_=>?_⟩;rw[ax Ψ (f.cell F),ax Ψ (al.cell F),bf,am];refine⟨λhe=>?_,λbd=>?_⟩
  .rw[ax Ψ (af.cell F)];refine aD a (aR Q ?_);rw[ax Ψ (f.cell F),aM,wrap_i64 Ω Ω,ax Ψ (al.cell F),ax Ψ (N.cell F)];refine(bc (p+1) tl d y Ω aJ (U d w y B Z) (hm.ext B)).mono ?_;rintro _ a8 _ ⟨Y,h1,C,S,aw⟩;intro bb G _;refine⟨Y,⟨h1.1,λq bg=>h1.2 q Ω⟩,?_,S.ext G,((B.ac M).trans aw).trans (G.ac M)⟩;have:e2 s sc pos (m+1) p tl=e2 s sc pos m (p+1) tl:=by rw[e2,if_pos he]
   rw[this];exact U _ _ _ G C
  intro a8 ap _ _;have bi:=B.trans ap;obtain⟨u,hu⟩:=aI (l:=sc) (i:=p) Ω;obtain⟨bP,b4⟩:=bx u (x5 hu);have b5:=bw.vars;obtain⟨x,bl⟩:=aI (l:=s.vars) (i:=u.toNat) Ω;have bQ:bj s (sc.getD p 0)=aE x:=by unfold bj;rw[u4,hu,V2,bl]
  rw[ax Ψ ((af.ext ap).cell F)];refine aD (a.ext ap) ?_;rw[ax Ψ ((f.ext ap).cell F),be ao.u aj.i Ψ (V.ext bi) hu];refine(kN (i:=u) (aZ.ext bi)).mono ?_;rintro _ bb _ ⟨⟨b,b6,rfl,bm⟩,G⟩;refine(oa).mono ?_;rintro _ az _ ⟨bR,ba,rfl,b7,bn⟩;have bo:=nA bm bP bl;have aS:=(ap.trans G).trans bR;have aF:=B.trans aS;have b8:=aB.size;have b9:=au.size;have z3:=P.size;have z4:=L.size;have z5:=E.size;have ca:=z.size;have cb:=aS.size;have cc:=(ap.trans G).size;have out:∀{r:Nat},w.heap.size<=r->¬M r:=λh1 C=>by have:=a2 _ C;omega
  have bS:∀j v,(aE x)[j]?=σ v->((aE x).take (j+1)).flatMap (λv=>e2 s sc pos m (p+1) (tl.set p v))=((aE x).take j).flatMap (λv=>e2 s sc pos m (p+1) (tl.set p v))++e2 s sc pos m (p+1) (tl.set p v):=λj v bp=>by
   rw[u9,bp,j4,List.flatMap_append,List.flatMap_singleton]
  have bT:e2 s sc pos (m+1) p tl=(aE x).flatMap λv=>e2 s sc pos m (p+1) (tl.set p v):=by rw[e2,if_neg bd,bQ]
  refine k0.old ⟨_,false,jW,#[Γ ba],_,_,_,_,λj J=>∃H,qW p pos H tl/\I (d++((aE x).take j).flatMap λv=>e2 s sc pos m (p+1) (tl.set p v)) J/\ay .i64 aj J gt aN H/\ai M az J,λ_ _ _=>False,F,(n8 (g:=ba) bm.1).s,?_,
   λ_ _ U h=>⟨h.1.ext U,h.2.ext U⟩,λ_ _ _ aT ⟨H,h1,C,S,aw⟩=>⟨H,h1,U _ _ _ aT C,S.ext aT,aw.trans (aT.ac M)⟩,λ_ _ _ _ _ h=>h,⟨bn,a1.ext aF⟩,⟨tl,⟨F,λ_ _=>rfl⟩,by simpa using U d w az aF Z,hm.ext aF,ai.refl _ _⟩,?_,?_,λ_ _ h=>h.elim,λ_ _ _ h=>h.elim⟩
  .rintro _ _ _ _ ⟨_,_,_,_,rfl⟩;rfl
  .rintro _ j _ bU ⟨_,_⟩ ⟨bp,rfl,v,ae,bV⟩ ⟨H,aA,aG,aU,aV⟩;cases bV;intro bq W _ _;have bW:(aE x)[j]?=σ (v:Int):=by rw[<-bo,x8,ae];rfl
   have aW:ai M az bq:=aV.trans (W.ac M);have a6:∀{O:x3}{g:Nat}{e:p8}{cs:List x1},ai M az O->w.heap.size<=g->ah y g e cs->ah O g e cs:=λbX bY av=>(av.ext aS).ac bX (out bY);have br:=aU.ext W;have bZ:=aA.1;refine aR (a6 aW Ω Q) ?_;rw[ax Ψ ((a6 aW Ω f).cell F),iK F ao.u aj.i br Ω];refine iL aj.i br Ω λbs bt cd b0=>?_;have X:ai M az bs:=aW.trans (bt.mono λr _ h=>by have h:r=gt:=h;rw[h];exact bA);have b1:=bB _ _ _ bt (U _ _ _ W aG);rw[ax Ψ ((a6 X Ω af).cell F)];refine aD (a6 X Ω a) (aR (a6 X Ω Q) ?_);rw[ax Ψ ((a6 X Ω f).cell F),aM,wrap_i64 Ω Ω,ax Ψ ((a6 X Ω al).cell F),ax (v:=.func (.func fX) #[] cap) Ψ ((a6 X Ω N).Qz F)];refine(bc (p+1) (H.set p v) _ bs Ω (by rw[Z0];omega) b1 b0).mono ?_;rintro _ ce _ ⟨Y,h1,C,S,aw⟩;have bu:=X.trans aw;have hw:=yY (s:=s) (sc:=sc) m (p+1) (H.set p (v:Int)) (tl.set p (v:Int)) (by rw[Z0];omega) (aA.set bd v);rw[hw,X6,<-bS j v bW]at C;refine⟨⟨bn.ac bu (out Ω),(aH _ _ C).2.1⟩,⟨Y,⟨by rw[h1.1,Z0];exact bZ,λq bg=>?_⟩,C,S,bu⟩,λh=>by cases h⟩;have b2:p≠q:=Ω
   rw[h1.2 q Ω,X4,if_neg b2];exact aA.2 q bg
  .rintro k bU rfl ⟨H,aA,aG,aU,aV⟩;intro bq W _;rw[Z2 (by rw[<-bo,r9];exact o4 _),<-bT]at aG;exact⟨H,aA,U _ _ _ W aG,aU.ext W,((aF.ac M).trans aV).trans (W.ac M)⟩
end
def simpStep(of:Λ->Int)(p:Int×Option (Λ))(tl:Λ):Int×Option (Λ):=if p.2=ν\/of tl<p.1 then(of tl,σ tl)else p
def ep(k:Int)(of:Λ->Int)(l:List (Λ)):Int×Option (Λ):=l.foldl (simpStep of) (k,ν)
def lu(w:x3)(B:Nat)(v:x1):Option (Λ)->Prop
 |none=>v= .slice ν 0 0
 |some tl=>tl≠[]/\∃g,B<=g/\ay .i64 aj w g v tl
def lu.ac{v:x1}{o:Option (Λ)}{S:ak}(h:lu w B v o)(e:ai S w J)(f:∀r,B<=r->r<w.heap.size->¬S r):lu J B v o:=by
 cases o with
 |none=>exact h
 |some tl=>
  obtain⟨h1,g,p,a⟩:=h;exact⟨h1,g,p,bw a e λr q=>by obtain⟨s,x⟩:=bR a q;exact f r Ω Ω⟩
def lu.ext{v:x1}{o:Option (Λ)}(h:lu w B v o)(U:Ext w J):lu J B v o:=h.ac (U.ac λ_=>False) λ_ _ _ h=>h
def lu.one{v:x1}{o:Option (Λ)}(h:lu w B v o):∃a n c,v= .slice a n c:=by
 cases o with
 |none=>exact⟨ν,0,0,h⟩
 |some tl=>
  obtain⟨_,g,_,e⟩:=h;exact c6 e.ls
def QZ(n:aH)(s:aq)(B:Nat)(J:x3)(j pos v:Int)(r:x1):Prop:=((¬∃f u x,kO s j pos v f u x)->r= .tuple #[Δ 0,.slice ν 0 0,Δ 1])/\∀f u x,kO s j pos v f u x->
 ∃a,r= .tuple #[Δ (ep n.k (e1 s j.toNat) (e2 s f.sc pos f.sc.length 0 ((o8 f.sc.length 0).set pos.toNat v))).1,a,Δ 0]/\lu J B a (ep n.k (e1 s j.toNat) (e2 s f.sc pos f.sc.length 0 ((o8 f.sc.length 0).set pos.toNat v))).2
section
variable{w:x3}{ag gT:Nat}{A R:ak}{n:aH}{s:aq}{t:aD}
def Ra{j:Int}(h:bz w ag gT A R n s t)(bG:Laid w)(cq:∀r,A r\/R r->r<w.heap.size):an x7 Iy [Γ ag,Δ j,Δ pos,Δ v] w λr J=>Ext w J/\QZ n s w.heap.size J j pos v r:=by
 refine aA func77 ?_;refine bh λg1 aa cr bH S=>?_;refine bh λbJ ab ct a2 V=>?_;have S:ah ab g1 dm [Γ ag]:=S.ext a2;have V:ah ab bJ aj [Δ j]:=V;have aE:=bH.trans a2;rw[ax (v:=Γ ag) Ψ (S.Qz F),ax (v:=Δ j) Ψ (V.Qz F)];refine(FD (h.ext aE)).mono ?_;rintro _ cu _ ⟨ae,e,rfl,he,a6⟩;have aF:=aE.trans ae;rw[bA,am];refine⟨λal=>⟨aF,λ_=>by rw[he.resolve_left al],λf u x G=>absurd (a6.2 ⟨f,u,x,G⟩) al⟩,λbK=>?_⟩;obtain⟨f,u,x,G⟩:=a6.1 (Y3.1 bK);have Q:=S.ext ae;have a7:=V.ext ae;rw[ax (v:=Γ ag) Ψ (Q.Qz F),ax (v:=Δ j) Ψ (a7.Qz F)];have a8:=l7 (h.ext aF) G.af;have cw:=G.yV;rw[show((j.toNat:Nat):Int)=j by omega]at a8;refine a8.mono ?_;rintro aQ cz _ ⟨ap,bI,cA,aq⟩;have bL:=aF.trans ap;obtain⟨aG,_,cB⟩:=h.2.2.2.1.funs f (x5 G.af);have bM:f.sc.length<=6:=aG.scope.2;obtain⟨m,hm⟩:∃m,m=f.sc.length:=⟨_,F⟩;rw[aX ao.u aq.ls,<-hm];refine k6 (k:=.i64) ao.u aj.i Ω Ω λgt bN cC ba bc=>?_;have bd:ay .i64 aj bN gt (.slice (σ ⟨gt,0,ν⟩) m m) (o8 m 0):=ay.of (n:=m) (b1.full (by simpa using bc) Ξ (by simp[maxLen];omega));refine bu ao.i λgtb cD cE be bO=>?_;have cF:=aE.size;have z3:=ae.size;have z4:=ap.size;have z5:=ba.size;have cG:=be.size;refine bp (v:=.slice (σ ⟨gt,0,ν⟩) m m) ao.i F rfl bO Φ λcH bP cI aH=>?_;have au:=be.put bP Ω;have cJ:=(x4.1 G.hu).1;have cK:=G.eo;rw[ax Ψ (aH.cell F),iK (i:=pos.toNat) Ω ao.u aj.i (bd.ext au) Θ];refine iL aj.i (bd.ext au) Θ λcL bf bQ bS=>?_;have cM:=bc.lt;have cN:=au.size;have W:=(ba.trans au).put bf Ω;have bg:=bL.trans W;have bi:=(Q.ext ap).ext W;have bT:=(a7.ext ap).ext W;have bU:=aH.ac bf Ω;rw[ax Ψ (bi.cell F)];refine(lp (h.ext bg)).mono ?_;rintro _ cO _ ⟨rfl,bj⟩;refine bu av.i λX cP cQ bk bl=>?_;refine bp av.i F rfl bl Φ λcR bV cS bW=>?_;have cT:=bQ;have z9:=bj.size;have cU:=bk.size;have cV:=bl.lt;refine bu ao.i λaw Y cW aI az=>?_;have az:=az;have bX:=(bk.then bV λr C he=>by have he:r=X:=he;omega).trans aI;have L:=bj.trans bX;have bm:=bg.trans L;have bn:=bi.ext L;have bY:=bT.ext L;have bo:=bU.ext L;have bZ:=bS.ext L;have b0:=bW.ext aI;have cX:=az.lt;have cY:=aH.lt;have cZ:=S.lt;have c0:=V.lt;have z12:=aI.size;have c1:=bm.size;rw[ax Ψ (bn.cell F),ax Ψ (bo.cell F),jB];obtain⟨M,b2⟩:∃M:ak,M=λr=>r=gt\/r=X\/r=aw:=⟨_,F⟩;have N:∀r,M r↔r=gt\/r=X\/r=aw:=λr=>by rw[b2]
 have aJ:∀r,M r->w.heap.size<=r/\r<Y.heap.size:=λr C=>by rcases(N r).1 C with rfl|rfl|rfl<;>omega
 have c2:=aq.ls.ext (W.trans L);have aC:∀{bs:x3},ai M Y bs->Ext w bs:=λp=>bm.then p λr C he=>by have:=aJ r he;omega
 have b3:∀r,leads aQ r->¬M r:=λr C he=>by
  obtain⟨c3,b4⟩:=bR aq C;rcases(N r).1 he with y|y|y<;>omega
 let I:List (Λ)->x3->Prop:=λd J=>ai M Y J/\ah J X av [Δ (ep n.k (e1 s j.toNat) d).1]/\∃E,ah J aw ao [E]/\lu J Y.heap.size E (ep n.k (e1 s j.toNat) d).2;have step:∀d tl,ep n.k (e1 s j.toNat) (d++[tl])=simpStep (e1 s j.toNat) (ep n.k (e1 s j.toNat) d) tl:=λd tl=>by unfold ep;rw[R3];rfl
 have bt:=h.2.2.2.1;have c4:=bt.vars;refine(QY (gT:=gT) (sc:=f.sc) (pos:=pos) (gt:=gt) (M:=M) (I:=I) (A:=A) (R:=R) (t:=t) (n:=n) bt (λu hu=>⟨(aG.scope.1 u hu).1,aG.vars u hu⟩) bM ⟨m,by rw[hm]⟩ ((N _).2 (.inl F)) ?_ ?_ ?_ ?_ f.sc.length 0 ((o8 m 0).set pos.toNat v) [] Y Ω (by rw[Z0,List.length_replicate,hm]) ?_ bZ).mono ?_
 .rintro d J ⟨p,H,_⟩;refine⟨h.ext (aC p),bG.ext (aC p),(bw (aq.ext (W.trans L)) p λr C=>b3 r C).ls,λr C=>?_⟩;have:=(aJ r C).2;have:=p.size;omega
 .rintro d J b5 U ⟨p,H,E,O,B⟩;exact⟨p.trans (U.ac M),H.ext U,E,O.ext U,B.ext U⟩
 .rintro d J b5 aD ⟨p,H,E,O,B⟩;have z:=p.size;exact⟨p.trans (aD.mono λr _ he=>(N r).2 (.inl he)),H.ac aD Ω,E,O.ac aD Ω,B.ac aD λr C _ he=>by have he:r=gt:=he;omega⟩
 .rintro d tl J ⟨p,H,E,O,B⟩ bx aK;refine aA func162 ?_;have b7:=aC p;have aL:∀{r:Nat},r≠gt->r≠X->r≠aw->¬M r:=λa b c he=>by rcases(N _).1 he with y|y|y<;>omega
  have b8:=bn.ac p (aL Ω Ω Ω);have b9:=bY.ac p (aL Ω Ω Ω);have bB:=bo.ac p (aL Ω Ω Ω);rw[ax Ψ (b8.cell F),ax Ψ (b9.cell F),ax Ψ (bB.cell F),show j=((j.toNat:Nat):Int) by omega];refine FB (h.ext b7) bx.ls λb4 bC K=>?_;rw[bq,br];have ca:=p.trans (K.ac M);have Q:=H.ext K;have aM:=O.ext K;have cb:=B.ext K;obtain⟨c5,fn,c7,aN⟩:=B.one;have aO:=bx.ext K;refine aV (λr aR=>r= .bool (decide ((ep n.k (e1 s j.toNat) d).2=ν\/e1 s j.toNat tl<(ep n.k (e1 s j.toNat) d).1))/\Ext bC aR) ?_ ?_
  .rintro _ aR ⟨rfl,q⟩;have aS:=ca.trans (q.ac M);rw[am];refine⟨λcc=>?_,λaT=>?_⟩
   .rw[ax Ψ (((bB.ext K).ext q).cell F)];rw[<-hm]at aK;refine(lP (aO.ext q).ls Ω).mono ?_;rintro bb ce _ ⟨Z,cf,c8,aU⟩;obtain⟨_,_,_,bD⟩:=c6 aU.ls;have cg:=aS.trans (Z.ac M);have c9:=aS.size;refine bp av.i F rfl ((Q.ext q).ext Z) Ξ λda aW db ch=>?_;refine bp ao.i (by rw[bD];rfl) (by rw[bD];rfl) (((aM.ext q).ext Z).ac aW Ω) Ξ λci aY dc cj=>?_;have aZ:ai M ce ci:=(aW.mono λr _ he=>(N r).2 (.inr (.inl he))).trans (aY.mono λr _ he=>(N r).2 (.inr (.inr he)));have ad:ep n.k (e1 s j.toNat) (d++[tl])=(e1 s j.toNat tl,σ tl):=by rw[step];unfold simpStep;rw[if_pos cc]
    refine⟨⟨cg.trans aZ,?_,bb,cj,?_⟩,?_,?_⟩
    .rw[ad];exact ch.ac aY Ω
    .rw[ad];refine⟨λy=>by rw[y]at aK;simp at aK;omega,cf,Ω,bw aU aZ λr C he=>?_⟩;obtain⟨dd,de⟩:=bR aU C;have:=(aJ r he).2;omega
    .exact ((((aO.ext q).ext Z).ac aW Ω).ac aY Ω)
    .exact ((K.ac M).trans (q.ac M)).trans ((Z.ac M).trans aZ)
   .have ad:ep n.k (e1 s j.toNat) (d++[tl])=ep n.k (e1 s j.toNat) d:=by rw[step];unfold simpStep;rw[if_neg aT]
    refine⟨⟨aS,?_,E,aM.ext q,?_⟩,aO.ext q,(K.ac M).trans (q.ac M)⟩
    .rw[ad];exact Q.ext q
    .rw[ad];exact cb.ext q
  intro aB bE;rw[ax Ψ (aM.cell F),aN,nX ao.u];cases P:(ep n.k (e1 s j.toNat) d).2 with
  |none=>
   rw[P]at B;have:E= .slice ν 0 0:=B;rw[aN]at this;cases this;rw[cd];exact⟨λ_=>bE _ _ ⟨by rw[decide_eq_true (.inl P)],Ext.refl _⟩,λy=>by cases y⟩
  |some df=>
   rw[P]at B;obtain⟨al,dg,_,ck⟩:=B;obtain⟨_,⟨rfl,y⟩|⟨dh,_,bF,_⟩⟩:=ck
   .exact absurd (b6 y) al
   rw[aN]at bF;cases bF;rw[cd];refine⟨λy=>by simp at y,λ_=>?_⟩;rw[ax Ψ (Q.cell F),aP];refine bE _ _ ⟨?_,Ext.refl _⟩;congr 1;exact decide_eq_decide.2 ⟨.inr,λy=>y.resolve_left (by rw[P];simp)⟩
 .exact⟨ai.refl _ _,b0,_,az,F⟩
 rintro _ bC _ ⟨di,_,⟨p,H,E,O,B⟩,_,_⟩;intro aR q _ _;rw[ax Ψ ((H.ext q).cell F),ax Ψ ((O.ext q).cell F)];refine⟨(aC p).trans q,λaT=>absurd ⟨f,u,x,G⟩ aT,λa1 u' dj cl=>?_⟩;obtain⟨rfl,_⟩:=G.same cl;rw[List.nil_append,hm]at B ⊢;refine⟨E,F,?_⟩;have:=B.ext q;cases P:(ep n.k (e1 s j.toNat) (e2 s a1.sc pos a1.sc.length 0 ((o8 a1.sc.length 0).set pos.toNat v))).2 with
 |none=>rw[P]at this;exact this
 |some tl=>rw[P]at this;obtain⟨cm,cn,dk,cp⟩:=this;exact⟨cm,cn,Ω,cp⟩
end
structure bJ where
 dr:Int
 i:Int
 j:Int
 v:Int
def fh(a:bJ):List x1:=[Δ a.dr,Δ a.i,Δ a.j,Δ a.v]
def er(c:Prop)[Decidable c](a:bJ):List bJ:=if c then[a]else[]
def dY{c:Prop}[Decidable c]{a:bJ}:(er c a).length<=1:=by
 unfold er;split<;>simp
def qX{c:Prop}[Decidable c]{a b:bJ}(h:b∈er c a):c/\b=a:=by
 unfold er at h;split at h
 .rename_i e;exact⟨e,j5.1 h⟩
 .cases h
def mK(n:aH)(s:aq)(i:Int):Int×Int:=cp n.k (bj s i) (eI n s i)
def lv(n:aH)(s:aq)(i:Int):Int×Int:=cp n.k (bj s i) (nB n s i)
def dV(n:aH)(s:aq)(i v:Int):List bJ:=er (min (s.zero+eI n s i v) n.k=n.k) ⟨1,i,-1,v⟩
def gI(n:aH)(s:aq)(i:Int):List bJ:=er (0<(mK n s i).1\/(mK n s i).2<0) ⟨1,i,-1,-1⟩
def ju(n:aH)(s:aq)(i:Int):List bJ:=er (0<(lv n s i).1\/(lv n s i).2<0) ⟨4,i,-1,-1⟩
def jQ(n:aH)(s:aq)(i:Int):List bJ:=if fW n s i=true then gI n s i++((bj s i).flatMap (dV n s i)++ju n s i)else[]
def mL(n:aH)(s:aq)(m:Nat):List bJ:=(Z4 m).flatMap λi:Nat=>jQ n s (i:Int)
def nC(n:aH)(s:aq)(j:Nat)(f:bS)(p:Nat)(v:Int):Int×Option (Λ):=ep n.k (e1 s j) (e2 s f.sc p f.sc.length 0 ((o8 f.sc.length 0).set p v))
def nD(n:aH)(s:aq)(j:Nat)(f:bS)(v:Int):Int×Int:=cp n.k (bj s (f.sc.getD 1 0)) (js n s j 0 v (f.sc.getD 1 0))
def ds(n:aH)(s:aq)(j:Nat)(f:bS)(p:Nat)(i v:Int):List bJ:=er (0<(nC n s j f p v).1\/(nC n s j f p v).2=ν) ⟨2,i,j,v⟩
def dP(n:aH)(s:aq)(j:Nat)(f:bS)(p:Nat)(i v:Int):List bJ:=er (f.sc.length=2/\p=0/\0<(nD n s j f v).1) ⟨3,i,j,v⟩
def ib(n:aH)(s:aq)(j:Nat)(f:bS)(p:Nat):List bJ:=(bj s (f.sc.getD p 0)).flatMap λv=>ds n s j f p (f.sc.getD p 0) v++dP n s j f p (f.sc.getD p 0) v
def kl(n:aH)(s:aq)(j:Nat):List bJ:=match s.funs[j]? with
 |some f=>if f.live≠0 then(Z4 f.sc.length).flatMap (ib n s j f)else[]
 |none=>[]
def mM(n:aH)(s:aq)(m:Nat):List bJ:=(Z4 m).flatMap (kl n s)
def l8(n:aH)(s:aq):List bJ:=mL n s n.sizes.length++mM n s s.funs.length
def lx(n:aH)(s:aq)(level:Int):List bJ:=(l8 n s).filter λa=>decide (a.dr<=level)
theorem gJ{α β:Type}{f:α->List β}{k:Nat}:∀{l:List α},(∀a∈l,(f a).length<=k)->(l.flatMap f).length<=k*l.length
 |[],_=>Ξ
 |a::l,h=>by
  have:=h a (.head _);have:=gJ λb e=>h b (.tail _ e);rw[V0,r8,b9,Nat.mul_add];omega
def pH{s:aq}{i:Int}(a:bk k sizes s):(bj s i).length<=32:=by
 unfold bj;split
 .rename_i x U;have:=(x4.1 U).1;have:=a.vars;obtain⟨z,e⟩:=aI (l:=sizes) (i:=i.toNat) Ω;have:=(a.var _ x z U e).1;have:=a.fT.2.2 z (x5 e);have q:(aE x).length<=x.un.length:=by
   unfold aE;refine X3 (Q2 _ _) ?_;rw[r9,S0];exact o4 _
  omega
 .simp
section
variable{k:Int}{n:aH}{s:aq}
def Rb{i:Int}(a:bk n.k n.sizes s):(jQ n s i).length<=34:=by
 unfold jQ;split
 .have h1:(gI n s i).length<=1:=dY;have e:(ju n s i).length<=1:=dY;have:=gJ (l:=bj s i) (f:=dV n s i) (k:=1) λv _=>dY;have:=pH (i:=i) a;rw[r8,r8];omega
 .simp
def FH{m:Nat}(a:bk n.k n.sizes s):(mL n s m).length<=34*m:=by
 have:=gJ (l:=Z4 m) (f:=λi:Nat=>jQ n s (i:Int)) (k:=34) λv _=>Rb a;rw[S0]at this;exact this
def FI{p:Nat}{f:bS}(a:bk n.k n.sizes s):(ib n s j f p).length<=64:=by
 have h1:=gJ (l:=bj s (f.sc.getD p 0)) (f:=λv=>ds n s j f p (f.sc.getD p 0) v++dP n s j f p (f.sc.getD p 0) v) (k:=2) λv _=>by
  have h1:(ds n s j f p (f.sc.getD p 0) v).length<=1:=dY;have e:(dP n s j f p (f.sc.getD p 0) v).length<=1:=dY;rw[r8];omega
 have e:=pH (i:=f.sc.getD p 0) a;unfold ib;omega
def Rc(a:bk n.k n.sizes s):(kl n s j).length<=384:=by
 unfold kl;split
 .rename_i f af;split
  .have h1:=gJ (l:=Z4 f.sc.length) (f:=ib n s j f) (k:=64) λv _=>FI a;have e:f.sc.length<=6:=(a.funs f (x5 af)).1.scope.2;rw[S0]at h1;omega
  .simp
 .simp
def FJ{m:Nat}(a:bk n.k n.sizes s):(mM n s m).length<=384*m:=by
 have:=gJ (l:=Z4 m) (f:=kl n s) (k:=384) λv _=>Rc a;rw[S0]at this;exact this
def qY{α:Type}{f:Nat->List α}(m:Nat):(Z4 (m+1)).flatMap f=(Z4 m).flatMap f++f m:=by
 rw[List.range_succ,List.flatMap_append,List.flatMap_singleton]
def qZ(n:aH)(s:aq)(a:bJ):Prop:=(1<=a.dr/\a.dr<=4)/\(0<=a.i/\a.i<100)/\(-1<=a.j/\a.j<s.funs.length)/\ -1<=a.v/\a.v<32
def ox{i:Int}(a:bk n.k n.sizes s)(h:v∈bj s i):0<=v/\v<32:=by
 unfold bj at h;split at h
 .rename_i x U;have:=(x4.1 U).1;have:=a.vars;obtain⟨z,e⟩:=aI (l:=n.sizes) (i:=i.toNat) Ω;have:=(a.var _ x z U e).1;have:=a.fT.2.2 z (x5 e);have:=Fy h;omega
 .cases h
def yZ{a:bJ}(e:bk n.k n.sizes s)(h:a∈l8 n s):qZ n s a:=by
 have:=e.fT.2.1;unfold l8 at h;rcases p9.1 h with h|h
 .unfold mL at h;obtain⟨i,hi,h⟩:=X9.1 h;have hi:=W8.1 hi;unfold jQ at h;split at h
  .rcases p9.1 h with h|h
   .obtain⟨_,rfl⟩:=qX h;exact⟨Ξ,by simp only;omega,by simp only;omega,Ξ⟩
   .rcases p9.1 h with h|h
    .obtain⟨v,ae,h⟩:=X9.1 h;obtain⟨_,rfl⟩:=qX h;have:=ox e ae;exact⟨Ξ,by simp only;omega,by simp only;omega,by simp only;omega⟩
    .obtain⟨_,rfl⟩:=qX h;exact⟨Ξ,by simp only;omega,by simp only;omega,Ξ⟩
  .cases h
 .unfold mM at h;obtain⟨j,r,h⟩:=X9.1 h;have r:=W8.1 r;unfold kl at h;split at h
  .rename_i f af;split at h
   .obtain⟨p,q,h⟩:=X9.1 h;have q:=W8.1 q;unfold ib at h;obtain⟨v,ae,h⟩:=X9.1 h;have:=ox e ae;have w:=(e.funs f (x5 af)).1;have hu:f.sc.getD p 0∈f.sc:=by rw[u4,x6 q,V2];exact S3 q
    have:=(w.scope.1 _ hu).1;have:=w.vars _ hu;rcases p9.1 h with h|h
    .obtain⟨_,rfl⟩:=qX h;exact⟨Ξ,by simp only;omega,by simp only;omega,by simp only;omega⟩
    .obtain⟨_,rfl⟩:=qX h;exact⟨Ξ,by simp only;omega,by simp only;omega,by simp only;omega⟩
   .cases h
  .cases h
def fY(a:bJ):Int:=((a.dr*100+a.i)*200000000+(a.j+1))*100+(a.v+1)
def fA(a b:Int):Int:=if a<b then-1 else if b<a then 1 else 0
def sM(a b:bJ):Int:=if fA a.dr b.dr≠0 then fA a.dr b.dr else if fA a.i b.i≠0 then fA a.i b.i else if fA a.j b.j≠0 then fA a.j b.j else fA a.v b.v
def vx(a b:Int):(fA a b= -1/\a<b)\/(fA a b=1/\b<a)\/(fA a b=0/\a=b):=by
 unfold fA;by_cases h:a<b
 .rw[if_pos h];exact .inl ⟨F,h⟩
 .rw[if_neg h];by_cases e:b<a
  .rw[if_pos e];exact .inr (.inl ⟨F,e⟩)
  .rw[if_neg e];exact .inr (.inr ⟨F,Ω⟩)
def Re{a b:bJ}(z:s.funs.length<=100000000)(x:qZ n s a)(y:qZ n s b):sM a b<0↔fY a<fY b:=by
 obtain⟨A,B,a3,a4⟩:=x;obtain⟨C,E,F,G⟩:=y;unfold sM fY;rcases vx a.dr b.dr with⟨e,h1⟩|⟨e,h1⟩|⟨e,h1⟩<;>rw[e]
 .rw[if_pos Φ];omega
 .rw[if_pos Φ];omega
 rw[if_neg Φ];rcases vx a.i b.i with⟨f,q⟩|⟨f,q⟩|⟨f,q⟩<;>rw[f]
 .rw[if_pos Φ];omega
 .rw[if_pos Φ];omega
 rw[if_neg Φ];rcases vx a.j b.j with⟨h,r⟩|⟨h,r⟩|⟨h,r⟩<;>rw[h]
 .rw[if_pos Φ];omega
 .rw[if_pos Φ];omega
 rw[if_neg Φ];rcases vx a.v b.v with⟨p,w⟩|⟨p,w⟩|⟨p,w⟩<;>rw[p]<;>omega
end
def pI(a:bJ):∀u∈fh a,u.oneCell'=true:=λu hu=>by
 simp[fh]at hu;rcases hu with rfl|rfl|rfl|rfl<;>rfl
abbrev jv(w:x3)(g:Nat)(v:x1)(l:List bJ):Prop:=bm fh 4 dc w g v l
section
variable{sv:x1}{l:List bJ}{g fX:Nat}{cap:Array x1}{p:bJ->Bool}{w:x3}
def sN{i:Nat}{a:bJ}{K:x1->Prop}(h:jv w g sv l)(hi:l[i]?=σ a):ad x7 (c9 dB sv (Δ (i:Int))) w (λq=>ad x7 (u5 dc q) w K)=K (.agg (fh a).toArray):=by
 rw[dp F dB.u dc.i h (x4.1 hi).1,bN dc.p dc.i F (h.range hi)]
def Rf(h:jv w g sv l)(s:∀J x,Ext w J->x∈l->an x7 fX (.agg (fh x).toArray::cap.toList) J λr z=>r= .bool (p x)/\Ext J z):
  an x7 IA [sv,.func (.func fX) #[] cap] w λv J=>Ext w J/\((v=Δ (-1)/\∀x∈l,p x=false)\/∃i:Nat,v=Δ (i:Int)/\i<l.length/\(∀x∈l.take i,p x=false)/\∀x,l[i]?=σ x->p x=true):=by
 refine aA func79 ?_;rw[et dB.u h];refine bV.range l.length (λi _ aa=>Ext w aa/\∀x∈l.take i,p x=false) h.le ⟨Ext.refl _,Ξ⟩ ?_ ?_
 .rintro i _ aa k hi ⟨a,e⟩ hk;refine bB Ω ?_;obtain⟨y,f⟩:=aI (l:=l) hi;rw[sN (h.ext a) f];refine an.mono (s aa y a (x5 f)) ?_;rintro _ ab _ ⟨rfl,q⟩;rw[cd];refine⟨λA=>⟨a.trans q,.inr ⟨i,F,hi,e,λx U=>by rw[f]at U;cases U;exact A⟩⟩,λaf=>?_⟩;rw[aM];refine hk _ _ ⟨a.trans q,λx U=>?_⟩;rw[u9,f]at U;rcases p9.1 U with U|U
  .exact e x U
  .simp at U;subst U;exact af
 .rintro _ aa k ⟨a,e⟩;rw[o9]at e;rw[aP,am];exact⟨λh=>Ω,λ_=>⟨a,.inl ⟨F,e⟩⟩⟩
def Rg(h:jv w g sv l)(aX:l.length<=100000000)(ag:∀J x,ai (λr=>leadsTo sv r) w J->x∈l->an x7 fX (.agg (fh x).toArray::cap.toList) J λr ay=>r= .bool (p x)/\Ext J ay):
  an x7 HX [sv,.func (.func fX) #[] cap] w λv J=>ai (λr=>leadsTo sv r) w J/\jv J g v (l.filter λx=>!p x)/\∀r,leadsTo v r->leadsTo sv r:=by
 refine aA func24 ?_;refine(Rf h λJ x U=>ag J x (U.ac _)).mono ?_;rintro _ aa _ ⟨E,⟨rfl,M⟩|⟨i,rfl,hi,M,az⟩⟩
 .rw[bf,am];refine⟨λ_=>⟨E.ac _,?_⟩,λh=>absurd F h⟩;rw[List.filter_eq_self.2 λx U=>by rw[M x U];rfl];exact⟨h.ext E,λ_ h=>h⟩
 rw[bf,am];refine⟨λh=>Ω,λ_=>?_⟩;rw[aM,wrap_i64 Ω Ω];obtain⟨n,N⟩:∃n,l.length=n:=⟨_,F⟩;obtain⟨z,rfl⟩:∃z,sv= .slice (σ ⟨g,0,ν⟩) n z:=by
  obtain⟨_,⟨_,h1⟩|⟨z,cs,h1,_⟩⟩:=h.1
  .omega
  .exact⟨z,by rw[h1,N]⟩
 have aj:∀r,r=g->leadsTo (.slice (σ ⟨g,0,ν⟩) n z) r:=λr O=>⟨_,_,_,F,O.symm⟩;have aC:∀r,leadsTo (.slice (σ ⟨g,0,ν⟩) n z) r->r=g:=λr ⟨_,_,_,C,P⟩=>by cases C;exact P.symm
 have aD:(l.take (i+1)).filter (λx=>!p x)=l.take i:=by
  obtain⟨y,A⟩:=aI (l:=l) hi;rw[u9,A,List.filter_append,List.filter_eq_self.2 λx U=>by rw[M x U];rfl];simp[az y A]
 refine⟨λQ R G=>∃(q j:Nat)(s:List bJ),Q=Δ (q:Int)/\R=Δ (j:Int)/\q<j/\j<=n/\ai (λr=>r=g) w G/\jv G g (.slice (σ ⟨g,0,ν⟩) n z) s/\s.length=n/\s.take q=(l.take j).filter (λx=>!p x)/\∀k,j<=k->s[k]?=l[k]?,
  λ_ R _=>n-(bT R).toNat,⟨i,i+1,l,F,F,Ω,Ω,E.ac _,h.ext E,N,aD.symm,λ_ _=>rfl⟩,?_⟩
 rintro _ _ G ⟨q,j,s,rfl,rfl,aY,aZ,H,I,S,B,V⟩;have a1:q=((l.take j).filter λx=>!p x).length:=by rw[<-B,j6];omega
 rw[ii dB.u,aP,am];refine⟨λaE=>?_,λa2=>?_⟩
 .have aE:j<n:=Ω
  obtain⟨y,A⟩:=aI (l:=l) (i:=j) Ω;have aF:s[j]?=σ y:=by rw[V j (o4 _),A]
  refine aV (λQ K=>∃(q:Nat)(s:List bJ),Q=Δ (q:Int)/\q<j+1/\ai (λr=>r=g) w K/\jv K g (.slice (σ ⟨g,0,ν⟩) n z) s/\s.length=n/\s.take q=(l.take (j+1)).filter (λx=>!p x)/\∀k,j+1<=k->s[k]?=l[k]?) ?_ ?_
  .rintro _ K ⟨q,s,rfl,h1,W,X,Y,Z,ab⟩;rw[aM,wrap_i64 Ω Ω];exact⟨⟨q,j+1,s,F,F,h1,Ω,W,X,Y,Z,ab⟩,by simp only[bT];omega⟩
  intro aB ak;rw[sN I aF];refine bu dc.i λba K a6 aG aH=>?_;refine b7 (vs:=fh y) dc.i F rfl (pI y) aH λaJ aK a7 al=>?_;have ao:=aG.put aK Ω;rw[bN dc.p dc.i F al.range];refine an.mono (ag aJ y ((H.trans (ao.ac _)).mono λr _=>aj r) (x5 A)) ?_;rintro _ a8 _ ⟨rfl,ap⟩;have L:=ao.trans ap;have aq:(l.take (j+1)).filter (λx=>!p x)=(l.take j).filter (λx=>!p x)++[y].filter (λx=>!p x):=by rw[u9,A,List.filter_append];rfl
  rw[bM,cd];refine⟨λaL=>?_,λaf=>?_⟩
  .have au:=I.ext L;rw[bN dc.p dc.i F (al.ext ap).range,dp F dB.u dc.i au Ω];refine Di dc.i au F (pI y) Ω λav ad bb aN=>?_;rw[aM,wrap_i64 Ω Ω];refine ak _ _ ⟨q+1,_,F,Ω,(H.trans (L.ac _)).trans (ad.mono λr _=>aC r),aN,by simpa using S,?_,λk hk=>?_⟩
   .rw[aq,u9,b8 Ω,List.take_set_of_le (o4 _),B];simp only[j4];rw[show[y].filter (λx=>!p x)=[y] by simpa using aL]
   .rw[Y6 Ω];exact V k Ω
  .refine ak _ _ ⟨q,s,F,Ω,H.trans (L.ac _),I.ext L,S,?_,λk hk=>V k Ω⟩;rw[aq,show[y].filter (λx=>!p x)=[] by simpa using af,Y8];exact B
 .have aO:j=n:=Ω
  subst aO;rw[<-N,o9]at B;obtain⟨⟨_,aQ⟩,_⟩:=id I;obtain⟨cs,aR,aS,aT,bc,aw⟩:∃cs,ah G g dc cs/\s.length<=z/\z<=maxLen/\cs.length=z*4/\cs.take (s.length*4)=s.flatMap fh:=by
   rcases aQ with⟨_,bd⟩|⟨be,cs,C,W,X,Y,Z,ab⟩
   .omega
   .cases C;exact⟨cs,W,X,Y,Z,ab⟩
  simp only[maxLen]at aT;rw[S]at aS aw;rw[ij dB.u dc.i qf ky ff Ω Ω Ω,if_neg Ω];have C:U4 (λx:Addr=>x.add (q*4)) (σ ⟨g,0,ν⟩)=σ ⟨g,q*4,ν⟩:=by simp[T4]
  rw[C];refine Eg dB.u dc.i F ?_ aR Ω λav ad ae=>?_
  .exact ya Φ Φ
  obtain⟨vs,bg,ae⟩:∃vs:List x1,vs.length=(j-q)*4/\ah av g dc (over cs (q*4) vs):=⟨_,o6 _ _,ae⟩;rw[ij dB.u dc.i kx qg ff Ω Ω Ω,if_neg Ω];have P:U4 (λx:Addr=>x.add (0*4)) (σ ⟨g,0,ν⟩)=σ ⟨g,0,ν⟩:=by simp[T4]
  rw[P];refine⟨(H.trans ad).mono λr _=>aj r,?_,λr O=>by obtain⟨a,_,_,e,aU⟩:=O;cases e;exact⟨_,_,_,F,aU⟩⟩;have ax:(l.filter λx=>!p x).length=q:=by rw[<-B,j6];omega
  refine⟨⟨jn λ_ _=>rfl,.inr ⟨z,_,by rw[ax,Nat.sub_zero,Nat.sub_zero],ae,Ω,by simp only[maxLen];omega,by rw[mp];omega,?_⟩⟩,λ_ _=>rfl⟩;have aW:(l.filter λx=>!p x).flatMap fh=(s.flatMap fh).take (q*4):=by rw[qz (f:=fh) q (λ_ _=>rfl),B]
  rw[ax,aW,<-aw,List.take_take,Nat.min_eq_left Ω];apply Y9;intro k;by_cases hk:k<q*4
  .rw[Y2 hk,Y2 hk,nY _ _ _ Ω,if_neg Ω]
  .rw[Z7 (by rw[j6];omega),Z7 (by rw[j6];omega)]
end
def kP(w J:x3)(ag g1 go:Nat)(l:List bJ):Prop:=Ext w J/\ah J g1 dm [Γ ag]/\∃v g,ah J go dB [v]/\jv J g v l/\∀r,leadsTo v r->w.heap.size<=r
def kP.ext{go:Nat}{l:List bJ}(h:kP w aa ag g1 go l)(U:Ext aa ab):kP w ab ag g1 go l:=by
 obtain⟨h1,a,v,g,e,f,p⟩:=h;exact⟨h1.trans U,a.ext U,v,g,e.ext U,f.ext U,p⟩
def Rh{v:x1}(h:∃a n c,v= .slice a n c):v.cells= #[v]/\v.oneCell'=true:=by
 obtain⟨a,n,c,rfl⟩:=h;exact⟨F,F⟩
def sO(aa ab:x3):Prop:=∀b e cs,ah aa b e cs->e≠dc->e≠dB->ah ab b e cs
def sO.ext(h:Ext aa ab):sO aa ab:=λ_ _ _ a _ _=>a.ext h
def sP{go g:Nat}{v x:x1}{l:List bJ}{K:Unit->x3->Prop}(a:bJ)(U:Ext w aa)(L:ah aa g1 dm [Γ ag])(M:ah aa go dB [v])(hm:jv aa g v l)(G:∀r,leadsTo v r->w.heap.size<=r)(Z:w.heap.size<=go)(N:x.cells=(fh a).toArray)(ad:l.length<=100000000)(O:∀ab,kP w ab ag g1 go (l++[a])->sO aa ab->K () ab):
  aF x7 (Y5 dB 1 #[(0,x)]) aa λy ab=>aF x7 (Z5 #[dB,dB] dB #[v,y]) ab λz q=>
   aF x7 (l9 dB (Γ go) z) q K:=by
 refine im dB.u dc.i Ω N rfl λy gy ab ae s P=>?_;refine jo dB.u dc.i rfl (hm.ext s) (by simpa using P.sl) (pI a) Ω Ω λz gz q A Q H=>?_;have:=U.size;have:=s.size;have B:∀b e cs,ah aa b e cs->e≠dc->ah q b e cs:=λb e cs f he=>(f.ext s).ac H λp=>by
  obtain⟨rfl,b4,C⟩:=dM hm p;exact he (eG f C)
 have E:=B _ _ _ M Φ;have R:=B _ _ _ L Φ;obtain⟨S,V⟩:=Rh (by obtain⟨_,_,_,_,_,e,_⟩:=A.sl;exact⟨_,_,_,e⟩);refine bp (g:=go) (o:=0) dB.i S V E Ξ λI F aj W=>?_;have J:∀b e cs,ah q b e cs->e≠dB->ah I b e cs:=λb e cs f he=>f.ac F λh=>by
  have h:=h;subst h;exact he (eG f E)
 have X:∀r,leadsTo z r->w.heap.size<=r:=λr p=>(Q r p).elim (G r) λh=>Ω
 refine O I ⟨((U.trans s).then H λr p he=>by have:=G r he;omega).then F λr p he=>by have he:r=go:=he;omega,J _ _ _ R Φ,z,gz,W,A.ac F λr p he=>?_,X⟩ λb e cs f h1 Y=>J b e cs (B b e cs f h1) Y;have he:r=go:=he;subst he;obtain⟨rfl,b4,C⟩:=dM A p;exact absurd (eG C E) Φ
section
variable{w:x3}{ag gT:Nat}{A R:ak}{n:aH}{s:aq}{t:aD}
def Ri(h:bz w ag gT A R n s t)(L:Laid w):an x7 HV [Γ ag] w λv J=>Ext w J/\∃g,jv J g v (mL n s n.sizes.length)/\∀r,leadsTo v r->w.heap.size<=r:=by
 have y:=h.2.2.2.1;have:=y.fT.2.1;refine iG func22 ?_;refine bh λg1 aa cb al S=>?_;have S:ah aa g1 dm [Γ ag]:=S;refine bu dB.i λgo ab V M ao=>?_;have ao:ah ab go dB [.slice ν 0 0]:=ao;have:=al.size;have:=M.size;rw[ax Ψ ((S.ext M).cell F)];refine(Fl (h.ext (al.trans M))).mono ?_;rintro _ ce _ ⟨rfl,ap⟩;have V:w.heap.size<=go:=Ω
 have z:∀{N:x3}{K:x1->Prop},ah N g1 dm [Γ ag]->K (Γ ag)->ad x7 (u5 dm (Γ g1)) N K:=λaq au=>by
  rw[ax Ψ (aq.cell F)];exact au
 refine cq.range n.sizes.length (λi av=>kP w av ag g1 go (mL n s i)) Ω ⟨(al.trans M).trans ap,(S.ext M).ext ap,_,0,ao.ext ap,bm.nil _ _ _ _ _,λr a=>(eW a).elim⟩ ?_ ?_
 rotate_left
 .rintro av bl ⟨bn,_,v,g,bo,bs,bt⟩;refine ca Ω ?_;rw[ax (v:=v) Ψ (bo.Qz F)];intro aw aN _;exact⟨bn.trans aN,g,bs.ext aN,bt⟩
 rintro i av bl hi aO bw;have aQ:mL n s (i+1)=mL n s i++jQ n s i:=qY i;have bx:=FH (m:=i) y;generalize mL n s i=W at aO aQ bx;refine bB Ω ?_;refine da (λaw=>kP w aw ag g1 go (W++jQ n s i)) (λaw bC=>?_) λaB B=>?_
 .rw[aM];exact bw _ (by rw[aQ];exact bC)
 refine bu aj.i λO cf cg bD bE=>?_;refine bp (g:=O) (o:=0) aj.i F rfl bE Φ λch bF ci X=>?_;have X:=X;have Y:=aO.ext (bD.put bF Ω);have C:∀{N:x3}{K:x1->Prop},ah N O aj [Δ (i:Int)]->K (Δ (i:Int))->ad x7 (u5 aj (Γ O)) N K:=λaq au=>by
  rw[ax Ψ (aq.cell F)];exact au
 refine z Y.2.1 (C X ?_);refine(QN (h.ext Y.1) (L.ext Y.1)).mono ?_;rintro r bG _ ⟨aR,bH,ay⟩;have az:=Y.ext aR;have aA:=X.ext aR;cases ae:fW n s i with
 |false=>
  obtain rfl:=bH ae;rw[fN,fO,fP,bA,am];refine⟨λ_=>B _ ?_,λh=>absurd Φ h⟩;unfold jQ;rw[ae,if_neg Φ,Y8];exact az
 |true=>
 obtain⟨_,x,Z,_⟩:=yU y ae;have aC:bj s i=aE x:=by unfold bj;rw[Z]
 have a:=ay x ae Z;rw[<-aC]at a;have a:r= .tuple #[Δ (mK n s i).1,Δ (mK n s i).2,Δ 0]:=a;subst a;have bI:jQ n s i=gI n s i++((bj s i).flatMap (dV n s i)++ju n s i):=by unfold jQ;rw[if_pos ae]
 have:=pH (i:=(i:Int)) y;rw[fN,fO,fP,bA,am];refine⟨λh=>absurd F h,λ_=>?_⟩;refine da (λH=>kP w H ag g1 go (W++gI n s i)/\ah H O aj [Δ (i:Int)]) ?_ ?_
 rotate_left
 .intro ck aS;refine aV (λr H=>r= .bool (decide (0<(mK n s i).1\/(mK n s i).2<0))/\H=bG) ?_ ?_
  .rintro _ _ ⟨rfl,rfl⟩;rw[am];refine⟨λp=>?_,λp=>aS _ ⟨?_,aA⟩⟩
   .obtain⟨P,bJ,v,g,aT,bK,bM⟩:=az;rw[ax Ψ (aT.cell F)];refine C aA ?_;rw[cJ (cs:=#[Δ 1,Δ (i:Int),Δ (-1),Δ (-1)]) Ψ];refine sP ⟨1,i,-1,-1⟩ P bJ aT bK bM V F Ω λH E bN=>aS _ ⟨?_,bN _ _ _ aA Φ Φ⟩;unfold gI er;rw[if_pos p];exact E
   .unfold gI er;rw[if_neg p,Y8];exact az
  .intro bO Q;rw[bL,am];refine⟨λh1=>Q _ _ ⟨by rw[decide_eq_true (.inl h1)],F⟩,λh1=>?_⟩;rw[aP];refine Q _ _ ⟨?_,F⟩;congr 1;exact decide_eq_decide.2 ⟨.inr,λh=>h.resolve_left h1⟩
 rintro H ⟨E,aU⟩;have bP:(W++gI n s i).length<=34*i+1:=by
  have:(gI n s i).length<=1:=dY;rw[r8];omega
 rw[bI,<-X6]at B;generalize W++gI n s i=aD at E B bP;refine z E.2.1 (C aU ?_);refine(kN (i:=(i:Int)) (h.ext E.1)).mono ?_;rintro _ cl _ ⟨⟨b,m,rfl,aW⟩,bQ⟩;refine(oa).mono ?_;rintro _ cm _ ⟨bR,ba,rfl,cn,bS⟩;have aF:=nA aW Ω Z;rw[<-aC]at aF;have aG:=bQ.trans bR;refine k0.old ⟨_,false,jW,#[Γ ba],_,_,_,_,λj J=>kP w J ag g1 go (aD++((bj s i).take j).flatMap (dV n s i))/\ah J O aj [Δ (i:Int)],λ_ _ _=>False,F,(n8 (g:=ba) aW.1).s,?_,
  λ_ _ U h=>⟨h.1.ext U,h.2.ext U⟩,λ_ _ _ aX h=>⟨h.1.ext aX,h.2.ext aX⟩,λ_ _ _ _ _ h=>h,⟨bS,L.ext (E.1.trans aG)⟩,⟨by simpa using E.ext aG,aU.ext aG⟩,?_,?_,λ_ _ h=>h.elim,λ_ _ _ h=>h.elim⟩
 .rintro _ _ _ _ ⟨_,_,_,_,rfl⟩;rfl
 .rintro _ j _ bT ⟨bU,_⟩ ⟨cp,rfl,v,ae,bV⟩ ⟨q,ac⟩;cases bV;intro aY I _ _;have bW:(bj s i)[j]?=σ (v:Int):=by rw[<-aF,x8,ae];rfl
  have aZ:((bj s i).take (j+1)).flatMap (dV n s i)=((bj s i).take j).flatMap (dV n s i)++dV n s i v:=by
   rw[u9,bW,j4,List.flatMap_append,List.flatMap_singleton]
  have af:=gJ (l:=(bj s i).take j) (f:=dV n s i) (k:=1) λv _=>dY;rw[j6]at af;generalize ((bj s i).take j).flatMap (dV n s i)=a1 at q af aZ;have a2:aD++((bj s i).take (j+1)).flatMap (dV n s i)=(aD++a1)++dV n s i v:=by rw[aZ,X6]
  have G:=q.ext I;have ai:=ac.ext I;have bX:=bU.ext I;refine z G.2.1 (C ai ?_);refine yT (h.ext G.1) λe aH bY=>?_;rw[bq,br];intro cr bZ _ _;have a6:=bY.trans bZ;have ak:=G.ext a6;refine z ak.2.1 (z ak.2.1 ?_);refine(vr (h.ext ak.1)).mono ?_;rintro _ ct _ ⟨rfl,aI⟩;refine⟨.inl aI,?_⟩;have a7:=ak.ext aI;refine(lp (h.ext a7.1)).mono ?_;rintro _ cu _ ⟨rfl,a8⟩;refine(Fp y.zero (sL y) y.en).mono ?_;rintro _ cw _ ⟨rfl,bb⟩;have bc:=(a7.ext a8).ext bb;rw[bq,br];refine z bc.2.1 ?_;refine(lp (h.ext bc.1)).mono ?_;rintro _ cz _ ⟨rfl,b0⟩;have aJ:=(((a6.trans aI).trans a8).trans bb).trans b0;have aK:=G.ext aJ;have aL:=ai.ext aJ;have bd:=bX.ext aJ;rw[bf,am];refine⟨λp=>?_,λp=>?_⟩
  .obtain⟨P,b1,u,g,be,b2,b3⟩:=aK;rw[ax Ψ (be.cell F)];refine C aL ?_;rw[cJ (cs:=#[Δ 1,Δ (i:Int),Δ (-1),Δ (v:Int)]) Ψ];refine sP ⟨1,i,-1,v⟩ P b1 be b2 b3 V F (by rw[r8];omega) λcA bg bi=>?_;refine⟨⟨bi _ _ _ bd Φ Φ,L.ext bg.1⟩,⟨?_,bi _ _ _ aL Φ Φ⟩,λh=>by cases h⟩;rw[a2];unfold dV er;rw[if_pos p];exact bg
  .refine⟨⟨bd,L.ext aK.1⟩,⟨?_,aL⟩,λh=>by cases h⟩;rw[a2];unfold dV er;rw[if_neg p,Y8];exact aK
 .rintro k bT rfl ⟨q,ac⟩;have b4:(bj s i).take (fS b m).length=bj s i:=Z2 (by rw[<-aF,r9];exact o4 _);rw[b4]at q;have af:=gJ (l:=bj s i) (f:=dV n s i) (k:=1) λv _=>dY;rw[<-X6]at B;generalize (bj s i).flatMap (dV n s i)=a1 at q B af;refine z q.2.1 (C ac ?_);refine(QX (h.ext q.1) (L.ext q.1)).mono ?_;rintro r aY _ ⟨I,_,ay⟩;have a:=ay x ae Z;rw[<-aC]at a;have a:r= .tuple #[Δ (lv n s i).1,Δ (lv n s i).2,Δ 0]:=a;subst a;have G:=q.ext I;have ai:=ac.ext I;rw[fN,fO,fP];refine aV (λr aH=>r= .bool (decide (0<(lv n s i).1\/(lv n s i).2<0))/\aH=aY) ?_ ?_
  .rintro _ _ ⟨rfl,rfl⟩;rw[am];refine⟨λp=>?_,λp=>B _ ?_⟩
   .obtain⟨P,b5,v,g,bk,b6,b7⟩:=G;rw[ax Ψ (bk.cell F)];refine C ai ?_;rw[cJ (cs:=#[Δ 4,Δ (i:Int),Δ (-1),Δ (-1)]) Ψ];refine sP ⟨4,i,-1,-1⟩ P b5 bk b6 b7 V F (by rw[r8];omega) λaH b8 cB=>B _ ?_;unfold ju er;rw[if_pos p];exact b8
   .unfold ju er;rw[if_neg p,Y8];exact G
  .intro bO Q;rw[bL,am];refine⟨λh1=>Q _ _ ⟨by rw[decide_eq_true (.inl h1)],F⟩,λh1=>?_⟩;rw[aP];refine Q _ _ ⟨?_,F⟩;congr 1;exact decide_eq_decide.2 ⟨.inr,λh=>h.resolve_left h1⟩
end
def Rj{k:n9}{g:Nat}{v:x1}(h:ay k e aa g v l)(hk:sO aa ab)(h1:e≠dc)(a:e≠dB):ay k e ab g v l:=
 ⟨h.1,h.2.imp id λ⟨cap,cs,f,p,q⟩=>⟨cap,cs,f,hk _ _ _ p h1 a,q⟩⟩
def lu.nil{v:x1}{o:Option (Λ)}(h:lu w B v o):∃a n c,v= .slice a n c/\a.isNone=decide (o=ν):=by
 cases o with
 |none=>exact⟨ν,0,0,h,F⟩
 |some tl=>
  obtain⟨h1,g,_,e⟩:=h;obtain⟨_,⟨_,f⟩|⟨cap,cs,rfl,_⟩⟩:=e
  .exact absurd (b6 f) h1
  .exact⟨_,_,_,F,F⟩
section
variable{w:x3}{ag gT:Nat}{A R:ak}{n:aH}{s:aq}{t:aD}
def Rk(h:bz w ag gT A R n s t):∀r,A r\/R r->r<w.heap.size:=λr a=>by
 obtain⟨p,q,x,y,⟨_,_,e,f⟩,_⟩:=h.1;exact a.elim (f r) (e r)
def Rl{p:Nat}{f:bS}(a:bk n.k n.sizes s)(af:s.funs[j]?=σ f)(e:f.live≠0)(h:p<f.sc.length)(ae:v∈bj s (f.sc.getD p 0)):∃x,kO s j p v f (f.sc.getD p 0) x:=by
 have hu:f.sc[p]?=σ (f.sc.getD p 0):=by rw[u4,x6 h,V2]
 have q:=(a.funs f (x5 af)).1;unfold bj at ae;split at ae
 .rename_i x U;exact⟨x,Ω,by rw[u7];exact af,e,Ω,by rw[u7];exact hu,(q.scope.1 _ (x5 hu)).1,U,ae⟩
 .cases ae
def Rm{p:Nat}{f:bS}{x:bC}{r:x1}(z:bk n.k n.sizes s)(w:kO s j p v f (f.sc.getD p 0) x)(C:FF n s j p v r):
  ∃c d e:Int,r= .tuple #[Δ c,Δ d,Δ e]/\(e=0↔f.sc.length=2)/\(f.sc.length=2->p=0->c=(nD n s j f v).1):=by
 obtain⟨h1,E⟩:=C.2 f _ x w;by_cases a:f.sc.length=2
 .have F:=(x4.1 w.hu).1;rw[u7]at F;have A:=(z.funs f (x5 w.af)).1;obtain⟨o,q⟩:=aI (l:=f.sc) (i:=(1-(p:Int)).toNat) Ω;have:=z.vars;have:=(A.scope.1 _ (x5 q)).1;have:=A.vars _ (x5 q);obtain⟨y,B⟩:=aI (l:=s.vars) (i:=o.toNat) Ω;refine⟨_,_,0,E a o y q B,⟨λ_=>a,λ_=>rfl⟩,λ_ G=>?_⟩;subst G;have H:f.sc.getD 1 0=o:=by rw[u4,show f.sc[1]?=σ o from q];rfl
  have I:bj s o=aE y:=by unfold bj;rw[B]
  unfold nD;rw[H,I,u7];rfl
 .exact⟨_,_,1,h1 a,⟨(λh=>by cases h),λh=>absurd h a⟩,λh=>absurd h a⟩
def Rn(h:bz w ag gT A R n s t)(N:Laid w)(dq:s.funs.length<=100000):an x7 HW [Γ ag] w λv J=>Ext w J/\∃g,jv J g v (mM n s s.funs.length)/\∀r,leadsTo v r->w.heap.size<=r:=by
 have G:=h.2.2.2.1;have:=G.fT.2.1;refine iG func23 ?_;refine bh λg1 aa dt aL al=>?_;have al:ah aa g1 dm [Γ ag]:=al;refine bu dB.i λgo ab aN O aO=>?_;have aO:ah ab go dB [.slice ν 0 0]:=aO;have:=aL.size;have:=O.size;rw[ax (v:=Γ ag) Ψ ((al.ext O).Qz F)];refine(sH (h.ext (aL.trans O))).mono ?_;rintro _ dw _ ⟨rfl,aP⟩;have aN:w.heap.size<=go:=Ω
 have P:∀{y:x3}{K:x1->Prop},ah y g1 dm [Γ ag]->K (Γ ag)->ad x7 (u5 dm (Γ g1)) y K:=λaR aS=>by
  rw[ax (v:=Γ ag) Ψ (aR.Qz F)];exact aS
 have E:∀{y:x3}{b:Nat}{z:Int}{K:x1->Prop},ah y b aj [Δ z]->K (Δ z)->ad x7 (u5 aj (Γ b)) y K:=λ{y b z K}aR aS=>by
  rw[ax (v:=Δ z) Ψ (aR.cell F)];exact aS
 refine cq.range s.funs.length (λj aT=>kP w aT ag g1 go (mM n s j)) Ω ⟨(aL.trans O).trans aP,(al.ext O).ext aP,_,0,aO.ext aP,bm.nil _ _ _ _ _,λr I=>(eW I).elim⟩ ?_ ?_
 rotate_left
 .rintro aT ck ⟨cl,_,v,g,cm,cn,cp⟩;refine ca Ω ?_;rw[ax Ψ (cm.Qz F)];intro aU bw _;exact⟨cl.trans bw,g,cn.ext bw,cp⟩
 rintro j aT ck cr bx ct;have bA:mM n s (j+1)=mM n s j++kl n s j:=qY j;have cu:=FJ (m:=j) G;generalize mM n s j=ap at bx bA cu;refine bB Ω ?_;refine da (λaU=>kP w aU ag g1 go (ap++kl n s j)) (λaU cw=>?_) λaB aW=>?_
 .rw[aM];exact ct _ (by rw[bA];exact cw)
 obtain⟨f,af⟩:=aI (l:=s.funs) cr;refine bu aj.i λaq dx dy cz cA=>?_;refine bp (g:=aq) (o:=0) aj.i F rfl cA Φ λdz cB dA au=>?_;have au:=au;have aY:=bx.ext (cz.put cB Ω);refine P aY.2.1 (E au ?_);refine(sI (j:=(j:Int)) (h.ext aY.1)).mono ?_;rintro _ dC _ ⟨rfl,bC⟩;have av:=aY.ext bC;have bD:=au.ext bC;rw[decide_eq_true Ω,T9,u7];have cC:fd s j=decide (f.live≠0):=by unfold fd;rw[af]
 rw[cC,bM,cd];have bE:kl n s j=if f.live≠0 then(Z4 f.sc.length).flatMap (ib n s j f)else[]:=by unfold kl;rw[af]
 refine⟨λQ=>aW _ ?_,λS=>?_⟩
 .rw[bE,if_neg (by simpa using Q),Y8];exact av
 have bF:f.live≠0:=by simpa using S
 rw[bE,if_pos bF]at aW;have dD:f.sc.length<=6:=(G.funs f (x5 af)).1.scope.2;refine P av.2.1 (E bD ?_);refine(l7 (h.ext av.1) af).mono ?_;rintro aQ dE _ ⟨bG,bI,_,bH⟩;have cD:=av.ext bG;have cE:=bD.ext bG;rw[aX ao.u bH.ls];refine cq.range f.sc.length (λp V=>kP w V ag g1 go (ap++(Z4 p).flatMap (ib n s j f))/\ah V aq aj [Δ (j:Int)]/\ay .i64 aj V bI aQ f.sc) Ω ⟨by simpa using cD,cE,bH⟩ ?_ ?_
 rotate_left
 .rintro V cF ⟨aw,_⟩;refine ca Ω ?_;exact aW _ aw
 rintro p V cF az ⟨aw,cG,bJ⟩ W;have cH:(Z4 (p+1)).flatMap (ib n s j f)=(Z4 p).flatMap (ib n s j f)++ib n s j f p:=qY p;have cI:=gJ (l:=Z4 p) (f:=ib n s j f) (k:=64) λv _=>FI G;rw[S0]at cI;rw[cH,<-X6]at W;have cK:(ap++(Z4 p).flatMap (ib n s j f)).length<=384*j+384:=by rw[r8];omega
 generalize ap++(Z4 p).flatMap (ib n s j f)=X at aw W cK;have hu:f.sc[p]?=σ (f.sc.getD p 0):=by rw[u4,x6 az,V2]
 have bK:=(G.funs f (x5 af)).1;have bN:=(bK.scope.1 _ (x5 hu)).1;have cL:=bK.vars _ (x5 hu);have bO:=λv (ae:v∈bj s (f.sc.getD p 0))=>Rl (n:=n) G af bF az ae;have cM:ib n s j f p=(bj s (f.sc.getD p 0)).flatMap λv=>ds n s j f p (f.sc.getD p 0) v++dP n s j f p (f.sc.getD p 0) v:=rfl;have bP:=λv x r (az:kO s j p v f (f.sc.getD p 0) x)=>Rm (n:=n) (r:=r) G az;rw[cM]at W;generalize bQ:f.sc.getD p 0=u at hu bN cL bO W bP;have aZ:=G.vars;obtain⟨x,bR⟩:=aI (l:=s.vars) (i:=u.toNat) Ω;have cN:bj s u=aE x:=by unfold bj;rw[bR]
 refine bB Ω ?_;rw[be ao.u aj.i Ψ bJ.ls hu];refine bu aj.i λbs dF dG bS bT=>?_;refine bu aj.i λaA dH dI a1 cO=>?_;have:=bT.lt;have:=bS.size;have:=a1.size;refine bp (g:=bs) (o:=0) aj.i F rfl (bT.ext a1) Φ λdL bU dM a2=>?_;have a2:=a2;refine bp (g:=aA) (o:=0) aj.i F rfl (cO.ac bU Ω) Φ λdN bV dO aC=>?_;have aC:=aC;have cP:=a2.ac bV Ω;have a6:=((bS.trans a1).then bU λr I he=>by have he:r=bs:=he;omega).then bV λr I he=>by have he:r=aA:=he;omega
 have aD:=aw.ext a6;have cQ:=cG.ext a6;have cR:=bJ.ext a6;refine P aD.2.1 (E aC ?_);refine(kN (i:=u) (h.ext aD.1)).mono ?_;rintro _ dQ _ ⟨⟨b,m,rfl,bW⟩,cS⟩;refine(oa).mono ?_;rintro _ cT _ ⟨cU,ba,rfl,dR,bX⟩;have a7:=nA bW bN bR;rw[<-cN]at a7;have L:=cS.trans cU;have:=pH (i:=u) G;have cV:∀v,(ds n s j f p u v++dP n s j f p u v).length<=2:=λv=>by
  have h1:(ds n s j f p u v).length<=1:=dY;have a8:(dP n s j f p u v).length<=1:=dY;rw[r8];omega
 obtain⟨C,H⟩:∃C:x3->Prop,C=λy=>ah y aq aj [Δ (j:Int)]/\ah y bs aj [Δ (p:Int)]/\ah y aA aj [Δ u]/\ay .i64 aj y bI aQ f.sc/\ah y ba b5 [.int .u64 (b:Int),Δ (m:Int)]:=⟨_,F⟩;have bb:∀{Y y:x3},C Y->sO Y y->C y:=λB hk=>by
  rw[H]at B ⊢;obtain⟨cW,cX,cY,cZ,c0⟩:=B;exact⟨hk _ _ _ cW Φ Φ,hk _ _ _ cX Φ Φ,hk _ _ _ cY Φ Φ,Rj cZ hk Φ Φ,hk _ _ _ c0 Φ Φ⟩
 have aF:∀{Y y:x3},C Y->Ext Y y->C y:=λB U=>bb B (.ext U);have Z:∀{y:x3},C y->ah y aq aj [Δ (j:Int)]:=λB=>by rw[H]at B;exact B.1
 have bc:∀{y:x3},C y->ah y bs aj [Δ (p:Int)]:=λB=>by rw[H]at B;exact B.2.1
 have bY:∀{y:x3},C y->ah y aA aj [Δ u]:=λB=>by rw[H]at B;exact B.2.2.1
 have c1:∀{y:x3},C y->ay .i64 aj y bI aQ f.sc:=λB=>by rw[H]at B;exact B.2.2.2.1
 have bZ:∀{y:x3},C y->ah y ba b5 [.int .u64 (b:Int),Δ (m:Int)]:=λB=>by rw[H]at B;exact B.2.2.2.2
 have c2:C cT:=by rw[H];exact⟨cQ.ext L,cP.ext L,aC.ext L,cR.ext L,bX⟩
 clear H;refine k0.old ⟨_,false,jW,#[Γ ba],_,_,_,_,λq J=>kP w J ag g1 go (X++((bj s u).take q).flatMap λv=>ds n s j f p u v++dP n s j f p u v)/\C J,λ_ _ _=>False,F,(n8 (g:=ba) bW.1).s,?_,
  λ_ _ U h=>⟨h.1.ext U,h.2.ext U⟩,λ_ _ _ b0 h=>⟨h.1.ext b0,aF h.2 b0⟩,λ_ _ _ _ _ h=>h,⟨bX,N.ext (aD.1.trans L)⟩,⟨by simpa using aD.ext L,c2⟩,?_,?_,λ_ _ h=>h.elim,λ_ _ _ h=>h.elim⟩
 .rintro _ _ _ _ ⟨_,_,_,_,rfl⟩;rfl
 rotate_left
 .rintro q c3 rfl ⟨ai,aG⟩;have c4:(bj s u).take (fS b m).length=bj s u:=Z2 (by rw[<-a7,r9];exact o4 _);rw[c4]at ai;rw[aM];exact W _ ⟨ai,Z aG,c1 aG⟩
 rintro _ q _ c3 ⟨_,_⟩ ⟨dT,rfl,v,ae,c5⟩ ⟨ai,aG⟩;cases c5;intro dU b1 _ _;have aZ:(bj s u)[q]?=σ (v:Int):=by rw[<-a7,x8,ae];rfl
 obtain⟨b2,bd⟩:=bO v (x5 aZ);have c6:((bj s u).take (q+1)).flatMap (λv=>ds n s j f p u v++dP n s j f p u v)=((bj s u).take q).flatMap (λv=>ds n s j f p u v++dP n s j f p u v)++(ds n s j f p u v++dP n s j f p u v):=by
  rw[u9,aZ,j4,List.flatMap_append,List.flatMap_singleton]
 have c7:=gJ (l:=(bj s u).take q) (f:=λv=>ds n s j f p u v++dP n s j f p u v) (k:=2) λv _=>cV v;rw[j6]at c7;have c8:(X++((bj s u).take q).flatMap λv=>ds n s j f p u v++dP n s j f p u v).length<=384*j+448:=by rw[r8];omega
 have aH:X++((bj s u).take (q+1)).flatMap (λv=>ds n s j f p u v++dP n s j f p u v)=(X++((bj s u).take q).flatMap (λv=>ds n s j f p u v++dP n s j f p u v))++ds n s j f p u v++dP n s j f p u v:=by rw[c6,X6,X6]
 generalize X++((bj s u).take q).flatMap (λv=>ds n s j f p u v++dP n s j f p u v)=bg at ai c8 aH;have aJ:=ai.ext b1;have bi:=aF aG b1;have dV:(ds n s j f p u v).length<=1:=dY;refine da (λbk=>kP w bk ag g1 go (bg++ds n s j f p u v)/\C bk) ?_ ?_
 .rintro bk ⟨ak,bl⟩;have c9:(bg++ds n s j f p u v).length<=384*j+449:=by rw[r8];omega
  generalize bg++ds n s j f p u v=dW at ak c9 aH;refine P ak.2.1 (E (Z bl) (E (bc bl) ?_));refine(QP (h.ext ak.1) (N.ext ak.1)).mono ?_;rintro r db _ ⟨b3,I⟩;obtain⟨c,d,e,rfl,he,dc⟩:=bP v b2 r bd I;have bn:=ak.ext b3;have M:=aF bl b3;rw[fN,fO,fP];refine aV (λr b4=>r= .bool (decide (f.sc.length=2/\p=0/\0<(nD n s j f v).1))/\b4=db) ?_ ?_
  .rintro _ _ ⟨rfl,rfl⟩;rw[am];refine⟨λS=>?_,λQ=>?_⟩
   .obtain⟨bo,dd,o,g,b6,de,df⟩:=bn;rw[ax Ψ (b6.cell F)];refine E (bY M) (E (Z M) ?_);rw[cJ (cs:=#[Δ 3,Δ u,Δ (j:Int),Δ (v:Int)]) Ψ];refine sP ⟨3,u,j,v⟩ bo dd b6 de df aN F Ω λb4 b7 dg=>?_;have b8:=bb M dg;refine⟨⟨bZ b8,N.ext b7.1⟩,⟨?_,b8⟩,λh=>by cases h⟩;rw[aH];unfold dP er;rw[if_pos S];exact b7
   .refine⟨⟨bZ M,N.ext bn.1⟩,⟨?_,M⟩,λh=>by cases h⟩;rw[aH];unfold dP er;rw[if_neg Q,Y8];exact bn
  .intro dX bq;rw[bf,am];refine⟨λbr=>?_,λbr=>bq _ _ ⟨by rw[decide_eq_false λh=>br (he.2 h.1)],F⟩⟩;have a8:=he.1 br;refine E (bc M) ?_;rw[bf,am];refine⟨λb9=>?_,λb9=>bq _ _ ⟨by rw[decide_eq_false λh=>b9 Ω],F⟩⟩;rw[bL];refine bq _ _ ⟨?_,F⟩;congr 1;rw[<-dc a8 Ω];exact decide_eq_decide.2 ⟨λh=>⟨a8,Ω,h⟩,λh=>h.2.2⟩
 .intro dZ cb;refine P aJ.2.1 (E (Z bi) (E (bc bi) ?_));have cc:=h.ext aJ.1;refine(Ra cc (N.ext aJ.1) (Rk cc)).mono ?_;rintro r dh _ ⟨ce,_,I⟩;obtain⟨ea,rfl,bt⟩:=I f u b2 (by rw[<-bQ];rw[<-bQ]at bd;exact bd);simp only[u7]at bt ⊢;have cf:ep n.k (e1 s j) (e2 s f.sc p f.sc.length 0 ((o8 f.sc.length 0).set p (v:Int)))=nC n s j f p v:=rfl;rw[cf]at bt;rw[cf];obtain⟨a,eb,ec,rfl,di⟩:=bt.nil;have cg:=aJ.ext ce;have aK:=aF bi ce;rw[fN,fO,fP];refine aV (λr ch=>r= .bool (decide (0<(nC n s j f p v).1\/(nC n s j f p v).2=ν))/\ch=dh) ?_ ?_
  .rintro _ _ ⟨rfl,rfl⟩;rw[am];refine⟨λS=>?_,λQ=>cb _ ⟨?_,aK⟩⟩
   .obtain⟨bo,dj,o,g,ci,dk,dl⟩:=cg;rw[ax Ψ (ci.cell F)];refine E (bY aK) (E (Z aK) ?_);rw[cJ (cs:=#[Δ 2,Δ u,Δ (j:Int),Δ (v:Int)]) Ψ];refine sP ⟨2,u,j,v⟩ bo dj ci dk dl aN F Ω λch dn dp=>cb _ ⟨?_,bb aK dp⟩;unfold ds er;rw[if_pos S];exact dn
   .unfold ds er;rw[if_neg Q,Y8];exact cg
  .intro ed cj;rw[bL,am];refine⟨λh1=>cj _ _ ⟨by rw[decide_eq_true (.inl h1)],F⟩,λh1=>?_⟩;rw[nX ao.u,di];refine cj _ _ ⟨?_,F⟩;congr 1;exact decide_eq_decide.2 ⟨.inr,λh=>h.resolve_left h1⟩
end
def pJ(l:Λ):Int:=(l.find? λx=>decide (x≠0)).getD 0
def Ro{f:x1}(h:aK .i64 w f l):an x7 AU [f] w λv J=>v=Δ (pJ l)/\Ext w J:=by
 refine aA func28 ?_;rw[aX ao.u h];refine bV.range l.length (λi _ aa=>Ext w aa/\pJ l=pJ (l.drop i)) h.le ⟨Ext.refl _,Ξ⟩ ?_ ?_
 .rintro i _ aa k hi ⟨a,h1⟩ hk;refine bB Ω ?_;obtain⟨y,p⟩:=aI (l:=l) hi;have e:l.drop i=y::l.drop (i+1):=by rw[X5 hi,(x4.1 p).2]
  rw[be ao.u aj.i Ψ (h.ext a) p,bA,am];refine⟨λq=>⟨?_,a⟩,λhe=>?_⟩
  .rw[h1,e];unfold pJ;rw[List.find?_cons,decide_eq_true q];rfl
  .rw[aM];refine hk _ _ ⟨a,?_⟩;rw[h1,e];unfold pJ;rw[List.find?_cons,decide_eq_false he]
 .rintro _ aa k ⟨a,h1⟩;rw[List.drop_length]at h1;rw[aP,am];exact⟨λh=>Ω,λ_=>⟨by rw[h1];rfl,a⟩⟩
def Rp(a b:bJ):pJ [fA a.dr b.dr,fA a.i b.i,fA a.j b.j,fA a.v b.v]=sM a b:=by
 unfold pJ sM;by_cases h1:fA a.dr b.dr≠0
 .simp[h1]
 by_cases e:fA a.i b.i≠0
 .simp[h1,e]
 by_cases f:fA a.j b.j≠0
 .simp[h1,e,f]
 by_cases h:fA a.v b.v≠0
 .simp[h1,e,f,h]
 .simp[h1,e,f,h];omega
def mN:List (Λ):=[[110,111,110,101],[110,99],[97,99],[102,100,97,99],[101,100,97,99]]
def jL(level:Int):Λ:=if 0<=level then mN.getD level.toNat []else[]
def Rq(level:Int):Bytes (jL level):=by
 unfold jL;split
 .rw[u4];cases h:mN[level.toNat]? with
  |none=>intro b a;cases a
  |some l=>
   have:∀l∈mN,∀b∈l,0<=b/\b<256:=Φ
   exact this l (x5 h)
 .intro b a;cases a
def y0(level:Int):jL level=[]↔¬(0<=level/\level<5):=by
 unfold jL;by_cases h:0<=level/\level<5
 .rw[if_pos h.1,u4];have e:level.toNat<mN.length:=by show _<5;omega
  rw[x6 e,V2];have:∀l∈mN,l≠[]:=Φ
  exact⟨λa=>absurd a (this _ (S3 e)),λa=>absurd h a⟩
 .refine⟨λ_=>h,λ_=>?_⟩;split
  .rw[u4,Z7 (by show 5<=_;omega),Option.getD_none]
  .rfl
section
variable{w:x3}{ag gT:Nat}{A R:ak}{n:aH}{s:aq}{t:aD}{level:Int}
def Rr:an x7 HU [Δ level] w λv J=>Ext w J/\v=bW (jL level):=by
 refine aA func21 ?_;rw[cJ (cs:=(mN.map bW).toArray) Ψ];refine bu nV.i λg aa A s x=>?_;refine w1 (vs:=mN.map bW) nV.i F (by intro u hu;obtain⟨l,_,rfl⟩:=c7.1 hu;rfl) x Φ λab y B a=>?_;have a:ah ab g nV (mN.map bW):=by rw[BD (by rfl)]at a;exact a
 have f:=s.put y Ω;refine aV (λr z=>r= .bool (decide (¬(0<=level/\level<5)))/\z=ab) ?_ ?_
 .rintro _ _ ⟨rfl,rfl⟩;rw[am];refine⟨λh=>⟨f,?_⟩,λh=>?_⟩
  .rw[(y0 level).2 h];rfl
  have h:=Y3.1 h;have p:level.toNat<mN.length:=by show _<5;omega
  have e:jL level=mN[level.toNat]:=by unfold jL;rw[if_pos h.1,u4,x6 p];rfl
  rw[show level=((level.toNat:Nat):Int) by omega,tS nV.u cT.i Ω,
   ax (v:=bW (jL level)) Ψ (a.cell (by rw[W0,U7,x8,x6 p,e];rfl)),show((level.toNat:Nat):Int)=level by omega]
  exact⟨f,F⟩
 .intro aB q;rw[aP,am];refine⟨λh1=>q _ _ ⟨by rw[decide_eq_true Ω],F⟩,λh1=>?_⟩;rw[cO];refine q _ _ ⟨?_,F⟩;congr 1;exact decide_eq_decide.2 ⟨λh=>Ω,λh=>Ω⟩
def Rs{a:bJ}{f:Nat}(q:ah w f aj [Δ level]):an x7 HY [.agg (fh a).toArray,Γ f] w λr J=>r= .bool (decide (level<a.dr))/\Ext w J:=by
 refine aA func25 ?_;refine bh λg1 aa s h e=>?_;have e:=e;rw[aL dc.p 0 e F,ax Ψ ((q.ext h).cell F),bL];exact⟨F,h⟩
def Rt{a b:bJ}:an x7 AT [.agg (fh a).toArray,.agg (fh b).toArray] w λu J=>Ext w J/\u=Δ (sM a b):=by
 refine aA func27 ?_;refine bh λg1 aa H A q=>?_;refine bh λI ab K y r=>?_;have q:=ah.ext q y;have r:=r;intro L s _ _;have e:=q.ext s;have f:=r.ext s;rw[aW dc.p F,ax Ψ (e.cell F),aW dc.p F,ax Ψ (f.cell F),
  aW dc.p F,ax Ψ (e.cell F),aW dc.p F,ax Ψ (f.cell F),
  aW dc.p F,ax Ψ (e.cell F),aW dc.p F,ax Ψ (f.cell F),
  aW dc.p F,ax Ψ (e.cell F),aW dc.p F,ax Ψ (f.cell F)]
 refine qK.mono ?_;rintro _ M _ ⟨rfl,h⟩;refine⟨.inl h,?_⟩;refine qK.mono ?_;rintro _ N _ ⟨rfl,x⟩;refine⟨.inl (h.trans x),?_⟩;refine qK.mono ?_;rintro _ O _ ⟨rfl,z⟩;refine⟨.inl ((h.trans x).trans z),?_⟩;refine qK.mono ?_;rintro _ P _ ⟨rfl,B⟩;refine pg (l:=[fA a.dr b.dr,fA a.i b.i,fA a.j b.j,fA a.v b.v]) ao.u aj.i Ω F Ψ λQ R S U C E=>?_;refine(Ro E.ls).mono ?_;rintro _ V _ ⟨rfl,G⟩;exact⟨((((((A.trans y).trans s).trans h).trans x).trans z).trans B).trans (C.trans G),by rw[Rp]⟩
def y1(M:List bJ):Prop:=∀(p q:Nat)(x y:bJ),p<q->M[p]?=σ x->M[q]?=σ y->fY x<=fY y
def Ru{g:Nat}{v:x1}{L:List bJ}(h:jv w g v L)(p:L.length<65536)(q:s.funs.length<=100000000)(x:∀a∈L,qZ n s a):
  an x7 HZ [v,.func (.func AT) #[] #[]] w λ_ J=>ai (λr=>leadsTo v r) w J/\∃M,M.Perm L/\y1 M/\jv J g v M:=
 xG M6 (G:=qZ n s) (num:=fY) Nd Nf (λa _=>pI a) (λa _=>rfl) (λa b e f=>Re q e f) (Enters.of x7 Ng F Ψ) h x p λy a b z e f=>Rt
def Rv(n:aH)(s:aq)(level:Int)(B:Nat)(J:x3)(r:x1):Prop:=(¬(0<=level/\level<5)->r= .tuple #[.slice ν 0 0,Δ 1])/\
 ((0<=level/\level<5)->∃v g M,r= .tuple #[v,Δ 0]/\jv J g v M/\M.Perm (lx n s level)/\y1 M/\∀r,leadsTo v r->B<=r)
def FK(h:bz w ag gT A R n s t)(O:Laid w)(az:s.funs.length<=160):an x7 HO [Γ ag,Δ level] w λr J=>Ext w J/\Rv n s level w.heap.size J r:=by
 have y:=h.2.2.2.1;have:=y.fT.2.1;refine aA func9 ?_;refine bh λz aa aC P f=>?_;have f:ah aa z aj [Δ level]:=f;rw[dh dm.u];simp only[Y0,a8];rw[ax Ψ (f.cell F)];refine Rr.mono ?_;rintro _ ab _ ⟨q,rfl⟩;rw[show(x1.string ⟨#[]⟩)=bW []from F,xc (Rq level) (λb W=>by cases W),am];refine⟨λG=>⟨P.trans q,λ_=>rfl,λh1=>absurd h1 ((y0 level).1 G)⟩,λG=>?_⟩;have X:0<=level/\level<5:=Y3.1 λh1=>G ((y0 level).2 h1);have B:=P.trans q;refine(Ri (h.ext B) (O.ext B)).mono ?_;rintro v3 aD _ ⟨H,aE,Y,I⟩;have K:=B.trans H;refine(Rn (h.ext K) (O.ext K) Ω).mono ?_;rintro v4 aF _ ⟨C,aG,Z,aH⟩;have ad:=K.trans C;have:=FH (m:=n.sizes.length) y;have:=FJ (m:=s.funs.length) y;have:=B.size;have:=H.size;have:=C.size;refine vo dB.u dc.i F (Y.ext C) Z.sl (λ_ _=>rfl) (λa _=>pI a) Ω Ω λv5 Q L N ae S=>?_;rw[jB];have N:jv L Q v5 (l8 n s):=N;have af:(l8 n s).length<=65000:=by unfold l8;rw[r8];omega
 have E:∀r,leadsTo v5 r->ab.heap.size<=r:=λr e=>(ae r e).elim (I r) λh=>Ω
 have ai:Ext w L:=ad.then S λr e he=>by have:=I r he;omega
 have:=f.lt;have ak:ah L z aj [Δ level]:=(((f.ext q).ext H).ext C).ac S λhe=>by have:=I z he;have:=q.size;omega
 refine(Rg (p:=λa=>decide (level<a.dr)) N Ω λJ x al _=>Rs (ak.ac al λhe=>by have:=E z he;have:=q.size;omega)).mono ?_;rintro ao aM _ ⟨ap,U,V⟩;have aq:(l8 n s).filter (λa=>!decide (level<a.dr))=lx n s level:=by
  unfold lx;refine List.filter_congr λa _=>?_;by_cases h1:level<a.dr
  .rw[decide_eq_true h1,decide_eq_false Ω];rfl
  .rw[decide_eq_false h1,decide_eq_true Ω];rfl
 rw[aq]at U;have aN:(lx n s level).length<=65000:=X3 (Q2 _ _) af;refine(Ru U Ω Ω λa au=>yZ y ((T2.1 au).1)).mono ?_;rintro _ aO _ ⟨av,M,aw,hu,ay⟩;refine⟨(ai.then ap λr e he=>by have:=E r he;omega).then av λr e he=>by have:=E r (V r he);omega,λh1=>absurd X h1,λ_=>⟨ao,Q,M,F,ay,aw,hu,λr e=>by have:=E r (V r e);omega⟩⟩
end
def iy(s:aq)(pos:Nat)(v:Int):Λ->Nat->List (Λ)
 |[],_=>[]
 |u::sc,p=>(if p=pos then[v]else bj s u)::iy s pos v sc (p+1)
def b0(s:aq)(sc:Λ)(pos:Nat)(v:Int):List (Λ):=gG (iy s pos v sc 0)
theorem y2{s:aq}{sc:Λ}{pos:Nat}{v:Int}:∀(m p:Nat)(tl:Λ),sc.length=p+m->tl.length=sc.length->(p<=pos->tl[pos]?=σ v)->
  e2 s sc pos m p tl=(gG (iy s pos v (sc.drop p) p)).map (tl.take p++ ·)
 |0,p,tl,h1,a,f=>by
  rw[List.drop_eq_nil_of_le Ω,Z2 Ω];unfold e2 iy gG;rw[List.map_singleton,Y8]
 |m+1,p,tl,h1,a,f=>by
  have w:p<sc.length:=Ω
  obtain⟨u,hu⟩:=aI (l:=sc) w;have z:sc.drop p=u::sc.drop (p+1):=by rw[X5 w,(x4.1 hu).2]
  have A:sc.getD p 0=u:=by rw[u4,hu];rfl
  rw[z];unfold e2 iy;rw[gG];by_cases q:p=pos
  .have y:=f Ω;rw[if_pos Ω,if_pos q,List.flatMap_singleton,y2 m (p+1) tl Ω a (λ_=>y),S6];refine List.map_congr_left λr _=>?_;rw[u9,q,y];simp
  .rw[if_neg Ω,if_neg q,A,List.map_flatMap];congr 1;funext x;have e:(tl.set p x).take (p+1)=tl.take p++[x]:=by rw[u9,b8 Ω,List.take_set_of_le (o4 _)];rfl
   rw[y2 m (p+1) (tl.set p x) Ω (by rw[Z0];exact a) (λh=>by rw[Y6 Ω];exact f Ω),S6,e];refine List.map_congr_left λr _=>?_;simp
def Rw{s:aq}{pos:Nat}(h:pos<sc.length):e2 s sc pos sc.length 0 ((o8 sc.length 0).set pos v)=b0 s sc pos v:=by
 rw[y2 sc.length 0 _ Ω Ξ (λ_=>by rw[b8 (by simpa using h)])];unfold b0;simp
def pK(s:aq)(pos:Nat)(v:Int):Λ->Nat->List (Int->Bool)
 |[],_=>[]
 |u::sc,p=>(λx=>(decide (p=pos->x=v))&&decide (x∈bj s u))::pK s pos v sc (p+1)
def Rx(h:0<=v/\v<k):(iX k).filter (λx=>decide (x=v))=[v]:=by
 have f:(iX k).Nodup:=by
  unfold iX;exact List.Pairwise.map _ (λa b s=>Ω) List.nodup_range
 have hm:v∈iX k:=vw.2 h;generalize iX k=l at f hm;induction l with
 |nil=>cases hm
 |cons a l q=>
  have p:=List.nodup_cons.1 f;by_cases e:a=v
  .subst e;rw[List.filter_cons_of_pos Ξ,List.filter_eq_nil_iff.2 λx U=>by simp;intro r;exact p.1 (r▸U)]
  .rw[List.filter_cons_of_neg (by simpa using e)];exact q p.2 ((V5.1 hm).resolve_left (Ne.symm e))
section
variable{k:Int}{sizes:Λ}{s:aq}{v:Int}{pos:Nat}
def Ry{u:Int}(a:bk k sizes s)(h:0<=u/\u<sizes.length):(iX (sizes.getD u.toNat 0)).filter (λx=>decide (x∈bj s u))=bj s u:=by
 have:=a.vars;obtain⟨x,U⟩:=aI (l:=s.vars) (i:=u.toNat) Ω;obtain⟨z,f⟩:=aI (l:=sizes) (i:=u.toNat) Ω;have h1:=(a.var _ x z U f).1;have e:bj s u=aE x:=by unfold bj;rw[U]
 have p:sizes.getD u.toNat 0=z:=by rw[u4,f];rfl
 have:=a.fT.2.2 z (x5 f);have q:aE x=(iX z).filter λv=>!dropped x.mask v:=by unfold aE iX;rw[h1]
 rw[e,p,q];refine List.filter_congr λy r=>?_;simp[T2,r]
theorem FL(w:bk k sizes s):∀(sc:Λ)(p:Nat),(∀u∈sc,0<=u/\u<sizes.length)->(∀u,p<=pos->sc[pos-p]?=σ u->v∈bj s u)->
  iy s pos v sc p=(((b2 sizes sc).map iX).zip (pK s pos v sc p)).map λq=>q.1.filter q.2
 |[],p,_,_=>rfl
 |u::sc,p,hu,ae=>by
  have y:=FL w sc (p+1) (λu h=>hu u (.tail _ h)) λu' a h=>ae u' Ω (by rw[show pos-p=(pos-(p+1))+1 by omega];exact h);have z:=hu u (.head _);have f:=Ry w z;show(if p=pos then[v]else bj s u)::iy s pos v sc (p+1)=(iX (sizes.getD u.toNat 0)).filter (λx=>decide (p=pos->x=v)&&decide (x∈bj s u))::((((b2 sizes sc).map iX).zip (pK s pos v sc (p+1))).map λq=>q.1.filter q.2);rw[<-y];congr 1;by_cases a:p=pos
  .rw[if_pos a];have r:v∈bj s u:=ae u Ω (by rw[a,U9];rfl);have A:v∈iX (sizes.getD u.toNat 0):=by rw[<-f]at r;exact(T2.1 r).1
   rw[<-Rx (vw.1 A)];refine List.filter_congr λx _=>?_;by_cases e:x=v
   .subst e;simp[r]
   .simp[e,a]
  .rw[if_neg a,<-f];refine(List.filter_congr λx U=>?_).symm;rw[f];simp[a]
theorem FM:∀(sc:Λ)(p:Nat),(pK s pos v sc p).length=sc.length
 |[],_=>rfl
 |u::sc,p=>by unfold pK;rw[b9,FM sc (p+1),b9]
def y3(a:bk k sizes s)(e:∀u∈sc,0<=u/\u<sizes.length)(ae:∀u,sc[pos]?=σ u->v∈bj s u):
  b0 s sc pos v=(bn (b2 sizes sc)).filter (ou (pK s pos v sc 0)):=by
 unfold b0;rw[FL a sc 0 e λu _ h=>ae u h,Fu _ _ (by rw[FM,r9];unfold b2;rw[r9]),yQ]
end
theorem y4{k:Int}:∀(l:Λ)(z:Int),z<=k->(∀c∈l,0<=c)->l.foldl (λa c=>min (a+c) k) z=min (z+l.sum) k
 |[],z,h,_=>Θ
 |c::l,z,h,e=>by
  have V:∀(l:Λ),(∀c∈l,0<=c)->0<=l.sum:=λl=>by
   induction l with
   |nil=>intro _;simp
   |cons a l f=>intro h;have:=f λc e=>h c (.tail _ e);have:=h a (.head _);rw[List.sum_cons];omega
  have:=e c (.head _);have:=V l λc h=>e c (.tail _ h);rw[S8,y4 l _ Ω λc h=>e c (.tail _ h),List.sum_cons];omega
def dG(p:bC×Int):Int:=if p.1.gone≠0 then 0 else p.1.un.getD p.2.toNat 0
def fB(a:Λ)(f:bS):Int:=if f.live≠0 then bo f.al f.cs (sz a f.sc)else 0
theorem foldl_map'{α β e:Type}(g:α->β)(h:e->β->e)(a7:e->α->e)(P:e->Prop)(aC:∀c a,P c->a7 c a=h c (g a))(f:∀c a,P c->P (a7 c a)):∀(l:List α)(c:e),P c->l.foldl a7 c=(l.map g).foldl h c
 |[],_,_=>rfl
 |a::l,c,p=>by
  rw[S8,T3,S8,<-aC c a p];exact foldl_map' g h a7 P aC f l _ (f c a p)
def y5{i:Nat}{x y:Int}(h:l[i]?=σ x):(l.set i y).sum=l.sum-x+y:=by
 induction l generalizing i with
 |nil=>simp at h
 |cons a l e=>
  cases i with
  |zero=>simp at h;subst h;rw[List.set_cons_zero,List.sum_cons,List.sum_cons];omega
  |succ i=>
   rw[List.set_cons_succ,List.sum_cons,List.sum_cons,e (by simpa using h)];omega
def dQ(k a c:Int):Int:=if a=k then k else a-c
def dR(k a c:Int):Int:=min (a+c) k
def vy{r g u:Int}(a:0<=r)(e:c<=g/\g<=k)(hu:0<=u/\u<=k)(f:0<=c):min (r+dQ k g c+dR k u c) k=min (r+g+u) k:=by
 unfold dQ dR;split<;>omega
theorem sQ:∀(l:Λ),(∀c∈l,0<=c)->0<=l.sum
 |[],_=>Ξ
 |a::l,h=>by have:=sQ l λc e=>h c (.tail _ e);have:=h a (.head _);rw[List.sum_cons];omega
theorem sR:∀{l:Λ}{i:Nat}{x:Int},(∀c∈l,0<=c)->l[i]?=σ x->x<=l.sum
 |[],_,_,_,h=>by simp at h
 |a::l,0,x,e,h=>by
  simp at h;subst h;have:=sQ l λc h=>e c (.tail _ h);rw[List.sum_cons];omega
 |a::l,i+1,x,e,h=>by
  have:=sR (λc h=>e c (.tail _ h)) (show l[i]?=σ x by simpa using h);have:=e a (.head _);rw[List.sum_cons];omega
def FN{i:Nat}(hk:0<=k)(h:∀c∈l,0<=c/\c<=k):0<=l.getD i 0/\l.getD i 0<=k:=by
 rw[u4];cases a:l[i]? with
 |none=>exact⟨Int.le_refl _,hk⟩
 |some c=>exact h c (x5 a)
def FO{f:Int->Int}{m:Int}(V:dL al)(h:cs.length=(bn al).length)(hi:cn al t 0=σ m):bo al (dF f L al cs) t=if t∈L then f (bo al cs t)else bo al cs t:=by
 have a:=lS V hi;have:=(x4.1 a).1;obtain⟨c,e⟩:=aI (l:=cs) (i:=m.toNat) Ω;have h1:=qU (f:=f) (L:=L) a e;unfold bo;rw[hi];simp only;rw[u4,h1,u4,e,V2,V2]
section
variable{k:Int}{sizes a:Λ}{s:aq}
def Rz{i:Nat}{p:bC×Int}(e:bk k sizes s)(h:(s.vars.zip a)[i]?=σ p):0<=dG p/\dG p<=k:=by
 have hk:=e.en;obtain⟨h1,_⟩:=List.getElem?_zip_eq_some.1 h;have f:=(x4.1 h1).1;have q:=e.vars;have:=e.var i p.1 _ h1 (x6 Ω);unfold dG;split
 .omega
 .exact FN Ω this.2.1
def RA{f:bS}(e:bk k sizes s)(h:f∈s.funs):0<=fB a f/\fB a f<=k:=by
 have hk:=e.en;have:=(e.funs f h).1.jp;unfold fB;split
 .exact (vc e.en λc p=>⟨e.en,this c p⟩).2
 .omega
def vz(e:bk k sizes s):∀c∈(s.vars.zip a).map dG,0<=c:=λc f=>by
 obtain⟨p,h,rfl⟩:=c7.1 f;obtain⟨i,hi⟩:=W3.1 h;exact(Rz e hi).1
def sS(e:bk k sizes s):∀c∈s.funs.map (fB a),0<=c:=λc f=>by
 obtain⟨p,h,rfl⟩:=c7.1 f;exact(RA e h).1
def pL(e:bk k sizes s):ir k s a=if(s.vars.zip a).all jM then min (s.zero+((s.vars.zip a).map dG).sum+(s.funs.map (fB a)).sum) k else k:=by
 have h1:(s.vars.zip a).foldl (sA k) s.zero=((s.vars.zip a).map dG).foldl (λx c=>min (x+c) k) s.zero:=by
  refine foldl_map' dG (λx c=>min (x+c) k) (sA k) (λc=>c<=k) (λc p f=>?_) (λc p f=>?_) _ _ e.zero.2
  .unfold sA dG;split
   .omega
   .rfl
  .unfold sA;split
   .exact f
   .omega
 have h:∀z,z<=k->s.funs.foldl (sB k a) z=(s.funs.map (fB a)).foldl (λx c=>min (x+c) k) z:=λz q=>by
  refine foldl_map' (fB a) (λx c=>min (x+c) k) (sB k a) (λc=>c<=k) (λc p f=>?_) (λc p f=>?_) _ _ q
  .unfold sB fB;split
   .rfl
   .omega
  .unfold sB;split
   .omega
   .exact f
 unfold ir;split
 .rw[h1,y4 _ _ e.zero.2 (vz e),h _ Ω,y4 _ _ Ω (sS e)];have:=sQ _ (sS (a:=a) e);omega
 .rfl
theorem vA{α β:Type}:∀{l:List α}{m:List β}{i:Nat}{x:α}{y:β},m[i]?=σ y->(l.set i x).zip m=(l.zip m).set i (x,y)
 |[],_,_,_,_,_=>Ξ
 |_::_,[],_,_,_,h=>by simp at h
 |a::l,b::m,0,x,y,h=>by simp at h;subst h;rfl
 |a::l,b::m,i+1,x,y,h=>by
  rw[List.set_cons_succ,List.zip_cons_cons,List.zip_cons_cons,List.set_cons_succ,vA (by simpa using h)]
theorem vB{α:Type}{q:α->Bool}:∀{l:List α}{i:Nat}{x y:α},l[i]?=σ x->q y=q x->(l.set i y).all q=l.all q
 |[],_,_,_,h,_=>by simp at h
 |a::l,0,x,y,h,e=>by simp at h;subst h;rw[List.set_cons_zero,List.all_cons,List.all_cons,e]
 |a::l,i+1,x,y,h,e=>by rw[List.set_cons_succ,List.all_cons,List.all_cons,vB (by simpa using h) e]
def eQ(s:aq)(u:Nat)(x:bC)(un:Λ):aq:={s with vars:=s.vars.set u {x with un:=un}}
def dZ(s:aq)(j:Nat)(f:bS)(cs:Λ):aq:={s with funs:=s.funs.set j {f with cs:=cs}}
def y6{u:Nat}{x:bC}{un:Λ}(a:bk k sizes s)(U:s.vars[u]?=σ x)(e:un.length=x.un.length)(f:∀c∈un,0<=c/\c<=k):bk k sizes (eQ s u x un):=by
 have:=(x4.1 U).1;have:=a.vars;have h1:=a.var u x _ U (x6 Ω);exact a.vu U e f h1.2.2
def FP{f:bS}(a:bk k sizes s)(af:s.funs[j]?=σ f)(e:cs.length=f.cs.length)(h:∀c∈cs,0<=c/\c<=k):bk k sizes (dZ s j f cs):=a.Fq af F rfl e h
def RB{u:Nat}{x:bC}{f:bS}{un:Λ}{bl:Int}(e:bk k sizes s)(U:s.vars[u]?=σ x)(af:s.funs[j]?=σ f)(w:un.length=x.un.length)(y:∀c∈un,0<=c/\c<=k)(z:cs.length=f.cs.length)(A:∀c∈cs,0<=c/\c<=k)(q:a[u]?=σ bl)(h:(s.vars.zip a).all jM=true->∀r,0<=r->min (r+fB a {f with cs:=cs}+dG ({x with un:=un},bl)) k=min (r+fB a f+dG (x,bl)) k):ir k (eQ (dZ s j f cs) u x un) a=ir k s a:=by
 have B:=FP e af z A;have C:=y6 B U w y;rw[pL C,pL e];have p:(s.vars.zip a)[u]?=σ (x,bl):=List.getElem?_zip_eq_some.2 ⟨U,q⟩;have E:((eQ (dZ s j f cs) u x un).vars.zip a)=(s.vars.zip a).set u ({x with un:=un},bl):=vA q;have F:((s.vars.zip a).set u ({x with un:=un},bl)).all jM=(s.vars.zip a).all jM:=vB p rfl;rw[E,F];split
 .rename_i G;have H:(((s.vars.zip a).set u ({x with un:=un},bl)).map dG).sum=((s.vars.zip a).map dG).sum-dG (x,bl)+dG ({x with un:=un},bl):=by
   rw[T0];exact y5 (by rw[x8,p];rfl)
  have I:((eQ (dZ s j f cs) u x un).funs.map (fB a)).sum=(s.funs.map (fB a)).sum-fB a f+fB a {f with cs:=cs}:=by
   show((s.funs.set j {f with cs:=cs}).map (fB a)).sum=_;rw[T0];exact y5 (by rw[x8,af];rfl)
  have:=sR (vz e) (by rw[x8,p];rfl);have:=sR (sS (a:=a) e) (by rw[x8,af];rfl);have:=e.zero.1;have:=h G (s.zero+(((s.vars.zip a).map dG).sum-dG (x,bl))+((s.funs.map (fB a)).sum-fB a f)) Ω;rw[H,I];show min (s.zero+_+_) k=_;omega
 .rfl
end
theorem y7{s:aq}{pos:Nat}{v:Int}:∀(sc:Λ)(p q:Nat),(iy s pos v sc p)[q]?=(sc[q]?).map λu=>if p+q=pos then[v]else bj s u
 |[],_,q=>by simp[iy]
 |u::sc,p,0=>by simp[iy]
 |u::sc,p,q+1=>by
  unfold iy;rw[List.getElem?_cons_succ,List.getElem?_cons_succ,y7 sc (p+1) q,show p+1+q=p+(q+1) by omega]
theorem FQ{s:aq}{pos:Nat}{v:Int}:∀(sc:Λ)(p:Nat),(iy s pos v sc p).length=sc.length
 |[],_=>rfl
 |u::sc,p=>by unfold iy;rw[b9,FQ sc (p+1),b9]
def y8{s:aq}{pos:Nat}:t∈b0 s sc pos v↔t.length=sc.length/\∀(p:Nat)u w,sc[p]?=σ u->t[p]?=σ w->if p=pos then w=v else w∈bj s u:=by
 unfold b0;rw[vv,FQ];refine and_congr_right λ_=>⟨λh p u w hu hw=>?_,λh p d w a hw=>?_⟩
 .have:w∈if 0+p=pos then[v]else bj s u:=h p _ w (by rw[y7,hu];rfl) hw;rw[W0]at this;split
  .rename_i e;rw[if_pos e]at this;exact j5.1 this
  .rename_i e;rw[if_neg e]at this;exact this
 .rw[y7]at a;cases hu:sc[p]? with
  |none=>rw[hu]at a;cases a
  |some u=>
   rw[hu]at a;have a:(if 0+p=pos then[v]else bj s u)=d:=Z3 a;subst a;have:=h p u w hu hw;rw[W0];split
   .rename_i e;rw[if_pos e]at this;exact j5.2 this
   .rename_i e;rw[if_neg e]at this;exact this
def gp{x:bC}:v∈aE x↔(0<=v/\v<x.un.length)/\dropped x.mask v=false:=by
 unfold aE;rw[T2];refine and_congr ?_ Ξ;have:=vw (k:=(x.un.length:Int)) (v:=v);unfold iX at this;rw[u7]at this;exact this
def FR{f:Int->Int}(V:dL al)(r:∀c∈cs,0<=c/\c<=k)(af:∀t∈L,0<=f (bo al cs t)/\f (bo al cs t)<=k):∀c∈dF f L al cs,0<=c/\c<=k:=λc a=>by
 unfold dF at a;obtain⟨p,s,rfl⟩:=c7.1 a;obtain⟨i,hi⟩:=W3.1 s;obtain⟨h1,h⟩:=List.getElem?_zip_eq_some.1 hi;split
 .rename_i w;have q:=af p.1 w;have e:bo al cs p.1=p.2:=by
   unfold bo;rw[kI V h1];simp only;rw[u7,u4,h];rfl
  rw[e]at q;exact q
 .exact r _ (x5 h)
section
variable{k:Int}{sizes a:Λ}{s:aq}
def km(s:aq)(j:Nat)(f:bS)(pos u:Nat)(x:bC)(v:Int)(tup un:Int->Int):aq:=
 eQ (dZ s j f (dF tup (b0 s f.sc pos v) f.al f.cs)) u x (x.un.set v.toNat (un (x.un.getD v.toNat 0)))
def ly{f:bS}(e:bk k sizes s)(af:f∈s.funs):dL f.al/\f.cs.length=(bn f.al).length:=by
 obtain⟨a,h,_⟩:=e.funs f af;have p:dL f.al:=by rw[h];exact qG e.fT.2.2 λv ae=>⟨(a.scope.1 v ae).1,a.vars v ae⟩
 refine⟨p,?_⟩;have h1:=a.len;rw[jC p,h];exact h1
def FS{pos u:Nat}{f:bS}{x:bC}{tup un:Int->Int}(a:bk k sizes s)(af:s.funs[j]?=σ f)(U:s.vars[u]?=σ x)(e:∀t∈b0 s f.sc pos v,0<=tup (bo f.al f.cs t)/\tup (bo f.al f.cs t)<=k)(h:0<=un (x.un.getD v.toNat 0)/\un (x.un.getD v.toNat 0)<=k):bk k sizes (km s j f pos u x v tup un):=by
 obtain⟨p,r⟩:=ly a (x5 af);have q:=(a.funs f (x5 af)).1;have:=(x4.1 U).1;have:=a.vars;have h1:=a.var u x _ U (x6 Ω);exact y6 (FP a af (pF _ _ _ _ Ω) (FR p q.jp e)) U (by rw[Z0]) (sJ h1.2.1 h)
def FT{pos u:Nat}{f:bS}{x:bC}{tup un:Int->Int}(p:bk k sizes s)(O:mE s a)(af:s.funs[j]?=σ f)(P:f.live≠0)(hu:f.sc[pos]?=σ (u:Int))(U:s.vars[u]?=σ x)(ae:v∈aE x)(Q:∀w∈f.sc,∀y,s.vars[w.toNat]?=σ y->y.gone=0)(X:∀t∈b0 s f.sc pos v,0<=tup (bo f.al f.cs t)/\tup (bo f.al f.cs t)<=k)(Y:0<=un (x.un.getD v.toNat 0)/\un (x.un.getD v.toNat 0)<=k)(Z:∀t∈b0 s f.sc pos v,∀r,0<=r->min (r+tup (bo f.al f.cs t)+un (x.un.getD v.toNat 0)) k=min (r+bo f.al f.cs t+x.un.getD v.toNat 0) k):
  ir k (km s j f pos u x v tup un) a=ir k s a:=by
 obtain⟨F,aa⟩:=ly p (x5 af);obtain⟨G,R,_⟩:=p.funs f (x5 af);have au:=(x4.1 U).1;have av:=p.vars;have h1:=p.var u x _ U (x6 Ω);have aw:=O.1;obtain⟨bl,S⟩:=aI (l:=a) (i:=u) Ω;refine RB p U af (by rw[Z0]) (sJ h1.2.1 Y) (pF _ _ _ _ Ω) (FR F G.jp X) S λab r ac=>?_;have T:=Q u (x5 hu) x (by rw[u7];exact U);obtain⟨tl,B⟩:∃tl,tl=sz a f.sc:=⟨_,rfl⟩;have H:∀(q:Nat)w,f.sc[q]?=σ w->∃y,s.vars[w.toNat]?=σ y/\tl[q]?=σ (a.getD w.toNat 0)/\a.getD w.toNat 0∈aE y/\f.al[q]?=σ (y.un.length:Int):=λq w hw=>by
  have hm:=x5 hw;have ax:=(G.scope.1 w hm).1;have ay:=G.vars w hm;obtain⟨y,h⟩:=aI (l:=s.vars) (i:=w.toNat) Ω;obtain⟨z,I⟩:=aI (l:=sizes) (i:=w.toNat) Ω;obtain⟨J,K⟩:=aI (l:=a) (i:=w.toNat) Ω;have ad:=Q w hm y h;have az:=(p.var _ y z h I).1;have aA:=p.fT.2.2 z (x5 I);have e:a.getD w.toNat 0=J:=by rw[u4,K];rfl
  have V:=List.all_eq_true.1 ab (y,J) (x5 (List.getElem?_zip_eq_some.2 ⟨h,K⟩));have ag:=(O.2 _ y J h K).resolve_left Ω;refine⟨y,h,by rw[B];unfold sz;rw[x8,hw];rfl,?_,?_⟩
  .rw[e,gp];refine⟨ag,?_⟩;unfold jM at V;simpa[ad]using V
  .rw[R];unfold b2;rw[x8,hw,Y1,u4,I,V2];congr 1;omega
 have ah:tl.length=f.sc.length:=by rw[B];unfold sz;rw[r9]
 have aB:f.al.length=f.sc.length:=by rw[R];unfold b2;rw[r9]
 obtain⟨m,hm⟩:∃m,cn f.al tl 0=σ m:=by
  have:tl∈bn f.al:=by
   rw[yQ,vv];refine⟨by rw[r9];omega,λq d w W hw=>?_⟩;obtain⟨b,A⟩:=aI (l:=f.sc) (i:=q) (by have:=(x4.1 hw).1;omega);obtain⟨y,_,L,M,ai⟩:=H q b A;rw[x8,ai]at W;cases W;rw[L]at hw;cases hw;exact vw.2 (gp.1 M).1
  obtain⟨i,hi⟩:=W3.1 this;exact⟨_,kI F hi⟩
 have aj:fB a f=bo f.al f.cs tl:=by unfold fB;rw[if_pos P,B]
 have ak:fB a {f with cs:=dF tup (b0 s f.sc pos v) f.al f.cs}=if tl∈b0 s f.sc pos v then tup (bo f.al f.cs tl)else bo f.al f.cs tl:=by
  rw[<-FO F aa hm,B];unfold fB;rw[if_pos P]
 have am:dG (x,bl)=x.un.getD bl.toNat 0:=by unfold dG;rw[if_neg (by simp[T])]
 have an:dG ({x with un:=x.un.set v.toNat (un (x.un.getD v.toNat 0))},bl)=(x.un.set v.toNat (un (x.un.getD v.toNat 0))).getD bl.toNat 0:=by unfold dG;rw[if_neg (by simp[T])]
 obtain⟨y,h,C,N,_⟩:=H pos _ hu;rw[u7]at h C N;rw[U]at h;cases h;have ao:a.getD u 0=bl:=by rw[u4,S];rfl
 rw[ao]at C N;have aC:=(gp.1 ae).1;have aD:=(gp.1 N).1;rw[aj,ak,am,an];by_cases he:bl=v
 .subst he;have E:=y8.2 ⟨ah,λq w b hw A=>by
   obtain⟨aF,ap,L,M,_⟩:=H q w hw;split
   .rename_i aq;subst aq;rw[C]at A;exact(Z3 A).symm
   .rw[L]at A;cases A;unfold bj;rw[ap];exact M⟩
  rw[if_pos E,u4,b8 Ω,V2];exact Z tl E r ac
 .have E:tl∉b0 s f.sc pos v:=λhm=>by
   have:=(y8.1 hm).2 pos _ bl hu C;rw[if_pos rfl]at this;exact he this
  rw[if_neg E,u4,Y6 Ω,<-u4]
end
def eg(g:Int->Int)(un L:Λ):Λ:=L.foldl (λun v=>un.set v.toNat (g (un.getD v.toNat 0))) un
theorem vC{g:Int->Int}:∀(L un:Λ),(eg g un L).length=un.length
 |[],_=>rfl
 |v::L,un=>by
  unfold eg;rw[S8];have:=vC (g:=g) L (un.set v.toNat (g (un.getD v.toNat 0)));unfold eg at this;rw[this,Z0]
theorem vD{g:Int->Int}:∀(L un:Λ)(w:Int),L.Nodup->(∀v∈L,0<=v/\v<un.length)->0<=w->(eg g un L).getD w.toNat 0=if w∈L then g (un.getD w.toNat 0)else un.getD w.toNat 0
 |[],un,w,_,_,_=>by simp[eg]
 |v::L,un,w,p,a,hw=>by
  obtain⟨h1,q⟩:=List.nodup_cons.1 p;have:=a v (.head _);have r:=vD (g:=g) L (un.set v.toNat (g (un.getD v.toNat 0))) w q (λu hu=>by rw[Z0];exact a u (.tail _ hu)) hw;have e:eg g un (v::L)=eg g (un.set v.toNat (g (un.getD v.toNat 0))) L:=rfl;rw[e,r];by_cases f:w=v
  .subst f;have V:(un.set w.toNat (g (un.getD w.toNat 0))).getD w.toNat 0=g (un.getD w.toNat 0):=by
    rw[u4,b8 Ω];rfl
   rw[if_neg h1,if_pos (.head _),V]
  .have V:(un.set v.toNat (g (un.getD v.toNat 0))).getD w.toNat 0=un.getD w.toNat 0:=by
    rw[u4,Y6 Ω,<-u4]
   rw[V];by_cases hm:w∈L
   .rw[if_pos hm,if_pos (.tail _ hm)]
   .rw[if_neg hm,if_neg λh=>(V5.1 h).elim f hm]
def sT(x:bC):(aE x).Nodup:=by
 unfold aE;refine List.Nodup.sublist List.filter_sublist ?_;exact List.Pairwise.map _ (λa b e=>Ω) List.nodup_range
theorem FU{k:Int}{g:Int->Int}:∀(L un:Λ),(∀c∈un,0<=c/\c<=k)->L.Nodup->(∀v∈L,0<=v/\v<un.length)->(∀v∈L,0<=g (un.getD v.toNat 0)/\g (un.getD v.toNat 0)<=k)->∀c∈eg g un L,0<=c/\c<=k
 |[],un,h,_,_,_,c,a=>h c a
 |v::L,un,h,q,f,p,c,a=>by
  obtain⟨h1,r⟩:=List.nodup_cons.1 q;have:=f v (.head _);refine FU (g:=g) L (un.set v.toNat (g (un.getD v.toNat 0))) (sJ h (p v (.head _))) r (λu hu=>by rw[Z0];exact f u (.tail _ hu)) (λu hu=>?_) c a;have:u≠v:=λe=>h1 (e▸hu);have:=f u (.tail _ hu);rw[u4,Y6 Ω,<-u4];exact p u (.tail _ hu)
section
variable{k:Int}{sizes a:Λ}{s:aq}
def ma(s:aq)(u:Nat)(x:bC)(g z:Int->Int):aq:={eQ s u x (eg g x.un (aE x))with zero:=z s.zero}
def bk.RC(a:bk k sizes s)(h:0<=c/\c<=k):bk k sizes {s with zero:=c}:=⟨a.en,a.fT,h,a.vars,a.var,a.funs⟩
def y9{u:Nat}{x:bC}{g z:Int->Int}(a:bk k sizes s)(U:s.vars[u]?=σ x)(e:∀v∈aE x,0<=g (x.un.getD v.toNat 0)/\g (x.un.getD v.toNat 0)<=k)(f:0<=z s.zero/\z s.zero<=k):bk k sizes (ma s u x g z):=by
 have:=(x4.1 U).1;have:=a.vars;have h1:=a.var u x _ U (x6 Ω);exact(y6 a U (vC _ _) (FU _ _ h1.2.1 (sT x) (λv ae=>(gp.1 ae).1) e)).RC f
def FV{u:Nat}{x:bC}{g z:Int->Int}(e:bk k sizes s)(q:mE s a)(U:s.vars[u]?=σ x)(h:x.gone=0)(C:∀v∈aE x,0<=g (x.un.getD v.toNat 0)/\g (x.un.getD v.toNat 0)<=k)(E:0<=z s.zero/\z s.zero<=k)(F:∀v∈aE x,∀r,0<=r->min (r+g (x.un.getD v.toNat 0)+z s.zero) k=min (r+x.un.getD v.toNat 0+s.zero) k):ir k (ma s u x g z) a=ir k s a:=by
 have G:=y9 e U C E;have:=(x4.1 U).1;have:=e.vars;have:=q.1;obtain⟨bl,p⟩:=aI (l:=a) (i:=u) Ω;rw[pL G,pL e];have f:(s.vars.zip a)[u]?=σ (x,bl):=List.getElem?_zip_eq_some.2 ⟨U,p⟩;obtain⟨un,w⟩:∃un,un=eg g x.un (aE x):=⟨_,rfl⟩;have H:((ma s u x g z).vars.zip a)=(s.vars.zip a).set u ({x with un:=un},bl):=by rw[w];exact vA p
 have I:((s.vars.zip a).set u ({x with un:=un},bl)).all jM=(s.vars.zip a).all jM:=vB f rfl;rw[H,I];split
 .rename_i J;have K:(((s.vars.zip a).set u ({x with un:=un},bl)).map dG).sum=((s.vars.zip a).map dG).sum-dG (x,bl)+dG ({x with un:=un},bl):=by
   rw[T0];exact y5 (by rw[x8,f];rfl)
  have h1:=sR (vz e) (by rw[x8,f];rfl);have:=sQ _ (sS (a:=a) e);have y:=List.all_eq_true.1 J (x,bl) (x5 f);have A:=(q.2 _ x bl U p).resolve_left Ω;have B:bl∈aE x:=by
   rw[gp];refine⟨A,?_⟩;unfold jM at y;simpa[h]using y
  have L:dG (x,bl)=x.un.getD bl.toNat 0:=by unfold dG;rw[if_neg (by simp[h])]
  have M:dG ({x with un:=un},bl)=g (x.un.getD bl.toNat 0):=by
   unfold dG;rw[if_neg (by simp[h])];show un.getD bl.toNat 0=_;rw[w,vD _ _ _ (sT x) (λv ae=>(gp.1 ae).1) A.1,if_pos B]
  rw[K,M];rw[L]at h1 ⊢;have:=F bl B (((s.vars.zip a).map dG).sum-x.un.getD bl.toNat 0+(s.funs.map (fB a)).sum) Ω;show min (z s.zero+_+(s.funs.map (fB a)).sum) k=_;omega
 .rfl
def RD{m:Nat}{w:Int}(ae:0<=v)(hw:0<=w):dropped ((m ||| 2 ^ v.toNat:Nat):Int) w=(dropped (m:Int) w||decide (w=v)):=by
 unfold dropped;rw[u7,u7,Nat.testBit_or,Nat.testBit_two_pow];congr 1;exact decide_eq_decide.2 ⟨λh=>Ω,λh=>Ω⟩
def nE{i:Nat}{x:bC}(U:s.vars[i]?=σ x):eu s i v.toNat={s with vars:=s.vars.set i {x with mask:=((x.mask.toNat ||| 2 ^ v.toNat:Nat):Int)}}:=by
 unfold eu;rw[U]
def za{i:Nat}{x:bC}(a:bk k sizes s)(U:s.vars[i]?=σ x)(ae:0<=v/\v<x.un.length):bk k sizes (eu s i v.toNat):=by
 rw[nE U];have:=(x4.1 U).1;have:=a.vars;have h1:=a.var i x _ U (x6 Ω);have:=a.fT.2.2 _ (S3 (n:=i) Ω);refine a.vu U F h1.2.1 ⟨by simp only;omega,?_⟩;have e:x.mask.toNat<2 ^ 32:=by have:=h1.2.2;omega
 have f:2 ^ v.toNat<2 ^ 32:=Nat.pow_lt_pow_right Ω Ω;have:=Nat.or_lt_two_pow e f;simp only;omega
def FW{i:Nat}{bl:Int}{x:bC}(f:bk k sizes s)(B:mE s a)(U:s.vars[i]?=σ x)(C:x.gone=0)(ae:0<=v/\v<x.un.length)(p:a[i]?=σ bl):ir k (eu s i v.toNat) a=if bl=v then k else ir k s a:=by
 have E:=za f U ae;rw[pL E,pL f];have r:(s.vars.zip a)[i]?=σ (x,bl):=List.getElem?_zip_eq_some.2 ⟨U,p⟩;have F:=(B.2 _ x bl U p).resolve_left Ω;obtain⟨y,w⟩:∃y:bC,y={x with mask:=((x.mask.toNat ||| 2 ^ v.toNat:Nat):Int)}:=⟨_,rfl⟩;have G:((eu s i v.toNat).vars.zip a)=(s.vars.zip a).set i (y,bl):=by rw[nE U,w];exact vA p
 have z:(eu s i v.toNat).zero=s.zero/\(eu s i v.toNat).funs=s.funs:=by rw[nE U];exact⟨rfl,rfl⟩
 have A:jM (y,bl)=(jM (x,bl)&&decide (bl≠v)):=by
  unfold jM;rw[w];simp only[C];rw[RD ae.1 F.1];have hm:((x.mask.toNat:Nat):Int)=x.mask:=by
   have M:=(x4.1 U).1;have N:=f.vars;have h1:=f.var i x _ U (x6 Ω);omega
  rw[hm];by_cases e:bl=v
  .simp[e]
  .simp[e]
 rw[G,z.1,z.2];by_cases e:bl=v
 .rw[if_pos e,if_neg];intro H;have:=List.all_eq_true.1 H (y,bl) (x5 (b8 (x4.1 r).1));rw[A]at this;simp[e]at this
 .have I:((s.vars.zip a).set i (y,bl)).all jM=(s.vars.zip a).all jM:=vB r (by rw[A];simp[e]);have J:((s.vars.zip a).set i (y,bl)).map dG=(s.vars.zip a).map dG:=by
   rw[T0];have K:dG (y,bl)=dG (x,bl):=by rw[w];rfl
   rw[K];refine Y9 λq=>?_;rw[X4];split
   .rename_i L;subst L;split
    .rw[x8,r];rfl
    .rename_i h;rw[Z7 Ω]
   .rfl
  rw[if_neg e,I,J]
def RE{i:Nat}{bl:Int}{x:bC}(f:mE s a)(U:s.vars[i]?=σ x)(h:x.gone=0)(e:a[i]?=σ bl)(p:bl∉aE x):ir k s a=k:=by
 have q:=(f.2 _ x bl U e).resolve_left Ω;unfold ir;rw[if_neg];intro r;have:=List.all_eq_true.1 r (x,bl) (x5 (List.getElem?_zip_eq_some.2 ⟨U,e⟩));unfold jM at this;have w:dropped x.mask bl=false:=by simpa[h]using this
 exact p (gp.2 ⟨q,w⟩)
end
end Go.Proofs.YtikkpokkcdocoabGreatDoor
namespace Go.Vc
open Go Go.RowKit
section
variable{P:W9}{w:x3}{α:Type}[au α]{S R:ak}
def FX{k:Nat}{vs:List (List x1)}{i:Nat}{c:List x1}(h:∀x∈vs,x.length=k)(e:c.length=k)(hi:i<vs.length):over vs.flatten (i*k) c=(vs.set i c).flatten:=by
 have:=xC (f:=id) (k:=k) (L:=vs) (i:=i) (a:=c) h e hi;rw[List.flatMap_id,List.flatMap_id]at this;exact this
def RF{v:x1}{l:List α}{i:Nat}(h:bG S R w [v] l)(Q:i<l.length):∃g cap full p,v= .slice (σ ⟨g,0,ν⟩) l.length cap/\ah w g p full/\S g/\i*au.n α+au.n α<=full.length/\
  ∀{A:ak}{cs:List x1}{a:α},bG A R w cs a->(∀r,r<w.heap.size->S r->¬A r/\¬R r)->∀J,ai (λr=>r=g) w J->ah J g p (over full (i*au.n α) cs)->bG (λr=>S r\/A r) R J [v] (l.set i a):=by
 obtain⟨vs,g,F,s,he,V,hm⟩:=kC h;obtain⟨T,p,U⟩:=hm rfl;obtain⟨ae,⟨rfl,ag⟩|⟨cap,full,rfl,E,H,W,af,X⟩⟩:=id U
 .omega
 have I:=he.1;have Y:(i+1)*au.n α<=l.length*au.n α:=V1 _ Q;have Z:l.length*au.n α<=full.length:=by rw[af];exact V1 _ H
 rw[U8,Nat.one_mul]at Y;have y:=T.resolve_left Ξ;refine⟨g,cap,full,p,rfl,E,y,Ω,λ{A cs a}K z J L aa=>?_⟩;have M:=au.len K;have N:=(z g E.lt y).1;have O:=(z g E.lt y).2;have ab:∀c∈vs.set i cs,c.length=au.n α:=λc x=>by
  rcases V4 x with e|rfl
  .exact he.len c e
  .exact M
 have P:b1 J g p (au.n α) (.slice (σ ⟨g,0,ν⟩) l.length cap) (l.set i a).length (vs.set i cs).flatten:=by
  refine⟨by rw[rA ab,Z0,Z0,I],.inr ⟨cap,_,by rw[Z0],aa,by rw[Z0];exact H,W,by rw[mp,af],?_⟩⟩;rw[Z0,uI Ω Z,X,FX he.len M Ω]
 refine⟨_,rfl,vs.set i cs,g,λj r=>if j=i then A r/\r<w.heap.size else F j r/\r<w.heap.size,⟨λj r f=>?_,λ_ j f=>?_,λ_ j q r ad h1 e=>?_⟩,⟨by simp[I],λj c a' x B=>?_⟩,?_,λ_=>⟨.inr (.inl y),p,P⟩⟩
 .split at f
  .exact .inr f.1
  .exact .inl (s.sub j r f.1)
 .split at f
  .exact N f.1
  .exact s.top rfl j f.1
 .split at h1<;>split at e
  .omega
  .exact (z r e.2 (s.sub q r e.1)).1 h1.1
  .exact (z r h1.2 (s.sub j r h1.1)).1 e.1
  .exact s.gP rfl j q r ad h1.1 e.1
 .by_cases C:j=i
  .subst C;rw[b8 Ω]at x B;cases x;cases B;have G:bG (λr=>if j=j then A r/\r<w.heap.size else F j r/\r<w.heap.size) R w cs a:=au.mono K (λr f h=>by rw[if_pos rfl];exact⟨h,f⟩) λ_ _ h=>h;refine au.ac G L λr f h1 e=>?_;have e:r=g:=e;subst e;rcases h1 with h1|h1
   .simp only[if_true]at h1;exact N h1.1
   .exact O h1
  .rw[Y6 (Ne.symm C)]at x B;have G:bG (λr=>if j=i then A r/\r<w.heap.size else F j r/\r<w.heap.size) R w c a':=au.mono (he.2 j c a' x B) (λr f h=>by rw[if_neg C];exact⟨h,f⟩) λ_ _ h=>h;refine au.ac G L λr f h1 e=>?_;have e:r=g:=e;subst e;rcases h1 with h1|h1
   .simp only[if_neg C]at h1;exact s.top rfl j h1.1
   .exact O h1
 .have:=qi (S:=λr=>(S r\/A r)\/R r) P (.inr (.inl (.inl y)));exact this
def FY{t:p8}{E:n9}{i b:Nat}{y:Int}{z v x:x1}{l:List α}{a:α}{A:ak}{K:Unit->x3->Prop}(q:au.n α=1)(F:y=(i:Int))(G:P.underlying t=σ (.slice e))(hi:aS P e 1 b z)(h:bG S R w [v] l)(s:i<l.length)(U:x.cells= #[x])(B:bG A R w [x] a)(H:∀r,r<w.heap.size->S r->¬A r/\¬R r)(I:∀J,ai S w J->bG (λr=>S r\/A r) R J [v] (l.set i a)->K () J):ad P (c9 t v (.int E y)) w λp=>aF P (l9 e p x) w K:=by
 subst F;obtain⟨g,cap,full,T,rfl,L,M,N,O⟩:=RF h s;rw[q]at N;rw[fe G hi s λ_=>rfl];refine bp (o:=0+i*1) hi U (au.one B x (.head _)) L Ω λJ C _ Q=>I J (C.mono λr _ f=>by have f:r=g:=f;subst f;exact M) (O B H J C ?_);rw[q,W0]at*;exact Q
end
end Go.Vc
namespace Go.Proofs.YtikkpokkcdocoabGreatDoor
open Go Go.Vc Go.RowKit Go.Proofs Go.Proofs.Tryz
set_option maxRecDepth 100000
abbrev kQ:Type:=(Rd (Λ)×Rd (Λ)×Λ)×Bool
abbrev pM:Type:=Int×Rd (Λ)×Rd (Λ)
def ko(f:bS):kQ:=((f.sc,f.al,f.cs),decide (f.live≠0))
def FZ(e:yj):pM:=(e.v,e.sc,e.vf)
def ce(m:Bool)(A:Nat->ak)(R:ak)(w:x3)(cs:List x1)(k:Int)(sizes:Λ)(zero:Int)(D:List (Λ))(G:List Bool)(aZ:List (Λ))(H:List kQ)(E:List pM):Prop:=
 ∃szv a e f h p,cs=[Δ k,szv,Δ zero,a,e,f,h,p]/\Seen R w [szv] sizes/\
 au.rep m (A 0) R w [a] D/\au.rep m (A 1) R w [e] G/\au.rep m (A 2) R w [f] aZ/\au.rep m (A 3) R w [h] H/\au.rep m (A 4) R w [p] E/\
 (m=true->(∀i j r,i≠j->A i r->¬A j r)/\∀i r,A i r->¬R r)
abbrev jR(m:Bool)(A:Nat->ak)(R:ak)(w:x3)(cs:List x1)(k:Int)(sizes:Λ)(s:aq):Prop:=
 ce m A R w cs k sizes s.zero (s.vars.map aE) (s.vars.map λx=>decide (x.gone≠0)) (s.vars.map (·.un)) (s.funs.map ko) (s.iq.map FZ)
def iY(w:x3)(v:x1)(k:Int)(sizes:Λ)(s:aq):Prop:=∃cs,v= .agg cs.toArray/\jR false (λ_ _=>False) eL w cs k sizes s
def jS(A:Nat->ak)(i:Nat)(B:ak):Nat->ak:=λj=>if j=i then B else A j
section
variable{m:Bool}{A:Nat->ak}{R:ak}{w J:x3}{cs:List x1}{k zero:Int}{sizes:Λ}{D:List (Λ)}{G:List Bool}{aZ:List (Λ)}{H:List kQ}{E:List pM}{s:aq}
def ce.len(h:ce m A R w cs k sizes zero D G aZ H E):cs.length=8/\∀u∈cs,u.oneCell'=true:=by
 obtain⟨szv,r,s,x,y,z,rfl,h1,a,e,f,p,q,_⟩:=h;refine⟨F,λu hu=>?_⟩;simp only[V5,List.not_mem_nil,or_false]at hu;rcases hu with rfl|rfl|rfl|rfl|rfl|rfl|rfl|rfl
 .rfl
 .exact gQ h1
 .rfl
 .exact gQ a
 .exact gQ e
 .exact gQ f
 .exact gQ p
 .exact gQ q
def ce.ac{T:ak}(h:ce m A R w cs k sizes zero D G aZ H E)(a:ai T w J)(f:∀r,r<w.heap.size->(∃i,A i r)\/R r->¬T r):ce m A R J cs k sizes zero D G aZ H E:=by
 obtain⟨szv,p,q,s,x,y,rfl,h1,z,B,C,F,I,K⟩:=h;have aC:∀i r,r<w.heap.size->A i r\/R r->¬T r:=λi r e h=>f r e (h.imp (λh=>⟨i,h⟩) id);exact⟨szv,p,q,s,x,y,rfl,au.ac h1 a λr e h=>f r e (h.elim False.elim .inr),au.ac z a (aC 0),au.ac B a (aC 1),au.ac C a (aC 2),au.ac F a (aC 3),au.ac I a (aC 4),K⟩
def ce.ext(h:ce m A R w cs k sizes zero D G aZ H E)(U:Ext w J):ce m A R J cs k sizes zero D G aZ H E:=h.ac (U.ac λ_=>False) λ_ _ _ h=>h
def jR.F0(h:jR m A R w cs k sizes s):iY w (.agg cs.toArray) k sizes s:=by
 obtain⟨szv,a,e,f,p,q,rfl,h1,r,x,y,z,B,C⟩:=h;exact⟨_,F,szv,a,e,f,p,q,F,kB h1,kB r,kB x,kB y,kB z,kB B,λh=>by cases h⟩
def ce.old(h:ce true A R w cs k sizes zero D G aZ H E):ce true (λi r=>A i r/\r<w.heap.size) R w cs k sizes zero D G aZ H E:=by
 obtain⟨szv,f,p,q,s,x,rfl,h1,a,y,z,B,C,e⟩:=h;obtain⟨e,F⟩:=e rfl;have hm:∀i r,r<w.heap.size->A i r->A i r/\r<w.heap.size:=λi r I h=>⟨h,I⟩;exact⟨szv,f,p,q,s,x,rfl,h1,au.mono a (hm 0) λ_ _ h=>h,au.mono y (hm 1) λ_ _ h=>h,au.mono z (hm 2) λ_ _ h=>h,au.mono B (hm 3) λ_ _ h=>h,au.mono C (hm 4) λ_ _ h=>h,
  λ_=>⟨λi j r J h1 a=>e i j r J h1.1 a.1,λi r h=>F i r h.1⟩⟩
def vE{i:Nat}{B:ak}(h:∀i j r,i≠j->A i r->¬A j r)(e:∀j r,j≠i->B r->¬A j r):∀p q r,p≠q->jS A i B p r->¬jS A i B q r:=λp q r f h1 a=>by
 unfold jS at h1 a;split at h1<;>split at a
 .omega
 .exact e q r (by assumption) h1 a
 .exact e p r (by assumption) a h1
 .exact h p q r f h1 a
def vF{i:Nat}{B:ak}(h:∀i r,A i r->¬R r)(a:∀r,B r->¬R r):∀p r,jS A i B p r->¬R r:=λp r h1=>by
 unfold jS at h1;split at h1
 .exact a r h1
 .exact h p r h1
def ce.F3{B:ak}{x:x1}{D':List (Λ)}(h:ce true A R w cs k sizes zero D G aZ H E){T:ak}(e:ai T w J)(p:∀r,T r->A 0 r\/(∀j,¬A j r)/\¬R r)(y:bG B R J [x] D')(z:∀j r,j≠0->B r->¬A j r)(C:∀r,B r->¬R r):ce true (jS A 0 B) R J (cs.set 3 x) k sizes zero D' G aZ H E:=by
 obtain⟨szv,S,F,I,K,L,rfl,h1,a,M,N,O,P,f⟩:=h;obtain⟨f,q⟩:=f rfl;have s:∀r,R r->¬T r:=λr h a=>(p r a).elim (λa=>q 0 r a h) λa=>a.2 h;have aC:∀j r,j≠0->r<w.heap.size->A j r\/R r->¬T r:=λj r Q _ h a=>h.elim (λh=>(p r a).elim (λa=>f j 0 r Q h a) λa=>a.1 j h) λh=>s r h a;refine⟨szv,x,F,I,K,L,rfl,au.ac h1 e λr _ h=>h.elim False.elim (s r),?_,?_,?_,?_,?_,λ_=>⟨vE f z,vF q C⟩⟩
 .exact y
 .exact au.ac M e λr=>aC 1 r Ω
 .exact au.ac N e λr=>aC 2 r Ω
 .exact au.ac O e λr=>aC 3 r Ω
 .exact au.ac P e λr=>aC 4 r Ω
def ce.RG{B:ak}{x:x1}{p:List Bool}(h:ce true A R w cs k sizes zero D G aZ H E){T:ak}(e:ai T w J)(q:∀r,T r->A 1 r\/(∀j,¬A j r)/\¬R r)(z:bG B R J [x] p)(C:∀j r,j≠1->B r->¬A j r)(F:∀r,B r->¬R r):ce true (jS A 1 B) R J (cs.set 4 x) k sizes zero D p aZ H E:=by
 obtain⟨szv,I,S,K,L,M,rfl,h1,a,U,N,O,P,f⟩:=h;obtain⟨f,s⟩:=f rfl;have y:∀r,R r->¬T r:=λr h a=>(q r a).elim (λa=>s 1 r a h) λa=>a.2 h;have aC:∀j r,j≠1->r<w.heap.size->A j r\/R r->¬T r:=λj r Q _ h a=>h.elim (λh=>(q r a).elim (λa=>f j 1 r Q h a) λa=>a.1 j h) λh=>y r h a;refine⟨szv,I,x,K,L,M,rfl,au.ac h1 e λr _ h=>h.elim False.elim (y r),?_,?_,?_,?_,?_,λ_=>⟨vE f C,vF s F⟩⟩
 .exact au.ac a e λr=>aC 0 r Ω
 .exact z
 .exact au.ac N e λr=>aC 2 r Ω
 .exact au.ac O e λr=>aC 3 r Ω
 .exact au.ac P e λr=>aC 4 r Ω
def ce.l5{B:ak}{x:x1}{p:List (Λ)}(h:ce true A R w cs k sizes zero D G aZ H E){T:ak}(e:ai T w J)(q:∀r,T r->A 2 r\/(∀j,¬A j r)/\¬R r)(z:bG B R J [x] p)(C:∀j r,j≠2->B r->¬A j r)(F:∀r,B r->¬R r):ce true (jS A 2 B) R J (cs.set 5 x) k sizes zero D G p H E:=by
 obtain⟨szv,I,K,S,L,M,rfl,h1,a,N,U,O,P,f⟩:=h;obtain⟨f,s⟩:=f rfl;have y:∀r,R r->¬T r:=λr h a=>(q r a).elim (λa=>s 2 r a h) λa=>a.2 h;have aC:∀j r,j≠2->r<w.heap.size->A j r\/R r->¬T r:=λj r Q _ h a=>h.elim (λh=>(q r a).elim (λa=>f j 2 r Q h a) λa=>a.1 j h) λh=>y r h a;refine⟨szv,I,K,x,L,M,rfl,au.ac h1 e λr _ h=>h.elim False.elim (y r),?_,?_,?_,?_,?_,λ_=>⟨vE f C,vF s F⟩⟩
 .exact au.ac a e λr=>aC 0 r Ω
 .exact au.ac N e λr=>aC 1 r Ω
 .exact z
 .exact au.ac O e λr=>aC 3 r Ω
 .exact au.ac P e λr=>aC 4 r Ω
def ce.l6{B:ak}{x:x1}{p:List kQ}(h:ce true A R w cs k sizes zero D G aZ H E){T:ak}(e:ai T w J)(q:∀r,T r->A 3 r\/(∀j,¬A j r)/\¬R r)(z:bG B R J [x] p)(C:∀j r,j≠3->B r->¬A j r)(F:∀r,B r->¬R r):ce true (jS A 3 B) R J (cs.set 6 x) k sizes zero D G aZ p E:=by
 obtain⟨szv,I,K,L,S,M,rfl,h1,a,N,O,U,P,f⟩:=h;obtain⟨f,s⟩:=f rfl;have y:∀r,R r->¬T r:=λr h a=>(q r a).elim (λa=>s 3 r a h) λa=>a.2 h;have aC:∀j r,j≠3->r<w.heap.size->A j r\/R r->¬T r:=λj r Q _ h a=>h.elim (λh=>(q r a).elim (λa=>f j 3 r Q h a) λa=>a.1 j h) λh=>y r h a;refine⟨szv,I,K,L,x,M,rfl,au.ac h1 e λr _ h=>h.elim False.elim (y r),?_,?_,?_,?_,?_,λ_=>⟨vE f C,vF s F⟩⟩
 .exact au.ac a e λr=>aC 0 r Ω
 .exact au.ac N e λr=>aC 1 r Ω
 .exact au.ac O e λr=>aC 2 r Ω
 .exact z
 .exact au.ac P e λr=>aC 4 r Ω
def ce.RH{z:Int}(h:ce m A R w cs k sizes zero D G aZ H E):ce m A R w (cs.set 2 (Δ z)) k sizes z D G aZ H E:=by
 obtain⟨szv,a,e,f,p,q,rfl,h1,r,s,x,y,B,C⟩:=h;exact⟨szv,a,e,f,p,q,F,h1,r,s,x,y,B,C⟩
end
def vG{α:Type}[au α]{st t M:p8}{E:List (Nat×Nat)}{gs c q b N:Nat}{z O y v:x1}{box cs:List x1}{S A R:ak}{l:List α}{a:α}{K:x3->Prop}(P:bK x7 st E)(Q:E[c]?=σ (c,q+1))(T:x7.underlying t=σ (.slice e))(U:aS x7 t 1 N O)(hi:aS x7 e (au.n α) b z)(W:z.cells.size=au.n α)(F:ah w gs st box)(ae:box[c]?=σ v)(h:bG S R w [v] l)(V:cf w (au.n α) y 1 cs)(X:bG A R w cs a)(Y:∀r,r<w.heap.size->S r->¬A r/\¬R r)(s:¬S gs/\¬A gs/\¬R gs)(aj:(l.length+1)*b<=140737488355328)(al:l.length+1<=1000000)(Z:∀p J,ai (λr=>S r\/r=gs) w J->ah J gs st (box.set c p)->bG (λr=>S r\/A r\/w.heap.size<=r) R J [p] (l++[a])->K J):
  aF x7 (Z5 #[t,t] M #[v,y]) w λp ab=>ad x7 (u6 st (Γ gs) c) ab λaa=>aF x7 (l9 t aa p) ab λ_ x=>K x:=by
 have af:=(x4.1 ae).1;refine pb T hi W h V X (λr G V f=>?_) Ω Ω λp ab B H=>?_
 .have:=Y r G V;exact f.elim this.1 this.2
 have ag:=F.ac H s.1;rw[aW P Q];refine bp (o:=0+c) U (rB B) (gQ B) ag (by rw[W0];exact af) λx I am L=>?_;refine Z p x ((H.mono λr _ h=>.inl h).trans (I.mono λr _ h=>.inr h)) (by rw[W0]at L;exact L) (au.ac B I λr G f C=>?_);have C:r=gs:=C;subst C;have an:=F.lt;rcases f with f|f
 .rcases f with f|f|f
  .exact s.1 f
  .exact s.2.1 f
  .omega
 .exact s.2.2 f
section
variable{A:Nat->ak}{B R:ak}{w:x3}{cs xs:List x1}{gs:Nat}{y v:x1}{k zero:Int}{sizes:Λ}{D:List (Λ)}{G:List Bool}{aZ:List (Λ)}{H:List kQ}{E:List pM}{K:x3->Prop}
def ce.RI(h:ce true A R w cs k sizes zero D G aZ H E)(F:ah w gs aY cs)(ae:cs[3]?=σ v)(f:∀j r,A j r->gs<r)(s:∀r,R r->r<gs)(V:cf w 1 y 1 xs)(S:bG B R w xs a)(q:∀r,r<w.heap.size->B r->(∀j,¬A j r)/\gs<r)(ak:D.length<=1000)(U:∀aU b4 J,ai (λr=>gs<=r) w J->ah J gs aY b4->ce true aU R J b4 k sizes zero (D++[a]) G aZ H E->(∀j r,aU j r->gs<r)->(∀j,j≠3->b4[j]?=cs[j]?)->K J):
  aF x7 (Z5 #[db,db] Q #[v,y]) w λI ab=>ad x7 (u6 aY (Γ gs) 3) ab λW=>aF x7 (l9 db W I) ab λ_ x=>K x:=by
 have L:=h.old;have X:=F.lt;obtain⟨szv,Y,al,am,an,M,Z,h1,aa,ap,aq,av,aw,z⟩:=id L;obtain⟨z,N⟩:=z rfl;have M:v=Y:=by rw[Z]at ae;exact(Z3 ae).symm
 subst M;have ac:bG (λr=>B r/\r<w.heap.size) R w xs a:=au.mono S (λr e h=>⟨h,e⟩) λ_ _ h=>h;refine vG aY.p rfl db.u db.i ao.i rfl F ae aa V ac (λr e O=>⟨λaf=>(q r e af.1).1 0 O.1,N 0 r O⟩) ⟨λh=>by have:=f 0 gs h.1;omega,λh=>by have:=(q gs X h.1).2;omega,λh=>by have:=s gs h;omega⟩ Ω Ω λI x P ag aj=>?_;refine U _ _ x (P.mono λr _ h=>h.elim (λh=>by have:=f 0 r h.1;omega) λh=>Ω) ag (L.F3 P (λr e=>?_) aj (λj r C e=>?_) λr e=>?_) (λj r e=>?_) λj C=>?_
 .rcases e with e|rfl
  .exact .inl e
  .exact .inr ⟨λj h=>by have:=f j r h.1;omega,λh=>by have:=s r h;omega⟩
 .rcases e with e|e|e
  .exact z 0 j r (Ne.symm C) e
  .exact λh=>(q r e.2 e.1).1 j h.1
  .exact λh=>by have:=h.2;omega
 .rcases e with e|e|e
  .exact N 0 r e
  .exact λh=>by have:=(q r e.2 e.1).2;have:=s r h;omega
  .exact λh=>by have:=s r h;omega
 .unfold jS at e;split at e
  .rcases e with e|e|e
   .exact f 0 r e.1
   .exact (q r e.2 e.1).2
   .omega
  .exact f j r e.1
 .rw[Y6 (Ne.symm C)]
def ce.RJ{a:Bool}(h:ce true A R w cs k sizes zero D G aZ H E)(F:ah w gs aY cs)(ae:cs[4]?=σ v)(f:∀j r,A j r->gs<r)(s:∀r,R r->r<gs)(V:cf w 1 y 1 xs)(S:bG B R w xs a)(q:∀r,r<w.heap.size->B r->(∀j,¬A j r)/\gs<r)(ak:G.length<=1000)(U:∀aU b4 J,ai (λr=>gs<=r) w J->ah J gs aY b4->ce true aU R J b4 k sizes zero D (G++[a]) aZ H E->(∀j r,aU j r->gs<r)->(∀j,j≠4->b4[j]?=cs[j]?)->K J):
  aF x7 (Z5 #[k1,k1] Q #[v,y]) w λI ab=>ad x7 (u6 aY (Γ gs) 4) ab λW=>aF x7 (l9 k1 W I) ab λ_ x=>K x:=by
 have L:=h.old;have X:=F.lt;obtain⟨szv,al,Y,am,an,M,Z,h1,ao,aa,ap,aq,av,z⟩:=id L;obtain⟨z,N⟩:=z rfl;have M:v=Y:=by rw[Z]at ae;exact(Z3 ae).symm
 subst M;have ac:bG (λr=>B r/\r<w.heap.size) R w xs a:=au.mono S (λr e h=>⟨h,e⟩) λ_ _ h=>h;refine vG aY.p rfl k1.u k1.i jd.i rfl F ae aa V ac (λr e O=>⟨λaf=>(q r e af.1).1 1 O.1,N 1 r O⟩) ⟨λh=>by have:=f 1 gs h.1;omega,λh=>by have:=(q gs X h.1).2;omega,λh=>by have:=s gs h;omega⟩ Ω Ω λI x P ag aj=>?_;refine U _ _ x (P.mono λr _ h=>h.elim (λh=>by have:=f 1 r h.1;omega) λh=>Ω) ag (L.RG P (λr e=>?_) aj (λj r C e=>?_) λr e=>?_) (λj r e=>?_) λj C=>?_
 .rcases e with e|rfl
  .exact .inl e
  .exact .inr ⟨λj h=>by have:=f j r h.1;omega,λh=>by have:=s r h;omega⟩
 .rcases e with e|e|e
  .exact z 1 j r (Ne.symm C) e
  .exact λh=>(q r e.2 e.1).1 j h.1
  .exact λh=>by have:=h.2;omega
 .rcases e with e|e|e
  .exact N 1 r e
  .exact λh=>by have:=(q r e.2 e.1).2;have:=s r h;omega
  .exact λh=>by have:=s r h;omega
 .unfold jS at e;split at e
  .rcases e with e|e|e
   .exact f 1 r e.1
   .exact (q r e.2 e.1).2
   .omega
  .exact f j r e.1
 .rw[Y6 (Ne.symm C)]
def ce.RK(h:ce true A R w cs k sizes zero D G aZ H E)(F:ah w gs aY cs)(ae:cs[5]?=σ v)(f:∀j r,A j r->gs<r)(s:∀r,R r->r<gs)(V:cf w 1 y 1 xs)(S:bG B R w xs a)(q:∀r,r<w.heap.size->B r->(∀j,¬A j r)/\gs<r)(ak:aZ.length<=1000)(U:∀aU b4 J,ai (λr=>gs<=r) w J->ah J gs aY b4->ce true aU R J b4 k sizes zero D G (aZ++[a]) H E->(∀j r,aU j r->gs<r)->(∀j,j≠5->b4[j]?=cs[j]?)->K J):
  aF x7 (Z5 #[dW,dW] Q #[v,y]) w λI ab=>ad x7 (u6 aY (Γ gs) 5) ab λW=>aF x7 (l9 dW W I) ab λ_ x=>K x:=by
 have L:=h.old;have X:=F.lt;obtain⟨szv,al,am,Y,an,M,Z,h1,ao,ap,aa,aq,av,z⟩:=id L;obtain⟨z,N⟩:=z rfl;have M:v=Y:=by rw[Z]at ae;exact(Z3 ae).symm
 subst M;have ac:bG (λr=>B r/\r<w.heap.size) R w xs a:=au.mono S (λr e h=>⟨h,e⟩) λ_ _ h=>h;refine vG aY.p rfl dW.u dW.i az.i rfl F ae aa V ac (λr e O=>⟨λaf=>(q r e af.1).1 2 O.1,N 2 r O⟩) ⟨λh=>by have:=f 2 gs h.1;omega,λh=>by have:=(q gs X h.1).2;omega,λh=>by have:=s gs h;omega⟩ Ω Ω λI x P ag aj=>?_;refine U _ _ x (P.mono λr _ h=>h.elim (λh=>by have:=f 2 r h.1;omega) λh=>Ω) ag (L.l5 P (λr e=>?_) aj (λj r C e=>?_) λr e=>?_) (λj r e=>?_) λj C=>?_
 .rcases e with e|rfl
  .exact .inl e
  .exact .inr ⟨λj h=>by have:=f j r h.1;omega,λh=>by have:=s r h;omega⟩
 .rcases e with e|e|e
  .exact z 2 j r (Ne.symm C) e
  .exact λh=>(q r e.2 e.1).1 j h.1
  .exact λh=>by have:=h.2;omega
 .rcases e with e|e|e
  .exact N 2 r e
  .exact λh=>by have:=(q r e.2 e.1).2;have:=s r h;omega
  .exact λh=>by have:=s r h;omega
 .unfold jS at e;split at e
  .rcases e with e|e|e
   .exact f 2 r e.1
   .exact (q r e.2 e.1).2
   .omega
  .exact f j r e.1
 .rw[Y6 (Ne.symm C)]
def ce.RL{a:kQ}(h:ce true A R w cs k sizes zero D G aZ H E)(F:ah w gs aY cs)(ae:cs[6]?=σ v)(f:∀j r,A j r->gs<r)(s:∀r,R r->r<gs)(V:cf w 4 y 1 xs)(S:bG B R w xs a)(q:∀r,r<w.heap.size->B r->(∀j,¬A j r)/\gs<r)(ak:H.length<=1000)(U:∀aU b4 J,ai (λr=>gs<=r) w J->ah J gs aY b4->ce true aU R J b4 k sizes zero D G aZ (H++[a]) E->(∀j r,aU j r->gs<r)->(∀j,j≠6->b4[j]?=cs[j]?)->K J):
  aF x7 (Z5 #[eR,eR] Q #[v,y]) w λI ab=>ad x7 (u6 aY (Γ gs) 6) ab λW=>aF x7 (l9 eR W I) ab λ_ x=>K x:=by
 have L:=h.old;have X:=F.lt;obtain⟨szv,al,am,an,Y,M,Z,h1,ao,ap,aq,aa,av,z⟩:=id L;obtain⟨z,N⟩:=z rfl;have M:v=Y:=by rw[Z]at ae;exact(Z3 ae).symm
 subst M;have ac:bG (λr=>B r/\r<w.heap.size) R w xs a:=au.mono S (λr e h=>⟨h,e⟩) λ_ _ h=>h;refine vG aY.p rfl eR.u eR.i du.i rfl F ae aa V ac (λr e O=>⟨λaf=>(q r e af.1).1 3 O.1,N 3 r O⟩) ⟨λh=>by have:=f 3 gs h.1;omega,λh=>by have:=(q gs X h.1).2;omega,λh=>by have:=s gs h;omega⟩ Ω Ω λI x P ag aj=>?_;refine U _ _ x (P.mono λr _ h=>h.elim (λh=>by have:=f 3 r h.1;omega) λh=>Ω) ag (L.l6 P (λr e=>?_) aj (λj r C e=>?_) λr e=>?_) (λj r e=>?_) λj C=>?_
 .rcases e with e|rfl
  .exact .inl e
  .exact .inr ⟨λj h=>by have:=f j r h.1;omega,λh=>by have:=s r h;omega⟩
 .rcases e with e|e|e
  .exact z 3 j r (Ne.symm C) e
  .exact λh=>(q r e.2 e.1).1 j h.1
  .exact λh=>by have:=h.2;omega
 .rcases e with e|e|e
  .exact N 3 r e
  .exact λh=>by have:=(q r e.2 e.1).2;have:=s r h;omega
  .exact λh=>by have:=s r h;omega
 .unfold jS at e;split at e
  .rcases e with e|e|e
   .exact f 3 r e.1
   .exact (q r e.2 e.1).2
   .omega
  .exact f j r e.1
 .rw[Y6 (Ne.symm C)]
end
def oy{R:ak}{v:x1}{g:Nat}(h:ay .i64 e w g v l):bG (λr=>leads v r) R w [v] l:=by
 have h1:=pc (R:=R) h;by_cases f:v= .slice ν 0 0
 .subst f;have:l=[]:=by
   obtain⟨p,⟨_,a⟩|⟨_,_,a,_⟩⟩:=h
   .exact b6 a
   .cases a
  subst this;exact iH
 .obtain⟨p,⟨a,_⟩|⟨cap,cs,a,_⟩⟩:=id h
  .exact absurd a f
  .refine au.mono h1 (λr _ q=>?_) λ_ _ h=>h;rw[a];exact⟨_,_,_,F,q.symm⟩
def zb{R:ak}{v:x1}{g:Nat}(e:∀r c,B<=r->ah w r aj c->R r)(h:ay .i64 aj w g v l)(ae:∀r,leads v r->B<=r):Seen R w [v] l:=qh (oy (R:=λ_=>False) h) λr p a=>by
 rcases a with a|a
 .obtain⟨c,f⟩:=Qx h r a;exact e r c (ae r a) f
 .exact a.elim
def RM{R:ak}{zero:Int}{szv:x1}(h:Seen R w [szv] sizes):ce true (λ_ _=>False) R w [Δ k,szv,Δ zero,.slice ν 0 0,.slice ν 0 0,.slice ν 0 0,.slice ν 0 0,.slice ν 0 0] k sizes zero [] [] [] [] []:=
 ⟨_,_,_,_,_,_,F,h,iH,iH,iH,iH,iH,λ_=>⟨λ_ _ _ _ h=>h.elim,λ_ _ h=>h.elim⟩⟩
def ce.at{m:Bool}{A:Nat->ak}{R:ak}{cs:List x1}{zero:Int}{D:List (Λ)}{G:List Bool}{aZ:List (Λ)}{H:List kQ}{E:List pM}(h:ce m A R w cs k sizes zero D G aZ H E)(c:Nat)(a:c<8):∃v,cs[c]?=σ v:=⟨_,x6 (by rw[h.len.1];exact a)⟩
def RN(R:ak)(w:x3)(e gt gs:Nat)(n:aH)(f:List x1)(i j:Nat)(a:x3):Prop:=Ext w a/\ah a e dS f/\ah a gt aY z12/\∃A cs,ah a gs aY cs/\(∀q r,A q r->gs<r)/\
 ce true A R a cs n.k n.sizes n.zero ((n.unary.take i).map λu=>aE (newVar u)) (o8 i false) (n.unary.take i) ((n.funs.take j).map λg=>ko (l0 n.sizes g)) []
def F4{bF:x1}{n:aH}{R:ak}(aB:∀r,R r->r<w.heap.size)(a8:∀r c,B<=r->ah w r aj c->R r)(cw:yD w B bF n)(ad:lj n)(af:n.funs.length<=256):an x7 Ik [bF] w λv J=>Ext w J/\∃A cs,v= .agg cs.toArray/\jR true A R J cs n.k n.sizes (df n)/\∀q r,A q r->w.heap.size<=r:=by
 have ea:=ad.sizes.2.1;have cz:=ad.lZ;refine aA func59 ?_;refine bh λg1 aa eb ba cA=>?_;obtain⟨szv,gz,cB,ec,bH,cC,ed,bb,aC,aD,cD,bI,bc,cE,bJ,cF,bK⟩:=Qy cw cA;refine bu aY.i λgt ab ee aF aG=>?_;have aG:ah ab gt aY z12:=aG;have bd:=aC.ext aF;rw[aL dS.p 0 bd F,aL dS.p 1 bd F,aL dS.p 2 bd F,
  cJ (cs:=#[Δ n.k,szv,Δ n.zero,.slice ν 0 0,.slice ν 0 0,.slice ν 0 0,.slice ν 0 0,.slice ν 0 0]) (by obtain⟨_,_,_,e⟩:=c6 aD.ls;rw[e];kernel_rfl)]
 refine bu aY.i λgs ef eg aJ cG=>?_;have cH:Seen R w [szv] n.sizes:=zb a8 aD cF;have eh:=ba.size;have ei:=aF.size;have z3:=aJ.size;have cI:=(ba.trans aF).trans aJ;have bL:=RM (k:=n.k) (zero:=n.zero) (bE cH cI);refine b7 (vs:=[Δ n.k,szv,Δ n.zero,.slice ν 0 0,.slice ν 0 0,.slice ν 0 0,.slice ν 0 0,.slice ν 0 0]) aY.i F rfl bL.len.2 cG λej bf ek cK=>?_;have em:=aG.lt;have en:=aC.lt;have cL:gt≠gs:=Ω
 have bg:=(aF.trans aJ).put bf Ω;have bM:=ba.trans bg;have cM:=(aG.ext aJ).ac bf λhe=>cL he;have eo:w.heap.size<gs:=Ω
 rw[aL dS.p 1 (aC.ext bg) F,aX ao.u (aD.ext bM).ls];have cN:=bL.ac bf λr f h he=>by
  have he:r=gs:=he;rcases h with⟨_,h⟩|h
  .exact h
  .have:=aB r h;omega
 refine cq.range n.sizes.length (λi O=>RN R w g1 gt gs n [Δ n.k,szv,Δ n.zero,cB,cC] i 0 O) Ω ⟨bM,aC.ext bg,cM,_,_,cK,(λ_ _ h=>h.elim),cN⟩ ?_ ?_
 .rintro i O cO hi ⟨P,bi,bj,A,cs,ae,bk,aK⟩ cP;obtain⟨z,bl⟩:=aI (l:=n.sizes) hi;obtain⟨u,hu⟩:=aI (l:=n.unary) (i:=i) Ω;have ep:=ad.sizes.2.2 z (x5 bl);obtain⟨er,_⟩:=ad.unary i z u bl hu;refine bB Ω ?_;rw[be ao.u aj.i Ψ (aD.ext P).ls bl];obtain⟨bO,rfl⟩:∃m:Nat,z=m:=⟨z.toNat,Ω⟩;refine bV.range bO (λj ag aN=>Ext O aN/\∃g,ay .i64 aj aN g ag ((Z4 j).map λv:Nat=>(v:Int))/\∀r,leads ag r->O.heap.size<=r) Ω
   ⟨Ext.refl _,0,ay.nil _ _ _ _,λr f=>by obtain⟨a,n,c,I,Q⟩:=f;cases I⟩ ?_ ?_
  .rintro j ag aN bm bn ⟨K,cQ,S,aO⟩ bo;refine bB Ω ?_;refine eE ao.u aj.i F λes eu cR ev H cS=>?_;refine iU ao.u aj.i F (S.ext H) cS.ls Θ Θ λew cT cU cW cX V=>?_;rw[aM];have cY:=K.size;have cZ:=H.size;refine bo _ _ ⟨(K.trans H).then V λr f he=>by have:=aO r he;omega,cT,?_,λr f=>(cX r f).elim (aO r) λh=>Ω⟩;rw[List.range_succ,Z9];exact cW
  rintro ag aN bm ⟨K,cQ,S,aO⟩;refine ca Ω ?_;have c0:(Z4 bO).map (λv:Nat=>(v:Int))=aE (newVar u):=by rw[Qz];congr 2;omega
  rw[c0]at S;have cY:=K.size;have ey:=P.size;have ez:=ae.lt;have al:∀r,R r->r<gs:=λr f=>by have:=aB r f;omega
  have low:∀{s C:x3}{b:Nat}{e:p8}{c:List x1},ai (λr=>gs<=r) s C->b<gs->ah s b e c->ah C b e c:=λL c1 h=>h.ac L λW=>by have W:=W;omega
  have am:∀{s C:x3},Ext w s->ai (λr=>gs<=r) s C->Ext w C:=λU L=>U.then L λr f h=>by have h:=h;omega
  have bP:=aK.old.ext K;have c2:∀q r,(A q r/\r<O.heap.size)->gs<r:=λq r h=>bk q r h.1;obtain⟨eA,bQ⟩:=bP.at 3 Ω;rw[aL aY.p 3 (ae.ext K) bQ];refine lO db.u ao.i Φ (a:=aE (newVar u)) (cs:=[ag]) S.ls.cells.1 (oy (R:=R) S) λeB cR H _ c3=>?_;have cZ:=H.size;have aP:=K.trans H;refine ce.RI (bP.ext H) (ae.ext aP) bQ c2 al c3 (bE (oy S) H) (λr f h=>?_) Θ λeC eD cU V bS bT c4 _=>?_
  .have:=aO r h;exact⟨λj h=>Ω,Ω⟩
  have eF:=V.size;obtain⟨eH,bU⟩:=bT.at 4 Ω;rw[aL aY.p 4 bS bU];refine lO (a:=false) (cs:=[.bool false]) (A:=λ_=>False) (R:=R) k1.u jd.i Φ F rfl λeI eJ X _ c5=>?_;refine ce.RJ (B:=λ_=>False) (bT.ext X) (bS.ext X) bU c4 al c5 F (λr f h=>h.elim) Θ λc7 eK bW aR bX c9 da _=>?_;have z9:=X.size;have eL:=aR.size;have dc:Ext w bW:=am ((am (P.trans aP) V).trans X) aR;have dd:=low aR Ω ((low V Ω (bi.ext aP)).ext X);have de:=low aR Ω ((low V Ω (bj.ext aP)).ext X);intro bp Y _ _;have bY:=bX.ext Y;have bZ:=dd.ext Y;have b0:=dc.trans Y;obtain⟨pG,aS⟩:∃pG,bH[i]?=σ pG:=⟨_,x6 (by have:=congrArg R2 bI;rw[r9]at this;omega)⟩;have dg:pG.l=u:=by
   have b1:(bH.map (·.l))[i]?=σ pG.l:=by rw[x8,aS];rfl
   rw[bI,hu]at b1;exact(Z3 b1).symm
  have bq:=cD.ext b0;obtain⟨eM,b2⟩:=bq.2 pG (x5 aS);rw[dg]at b2;have b3:=c9.old.ext Y;have dh:∀q r,(c7 q r/\r<bW.heap.size)->gs<r:=λq r h=>da q r h.1;obtain⟨eN,b4⟩:=b3.at 5 Ω;rw[aL aY.p 5 bY b4,aL dS.p 3 bZ F,dp F dW.u az.i bq.1 (x4.1 aS).1,ax (v:=pG.v) (o:=i*1) Ψ (bq.1.range aS 0 _ F)];refine yG (k:=.i64) az.u av.i λdi eO eP eQ aT b5=>?_;refine⟨.inl aT,?_⟩;refine iU az.u av.i F b5 (b2.ext aT).ls Θ Θ λb6 eS dj aU dk dl=>?_;rw[List.nil_append]at aU;have eU:=Y.size;have eV:=aT.size;have b8:∀r,leads di r->bp.heap.size<=r:=λr f=>by have:=(bR b5 f).1;omega
  have dm:∀r,leads b6 r->bp.heap.size<=r:=λr f=>(dk r f).elim (b8 r) λh=>Ω
  have br:Ext bp dj:=aT.then dl λr f he=>by have:=b8 r he;omega
  refine⟨.inl br,?_⟩;have eW:=br.size;refine lO dW.u az.i Φ (a:=u) (cs:=[b6]) aU.ls.cells.1 (oy (R:=R) aU) λeX eY bs _ dn=>?_;have eZ:=bs.size;have Z:=br.trans bs;refine⟨.inl Z,?_⟩;refine ce.RK (b3.ext Z) (bY.ext Z) b4 dh al dn (bE (oy (R:=R) aU) bs) (λr f h=>?_) Θ λdq dr e0 bt ds dt dv _=>?_
  .have:=dm r h;have:=bX.lt;exact⟨λj h=>Ω,Ω⟩
  rw[aM];refine cP _ ⟨am (b0.trans Z) bt,low bt Ω (bZ.ext Z),low bt Ω ((de.ext Y).ext Z),dq,dr,ds,dv,?_⟩;rw[u9,hu,j4,Z9,T3,List.map_nil,List.replicate_succ'];exact dt
 rintro O cO ⟨P,bi,bj,A,cs,ae,bk,aK⟩;refine ca Ω ?_;rw[Z2 Ω]at aK;have e1:bb.length=n.funs.length:=by rw[<-bJ,r9]
 have dw:=bc.ext P;rw[aL dS.p 4 bi F,et cV.u dw];have al:∀r,R r->r<gs:=λr f=>by have:=aB r f;omega
 have low:∀{s C:x3}{b:Nat}{e:p8}{c:List x1},ai (λr=>gs<=r) s C->b<gs->ah s b e c->ah C b e c:=λL c1 h=>h.ac L λW=>by have W:gs<=_:=W;omega
 have am:∀{s C:x3},Ext w s->ai (λr=>gs<=r) s C->Ext w C:=λU L=>U.then L λr f h=>by have h:gs<=r:=h;omega
 refine cq.range bb.length (λj G=>Ext w G/\ah G gt aY z12/\∃A cs,ah G gs aY cs/\(∀q r,A q r->gs<r)/\
  ce true A R G cs n.k n.sizes n.zero (n.unary.map λu=>aE (newVar u)) (o8 n.sizes.length false) n.unary ((n.funs.take j).map λg=>ko (l0 n.sizes g)) []) bc.le ⟨P,bj,A,cs,ae,bk,aK⟩ ?_ ?_
 .rintro j G bm bn ⟨M,bw,bx,aV,aW,aZ,ap⟩ bo;obtain⟨y,aq⟩:=aI (l:=bb) bn;have b9:n.funs[j]?=σ (dE y):=by rw[<-bJ,x8,aq];rfl
  have cb:=(ad.funs (dE y) (x5 b9)).1;have e2:y.cs.length<=4096:=by
   have h1:y.cs.length=_:=cb.len;have W:=cb.small;omega
  have cc:=cE y (x5 aq);have cd:=cc.ext M;have cf:=bc.ext M;refine bB Ω ?_;rw[dp F cV.u a1.i cf bn,bN a1.p a1.i F (cf.range aq)];refine bu a1.i λe3 e4 e5 dx dy=>?_;refine b7 (vs:=dO y) a1.i F rfl cd.one dy λdz dA e6 dC=>?_;have dD:Ext G dz:=dx.put dA Ω;intro bz cg _ _;have N:=dD.trans cg;have ch:=aW.ext N;have bA:=dC.ext cg;have dF:=cd.ext N;obtain⟨⟨e7,ci⟩,⟨e8,cj⟩,e9,dG⟩:=id dF;have ck:=ap.old.ext N;have dH:∀q r,(bx q r/\r<G.heap.size)->gs<r:=λq r h=>aZ q r h.1;obtain⟨fa,cl⟩:=ck.at 6 Ω;rw[aL aY.p 6 ch cl,aL a1.p 0 bA F,aL a1.p 1 bA F,aL a1.p 2 bA F];refine yG (k:=.i64) az.u av.i λv25 fb fc fd a2 cm=>?_;refine⟨.inl a2,?_⟩;refine iU az.u av.i F cm (dG.ext a2).ls Θ Θ λE fe cn a6 dI dJ=>?_;rw[List.nil_append]at a6;have ff:=N.size;have z25:=a2.size;have cp:∀r,leads v25 r->bz.heap.size<=r:=λr f=>by have:=(bR cm f).1;omega
  have dK:∀r,leads E r->bz.heap.size<=r:=λr f=>(dI r f).elim (cp r) λh=>Ω
  have a7:Ext bz cn:=a2.then dJ λr f he=>by have:=cp r he;omega
  refine⟨.inl a7,?_⟩;rw[cJ (cs:=#[y.aQ,y.szv,E]) (by obtain⟨_,_,_,I⟩:=c6 ci.ls;obtain⟨_,_,_,Q⟩:=c6 cj.ls;obtain⟨_,_,_,au⟩:=c6 a6.ls;rw[I,Q,au];kernel_rfl),
   cJ (cs:=#[y.aQ,y.szv,E,.bool true]) (by obtain⟨_,_,_,I⟩:=c6 ci.ls;obtain⟨_,_,_,Q⟩:=c6 cj.ls;obtain⟨_,_,_,au⟩:=c6 a6.ls;rw[I,Q,au];kernel_rfl)]
  have fg:=a7.size;have cr:=(M.trans N).trans a7;obtain⟨⟨ga,dL⟩,⟨fh,dM⟩,_⟩:=id cc;have own:bG (α:=kQ) (λr=>leads E r) R cn [y.aQ,y.szv,E,.bool true] (ko (l0 n.sizes (dE y))):=by
   refine⟨[y.aQ,y.szv,E],[.bool true],λr=>leads E r,λ_=>False,F,λ_ h=>h,λ_ h=>h.elim,λ_ _ _ h=>h,⟨[y.aQ],[y.szv,E],λ_=>False,λr=>leads E r,F,λ_ h=>h.elim,λ_ h=>h,λ_ _ h=>h.elim,?_,[y.szv],[E],λ_=>False,λr=>leads E r,F,λ_ h=>h.elim,λ_ h=>h,λ_ _ h=>h.elim,?_,?_⟩,F⟩
   .exact bE (zb a8 dL λr f=>bK y (x5 aq) r (.inr (.inl f))) cr
   .exact bE (zb a8 dM λr f=>bK y (x5 aq) r (.inr (.inr f))) cr
   .exact oy a6
  refine lO eR.u du.i Φ F own λfi fj bC _ dN=>?_;have fk:=bC.size;have aw:=a7.trans bC;refine⟨.inl aw,?_⟩;refine ce.RL (ck.ext aw) (ch.ext aw) cl dH al dN (bE own bC) (λr f h=>?_) Θ λdP dQ fm ct dR dT dU _=>?_
  .have:=dK r h;have:=aW.lt;exact⟨λj h=>Ω,Ω⟩
  rw[aM];refine bo _ ⟨am (M.trans (N.trans aw)) ct,low ct Ω (bw.ext (N.trans aw)),dP,dQ,dR,dU,?_⟩;rw[u9,b9,j4,Z9,T3,List.map_nil];exact dT
 rintro G bm ⟨M,bw,bx,aV,aW,aZ,ap⟩;rw[Z2 Ω]at ap;refine ca Ω ?_;obtain⟨bD,dV⟩:=ap.len;rw[bN aY.p aY.i bD (show G.rangeAt gs 0 aV from aW.range)];refine b7 (vs:=aV) aY.i bD F dV bw λfo cu fp dX=>?_;rw[fM aY.p aY.i bD dX.range];have dY:=ap.ac cu λr f h he=>by
  have he:r=gt:=he;rcases h with⟨q,h⟩|h
  .have:=aZ q r h;omega
  .have:=aB r h;omega
 have fq:=M.size;refine⟨M.then cu λr f he=>by have he:r=gt:=he;omega,bx,aV,F,?_,λq r h=>by have:=aZ q r h;omega⟩;have I:(df n).vars.map aE=n.unary.map λu=>aE (newVar u):=by show(n.unary.map newVar).map aE=_;rw[S6];rfl
 have Q:(df n).vars.map (λx=>decide (x.gone≠0))=o8 n.sizes.length false:=by
  show(n.unary.map newVar).map _=_;rw[S6,<-cz];exact List.map_const' ..
 have au:(df n).vars.map (·.un)=n.unary:=by show(n.unary.map newVar).map _=_;rw[S6];exact List.map_id _
 have dZ:(df n).funs.map ko=n.funs.map λg=>ko (l0 n.sizes g):=by show(n.funs.map (l0 n.sizes)).map ko=_;rw[S6];rfl
 unfold jR;rw[I,Q,au,dZ];exact dY
def pN(w:x3)(g:Nat)(k:Int)(sizes:Λ)(s:aq):Prop:=∃szv a e f h p,ah w g aY [Δ k,szv,Δ s.zero,a,e,f,h,p]/\aK .i64 w szv sizes/\Seen eL w [szv] sizes/\
 Seen eL w [a] (s.vars.map aE)/\Seen eL w [e] (s.vars.map λx=>decide (x.gone≠0))/\Seen eL w [f] (s.vars.map (·.un))/\Seen eL w [h] (s.funs.map ko)/\Seen eL w [p] (s.iq.map FZ)
section
variable{w J:x3}{g:Nat}{v:x1}{k:Int}{sizes:Λ}{s:aq}
def pN.ext(h:pN w g k sizes s)(U:Ext w J):pN J g k sizes s:=by
 obtain⟨szv,a,e,f,p,q,r,h1,x,y,z,A,B,C⟩:=h;exact⟨szv,a,e,f,p,q,r.ext U,h1.ext U,bE x U,bE y U,bE z U,bE A U,bE B U,bE C U⟩
def iY.box(h:iY w v k sizes s)(U:Ext w J)(f:ah J g aY v.cells.toList):pN J g k sizes s:=by
 obtain⟨cs,rfl,szv,z,B,C,E,F,rfl,h1,p,q,r,x,y,_⟩:=h;obtain⟨_,_,_,G⟩:=c6 (c3 h1);have c:∀{α:Type}[au α]{v:x1}{l:List α}{A:ak},au.rep false A eL w [v] l->∃a n c,v= .slice a n c:=λh=>by
  obtain⟨_,_,_,_,_,⟨_,b,o,base,cap,e,_⟩,_⟩:=kC h;exact⟨_,_,_,e⟩
 obtain⟨_,_,_,H⟩:=c p;obtain⟨_,_,_,I⟩:=c q;obtain⟨_,_,_,K⟩:=c r;obtain⟨_,_,_,L⟩:=c x;obtain⟨_,_,_,M⟩:=c y;refine⟨szv,z,B,C,E,F,?_,(c3 h1).ext U,bE h1 U,bE p U,bE q U,bE r U,bE x U,bE y U⟩;rw[G,H,I,K,L,M]at f ⊢;exact f
def pN.load{K:x1->Prop}(h:pN w g k sizes s)(a:∀u,iY w u k sizes s->K u):ad x7 (u5 aY (Γ g)) w K:=by
 obtain⟨szv,e,f,q,r,x,y,h1,z,A,B,C,E,F⟩:=h;rw[bN aY.p aY.i rfl y.range];exact a _ ⟨_,rfl,szv,e,f,q,r,x,rfl,z,A,B,C,E,F,λh=>by cases h⟩
def RO{i:Int}(h:iY w v k sizes s):an x7 HQ [v,Δ i] w λr J=>r= .bool (decide (0<=i/\i<sizes.length))/\Ext w J:=by
 refine aA func15 ?_;refine bh λg1 aa y a e=>?_;obtain⟨szv,z,A,B,C,E,e,x,_⟩:=h.box a e;refine aV (λv ab=>v= .bool (decide (0<=i/\i<sizes.length))/\Ext w ab) (λ_ _ h=>h) λaB f=>?_;rw[cO,am];refine⟨λq=>?_,λq=>f _ _ ⟨by rw[decide_eq_false];omega,a⟩⟩;rw[aL aY.p 1 e F,aX ao.u x,aP];refine f _ _ ⟨?_,a⟩;congr 1;exact decide_eq_decide.2 ⟨λh=>⟨q,h⟩,λh=>h.2⟩
def nF{m:Bool}{S R:ak}{cs:List x1}{f:bS}(h:au.rep (α:=kQ) m S R w cs (ko f)):∃aQ szv bb,cs=[aQ,szv,bb,.bool (decide (f.live≠0))]/\Seen eL w [aQ] f.sc/\Seen eL w [szv] f.al/\Seen eL w [bb] f.cs:=by
 obtain⟨E,q,A,B,rfl,_,_,_,⟨r,F,aU,G,rfl,_,_,_,h1,s,x,H,y,rfl,_,_,_,a,e⟩,p⟩:=h;have one:∀{α:Type}[au α]{m:Bool}{S R:ak}{c:List x1}{l:List α},au.rep m S R w c l->∃v,c=[v]:=λh=>by obtain⟨v,ae,_⟩:=h;exact⟨v,ae⟩
 have h1:Seen _ w r f.sc:=h1;have a:Seen _ w s f.al:=a;have p:q=[.bool (decide (f.live≠0))]:=p;have e:au.rep m y R w x f.cs:=e;obtain⟨z,rfl⟩:=one h1;obtain⟨C,rfl⟩:=one a;obtain⟨v3,rfl⟩:=one e;subst p;exact⟨z,C,v3,rfl,kB h1,kB a,kB e⟩
def RP{j:Int}(h:iY w v k sizes s):an x7 Kw [v,Δ j] w λr J=>r= .bool (decide (0<=j)&&fd s j.toNat)/\Ext w J:=by
 refine aA func266 ?_;refine bh λg1 aa B a e=>?_;obtain⟨szv,C,E,G,H,I,e,K,_,_,_,_,y,_⟩:=h.box a e;refine aV (λv ab=>v= .bool (decide (0<=j)&&fd s j.toNat)/\Ext w ab) (λ_ _ h=>h) λaB q=>?_;rw[cO,am];refine⟨λx=>?_,λx=>q _ _ ⟨by rw[decide_eq_false x];rfl,a⟩⟩;rw[aL aY.p 6 e F,jh eR.u y,aP,am,r9];refine⟨λL=>?_,λM=>q _ _ ⟨by unfold fd;rw[Z7 Ω,Bool.and_false],a⟩⟩;obtain⟨f,af⟩:=aI (l:=s.funs) (i:=j.toNat) Ω;rw[aL aY.p 6 e F];refine lN (i:=j.toNat) Ω eR.u du.i y (by rw[x8,af];rfl) λb o cs z A=>?_;obtain⟨N,O,v3,rfl,_⟩:=nF A;rw[aW du.p F,ax (v:=.bool (decide (f.live≠0))) Ψ (z 3 _ F)];exact q _ _ ⟨by unfold fd;rw[af,decide_eq_true x,T9],a⟩
end
def zc{S T:Nat->Prop}(h:ai S w J)(k:ai T w J):ai (λr=>S r/\T r) w J:=
 ⟨h.size,λr o a V f=>by
  by_cases e:S r
  .exact k.a6 r o a V λp=>f ⟨e,p⟩
  .exact h.a6 r o a V e⟩
def zd{gT:Nat}{A R:ak}{n:aH}{s:aq}{t:aD}(h:bz w ag gT A R n s t):∀r,A r\/R r->r<w.heap.size:=λr a=>by
 obtain⟨p,q,x,y,⟨_,_,e,f⟩,_⟩:=h.1;exact a.elim (f r) (e r)
structure cg(w:x3)(ag gT ap:Nat)(A R:ak)(A9:Nat->ak)(aJ:ak)(n:aH)(s u:aq)(t:aD)(h:List aD)(cs:List x1):Prop where
 fx:bz w ag gT A R n s t
 jr:iJ t h
 box:ah w ap aY cs
 doc:jR true A9 aJ w cs n.k n.sizes u
 apart:∀q r,A9 q r->¬A r/\¬R r/\r≠ap
 read:∀r,aJ r->¬eA w r/\r<w.heap.size/\r≠ap
 out:¬A ap/\¬R ap
section
variable{w J:x3}{ag gT ap:Nat}{A R:ak}{A9:Nat->ak}{aJ:ak}{n:aH}{s u:aq}{t:aD}{h:List aD}{cs:List x1}
def cg.ext(p:cg w ag gT ap A R A9 aJ n s u t h cs)(U:Ext w J):cg J ag gT ap A R A9 aJ n s u t h cs:=
 ⟨p.fx.ext U,p.jr,p.box.ext U,p.doc.ext U,p.apart,λr a=>⟨λh=>(p.read r a).1 (ol (λo e V _=>U.a6 r o e V) h),by have:=(p.read r a).2.1;have:=U.size;omega,(p.read r a).2.2⟩,p.out⟩
def cg.prog{aU R':ak}{s':aq}{bt:aD}{a7:List aD}(p:cg w ag gT ap A R A9 aJ n s u t h cs)(y:ai (eA w) w J)(f:Grow A w aU J)(E:bz J ag gT aU R' n s' bt)(x:iJ bt a7)(C:∀r,R' r->R r\/B<=r)(F:∀q r,A9 q r->r<w.heap.size->r<B)(U:ap<B):
  cg J ag gT ap aU R' (λq r=>A9 q r/\r<w.heap.size) aJ n s' u bt a7 cs:=by
 have:=p.box.lt;have:=y.size;refine⟨E,x,p.box.ac f.1 p.out.1,ce.ac p.doc.old (zc y f.1) λr e h x=>?_,λq r h=>⟨λa=>?_,λe=>(C r e).elim (p.apart q r h.1).2.1 λG=>by have:=F q r h.1 h.2;omega,(p.apart q r h.1).2.2⟩,λr e=>⟨λh=>?_,by have:=(p.read r e).2.1;omega,(p.read r e).2.2⟩,λa=>?_,λe=>(C ap e).elim p.out.2 λG=>Ω⟩
 .rcases h with⟨q,h⟩|h
  .exact (p.apart q r h.1).1 x.2
  .exact (p.read r h).1 x.1
 .rcases f.2.1 r a with a|a
  .exact (p.apart q r h.1).1 a
  .have:=h.2;omega
 .exact (p.read r e).1 (ol (λo H V I=>y.a6 r o H V I) h)
 .rcases f.2.1 ap a with a|a
  .exact p.out.1 a
  .omega
def cg.RQ{S:ak}{cr:Nat->ak}{u':aq}{b4:List x1}(p:cg w ag gT ap A R A9 aJ n s u t h cs)(f:ai S w J)(B:∀r,r<w.heap.size->S r->(∃q,A9 q r)\/r=ap)(C:ah J ap aY b4)(E:jR true cr aJ J b4 n.k n.sizes u')(F:∀q r,cr q r->(∃x,A9 x r)\/(¬A r/\¬R r/\r≠ap)):
  cg J ag gT ap A R cr aJ n s u' t h b4:=by
 have:=p.box.lt;have:=f.size;have G:∀q r,A9 q r->¬aJ r:=by obtain⟨_,_,_,_,_,_,_,_,_,_,_,_,_,H⟩:=p.doc;exact(H rfl).2
 refine⟨⟨p.fx.1.ac f λr e h V=>?_,p.fx.2⟩,p.jr,C,E,λq r h=>?_,λr e=>⟨λh=>(p.read r e).1 (ol (λo I V _=>f.a6 r o I V λa=>?_) h),by have:=(p.read r e).2.1;omega,(p.read r e).2.2⟩,p.out⟩
 .rcases B r e V with⟨q,a⟩|a
  .exact h.elim (p.apart q r a).1 (p.apart q r a).2.1
  .subst a;exact h.elim p.out.1 p.out.2
 .rcases F q r h with⟨x,a⟩|a
  .exact p.apart x r a
  .exact a
 .rcases B r (p.read r e).2.1 a with⟨q,y⟩|y
  .exact G q r y e
  .exact (p.read r e).2.2 y
def cg.RR{S:ak}{cr:Nat->ak}{u':aq}{b4:List x1}(p:cg w ag gT ap A R A9 aJ n s u t h cs)(e:∀r,A r\/R r->r<B)(F:ap<B)(f:ai S w J)(x:∀r,r<w.heap.size->S r->(∃q,A9 q r)\/r=ap)(y:ah J ap aY b4)(z:jR true cr aJ J b4 n.k n.sizes u')(C:∀q r,cr q r->(∃E,A9 E r)\/B<=r):
  cg J ag gT ap A R cr aJ n s u' t h b4:=
 p.RQ f x y z λq r h=>(C q r h).imp id λG=>⟨λa=>by have:=e r (.inl a);omega,λa=>by have:=e r (.inr a);omega,Ω⟩
def cg.F5{S:ak}{cr:Nat->ak}{u':aq}{b4:List x1}(p:cg w ag gT ap A R A9 aJ n s u t h cs)(a:ai S w J)(e:∀r,r<w.heap.size->S r->(∃q,A9 q r)\/r=ap)(f:ah J ap aY b4)(x:jR true cr aJ J b4 n.k n.sizes u')(y:∀q r,cr q r->(∃z,A9 z r)\/w.heap.size<=r):
  cg J ag gT ap A R cr aJ n s u' t h b4:=p.RR (zd p.fx) p.box.lt a e f x y
def cg.look(p:cg w ag gT ap A R A9 aJ n s u t h cs):pN w ap n.k n.sizes u:=by
 refine iY.box p.doc.F0 (Ext.refl _) ?_;have:=p.box;exact this
def cg.pO(p:cg w ag gT ap A R A9 aJ n s u t h cs):∃szv a e f q r,cs=[Δ n.k,szv,Δ u.zero,a,e,f,q,r]/\aK .i64 w szv n.sizes:=by
 obtain⟨szv,a,e,f,q,r,h1,x,_⟩:=p.doc;exact⟨szv,a,e,f,q,r,h1,c3 x⟩
end
end Go.Proofs.YtikkpokkcdocoabGreatDoor
namespace Go.Vc
open Go Go.RowKit
section
variable{P:W9}{w:x3}{α:Type}[au α]{S R:ak}
def vH{v:x1}{l:List α}{i:Nat}{a:α}(h:bG S R w [v] l)(H:l[i]?=σ a)(aa:∀r,r<w.heap.size->S r->¬R r):∃g cap c F,v= .slice (σ ⟨g,0,ν⟩) l.length cap/\w.rangeAt g (i*au.n α) c/\bG F R w c a/\(∀r,F r->S r)/\
  ∀{J:x3}{a':α}{T z:ak},ai T w J->(∀r,r<w.heap.size->T r->F r)->bG z R J c a'->(∀r,z r->F r\/w.heap.size<=r)->bG (λr=>S r\/w.heap.size<=r) R J [v] (l.set i a'):=by
 have ap:=(x4.1 H).1;obtain⟨vs,g,F,s,he,V,hm⟩:=kC h;obtain⟨ab,I,K⟩:=hm rfl;obtain⟨aq,⟨rfl,av⟩|⟨cap,full,rfl,L,aw,ax,af,ay⟩⟩:=id K
 .omega
 have ad:vs.length=l.length:=he.1;have M:S g:=ab.resolve_left Ξ;obtain⟨c,B⟩:∃c,vs[i]?=σ c:=⟨_,x6 Ω⟩;have ae:=he.2 i c a B H;refine⟨g,cap,c,F i,rfl,?_,ae,λr p=>s.sub i r p,λ{J a' T z}N O P C=>?_⟩
 .obtain⟨_,az,o',aA,aB,ag,_,_,ah,_,aj⟩:=V;cases ag;cases ah Ω;intro j u al;have Q:=aj (i*au.n α+j) u (by rw[<-List.flatMap_id];exact qA (f:=id) (k:=au.n α) (λx U=>he.len x U) B al);rw[W0]at Q;exact Q
 have am:¬T g:=λh=>s.top rfl i (O g L.lt h);have aC:=au.len P;have aD:vs.set i c=vs:=by
  refine Y9 λq=>?_;rw[X4];by_cases W:i=q
  .subst W;rw[if_pos rfl,if_pos Ω,B]
  .rw[if_neg W]
 have X:b1 J g I (au.n α) (.slice (σ ⟨g,0,ν⟩) l.length cap) (l.set i a').length vs.flatten:=by
  rw[Z0];exact K.ac N λ_=>am
 refine⟨_,rfl,vs,g,λj r=>if j=i then z r else F j r/\r<w.heap.size,⟨λj r p=>?_,λ_ j p=>?_,λ_ j q r an h1 y=>?_⟩,⟨by simp[ad],λj Y Z G E=>?_⟩,?_,λ_=>⟨.inr (.inl M),I,X⟩⟩
 .split at p
  .exact (C r p).imp (s.sub i r) id
  .exact .inl (s.sub j r p.1)
 .split at p
  .rcases C g p with h|h
   .exact s.top rfl i h
   .have:=L.lt;omega
  .exact s.top rfl j p.1
 .split at h1<;>split at y
  .omega
  .rcases C r h1 with h|h
   .rename_i e _;exact s.gP rfl i q r Ω h y.1
   .have:=y.2;omega
  .rcases C r y with h|h
   .exact s.gP rfl j i r Ω h1.1 h
   .have:=h1.2;omega
  .exact s.gP rfl j q r an h1.1 y.1
 .by_cases A:j=i
  .subst A;rw[B]at G;rw[b8 Ω]at E;cases G;cases E;exact au.mono P (λr _ h=>by simpa using h) λ_ _ h=>h
  .rw[Y6 (Ne.symm A)]at E;have ao:bG (λr=>if j=i then z r else F j r/\r<w.heap.size) R w Y Z:=au.mono (he.2 j Y Z G E) (λr p h=>by rw[if_neg A];exact⟨h,p⟩) λ_ _ h=>h;refine au.ac ao N λr p h1 y=>?_;have y:=O r p y;rcases h1 with h1|h1
   .simp only[if_neg A]at h1;exact s.gP rfl j i r A h1.1 y
   .exact aa r p (s.sub i r y) h1
 .have:=qi (S:=λr=>(S r\/w.heap.size<=r)\/R r) X (.inr (.inl (.inl M)));exact this
def F6{v:x1}{l:List α}{i:Nat}{a:α}(h:bG S R w [v] l)(N:l[i]?=σ a)(O:∀r,r<w.heap.size->S r->¬R r):∃g cap full z c F,v= .slice (σ ⟨g,0,ν⟩) l.length cap/\ah w g z full/\S g/\i*au.n α+au.n α<=full.length/\(∀(q:Nat)x,c[q]?=σ x->full[i*au.n α+q]?=σ x)/\bG F R w c a/\(∀r,F r->S r)/\¬F g/\
  ∀{J:x3}{a':α}{A:List x1}{T C:ak},ai T w J->(∀r,r<w.heap.size->T r->F r\/r=g)->ah J g z (over full (i*au.n α) A)->bG C R J A a'->(∀r,C r->F r\/w.heap.size<=r)->bG (λr=>S r\/w.heap.size<=r) R J [v] (l.set i a'):=by
 have ae:=(x4.1 N).1;obtain⟨vs,g,F,y,he,V,hm⟩:=kC h;obtain⟨ag,z,aj⟩:=hm rfl;obtain⟨az,⟨rfl,aA⟩|⟨cap,full,rfl,P,Q,al,af,W⟩⟩:=id aj
 .omega
 have X:vs.length=l.length:=he.1;have G:S g:=ag.resolve_left Ξ;obtain⟨c,K⟩:∃c,vs[i]?=σ c:=⟨_,x6 Ω⟩;have am:=he.2 i c a K N;have an:(i+1)*au.n α<=l.length*au.n α:=V1 _ ae;have ao:l.length*au.n α<=full.length:=by rw[af];exact V1 _ Q
 rw[U8,Nat.one_mul]at an;refine⟨g,cap,full,z,c,F i,rfl,P,G,Ω,λq x Y=>?_,am,λr s=>y.sub i r s,y.top rfl i,λ{J a' A T C}ap aq av Z H=>?_⟩
 .have L:=qA (f:=id) (k:=au.n α) (λx U=>he.len x U) K Y;rw[List.flatMap_id,<-W]at L;have aB:=(x4.1 Y).1;have M:=he.len c (x5 K);rw[Y2 Ω]at L;exact L
 have M:=au.len Z;have aw:∀c∈vs.set i A,c.length=au.n α:=λc B=>by
  rcases V4 B with p|rfl
  .exact he.len c p
  .exact M
 have aa:b1 J g z (au.n α) (.slice (σ ⟨g,0,ν⟩) l.length cap) (l.set i a').length (vs.set i A).flatten:=by
  refine⟨by rw[rA aw,Z0,Z0,X],.inr ⟨cap,_,by rw[Z0],av,by rw[Z0];exact Q,al,by rw[mp,af],?_⟩⟩;rw[Z0,uI Ω ao,W,FX he.len M Ω]
 refine⟨_,rfl,vs.set i A,g,λj r=>if j=i then C r else F j r/\r<w.heap.size,⟨λj r s=>?_,λ_ j s=>?_,λ_ j q r ax h1 p=>?_⟩,⟨by simp[X],λj ab ad B I=>?_⟩,?_,λ_=>⟨.inr (.inl G),z,aa⟩⟩
 .split at s
  .exact (H r s).imp (y.sub i r) id
  .exact .inl (y.sub j r s.1)
 .split at s
  .rcases H g s with h|h
   .exact y.top rfl i h
   .have:=P.lt;omega
  .exact y.top rfl j s.1
 .split at h1<;>split at p
  .omega
  .rcases H r h1 with h|h
   .rename_i e _;exact y.gP rfl i q r Ω h p.1
   .have:=p.2;omega
  .rcases H r p with h|h
   .exact y.gP rfl j i r Ω h1.1 h
   .have:=h1.2;omega
  .exact y.gP rfl j q r ax h1.1 p.1
 .by_cases E:j=i
  .subst E;rw[b8 Ω]at B;rw[b8 Ω]at I;cases B;cases I;exact au.mono Z (λr _ h=>by simpa using h) λ_ _ h=>h
  .rw[Y6 (Ne.symm E)]at B I;have ay:bG (λr=>if j=i then C r else F j r/\r<w.heap.size) R w ab ad:=au.mono (he.2 j ab ad B I) (λr s h=>by rw[if_neg E];exact⟨h,s⟩) λ_ _ h=>h;refine au.ac ay ap λr s h1 p=>?_;have p:=aq r s p;rcases h1 with h1|h1
   .simp only[if_neg E]at h1;rcases p with p|rfl
    .exact y.gP rfl j i r E h1.1 p
    .exact y.top rfl j h1.1
   .rcases p with p|rfl
    .exact O r s (y.sub i r p) h1
    .exact O r s G h1
 .have:=qi (S:=λr=>(S r\/w.heap.size<=r)\/R r) aa (.inr (.inl (.inl G)));exact this
end
end Go.Vc
namespace Go.Proofs.YtikkpokkcdocoabGreatDoor
open Go Go.Vc Go.RowKit Go.Proofs Go.Proofs.Tryz
set_option maxRecDepth 100000
section
variable{w0 w:x3}{ag gT ap ga:Nat}{A R:ak}{A9 cr:Nat->ak}{aJ:ak}{n:aH}{s u:aq}{t:aD}{h:List aD}{cs b4:List x1}{aN aQ mO:x1}{Q:x1->x3->Prop}
def cg.olds(p:cg w0 ag gT ap A R A9 aJ n s u t h cs):cg w0 ag gT ap A R (λq r=>A9 q r/\r<w0.heap.size) aJ n s u t h cs:=
 ⟨p.fx,p.jr,p.box,p.doc.old,λq r a=>p.apart q r a.1,p.read,p.out⟩
end
def q0{α β:Type}{l:List α}{i:Nat}{a b:α}{f:α->β}(h:l[i]?=σ a)(af:f b=f a):(l.set i b).map f=l.map f:=by
 rw[T0,af];refine Y9 λq=>?_;rw[X4];by_cases e:i=q
 .subst e;rw[if_pos F,x8,h,if_pos (by rw[r9];exact(x4.1 h).1)];rfl
 .rw[if_neg e]
def ze{T:Nat->Prop}(h:ai T w J):ai (λr=>T r/\r<w.heap.size) w J:=⟨h.size,λr o a V e=>h.a6 r o a V λf=>e ⟨f,(j9.1 a).1⟩⟩
section
variable{w0 w J:x3}{ag gT ap ga:Nat}{A R:ak}{A9:Nat->ak}{aJ:ak}{n:aH}{s u u':aq}{t:aD}{h:List aD}{cs:List x1}{aN aQ mO v:x1}{Q:x1->x3->Prop}
def ce.rR{m:Bool}{zero:Int}{D:List (Λ)}{G:List Bool}{aZ:List (Λ)}{H:List kQ}{E:List pM}{i:Nat}(ae:cs[i]?=σ v)(h:ce m A9 aJ w (cs.set i v) k sizes zero D G aZ H E):ce m A9 aJ w cs k sizes zero D G aZ H E:=by
 have:cs.set i v=cs:=by
  refine Y9 λq=>?_;rw[X4];by_cases a:i=q
  .subst a;have:=(x4.1 ae).1;rw[if_pos F,if_pos this,ae]
  .rw[if_neg a]
 rw[this]at h;exact h
def cg.row{T:ak}{cr:Nat->ak}{q:Nat}(p:cg w ag gT ap A R A9 aJ n s u t h cs)(a:ai T w J)(e:∀r,r<w.heap.size->T r->A9 q r)(f:jR true cr aJ J cs n.k n.sizes u')(x:∀q r,cr q r->(∃y,A9 y r)\/w.heap.size<=r):
  cg J ag gT ap A R cr aJ n s u' t h cs:=
 p.F5 a (λr z h=>.inl ⟨q,e r z h⟩) (p.box.ac a λh=>(p.apart q ap (e ap p.box.lt h)).2.2 F) f x
def zf{q:Nat}{B:ak}(a:∀r,B r->A9 q r\/w.heap.size<=r):∀j r,jS A9 q B j r->(∃e,A9 e r)\/w.heap.size<=r:=λj r h=>by
 unfold jS at h;split at h
 .exact (a r h).imp (λh=>⟨q,h⟩) id
 .exact .inl ⟨j,h⟩
end
def F7{full c:List x1}{o q:Nat}{x:x1}(f:∀(k:Nat)y,c[k]?=σ y->full[o+k]?=σ y)(h:o+c.length<=full.length)(p:q<c.length):full.set (o+q) x=over full o (c.set q x):=by
 refine Y9 λk=>?_;rw[nY _ _ _ (by rw[Z0];exact h),X4,Z0];by_cases h1:o<=k/\k<o+c.length
 .rw[if_pos h1,X4];by_cases a:o+q=k
  .rw[if_pos a,if_pos Ω,if_pos Ω,if_pos Ω]
  .rw[if_neg a,if_neg Ω];have e:k-o<c.length:=Ω
   have:=f (k-o) c[k-o] (x6 e);rw[x6 e,<-this];congr 1;omega
 .rw[if_neg h1,if_neg Ω]
section
variable{w0 w J:x3}{ag gT ap ga:Nat}{A R:ak}{A9:Nat->ak}{aJ:ak}{n:aH}{s u u':aq}{t:aD}{h:List aD}{cs:List x1}{aN aQ mO v:x1}{Q:x1->x3->Prop}
def cg.gP(p:cg w ag gT ap A R A9 aJ n s u t h cs):(∀i j r,i≠j->A9 i r->¬A9 j r)/\∀i r,A9 i r->¬aJ r:=by
 obtain⟨_,_,_,_,_,_,_,_,_,_,_,_,_,a⟩:=p.doc;exact a F
def cg.RS{T:ak}(p:cg w ag gT ap A R A9 aJ n s u t h cs)(y:∀q r,A9 q r->r<w.heap.size)(ae:cs[6]?=σ v)(e:ai T w J)(f:∀r,r<w.heap.size->T r->A9 3 r)(z:bG (λr=>A9 3 r\/w.heap.size<=r) aJ J [v] (u'.funs.map ko))(C:u'.zero=u.zero)(E:u'.vars=u.vars)(F:u'.iq=u.iq):∃cr,cg J ag gT ap A R cr aJ n s u' t h cs/\∀q r,cr q r->(∃G,A9 G r)\/w.heap.size<=r:=by
 have H:=ce.l6 p.doc (ze e) (λr a=>.inl (f r a.2 a.1)) z (λj r I a=>?_) (λr a=>?_)
 .have x:=zf (w:=w) (A9:=A9) (q:=3) (B:=λr=>A9 3 r\/w.heap.size<=r) λr h=>h;refine⟨_,p.row e f ?_ x,x⟩;have:=ce.rR ae H;unfold jR;rw[C,E,F];exact this
 .rcases a with a|a
  .exact p.gP.1 3 j r (Ne.symm I) a
  .exact λh=>by have:=y j r h;omega
 .rcases a with a|a
  .exact p.gP.2 3 r a
  .exact λh=>by have:=(p.read r h).2.1;omega
end
def RT{m:Int}{w:Int}(ae:0<=v)(hw:0<=w):dropped (((m.toNat ||| 2 ^ v.toNat:Nat):Int)) w=(dropped m w||decide (w=v)):=by
 unfold dropped;rw[u7,Nat.testBit_or,Nat.testBit_two_pow];congr 1;exact decide_eq_decide.2 ⟨λh=>Ω,λh=>Ω⟩
def zg{x:bC}(ae:0<=v):aE {x with mask:=((x.mask.toNat ||| 2 ^ v.toNat:Nat):Int)}=(aE x).filter λy=>!decide (y=v):=by
 unfold aE;rw[List.filter_filter];refine List.filter_congr λy a=>?_;obtain⟨q,_,rfl⟩:=c7.1 a;rw[RT ae Ω];cases dropped x.mask (q:Int)<;>simp
section
variable{w0 w J:x3}{ag gT ap ga:Nat}{A R:ak}{A9:Nat->ak}{aJ:ak}{n:aH}{s u u':aq}{t:aD}{h:List aD}{cs:List x1}{aN aQ mO v:x1}{Q:x1->x3->Prop}
def cg.pP{T:ak}(p:cg w ag gT ap A R A9 aJ n s u t h cs)(z:∀q r,A9 q r->r<w.heap.size)(ae:cs[3]?=σ v)(e:ai T w J)(f:∀r,r<w.heap.size->T r->A9 0 r)(C:bG (λr=>A9 0 r\/w.heap.size<=r) aJ J [v] (u'.vars.map aE))(E:u'.zero=u.zero)(F:u'.vars.map (·.un)=u.vars.map (·.un))(G:(u'.vars.map λx=>decide (x.gone≠0))=u.vars.map λx=>decide (x.gone≠0))(H:u'.funs=u.funs)(I:u'.iq=u.iq):
  ∃cr,cg J ag gT ap A R cr aJ n s u' t h cs/\∀q r,cr q r->(∃K,A9 K r)\/w.heap.size<=r:=by
 have L:=ce.F3 p.doc (ze e) (λr a=>.inl (f r a.2 a.1)) C (λj r M a=>?_) (λr a=>?_)
 .have y:=zf (w:=w) (B:=λr=>A9 0 r\/w.heap.size<=r) λr h=>h;refine⟨_,p.row e f ?_ y,y⟩;have:=ce.rR ae L;unfold jR;rw[E,F,G,H,I];exact this
 .rcases a with a|a
  .exact p.gP.1 0 j r (Ne.symm M) a
  .exact λh=>by have:=z j r h;omega
 .rcases a with a|a
  .exact p.gP.2 0 r a
  .exact λh=>by have:=(p.read r h).2.1;omega
end
section
variable{w0 w J:x3}{ag gT ap ga:Nat}{A R:ak}{A9:Nat->ak}{aJ:ak}{n:aH}{s u u':aq}{t:aD}{h:List aD}{cs:List x1}{aN aQ mO v:x1}{Q:x1->x3->Prop}
def RU{F:ak}{c:List x1}{f:bS}(h:bG (α:=kQ) F R w c (ko f))(C:∀r,F r->¬R r):∃aQ szv bb e,c=[aQ,szv,bb,.bool (decide (f.live≠0))]/\bG e R w [bb] f.cs/\(∀r,e r->F r)/\
  ∀{J:x3}{b4:Λ},ai e w J->bG e R J [bb] b4->bG (α:=kQ) F R J c (ko {f with cs:=b4}):=by
 obtain⟨ab,ad,A,B,rfl,E,O,P,h1,q⟩:=h;obtain⟨Q,ae,aU,S,rfl,T,G,H,I,U⟩:=h1;obtain⟨V,W,X,s,rfl,Y,x,K,L,M⟩:=U;have q:=q;subst q;obtain⟨y,rfl⟩:=V7.1 (show Q.length=1 from au.len I);obtain⟨p,rfl⟩:=V7.1 (show V.length=1 from au.len L);obtain⟨v3,rfl⟩:=V7.1 (show W.length=1 from au.len M);have z:∀r,s r->F r:=λr h=>E r (G r (x r h));refine⟨y,p,v3,s,rfl,M,z,λ{J b4}N Z=>?_⟩;refine⟨[y,p,v3],[.bool (decide (f.live≠0))],A,B,rfl,E,O,P,⟨[y],[p,v3],aU,S,rfl,T,G,H,au.ac I N λr aa a he=>?_,[p],[v3],X,s,rfl,Y,x,K,au.ac L N λr aa a he=>?_,Z⟩,rfl⟩
 .exact a.elim (λa=>H rfl r a (x r he)) (C r (z r he))
 .exact a.elim (λa=>K rfl r a he) (C r (z r he))
end
theorem dg.vars{s:aq}{i:Nat}{x y:bC}(h:dg s)(U:s.vars[i]?=σ x)(q:y.gone=x.gone):dg {s with vars:=s.vars.set i y}:=λf af p v ae z a=>by
 have a:(s.vars.set i y)[v.toNat]?=σ z:=a;rw[X4]at a;split at a
 .rename_i e;split at a
  .cases a;subst e;rw[q];exact h f af p v ae x U
  .cases a
 .exact h f af p v ae z a
theorem dg.funs{s:aq}{f g:bS}(h:dg s)(af:s.funs[j]?=σ f)(V:g.sc=f.sc)(p:g.live≠0->f.live≠0):dg {s with funs:=s.funs.set j g}:=λx U a v ae z e=>by
 rcases V4 U with U|rfl
 .exact h x U a v ae z e
 .exact h f (x5 af) (p a) v (by rw[<-V];exact ae) z e
structure iZ where
 kind:Nat
 i:Int
 pos:Int
 v:Int
 c:Int
def ev(s:aq)(i v:Int):Option bC:=if 0<=i then match s.vars[i.toNat]? with
 |some x=>if x.gone=0/\v∈aE x then σ x else ν
 |none=>ν else ν
def ew(s:aq)(j pos v:Int):Option (bS×Int×bC):=if 0<=j/\0<=pos then match s.funs[j.toNat]? with
 |some f=>if f.live≠0 then match f.sc[pos.toNat]? with
  |some u=>(ev s u v).map λx=>(f,u,x)
  |none=>ν
  else ν
 |none=>ν else ν
def nG(k:Int)(s:aq)(f:bS)(pos:Nat)(v:Int):Int:=((b0 s f.sc pos v).map (bo f.al f.cs)).foldl min k
def dt(k c most:Int):Int:=if¬(0<=c/\c<=k)then 3 else if most<c then 7 else 0
def lz(x:bC):Int:=match(aE x).map λv=>x.un.getD v.toNat 0 with
 |[]=>-1
 |c::l=>l.foldl min c
def gq(s:aq)(i:Nat)(v:Int):Λ->aq
 |[]=>s
 |w::L=>gq (if w≠v then eu s i w.toNat else s) i v L
def cC(k:Int)(s:aq)(a:iZ):aq×Int:=
 if a.kind=0 then match ew s a.i a.pos a.v with
  |none=>(s,1)
  |some (f,u,x)=>if dt k a.c (nG k s f a.pos.toNat a.v)≠0 then(s,dt k a.c (nG k s f a.pos.toNat a.v))else(km s a.i.toNat f a.pos.toNat u.toNat x a.v (λg=>dQ k g a.c) λg=>dR k g a.c,0)
 else if a.kind=1 then match ew s a.i a.pos a.v with
  |none=>(s,1)
  |some (f,u,x)=>if dt k a.c (x.un.getD a.v.toNat 0)≠0 then(s,dt k a.c (x.un.getD a.v.toNat 0))else(km s a.i.toNat f a.pos.toNat u.toNat x a.v (λg=>dR k g a.c) λg=>dQ k g a.c,0)
 else if a.kind=2 then match(if 0<=a.i then s.vars[a.i.toNat]? else ν)with
  |none=>(s,1)
  |some x=>if x.gone≠0 then(s,1)else if dt k a.c (lz x)≠0 then(s,dt k a.c (lz x))else(ma s a.i.toNat x (λg=>dQ k g a.c) λg=>dR k g a.c,0)
 else if a.kind=3 then match(if 0<=a.i then s.vars[a.i.toNat]? else ν)with
  |none=>(s,1)
  |some x=>if x.gone≠0 then(s,1)else if dt k a.c (if aE x=[]then-1 else s.zero)≠0 then(s,dt k a.c (if aE x=[]then-1 else s.zero))else(ma s a.i.toNat x (λg=>dR k g a.c) λg=>dQ k g a.c,0)
 else if a.kind=4 then match ev s a.i a.v with
  |none=>(s,1)
  |some x=>if dR k s.zero (x.un.getD a.v.toNat 0)<k then(s,7)else(eu s a.i.toNat a.v.toNat,0)
 else match ev s a.i a.v with
  |none=>(s,1)
  |some x=>(gq s a.i.toNat a.v (aE x),0)
theorem q1:∀(l:Λ)(z c:Int),c<=l.foldl min z↔c<=z/\∀x∈l,c<=x
 |[],z,c=>Ξ
 |a::l,z,c=>by
  rw[S8,q1 l (min z a) c];rw[List.forall_mem_cons];exact⟨λ⟨h1,e⟩=>⟨Ω,Ω,e⟩,λ⟨h1,e,f⟩=>⟨Ω,f⟩⟩
def oz{most:Int}(h:¬dt k c most≠0):(0<=c/\c<=k)/\c<=most:=by
 unfold dt at h;split at h
 .exact absurd Φ h
 .rename_i h1;split at h
  .exact absurd Φ h
  .exact⟨Y3.1 h1,Ω⟩
def mb{s:aq}{i:Int}{x:bC}(h:ev s i v=σ x):0<=i/\s.vars[i.toNat]?=σ x/\x.gone=0/\v∈aE x:=by
 unfold ev at h;split at h
 .rename_i e;split at h
  .rename_i y f;split at h
   .rename_i a;cases h;exact⟨e,f,a.1,a.2⟩
   .cases h
  .cases h
 .cases h
def oA{s:aq}{j u:Int}{f:bS}{x:bC}(h:ew s j pos v=σ (f,u,x)):0<=j/\0<=pos/\s.funs[j.toNat]?=σ f/\f.live≠0/\f.sc[pos.toNat]?=σ u/\ev s u v=σ x:=by
 unfold ew at h;split at h
 .rename_i a;split at h
  .rename_i g e;split at h
   .rename_i p;split at h
    .rename_i w hw;cases ae:ev s w v with
     |none=>rw[ae]at h;cases h
     |some y=>
      rw[ae]at h;cases h;exact⟨a.1,a.2,e,p,hw,ae⟩
    .cases h
   .cases h
  .cases h
 .cases h
section
variable{k:Int}{sizes a:Λ}{s:aq}
def oB{g:Int}(a:0<=g/\g<=k)(e:0<=c/\c<=g):0<=dQ k g c/\dQ k g c<=k:=by
 unfold dQ;split<;>omega
def oC{g:Int}(a:0<=g/\g<=k)(e:0<=c):0<=dR k g c/\dR k g c<=k:=by
 unfold dR;omega
def iz{u:Nat}{v:Nat}{x:bC}(a:bk k sizes s)(U:s.vars[u]?=σ x):0<=x.un.getD v 0/\x.un.getD v 0<=k:=by
 have:=a.en;have:=(x4.1 U).1;have:=a.vars;exact FN Ω (a.var u x _ U (x6 Ω)).2.1
def oD{f:bS}(a:bk k sizes s)(af:f∈s.funs):0<=bo f.al f.cs t/\bo f.al f.cs t<=k:=(vc a.en λc e=>⟨a.en,(a.funs f af).1.jp c e⟩).2
def zh{x:bC}(h:v∈aE x)(a:c<=lz x):c<=x.un.getD v.toNat 0:=by
 unfold lz at a;have hm:x.un.getD v.toNat 0∈(aE x).map λv=>x.un.getD v.toNat 0:=c7.2 ⟨v,h,F⟩;generalize (aE x).map (λv=>x.un.getD v.toNat 0)=l at a hm;cases l with
 |nil=>cases hm
 |cons b l=>
  have h1:=(q1 l b c).1 a;rcases V5.1 hm with e|e
  .rw[e];exact h1.1
  .exact h1.2 _ e
theorem sU{i:Nat}{v:Int}{x:bC}:∀(L:Λ)(s:aq),bk k sizes s->s.vars[i]?=σ x->(∀w∈L,0<=w/\w<x.un.length)->bk k sizes (gq s i v L)/\(dg s->dg (gq s i v L))/\
  ∀bl,mE s a->x.gone=0->a[i]?=σ bl->ir k (gq s i v L) a=if bl∈L/\bl≠v then k else ir k s a
 |[],s,z,U,_=>⟨z,id,λbl _ _ _=>by rw[if_neg Ξ];rfl⟩
 |w::L,s,z,U,C=>by
  unfold gq;by_cases hw:w≠v
  .rw[if_pos hw];have G:=C w (.head _);have J:=za z U G;have H:=(x4.1 U).1;have K:(eu s i w.toNat).vars[i]?=σ {x with mask:=((x.mask.toNat ||| 2 ^ w.toNat:Nat):Int)}:=by rw[nE U];exact b8 H
   obtain⟨h1,E,F⟩:=sU L (eu s i w.toNat) J K λu hu=>C u (.tail _ hu);refine⟨h1,λM=>E ?_,λbl p A B=>?_⟩
   .rw[nE U];exact dg.vars M U rfl
   .have N:mE (eu s i w.toNat) a:=by
     rw[nE U];refine⟨by show a.length=(s.vars.set _ _).length;rw[Z0];exact p.1,λq y b r I=>?_⟩;have r:(s.vars.set i {x with mask:=((x.mask.toNat ||| 2 ^ w.toNat:Nat):Int)})[q]?=σ y:=r;by_cases e:i=q
     .subst e;rw[b8 H]at r;cases r;exact p.2 i x b U I
     .rw[Y6 e]at r;exact p.2 q y b r I
    rw[F bl N A B,FW z p U A G B];by_cases e:bl=w
    .subst e;rw[if_pos rfl,if_pos (show bl∈bl::L/\bl≠v from⟨.head _,hw⟩)];split<;>rfl
    .rw[if_neg e];by_cases f:bl∈L/\bl≠v
     .rw[if_pos f,if_pos ⟨.tail _ f.1,f.2⟩]
     .rw[if_neg f,if_neg λh=>f ⟨(V5.1 h.1).resolve_left e,h.2⟩]
  .rw[if_neg hw];obtain⟨h1,E,F⟩:=sU L s z U λu hu=>C u (.tail _ hu);refine⟨h1,E,λbl p A B=>?_⟩;rw[F bl p A B];have hw:=Y3.1 hw;by_cases f:bl∈L/\bl≠v
   .rw[if_pos f,if_pos ⟨.tail _ f.1,f.2⟩]
   .rw[if_neg f,if_neg λh=>f ⟨(V5.1 h.1).resolve_left λe=>h.2 (e.trans hw),h.2⟩]
theorem dg.zero(h:dg s):dg {s with zero:=c}:=h
def F9{pos u:Nat}{f:bS}{x:bC}{tup un:Int->Int}(h:dg s)(af:s.funs[j]?=σ f)(U:s.vars[u]?=σ x):dg (km s j f pos u x v tup un):=
 dg.vars (dg.funs h af F id) U F
def Ga{u:Nat}{x:bC}{g z:Int->Int}(h:dg s)(U:s.vars[u]?=σ x):dg (ma s u x g z):=dg.zero (dg.vars h U F)
def q2(k:Int)(s:aq)(m:iZ)(s':aq)(e:Int)(a:Λ):Prop:=ir k s' a=if 5<=m.kind/\e=0/\a[m.i.toNat]? ≠σ m.v then k else ir k s a
def RV{m:iZ}(p:bk k sizes s)(F:dg s):bk k sizes (cC k s m).1/\dg (cC k s m).1/\∀a,mE s a->q2 k s m (cC k s m).1 (cC k s m).2 a:=by
 have hk:=p.en;have B:∀e:Int,e≠0->bk k sizes s/\dg s/\∀a,mE s a->q2 k s m s e a:=λe he=>⟨p,F,λa _=>by unfold q2;rw[if_neg λh=>he h.2.1]⟩;have low:∀{s':aq}{e:Int},m.kind<5->bk k sizes s'->dg s'->(∀a,mE s a->ir k s' a=ir k s a)->bk k sizes s'/\dg s'/\∀a,mE s a->q2 k s m s' e a:=λhm h1 J S=>⟨h1,J,λa y=>by unfold q2;rw[if_neg λh=>Ω];exact S a y⟩;unfold cC;split
 .rename_i O;cases z:ew s m.i m.pos m.v with
  |none=>exact B 1 Φ
  |some q=>
   obtain⟨f,u,x⟩:=q;simp only;split
   .rename_i he;exact B _ he
   .rename_i he;obtain⟨A,hm⟩:=oz he;simp only;obtain⟨_,_,af,K,hu,ae⟩:=oA z;obtain⟨aa,U,E,P⟩:=mb ae;have G:=x5 af;have T:∀t∈b0 s f.sc m.pos.toNat m.v,m.c<=bo f.al f.cs t:=λt C=>((q1 _ _ _).1 hm).2 _ (c7.2 ⟨t,C,rfl⟩);have Q:f.sc[m.pos.toNat]?=σ ((u.toNat:Nat):Int):=by rw[hu];congr 1;omega
    have C:∀t∈b0 s f.sc m.pos.toNat m.v,0<=dQ k (bo f.al f.cs t) m.c/\dQ k (bo f.al f.cs t) m.c<=k:=λt C=>oB (oD p G) ⟨A.1,T t C⟩;have L:=oC (k:=k) (iz (v:=m.v.toNat) p U) A.1;refine low Ω (FS p af U C L) (F9 F af U) λa y=>FT p y af K Q U P (F f G K) C L λt C r H=>?_;have:=oD (t:=t) p G;exact vy H ⟨T t C,this.2⟩ (iz p U) A.1
 split
 .rename_i _ O;cases z:ew s m.i m.pos m.v with
  |none=>exact B 1 Φ
  |some q=>
   obtain⟨f,u,x⟩:=q;simp only;split
   .rename_i he;exact B _ he
   .rename_i he;obtain⟨A,hm⟩:=oz he;simp only;obtain⟨_,_,af,K,hu,ae⟩:=oA z;obtain⟨aa,U,E,P⟩:=mb ae;have G:=x5 af;have Q:f.sc[m.pos.toNat]?=σ ((u.toNat:Nat):Int):=by rw[hu];congr 1;omega
    have C:∀t∈b0 s f.sc m.pos.toNat m.v,0<=dR k (bo f.al f.cs t) m.c/\dR k (bo f.al f.cs t) m.c<=k:=λt C=>oC (oD p G) A.1;have L:=oB (k:=k) (iz (v:=m.v.toNat) p U) ⟨A.1,hm⟩;refine low Ω (FS p af U C L) (F9 F af U) λa y=>FT p y af K Q U P (F f G K) C L λt C r H=>?_;have h1:=oD (t:=t) p G;have J:=iz (v:=m.v.toNat) p U;have:=vy H ⟨hm,J.2⟩ h1 A.1;omega
 split
 .rename_i _ _ O;cases z:(if 0<=m.i then s.vars[m.i.toNat]? else ν)with
  |none=>exact B 1 Φ
  |some x=>
   have U:s.vars[m.i.toNat]?=σ x:=by split at z;exact z;cases z
   simp only;split
   .exact B 1 Φ
   split
   .rename_i he;exact B _ he
   .rename_i E he;obtain⟨A,hm⟩:=oz he;simp only;have V:∀v∈aE x,m.c<=x.un.getD v.toNat 0:=λv ae=>zh ae hm;have M:∀v∈aE x,0<=dQ k (x.un.getD v.toNat 0) m.c/\dQ k (x.un.getD v.toNat 0) m.c<=k:=λv ae=>oB (iz p U) ⟨A.1,V v ae⟩;have N:=oC p.zero A.1;refine low Ω (y9 p U M N) (Ga F U) λa y=>FV p y U (Y3.1 E) M N λv ae r H=>?_;exact vy H ⟨V v ae,(iz p U).2⟩ p.zero A.1
 split
 .rename_i _ _ _ O;cases z:(if 0<=m.i then s.vars[m.i.toNat]? else ν)with
  |none=>exact B 1 Φ
  |some x=>
   have U:s.vars[m.i.toNat]?=σ x:=by split at z;exact z;cases z
   simp only;obtain⟨W,X⟩:∃W,W=(if aE x=[]then-1 else s.zero):=⟨_,rfl⟩;rw[<-X];split
   .exact B 1 Φ
   split
   .rename_i he;exact B _ he
   .rename_i E he;obtain⟨A,hm⟩:=oz he;simp only;have Y:m.c<=s.zero:=by
     rw[X]at hm;split at hm
     .omega
     .exact hm
    have M:∀v∈aE x,0<=dR k (x.un.getD v.toNat 0) m.c/\dR k (x.un.getD v.toNat 0) m.c<=k:=λv ae=>oC (iz p U) A.1;have N:=oB p.zero ⟨A.1,Y⟩;refine low Ω (y9 p U M N) (Ga F U) λa y=>FV p y U (Y3.1 E) M N λv ae r H=>?_;have:=vy H ⟨Y,p.zero.2⟩ (iz (v:=v.toNat) p U) A.1;omega
 split
 .rename_i _ _ _ _ O;cases z:ev s m.i m.v with
  |none=>exact B 1 Φ
  |some x=>
   obtain⟨_,U,E,ae⟩:=mb z;simp only;split
   .exact B 7 Φ
   .rename_i he;have Z:=(gp.1 ae).1;simp only;refine low Ω (za p U Z) (by rw[nE U];exact dg.vars F U rfl) λa y=>?_;have ab:=(x4.1 U).1;have ac:=y.1;obtain⟨bl,I⟩:=aI (l:=a) (i:=m.i.toNat) Ω;rw[FW p y U E Z I];split
    .rename_i e;subst e;rw[pL p];split
     .have ad:(s.vars.zip a)[m.i.toNat]?=σ (x,m.v):=List.getElem?_zip_eq_some.2 ⟨U,I⟩;have h1:=sR (vz p) (x:=dG (x,m.v)) (by rw[x8,ad];rfl);have J:=sQ _ (sS (a:=a) p);have ah:dG (x,m.v)=x.un.getD m.v.toNat 0:=by unfold dG;rw[if_neg (by simp[E])]
      unfold dR at he;omega
     .rfl
    .rfl
 .rename_i h1 J S ai aj;cases z:ev s m.i m.v with
  |none=>exact B 1 Φ
  |some x=>
   obtain⟨_,U,E,ae⟩:=mb z;simp only;have R:∀w∈aE x,0<=w/\w<x.un.length:=λw hw=>(gp.1 hw).1;refine⟨(sU (a:=[]) (aE x) s p U R).1,(sU (a:=[]) (aE x) s p U R).2.1 F,λa y=>?_⟩;have ab:=(x4.1 U).1;have ac:=y.1;obtain⟨bl,I⟩:=aI (l:=a) (i:=m.i.toNat) Ω;unfold q2;rw[(sU (aE x) s p U R).2.2 bl y E I,I];by_cases e:bl=m.v
   .rw[if_neg λh=>h.2 e,if_neg λh=>h.2.2 (by rw[e])]
   .rw[if_pos (c:=5<=m.kind/\_) ⟨Ω,rfl,λh=>e (Z3 h)⟩];split
    .rfl
    .rename_i ag;exact RE y U E I λh=>ag ⟨h,e⟩
end
def RW{f:Int->Int}(V:dL al)(r:cs.length<=(bn al).length)(h:∀t∈L,f (bo al cs t)=bo al cs t):dF f L al cs=cs:=by
 apply Y9;intro i;cases a:cs[i]? with
 |none=>
  have h1:=List.getElem?_eq_none_iff.1 a;rw[Z7 (by rw[pF]<;>omega)]
 |some c=>
  obtain⟨t,p⟩:=aI (l:=bn al) (i:=i) (by have:=(x4.1 a).1;omega);rw[qU p a];split
  .rename_i q;have e:bo al cs t=c:=by
    unfold bo;rw[kI V p];simp only;rw[u7,u4,a];rfl
   have:=h t q;rw[e]at this;rw[this]
  .rfl
section
variable{k:Int}{sizes:Λ}{s:aq}
end
section
variable{k:Int}{sizes:Λ}{s:aq}
def pQ{f:bS}{pos:Nat}(a:bk k sizes s)(af:f∈s.funs)(ae:∀u,f.sc[pos]?=σ u->v∈bj s u)(h:t∈b0 s f.sc pos v):∃m:Nat,cn f.al t 0=σ (m:Int):=by
 obtain⟨e,p,_⟩:=a.funs f af;obtain⟨q,_⟩:=ly a af;rw[y3 a (λu hu=>⟨(e.scope.1 u hu).1,e.vars u hu⟩) ae,<-p]at h;obtain⟨i,hi⟩:=W3.1 (T2.1 h).1;exact⟨i,kI q hi⟩
end
section
variable{k:Int}{sizes:Λ}{s:aq}
def RX{m:iZ}(h:(cC k s m).2≠0):(cC k s m).1=s:=by
 generalize hm:cC k s m=r at h ⊢;unfold cC at hm
 repeat' split at hm
 all_goals (subst hm;first|rfl|exact absurd rfl h)
end
structure e3(s s':aq):Prop where
 vars:s'.vars.length=s.vars.length
 var:∀(i:Nat)x y,s.vars[i]?=σ x->s'.vars[i]?=σ y->y.gone=x.gone/\y.un.length=x.un.length
 funs:s'.funs.length=s.funs.length
 fn:∀(j:Nat)f g,s.funs[j]?=σ f->s'.funs[j]?=σ g->g.sc=f.sc/\g.al=f.al/\g.live=f.live/\g.cs.length=f.cs.length
 iq:s'.iq=s.iq
def e3.rfl{s:aq}:e3 s s:=⟨Eq.refl _,λ_ _ _ h1 a=>by rw[h1]at a;cases a;exact⟨Eq.refl _,Eq.refl _⟩,Eq.refl _,λ_ _ _ h1 a=>by rw[h1]at a;cases a;exact⟨Eq.refl _,Eq.refl _,Eq.refl _,Eq.refl _⟩,Eq.refl _⟩
def e3.trans{a b c:aq}(h:e3 a b)(k:e3 b c):e3 a c:=by
 refine⟨k.vars.trans h.vars,λi x z U s=>?_,k.funs.trans h.funs,λj f q af w=>?_,k.iq.trans h.iq⟩
 .have A:=(x4.1 U).1;have ae:=h.vars;obtain⟨y,p⟩:=aI (l:=b.vars) (i:=i) Ω;have h1:=h.var i x y U p;have e:=k.var i y z p s;exact⟨e.1.trans h1.1,e.2.trans h1.2⟩
 .have A:=(x4.1 af).1;have ae:=h.funs;obtain⟨g,r⟩:=aI (l:=b.funs) (i:=j) Ω;have h1:=h.fn j f g af r;have e:=k.fn j g q r w;exact⟨e.1.trans h1.1,e.2.1.trans h1.2.1,e.2.2.1.trans h1.2.2.1,e.2.2.2.trans h1.2.2.2⟩
section
variable{k:Int}{sizes:Λ}{s:aq}
def zi{i:Nat}{x y:bC}(U:s.vars[i]?=σ x)(r:y.gone=x.gone)(w:y.un.length=x.un.length):e3 s {s with vars:=s.vars.set i y}:=by
 refine⟨Z0,λj a b q h=>?_,F,λj f g h1 p=>?_,F⟩
 .have h:(s.vars.set i y)[j]?=σ b:=h;by_cases e:i=j
  .subst e;rw[b8 (x4.1 U).1]at h;rw[U]at q;cases q;cases h;exact⟨r,w⟩
  .rw[Y6 e,q]at h;cases h;exact⟨F,F⟩
 .have p:s.funs[j]?=σ g:=p;rw[h1]at p;cases p;exact⟨F,F,F,F⟩
def RY{f g:bS}(af:s.funs[j]?=σ f)(h:g.sc=f.sc/\g.al=f.al/\g.live=f.live/\g.cs.length=f.cs.length):e3 s {s with funs:=s.funs.set j g}:=by
 refine⟨F,λi a b r p=>?_,Z0,λq a b r p=>?_,F⟩
 .have p:s.vars[i]?=σ b:=p;rw[r]at p;cases p;exact⟨F,F⟩
 .have p:(s.funs.set j g)[q]?=σ b:=p;by_cases e:j=q
  .subst e;rw[b8 (x4.1 af).1]at p;rw[af]at r;cases r;cases p;exact h
  .rw[Y6 e,r]at p;cases p;exact⟨F,F,F,F⟩
def RZ:e3 s {s with zero:=c}:=⟨F,λ_ _ _ h1 a=>by have a:s.vars[_]?=σ _:=a;rw[h1]at a;cases a;exact⟨F,F⟩,F,λ_ _ _ h1 a=>by have a:s.funs[_]?=σ _:=a;rw[h1]at a;cases a;exact⟨F,F,F,F⟩,F⟩
def zj{i:Nat}:e3 s (eu s i v.toNat):=by
 cases U:s.vars[i]? with
 |none=>unfold eu;rw[U];exact .rfl
 |some x=>rw[nE U];exact zi U F rfl
theorem zk{i:Nat}{v:Int}:∀(L:Λ)(s:aq),e3 s (gq s i v L)
 |[],_=>.rfl
 |w::L,s=>by
  unfold gq;split
  .exact zj.trans (zk L _)
  .exact zk L s
def Gb{u:Nat}{x:bC}{g z:Int->Int}(U:s.vars[u]?=σ x):e3 s (ma s u x g z):=
 (zi (y:={x with un:=eg g x.un (aE x)}) U F (vC _ _)).trans RZ
def Gc{pos u:Nat}{f:bS}{x:bC}{t un:Int->Int}(a:bk k sizes s)(af:s.funs[j]?=σ f)(U:s.vars[u]?=σ x):e3 s (km s j f pos u x v t un):=by
 obtain⟨_,e⟩:=ly a (x5 af);have h1:e3 s (dZ s j f (dF t (b0 s f.sc pos v) f.al f.cs)):=RY af ⟨F,F,F,pF _ _ _ _ Ω⟩;exact h1.trans (zi (s:=dZ s j f (dF t (b0 s f.sc pos v) f.al f.cs)) (y:={x with un:=x.un.set v.toNat (un (x.un.getD v.toNat 0))}) U F Z0)
def R1{m:iZ}(p:bk k sizes s):e3 s (cC k s m).1:=by
 by_cases he:(cC k s m).2=0
 .generalize a:cC k s m=r at he ⊢;unfold cC at a;split at a
  .split at a
   .subst a;exact .rfl
   .rename_i f u x e;obtain⟨_,_,af,_,_,ae⟩:=oA e;obtain⟨_,U,_,_⟩:=mb ae;split at a
    .subst a;exact .rfl
    .subst a;simp only;exact Gc p af U
  split at a
  .split at a
   .subst a;exact .rfl
   .rename_i f u x e;obtain⟨_,_,af,_,_,ae⟩:=oA e;obtain⟨_,U,_,_⟩:=mb ae;split at a
    .subst a;exact .rfl
    .subst a;simp only;exact Gc p af U
  have key:∀{x:bC},(if 0<=m.i then s.vars[m.i.toNat]? else ν)=σ x->s.vars[m.i.toNat]?=σ x:=λh=>by
   split at h
   .exact h
   .cases h
  split at a
  .split at a
   .subst a;exact .rfl
   .rename_i x e;split at a
    .subst a;exact .rfl
    .split at a
     .subst a;exact .rfl
     .subst a;simp only;exact Gb (key e)
  split at a
  .split at a
   .subst a;exact .rfl
   .rename_i x e;generalize (if aE x=[]then-1 else s.zero)=q at a;split at a
    .subst a;exact .rfl
    .split at a
     .subst a;exact .rfl
     .subst a;simp only;exact Gb (key e)
  split at a
  .split at a
   .subst a;exact .rfl
   .split at a
    .subst a;exact .rfl
    .subst a;exact zj
  .split at a
   .subst a;exact .rfl
   .subst a;exact zk _ _
 .rw[RX he];exact .rfl
end
def vI(B:Nat)(w:x3)(a:x1)(cs:List x1)(f:b3):Prop:=∃ag gT A R t N A9 aJ,e9 N f/\a=Γ ag/\bz w ag gT A R (c4 f) (df (c4 f)) t/\Plain t/\(∀r,A r->B<=r)/\
 jR true A9 aJ w cs (c4 f).k (c4 f).sizes (df (c4 f))/\(∀q r,A9 q r->¬A r/\¬R r/\B<=r)/\(∀r,aJ r->¬eA w r/\r<w.heap.size/\B<=r)/\∀r,R r->B<=r
def R8(w:x3)(q:Λ)(v:x1)(J:x3):Prop:=Ext w J/\∃a cs ok,v= .tuple #[a,.agg cs.toArray,.bool ok]/\(cs.length=8/\∀u∈cs,u.oneCell'=true)/\((ok=false/\a= .pointer ν)\/(ok=true/\∃f,fR q=σ f/\vI w.heap.size J a cs f))/\∀f,fR q=σ f->kc f.funs<=16384->ok=true
def R9(V:dL al):(bn al).Nodup:=by
 rw[List.nodup_iff_pairwise_ne,V3];intro i j hi a f he;have h1:=kI V (x6 hi);have e:=kI V (x6 a);rw[he,e]at h1;have:=Z3 h1;omega
section
variable{k:Int}{sizes:Λ}{s:aq}
def Gd{f:bS}{pos:Nat}(a:bk k sizes s)(af:f∈s.funs)(ae:∀u,f.sc[pos]?=σ u->v∈bj s u):(b0 s f.sc pos v).Nodup:=by
 obtain⟨e,h,_⟩:=a.funs f af;obtain⟨p,_⟩:=ly a af;rw[y3 a (λu hu=>⟨(e.scope.1 u hu).1,e.vars u hu⟩) ae,<-h];exact(R9 p).sublist List.filter_sublist
def zl{α:Type}{l:List α}{q:Nat}{a:α}(e:l.Nodup)(h:l[q]?=σ a):a∉l.take q:=λhm=>by
 obtain⟨i,hi⟩:=W3.1 hm;have f:i<q:=by have:=(x4.1 hi).1;rw[j6]at this;omega
 rw[Y2 f]at hi;have h1:=(x4.1 hi).1;have p:=(x4.1 h).1;have:=(List.getElem_inj e (h₁:=p)).1 (by rw[(x4.1 hi).2,(x4.1 h).2]);omega
def Ge{m:Nat}{f:bS}(af:s.funs[j]?=σ f)(e:f.live≠0)(hi:cn f.al t 0=σ (m:Int)):e1 s j t=bo f.al f.cs t/\∃p,ia s j t=σ p:=by
 have h:∃p,ia s j t=σ p:=by
  unfold ia;rw[af];simp only;rw[if_pos e,hi];exact⟨_,F⟩
 obtain⟨p,a⟩:=h;refine⟨?_,p,a⟩;unfold e1;rw[a,S1,if_pos F];unfold nz;rw[af]
def Gf{m q:Nat}{f:bS}{g:Int->Int}(x:bk k sizes s)(af:s.funs[j]?=σ f)(y:L.Nodup)(p:L[q]?=σ t)(hi:cn f.al t 0=σ (m:Int)):
  bo f.al (dF g (L.take q) f.al f.cs) t=bo f.al f.cs t/\l6 (dZ s j f (dF g (L.take q) f.al f.cs)) j m (g (bo f.al f.cs t))=dZ s j f (dF g (L.take (q+1)) f.al f.cs):=by
 obtain⟨a,z⟩:=ly x (x5 af);have r:=zl y p;refine⟨by rw[FO a z hi,if_neg r],?_⟩;have h:=lS a hi;rw[u7]at h;have:=(x4.1 h).1;obtain⟨c,w⟩:=aI (l:=f.cs) (i:=m) Ω;have e:bo f.al f.cs t=c:=by
  unfold bo;rw[hi];simp only;rw[u7,u4,w];rfl
 have A:=(QK (f:=g) a Ω h w r).2;unfold l6;have B:(dZ s j f (dF g (L.take q) f.al f.cs)).funs[j]?=σ {f with cs:=dF g (L.take q) f.al f.cs}:=b8 (x4.1 af).1;rw[B,e];simp only;rw[A,u9,p];unfold dZ;simp only[List.set_set];rfl
end
section
variable{w:x3}{ag gT:Nat}{A R:ak}{n:aH}{s:aq}{t:aD}
def zm{i:Int}(h:bz w ag gT A R n s t):an x7 Jj [Γ ag,Δ i,Δ v] w λr J=>Ext w J/\r=Δ (if(ev s i v).isSome=true then 0 else 1):=by
 have:=h.2.2.2.1.vars;refine aA func148 ?_;rw[dh dm.u];simp only[Y0,a8];refine aV (λr aa=>r= .bool (!(ev s i v).isSome)/\Ext w aa) ?_ ?_
 .rintro _ aa ⟨rfl,B⟩;rw[cd];exact⟨λf=>⟨B,by rw[if_neg (by simpa using f)]⟩,λf=>⟨B,by rw[if_pos (by simpa using f)]⟩⟩
 intro aB C;refine(yJ h).mono ?_;rintro _ ab _ ⟨rfl,p⟩;rw[cd];refine⟨λa=>C _ _ ⟨?_,p⟩,λa=>?_⟩
 .rw[V9,decide_eq_true_eq]at a;have q:ev s i v=ν:=by
   unfold ev;rw[if_pos a.1];have y:=a.2;unfold jO at y;cases U:s.vars[i.toNat]? with
   |none=>rfl
   |some x=>
    rw[U]at y;simp only;rw[if_neg λh=>by simp[h.1]at y]
  rw[q];rfl
 refine(kN (i:=i) (h.ext p)).mono ?_;rintro _ L _ ⟨⟨b,m,rfl,z⟩,G⟩;refine(Fj z.1).mono ?_;rintro _ M _ ⟨rfl,H⟩;rw[bM];refine C _ _ ⟨?_,(p.trans G).trans H⟩;congr 2;by_cases e:0<=i/\i<n.sizes.length
 .obtain⟨x,U⟩:=aI (l:=s.vars) (i:=i.toNat) Ω;rw[Fz z e.1 U];unfold ev;rw[if_pos e.1,U];have I:x.gone=0:=by
   rw[decide_eq_true e.1,T9]at a;unfold jO at a;rw[U]at a;simpa using a
  simp only;by_cases ae:v∈aE x
  .rw[decide_eq_true ae,if_pos ⟨I,ae⟩];rfl
  .rw[decide_eq_false ae,if_neg λh=>ae h.2];rfl
 .obtain⟨rfl,rfl⟩:=z.2.1 e;have q:ev s i v=ν:=by
   unfold ev;by_cases E:0<=i
   .rw[if_pos E,Z7 Ω]
   .rw[if_neg E]
  rw[q,decide_eq_false Ω];rfl
def Sa(s:aq)(j pos v:Int)(u e:Int):Prop:=(e=0/\∃f x,ew s j pos v=σ (f,u,x))\/(e=1/\ew s j pos v=ν)
def Gg{j:Int}(h:bz w ag gT A R n s t):an x7 Jc [Γ ag,Δ j,Δ pos,Δ v] w λr J=>Ext w J/\∃u e,r= .tuple #[Δ u,Δ e]/\Sa s j pos v u e:=by
 refine aA func139 ?_;rw[dh dm.u];simp only[Y0,a8];have key:∀(K:x1->x3->Prop),(∀r J,Ext w J->(∀f,0<=j->s.funs[j.toNat]?=σ f->aK .i64 J r f.sc)->K r J)->an x7 rq [Γ ag,Δ j] w K:=λK U=>by
  by_cases V:0<=j/\j<s.funs.length
  .obtain⟨f,af⟩:=aI (l:=s.funs) (i:=j.toNat) Ω;have:=l7 h af;rw[show((j.toNat:Nat):Int)=j by omega]at this;refine this.mono ?_;rintro r aa _ ⟨B,g,_,hm⟩;exact U r aa B λG _ W=>by rw[af]at W;cases W;exact hm.ls
  .refine (Ft h V).mono ?_;rintro r aa _ ⟨rfl,B⟩;exact U _ aa B λf C af=>absurd ⟨C,by have:=(x4.1 af).1;omega⟩ V
 refine key _ λr aa B X=>?_;have L:∀{P:Prop},(¬∃f u,0<=j/\0<=pos/\s.funs[j.toNat]?=σ f/\f.live≠0/\f.sc[pos.toNat]?=σ u)->(ew s j pos v=ν->P)->P:=λp ak=>ak (by
  cases H:ew s j pos v with
  |none=>rfl
  |some q=>
   obtain⟨f,u,x⟩:=q;obtain⟨M,N,a3,a4,a5,_⟩:=oA H;exact absurd ⟨f,u,M,N,a3,a4,a5⟩ p)
 refine aV (λY ab=>Ext aa ab/\((Y= .bool true/\ew s j pos v=ν)\/(Y= .bool false/\∃f u,0<=j/\0<=pos/\s.funs[j.toNat]?=σ f/\f.live≠0/\f.sc[pos.toNat]?=σ u))) ?_ ?_
 .rintro _ ab ⟨O,⟨rfl,p⟩|⟨rfl,f,u,C,Z,af,al,hu⟩⟩
  .rw[bX];exact⟨B.trans O,0,1,F,.inr ⟨F,p⟩⟩
  .rw[a8];intro ap z _ _;have ac:=(X f C af).ext (O.trans z);refine qm Ω ao.u aj.i ac hu λb o aq=>?_;rw[ax Ψ aq,gf (y:=pos) (i:=pos.toNat) Ω ao.u aj.i Ψ ac hu];have ad:=(B.trans O).trans z;refine(zm (h.ext ad)).mono ?_;rintro _ av _ ⟨ah,rfl⟩;refine⟨.inl ah,ad.trans ah,u,_,F,?_⟩;have H:ew s j pos v=(ev s u v).map λx=>(f,u,x):=by
    unfold ew;rw[if_pos ⟨C,Z⟩,af];simp only;rw[if_pos al,hu]
   cases ae:ev s u v with
   |none=>exact .inr ⟨F,by rw[H,ae];rfl⟩
   |some x=>exact .inl ⟨F,f,x,by rw[H,ae];rfl⟩
 intro aB I;refine(sI (h.ext B)).mono ?_;rintro _ ap _ ⟨rfl,z⟩;have same:∀{f G:bS},s.funs[j.toNat]?=σ f->s.funs[j.toNat]?=σ G->G=f:=λa b=>by rw[a]at b;exact(Z3 b).symm
 rw[bM,cd];refine⟨λQ=>L (λ⟨f,u,M,N,a3,a4,a5⟩=>?_) λp=>I _ _ ⟨z,.inl ⟨F,p⟩⟩,λS=>?_⟩
 .unfold fd at Q;rw[a3]at Q;simp[M,a4]at Q
 have S:0<=j/\fd s j.toNat=true:=by simpa using S
 obtain⟨C,E⟩:=S;obtain⟨f,af,au⟩:∃f,s.funs[j.toNat]?=σ f/\f.live≠0:=by
  unfold fd at E;cases af:s.funs[j.toNat]? with
  |none=>rw[af]at E;cases E
  |some f=>rw[af]at E;exact⟨f,F,by simpa using E⟩
 rw[aP,am];refine⟨λaw=>L (λ⟨_,_,_,N,_⟩=>Ω) λp=>I _ _ ⟨z,.inl ⟨F,p⟩⟩,λZ=>?_⟩;rw[aX ao.u ((X f C af).ext z),cO];by_cases ai:(f.sc.length:Int)<=pos
 .refine L (λ⟨G,u,_,_,a3,_,a5⟩=>?_) λp=>I _ _ ⟨z,.inl ⟨by rw[decide_eq_true ai],p⟩⟩;obtain rfl:=same af a3;have:=(x4.1 a5).1;omega
 .obtain⟨u,hu⟩:=aI (l:=f.sc) (i:=pos.toNat) Ω;exact I _ _ ⟨z,.inr ⟨by rw[decide_eq_false ai],f,u,C,Ω,af,au,hu⟩⟩
def vJ{most:Int}(h:bz w ag gT A R n s t):an x7 Jd [Γ ag,Δ c,Δ most] w λr J=>Ext w J/\r=Δ (dt n.k c most):=by
 refine aA func140 ?_;refine(lp h).mono ?_;rintro _ aa _ ⟨rfl,a⟩;refine k7.mono ?_;rintro _ ab _ ⟨rfl,e⟩;have hi:ct c n.k↔0<=c/\c<=n.k:=⟨λh=>h.2,λp=>⟨h.2.2.2.1.en,p⟩⟩;unfold dt;rw[bM,cd];refine⟨λf=>⟨a.trans e,?_⟩,λf=>?_⟩
 .have:¬ct c n.k:=by simpa using f
  rw[if_pos λh=>this (hi.2 h)]
 .have:ct c n.k:=by simpa using f
  rw[if_neg λh=>h (hi.1 this),bL,am];exact⟨λh=>⟨a.trans e,by rw[if_pos h]⟩,λh=>⟨a.trans e,by rw[if_neg h]⟩⟩
def Sb{a b:Int}(hk:right k)(f:0<=a/\a<=k)(p:0<=b/\b<=k)(x:a=k\/b<=a):an x7 J4 [Δ a,Δ b,Δ k] w λv J=>v= .tuple #[Δ (dQ k a b),Δ 0]/\Ext w J:=by
 have y:1<=k/\k<=2147483648:=hk;refine aA func219 ?_;refine aV (λr aa=>r= .bool false/\Ext w aa) ?_ ?_
 .rintro _ aa ⟨rfl,e⟩;unfold dQ;rw[a8,bf,am];refine⟨λh=>⟨by rw[if_pos h],e⟩,λh=>?_⟩;rw[if_neg h,bL,am];refine⟨λz=>Ω,λ_=>?_⟩;rw[dI,wrap_i64 Ω Ω];exact⟨F,e⟩
 intro aB q;refine k7.mono ?_;rintro _ aa _ ⟨rfl,e⟩;rw[decide_eq_true (show ct a k from⟨hk,f⟩),bM,X2,a8];refine k7.mono ?_;rintro _ ab _ ⟨rfl,s⟩;rw[decide_eq_true (show ct b k from⟨hk,p⟩),bM,X2];exact q _ _ ⟨F,e.trans s⟩
def vK{a:Int}(h:bz w ag gT A R n s t)(e:0<=a/\a<=n.k)(f:0<=c/\c<=n.k)(p:a=n.k\/c<=a):an x7 oW [Γ ag,Δ a,Δ c] w λr J=>r=Δ (dQ n.k a c)/\Ext w J:=by
 refine aA func142 ?_;refine(lp h).mono ?_;rintro _ aa _ ⟨rfl,q⟩;refine(Sb h.2.2.2.1.en e f p).mono ?_;rintro _ ab _ ⟨rfl,x⟩;rw[bq,br];exact⟨F,q.trans x⟩
def sV{a:Int}(h:bz w ag gT A R n s t)(e:0<=a/\a<=n.k)(f:0<=c/\c<=n.k):an x7 oX [Γ ag,Δ a,Δ c] w λr J=>r=Δ (dR n.k a c)/\Ext w J:=by
 refine aA func143 ?_;refine(lp h).mono ?_;rintro _ aa _ ⟨rfl,p⟩;refine(Fp e f h.2.2.2.1.en).mono ?_;rintro _ ab _ ⟨rfl,q⟩;rw[bq,br];exact⟨F,p.trans q⟩
end
def Sc{g n c:Nat}{cs:List x1}(a:ah w g cI cs)(h:∀J,ai (λr=>r=g) w J->(∀o vs,w.rangeAt g o vs->J.rangeAt g o vs)->K (.slice (σ ⟨g,0,ν⟩) n c) J):
  aF x7 (convert cM cM (.slice (σ ⟨g,0,ν⟩) n c)) w K:=by
 have f:∀r,(w.freeze ⟨g,cs.length,ν⟩ 1).heap[r]?=if g=r then(w.heap[r]?).map (λ| .cells c p (lo,hi)=>.cells c p (if lo == hi then(cs.length,cs.length+1)else(min lo cs.length,max hi (cs.length+1)))|o=>o)else w.heap[r]?:=λr=>by
  unfold x3.freeze;rw[if_neg Φ];exact Array.getElem?_modify
 have z:(w.freeze ⟨g,cs.length,ν⟩ 1).heap.size=w.heap.size:=by
  unfold x3.freeze;rw[if_neg Φ];exact Array.size_modify
 have q:w.shape? g=σ (cI,cs.length):=by
  unfold x3.shape?;unfold ah at a;rw[a];simp
 have s:(convert cM cM (.slice (σ ⟨g,0,ν⟩) n c)).run x7 w= .ok (.slice (σ ⟨g,0,ν⟩) n c) (w.freeze ⟨g,cs.length,ν⟩ 1):=by
  simp[convert,run_underlying cM.u,run_underlying cI.u,markStringish,q]
 unfold ah at a;refine .of s ⟨by unfold x3.freeze;rw[if_neg Φ],.lD (by unfold x3.freeze;rw[if_neg Φ]) (by unfold x3.freeze;rw[if_neg Φ]),by unfold x3.freeze;rw[if_neg Φ],Ω,λr o e V=>?_⟩ (h _ ⟨Ω,λr o e _ x=>?_⟩ λo vs ae j v y=>?_)
 .rw[f];by_cases he:g=r
  .subst he;rw[a]at e;cases e;cases V
  .rw[if_neg he];exact e
 .rw[f,if_neg λhe=>x he.symm];exact e
 .have h1:=ae j v y;unfold x3.cell? at h1 ⊢;rw[f,if_pos F];rw[a]at h1 ⊢;exact h1
def zn(s0 s:aq):Prop:=s.zero=s0.zero/\s.funs=s0.funs/\s.vars.length=s0.vars.length/\∀(i:Nat)x,s.vars[i]?=σ x->∃a,s0.vars[i]?=σ a/\x.un=a.un/\x.gone=0/\a.gone=0/\a.mask=0
def zn.new(n:aH):zn (df n) (df n):=⟨F,F,F,λi x U=>by
 refine⟨x,U,F,?_⟩;have U:(n.unary.map newVar)[i]?=σ x:=U;rw[x8]at U;obtain⟨u,_,rfl⟩:=X7.1 U;exact⟨F,F,F⟩⟩
def Sd(n:aH):dg (df n):=λf _ _ v _ x U=>by
 obtain⟨_,_,_,h,_⟩:=(zn.new n).2.2.2 _ x U;exact h
def Se{ap:Nat}{E:x1}{cs:List x1}{f:b3}(G:vI B ab E cs f)(U:Ext ab w)(H:ah w ap aY cs)(M:ab.heap.size<=ap):
  ∃ag gT A R A9 aJ t,E=Γ ag/\cg w ag gT ap A R A9 aJ (c4 f) (df (c4 f)) (df (c4 f)) t [] cs/\t.marks=[]/\(∀r,A r->B<=r)/\(∀q r,A9 q r->B<=r)/\t.cells.length<=2000000/\t.olds.length=0/\(c4 f).funs.length<=256/\t.kF=0/\(∀r,aJ r->B<=r)/\∀r,R r->B<=r:=by
 obtain⟨ag,gT,A,R,t,N,A9,aJ,x,rfl,y,e,I,J,C,p,K⟩:=G;have F:=zd y;have:=U.size;have s:=(vm (DT x).1 (yP x) (c4 f).unary.length (c4 f).funs.length);rw[yt,<-y.2.1]at s;unfold aD.bY at s;rw[r9]at s;refine⟨ag,gT,A,R,λq r=>A9 q r/\r<ab.heap.size,aJ,t,rfl,⟨y.ext U,e.2.2.1,H,J.old.ext U,λq r h=>⟨(C q r h.1).1,(C q r h.1).2.1,by have:=h.2;omega⟩,λr a=>⟨λh=>(p r a).1 (ol (λo L V _=>U.a6 r o L V) h),by have:=(p r a).2;omega,by have:=(p r a).2;omega⟩,λh=>by have:=F ap (.inl h);omega,λh=>by have:=F ap (.inr h);omega⟩,e.1,I,λq r h=>(C q r h.1).2.2,s,by rw[e.2.1];rfl,yP x,e.2.2.2,λr a=>(p r a).2.2,K⟩
section
variable{w J:x3}{ag gT ap dl:Nat}{A R O M aJ:ak}{A9:Nat->ak}{k:Int}{sizes:Λ}{V:List aq}{n:aH}{s u:aq}{t:aD}{h:List aD}{cs:List x1}
structure UL(w:x3)(ap:Nat)(A R:ak)(A9:Nat->ak)(aJ O M:ak):Prop where
 o:∀r,O r->r<w.heap.size/\¬A r/\¬R r/\(∀q,¬A9 q r)/\¬aJ r/\r≠ap/\¬M r
 m:∀r,M r->r<w.heap.size/\¬A r/\(∀q,¬A9 q r)/\¬aJ r/\r≠ap
def cg.side{S:ak}(p:cg w ag gT ap A R A9 aJ n s u t h cs)(f:ai S w J)(e:∀r,r<w.heap.size->S r->¬A r/\¬R r/\(∀q,¬A9 q r)/\¬aJ r/\r≠ap):cg J ag gT ap A R A9 aJ n s u t h cs:=by
 have:=f.size;exact⟨⟨p.fx.1.ac f λr a h V=>h.elim (e r a V).1 (e r a V).2.1,p.fx.2⟩,p.jr,p.box.ac f λV=>(e ap p.box.lt V).2.2.2.2 F,p.doc.ac f λr a h V=>h.elim (λ⟨q,h⟩=>(e r a V).2.2.1 q h) (e r a V).2.2.2.1,p.apart,
  λr a=>⟨λh=>(p.read r a).1 (ol (λo x V _=>f.a6 r o x V λy=>(e r (p.read r a).2.1 y).2.2.2.1 a) h),by have:=(p.read r a).2.1;omega,(p.read r a).2.2⟩,p.out⟩
def cg.Gh(p:cg w ag gT ap A R A9 aJ n s u t h cs):∀q r,A9 q r->¬aJ r:=by
 obtain⟨_,_,_,_,_,_,_,_,_,_,_,_,_,a⟩:=p.doc;exact(a F).2
end
def Gi{w0:x3}{out:x1}{g:Nat}{x:Int}(e:Ext w0 w)(hm:ay .i64 aj w g out l)(f:∀r,leads out r->w0.heap.size<=r)(G:l.length<=1000000000)(q:∀v J s,Ext w0 J->ay .i64 aj J s v (l++[x])->(∀r,leads v r->w0.heap.size<=r)->K v J):
  aF x7 (Y5 ao 1 #[(0,Δ x)]) w λy aa=>aF x7 (Z5 #[ao,ao] ao #[out,y]) aa K:=by
 refine eE ao.u aj.i rfl λv4 H I L a A=>?_;refine iU ao.u aj.i rfl (hm.ext a) A.ls Θ Θ λv5 B M C E F=>?_;have:=(e.trans a).size;exact q _ _ B ((e.trans a).then F λr p he=>by have:=f r he;omega) C λr p=>(E r p).elim (f r) λh=>Ω
def q3(x:bC):(aE x).length<=x.un.length:=by
 unfold aE;have:=Q2 (λv:Int=>!dropped x.mask v) ((Z4 x.un.length).map λv:Nat=>(v:Int));rw[r9,S0]at this;exact this
section
variable{w:x3}{ag gT:Nat}{A R:ak}{n:aH}{s:aq}{t:aD}
end
def mP(s:aq)(sc t:Λ):Bool:=(sc.zip t).all λp=>match s.vars[p.1.toNat]? with
 |some x=>decide (p.2∈aE x)
 |none=>false
section
variable{w:x3}{ag gT:Nat}{A R:ak}{n:aH}{s:aq}{t:aD}
end
def Gj{b:Bool}{szv bb:x1}{e f:Λ}(h1:Seen eL w [aQ] a)(h:Seen eL w [szv] e)(p:Seen eL w [bb] f):∀u∈[aQ,szv,bb,.bool b],u.oneCell'=true:=by
 intro u hu;simp only[V5,List.not_mem_nil,or_false]at hu;rcases hu with rfl|rfl|rfl|rfl
 .exact gQ h1
 .exact gQ h
 .exact gQ p
 .rfl
section
variable{w:x3}{ag gT:Nat}{A R:ak}{n:aH}{s:aq}{t:aD}{dJ:x1}
end
def nH(al t:Λ):Int:=(cn al t 0).getD 0
def kp(s:aq)(f:bS)(pos:Nat)(v:Int):Λ:=(b0 s f.sc pos v).map (nH f.al)
def mc(s:aq)(sc:Λ)(pos:Nat)(v:Int)(t:Λ):Bool:=decide (t.getD pos 0=v)&&mP s sc t
section
variable{k:Int}{sizes:Λ}{s:aq}{f:bS}{pos:Nat}{v:Int}
def Sf:mP s sc t=true↔ ∀(p:Nat)u w,sc[p]?=σ u->t[p]?=σ w->w∈bj s u:=by
 unfold mP;rw[List.all_eq_true];constructor
 .intro h p u w hu hw;have:=h (u,w) (x5 (List.getElem?_zip_eq_some.2 ⟨hu,hw⟩));unfold bj;cases U:s.vars[u.toNat]? with
  |none=>simp[U]at this
  |some x=>simpa[U]using this
 .rintro h ⟨u,w⟩ hm;obtain⟨p,a⟩:=W3.1 hm;obtain⟨h1,e⟩:=List.getElem?_zip_eq_some.1 a;have:=h p u w h1 e;unfold bj at this;simp only;cases U:s.vars[u.toNat]? with
  |none=>rw[U]at this;cases this
  |some x=>rw[U]at this;simpa using this
def Sg(r:bk k sizes s)(af:f∈s.funs)(B:pos<f.sc.length)(ae:∀u,f.sc[pos]?=σ u->v∈bj s u):b0 s f.sc pos v=(bn f.al).filter (mc s f.sc pos v):=by
 obtain⟨x,y,_⟩:=r.funs f af;have q:=y3 r (λu hu=>⟨(x.scope.1 u hu).1,x.vars u hu⟩) ae;rw[<-y]at q;have h1:∀t∈bn f.al,(ou (pK s pos v f.sc 0) t=true↔t∈b0 s f.sc pos v):=λt a=>by rw[q,T2];exact⟨λh=>⟨a,h⟩,λh=>h.2⟩
 rw[q];refine List.filter_congr λt a=>?_;have C:t.length=f.sc.length:=by rw[tZ a,y];simp[b2]
 rw[U6,h1 t a,y8,mc,V9,decide_eq_true_eq,Sf];constructor
 .rintro⟨_,h⟩;obtain⟨u,hu⟩:=aI (l:=f.sc) B;obtain⟨w,hw⟩:=aI (l:=t) (i:=pos) Ω;have z:=h pos u w hu hw;rw[if_pos rfl]at z;refine⟨by rw[u4,hw];exact z,λp u' J A E=>?_⟩;have:=h p u' J A E;split at this
  .rename_i e;subst e;rw[this];exact ae u' A
  .exact this
 .rintro⟨h1,F⟩;refine⟨C,λp u w hu hw=>?_⟩;split
  .rename_i e;subst e;rw[u4,hw]at h1;exact h1
  .exact F p u w hu hw
end
section
variable{w:x3}{dJ:x1}{k:Int}{sizes:Λ}{s:aq}
def Sh{j:Int}(h:iY w dJ k sizes s)(Y:bk k sizes s)(ak:dg s):an x7 J0 [dJ,Δ j,Δ pos,Δ v] w λr J=>Ext w J/\∃u,r= .tuple #[Δ u,.bool (ew s j pos v).isSome]:=by
 have:=Y.vars;refine aA func214 ?_;refine bh λg1 aa aJ G al=>?_;have Z:=h.box G al;obtain⟨szv,aK,aM,aN,aO,aQ,H,aR,_,ap,aS,aT,ac,aU⟩:=id Z;refine aV (λr ab=>Ext aa ab/\((r= .bool true/\ew s j pos v=ν)\/(r= .bool false/\∃f u,0<=j/\0<=pos/\s.funs[j.toNat]?=σ f/\f.live≠0/\f.sc[pos.toNat]?=σ u))) ?_ λaB C=>?_
 .rintro _ ab ⟨z,⟨rfl,e⟩|⟨rfl,f,u,I,ad,af,ae,hu⟩⟩
  .rw[bX,e];exact⟨G.trans z,0,F⟩
  .rw[a8];have ag:=x5 af;have K:=x5 hu;obtain⟨ah,aZ,_⟩:=Y.funs f ag;have L:=(ah.scope.1 u K).1;have:=ah.vars u K;have L:=L;obtain⟨x,U⟩:=aI (l:=s.vars) (i:=u.toNat) Ω;rw[aL aY.p 6 (H.ext z) F];refine lN (i:=j.toNat) Ω eR.u du.i (bE ac z) (by rw[x8,af];rfl) λb o cs M N=>?_;obtain⟨aq,au,v3,rfl,h1,av,aw⟩:=nF N;rw[aW du.p F,aW a1.p F,ax Ψ (M 0 _ F),gf (y:=pos) (i:=pos.toNat) Ω ao.u aj.i Ψ (c3 h1) hu,aL aY.p 3 (H.ext z) F];refine il (i:=u.toNat) F Ω db.u ao.i Ψ (bE ap z) (by rw[x8,U];rfl) λa6 ay=>?_;refine(yO (c3 ay)).mono ?_;rintro _ a7 _ ⟨rfl,az⟩;refine⟨(G.trans z).trans az,u,?_⟩;have aC:=ak f ag ae u K x U;have O:ew s j pos v=(ev s u v).map λx=>(f,u,x):=by
    unfold ew;rw[if_pos ⟨I,ad⟩,af];simp only;rw[if_pos ae,hu]
   have aD:ev s u v=if v∈aE x then σ x else ν:=by
    unfold ev;rw[if_pos L,U];simp only[aC,true_and]
   rw[O,aD];by_cases E:v∈aE x
   .rw[if_pos E,decide_eq_true E];rfl
   .rw[if_neg E,decide_eq_false E];rfl
 have Q:∀{P:Prop},(¬∃f u,0<=j/\0<=pos/\s.funs[j.toNat]?=σ f/\f.live≠0/\f.sc[pos.toNat]?=σ u)->(ew s j pos v=ν->P)->P:=λe aF=>aF (by
  cases O:ew s j pos v with
  |none=>rfl
  |some q=>
   obtain⟨f,u,x⟩:=q;obtain⟨R,S,a3,a4,a5,_⟩:=oA O;exact absurd ⟨f,u,R,S,a3,a4,a5⟩ e)
 refine Z.load λu hu=>?_;refine(RP hu).mono ?_;rintro _ ba _ ⟨rfl,A⟩;have same:∀{f V:bS},s.funs[j.toNat]?=σ f->s.funs[j.toNat]?=σ V->V=f:=λa b=>by rw[a]at b;exact(Z3 b).symm
 rw[bM,cd];refine⟨λW=>Q (λ⟨f,u,R,S,a3,a4,a5⟩=>?_) λe=>C _ _ ⟨A,.inl ⟨F,e⟩⟩,λX=>?_⟩
 .unfold fd at W;rw[a3]at W;simp[R,a4]at W
 have X:0<=j/\fd s j.toNat=true:=by simpa using X
 obtain⟨I,B⟩:=X;obtain⟨f,af,aG⟩:∃f,s.funs[j.toNat]?=σ f/\f.live≠0:=by
  unfold fd at B;cases af:s.funs[j.toNat]? with
  |none=>rw[af]at B;cases B
  |some f=>rw[af]at B;exact⟨f,F,by simpa using B⟩
 rw[aP,am];refine⟨λbb=>Q (λ⟨_,_,_,S,_⟩=>Ω) λe=>C _ _ ⟨A,.inl ⟨F,e⟩⟩,λad=>?_⟩;rw[aL aY.p 6 (H.ext A) F];refine lN (i:=j.toNat) Ω eR.u du.i (bE ac A) (by rw[x8,af];rfl) λb o cs M N=>?_;obtain⟨aq,au,v3,rfl,h1,av,aw⟩:=nF N;rw[aW du.p F,aW a1.p F,ax Ψ (M 0 _ F),aX ao.u (c3 h1),cO];by_cases ai:(f.sc.length:Int)<=pos
 .refine Q (λ⟨V,u,_,_,a3,_,a5⟩=>?_) λe=>C _ _ ⟨A,.inl ⟨by rw[decide_eq_true ai],e⟩⟩;obtain rfl:=same af a3;have:=(x4.1 a5).1;omega
 .obtain⟨u,hu⟩:=aI (l:=f.sc) (i:=pos.toNat) Ω;exact C _ _ ⟨A,.inr ⟨by rw[decide_eq_false ai],f,u,I,Ω,af,aG,hu⟩⟩
def zo{pos:Nat}{f:bS}(h:iY w dJ k sizes s)(K:bk k sizes s)(af:s.funs[j]?=σ f)(aJ:pos<f.sc.length)(ae:∀u,f.sc[pos]?=σ u->v∈bj s u):
  an x7 IC [dJ,Δ (j:Int),Δ (pos:Int),Δ v] w λr J=>Ext w J/\aK .i64 J r (kp s f pos v)/\∀q,leads r q->w.heap.size<=q:=by
 have bx:=K.vars;have S:=x5 af;obtain⟨L,ah,_⟩:=K.funs f S;have M:=(ly K S).1;have aO:f.al.length=f.sc.length:=by rw[ah];simp[b2]
 have bz:=jC M;have bA:(bn f.al).length<=4096:=by
  have N:=L.small;rw[<-ah]at N;omega
 refine aA func84 ?_;refine bh λg1 aa bC V aP=>?_;obtain⟨szv,bD,bF,bG,bH,bI,ai,bJ,_,aQ,bK,bL,aR,bM⟩:=h.box V aP;rw[aL aY.p 6 ai F];refine lN (i:=j) F eR.u du.i aR (by rw[x8,af];rfl) λb o cs E aS=>?_;obtain⟨W,X,v3,rfl,h1,N,aT⟩:=nF aS;rw[aW du.p F,bN (cs:=[W,X,v3]) a1.p a1.i F (λq u a=>by
  have:q<3:=(x4.1 a).1
  match q,this,a with
  |0,_,a=>cases a;exact E 0 _ F
  |1,_,a=>cases a;exact E 1 _ F
  |2,_,a=>cases a;exact E 2 _ F)]
 refine bu a1.i λbO ab bP aU aZ=>?_;have a2:∀u∈[W,X,v3],u.oneCell'=true:=λu hu=>by
  simp only[V5,List.not_mem_nil,or_false]at hu;rcases hu with rfl|rfl|rfl
  .exact gQ h1
  .exact gQ N
  .exact gQ aT
 refine b7 (vs:=[W,X,v3]) a1.i F rfl a2 aZ λbQ a6 bR ak=>?_;have am:=aU.put a6 Ω;have s1:=c3 h1;have a7:=c3 N;rw[aL a1.p 1 ak F];refine(ul f.al (a7.ext am) ⟨by rw[aO];exact L.scope.2,M⟩).mono ?_;rintro bT O _ ⟨ap,aq⟩;have Y:=am.trans ap;rw[jh db.u aq];refine bV.range (bn f.al).length (λi out C=>Ext O C/\(∃g,ay .i64 aj C g out ((((bn f.al).take i).filter (mc s f.sc pos v)).map (nH f.al)))/\∀r,leads out r->O.heap.size<=r) Ω ⟨Ext.refl _,⟨0,ay.nil _ _ _ _⟩,λr E=>by obtain⟨_,_,_,e,_⟩:=E;cases e⟩ ?_ ?_
 .rintro q out C a8 a ⟨z,⟨g,hm⟩,P⟩ ba;have G:(bn f.al)[q]?=σ (dk f.al (q:Int)):=rM M Ω;generalize dk f.al (q:Int)=tl at G;have bU:=w5 G;have bb:=kI M G;have bc:nH f.al tl=(q:Int):=by unfold nH;rw[bb];rfl
  have Q:=Y.trans z;have au:((bn f.al).take (q+1)).filter (mc s f.sc pos v)=((bn f.al).take q).filter (mc s f.sc pos v)++(if mc s f.sc pos v tl=true then[tl]else[]):=by
   rw[u9,G,j4,List.filter_append];congr 1;cases aC:mc s f.sc pos v tl<;>simp[aC]
  obtain⟨Z,av⟩:=aI (l:=tl) (i:=pos) Ω;refine bB Ω ?_;refine aV (λaw ax=>Ext O ax/\(∃g,ay .i64 aj ax g aw ((((bn f.al).take (q+1)).filter (mc s f.sc pos v)).map (nH f.al)))/\∀r,leads aw r->O.heap.size<=r) (λ_ _ ac=>by rw[aM];exact ba _ _ ac) λaB H=>?_;refine il F rfl db.u ao.i Ψ (bE aq z) G λaN R=>?_;have R:=c3 R;rw[be ao.u aj.i Ψ R av,bf,aL a1.p 0 (ak.ext (ap.trans z)) F,aX ao.u (s1.ext Q)];refine bV.range f.sc.length (λp ok ad=>Ext C ad/\ok= .bool (decide (Z=v)&&mP s (f.sc.take p) (tl.take p))) s1.le ⟨Ext.refl _,by simp[mP]⟩ ?_ ?_
  .rintro p _ ad bd bg ⟨A,rfl⟩ bi;obtain⟨u,ag⟩:=aI (l:=f.sc) bg;obtain⟨y,az⟩:=aI (l:=tl) (i:=p) Ω;have aD:=x5 ag;have aF:=(L.scope.1 u aD).1;have aG:=L.vars u aD;have aG:=aG;have aF:=aF;obtain⟨x,U⟩:=aI (l:=s.vars) (i:=u.toNat) Ω;have aH:mP s (f.sc.take (p+1)) (tl.take (p+1))=(mP s (f.sc.take p) (tl.take p)&&decide (y∈aE x)):=by
    unfold mP;rw[u9,u9,ag,az,j4,j4,List.zip_append Θ,List.all_append];simp[U]
   refine bB Ω ?_;refine aV (λok bl=>Ext C bl/\ok= .bool (decide (Z=v)&&mP s (f.sc.take (p+1)) (tl.take (p+1)))) (λ_ _ ac=>by rw[aM];exact bi _ _ ac) λaB H=>?_;rw[be ao.u aj.i Ψ (s1.ext (Q.trans A)) ag];intro bW bm _ _;have I:=A.trans bm;rw[cd];refine⟨λB=>?_,λB=>H _ _ ⟨I,by rw[aH,<-Bool.and_assoc,B];rfl⟩⟩;rw[aL aY.p 3 (ai.ext (Q.trans I)) F];refine il (i:=u.toNat) F Ω db.u ao.i Ψ (bE aQ (Q.trans I)) (by rw[x8,U];rfl) λbX bo=>?_;rw[be ao.u aj.i Ψ (R.ext I) az];refine(yO (c3 bo)).mono ?_;rintro _ bY _ ⟨rfl,bp⟩;exact H _ _ ⟨I.trans bp,by rw[aH,<-Bool.and_assoc,B,T9]⟩
  .rintro _ ad bd ⟨A,rfl⟩;rw[o9,Z2 Ω];refine ca Ω ?_;have bq:(decide (Z=v)&&mP s f.sc tl)=mc s f.sc pos v tl:=by unfold mc;rw[u4,av];rfl
   rw[bq,cd];refine⟨λB=>?_,λB=>H _ _ ⟨z.trans A,⟨g,by rw[au,if_neg (by rw[B];decide),Y8];exact hm.ext A⟩,P⟩⟩;refine Gi (z.trans A) (hm.ext A) P ?_ λbZ J br bs bt bw=>H _ _ ⟨bs,⟨br,?_⟩,bw⟩
   .rw[r9];have h1:=Q2 (mc s f.sc pos v) ((bn f.al).take q);rw[j6]at h1;omega
   .rw[au,if_pos B,Z9,List.map_singleton,bc];exact bt
 .rintro out C a8 ⟨z,⟨g,hm⟩,P⟩;rw[o9,<-Sg K S aJ ae]at hm;refine ca Ω ?_;exact⟨(V.trans Y).trans z,hm.ls,λq a=>by have:=P q a;have:=(V.trans Y).size;omega⟩
def Si{j:Int}(h:iY w dJ k sizes s)(e:bk k sizes s)(P:dg s):
  an x7 I7 [dJ,Δ j,Δ pos,Δ v] w λr J=>Ext w J/\r=(match ew s j pos v with|some (f,_,_)=>.tuple #[Δ (nG k s f pos.toNat v),.bool true]|none=>.tuple #[Δ 0,.bool false]):=by
 refine aA func134 ?_;refine bh λg1 aa aB y Q=>?_;have G:=h.box y Q;refine G.load λu hu=>?_;refine(Sh hu e P).mono ?_;rintro _ ab _ ⟨z,fb,rfl⟩;rw[bq,br,bM];cases R:ew s j pos v with
 |none=>
  rw[R7,V8,bX];exact⟨y.trans z,F⟩
 |some q=>
 obtain⟨f,u',x⟩:=q;rw[S1,X2,a8];obtain⟨S,U,af,aC,A,V⟩:=oA R;obtain⟨aD,W,aE,X⟩:=mb V;obtain⟨j,rfl⟩:=W6 S;obtain⟨pos,rfl⟩:=W6 U;rw[u7]at af A;have H:=x5 af;have Y:=(x4.1 A).1;have ae:∀u,f.sc[pos]?=σ u->v∈bj s u:=λu hu=>by
  rw[A]at hu;cases hu;unfold bj;rw[W];exact X
 have I:=G.ext z;obtain⟨szv,aF,aG,aH,aJ,aK,K,aO,_,aP,aQ,aR,Z,aS⟩:=id I;rw[aL aY.p 0 K F];refine I.load λaT ac=>?_;refine(zo ac e af Y ae).mono ?_;rintro aN ad _ ⟨L,B,_⟩;rw[aX ao.u B];have M:(kp s f pos v).length=(b0 s f.sc pos v).length:=by unfold kp;rw[r9]
 rw[M];refine bV.range (b0 s f.sc pos v).length (λi ag C=>Ext ad C/\ag=Δ ((((b0 s f.sc pos v).take i).map (bo f.al f.cs)).foldl min k)) (by rw[<-M];exact B.le) ⟨Ext.refl _,F⟩ ?_ ?_
 .rintro i _ C ah hi ⟨a,rfl⟩ ai;obtain⟨tl,E⟩:=aI (l:=b0 s f.sc pos v) hi;obtain⟨m,hm⟩:=pQ e H ae (x5 E);have ak:(kp s f pos v)[i]?=σ (m:Int):=by
   unfold kp;rw[x8,E];unfold nH;rw[Y1,hm];rfl
  obtain⟨am,aU⟩:=ly e H;have:=(x4.1 (lS am hm)).1;obtain⟨c,N⟩:=aI (l:=f.cs) (i:=m) Ω;have ap:bo f.al f.cs tl=c:=by
   unfold bo;rw[hm];simp[u4,N]
  have O:=L.trans a;refine bB Ω ?_;rw[be ao.u aj.i Ψ (B.ext a) ak,aL aY.p 6 (K.ext O) F];refine lN (i:=j) F eR.u du.i (bE Z O) (by rw[x8,af];rfl) λb o cs aq au=>?_;obtain⟨aZ,a2,v3,rfl,h1,a6,aw⟩:=nF au;rw[aW du.p F,aW a1.p F,ax Ψ (aq 2 _ F),be az.u av.i Ψ (c3 aw) N];refine E4.mono ?_;rintro _ a7 _ ⟨rfl,ay⟩;rw[aM];refine ai _ _ ⟨a.trans ay,?_⟩;rw[u9,E,j4,Z9,R3,List.map_singleton,ap];rfl
 .rintro _ C ah ⟨a,rfl⟩;rw[o9];refine ca Ω ?_;exact⟨(y.trans z).trans (L.trans a),F⟩
def vL{a b k:Int}(h1:0<=a/\a<=4294967296)(f:0<=b/\b<=4294967296):an x7 I9 [Δ a,Δ b,Δ k] w λr J=>r=Δ (dQ k a b)/\Ext w J:=by
 refine aA func136 ?_;refine(show an x7 J3 [Δ a,Δ b,Δ k] w λr J=>(∃q,r= .tuple #[Δ (dQ k a b),q])/\Ext w J from ?_).mono ?_
 .refine aA func217 ?_;unfold dQ;rw[bf,am];refine⟨λh=>⟨⟨_,by rw[if_pos h]⟩,Ext.refl _⟩,λh=>?_⟩;rw[dI,wrap_i64 Ω Ω,nf,if_neg h];exact⟨⟨_,F⟩,Ext.refl _⟩
 .rintro _ aa _ ⟨⟨q,rfl⟩,e⟩;rw[bq,br];exact⟨F,e⟩
end
def dw(w:x3)(ag gT ap:Nat)(A R:ak)(A9:Nat->ak)(aJ:ak)(n:aH)(s:aq)(t:aD)(h:List aD)(u:aq)(J:x3):Prop:=ai (λr=>(∃q,A9 q r)\/r=ap) w J/\∃cr cs,cg J ag gT ap A R cr aJ n s u t h cs/\∀q r,cr q r->(∃a,A9 a r)\/w.heap.size<=r
section
variable{w J aa ab:x3}{ag gT ap:Nat}{A R:ak}{A9:Nat->ak}{aJ:ak}{n:aH}{s u eX fb:aq}{t:aD}{h:List aD}{cs:List x1}
def dw.same(p:cg w ag gT ap A R A9 aJ n s u t h cs)(U:Ext w J):dw w ag gT ap A R A9 aJ n s t h u J:=⟨U.ac _,A9,cs,p.ext U,λq r h=>.inl ⟨q,h⟩⟩
def dw.comp{cr:Nat->ak}(e:ai (λr=>(∃q,A9 q r)\/r=ap) w aa)(f:∀q r,cr q r->(∃a,A9 a r)\/w.heap.size<=r)(d:dw aa ag gT ap A R cr aJ n s t h fb ab):dw w ag gT ap A R A9 aJ n s t h fb ab:=by
 obtain⟨x,y,b4,B,C⟩:=d;have:=e.size;refine⟨?_,y,b4,B,λq r p=>(C q r p).elim (λ⟨a,h⟩=>f a r h) λh=>.inr Ω⟩;refine((e.mono λr _ h=>.inl h).trans (x.mono λr _ h=>?_):ai (λr=>((∃q,A9 q r)\/r=ap)\/w.heap.size<=r) w ab).mono λr p h=>h.elim id λh=>Ω
 rcases h with⟨q,h⟩|h
 .exact (f q r h).imp .inl id
 .exact .inl (.inr h)
def kR(w:x3)(ag gT ap:Nat)(A R:ak)(A9:Nat->ak)(aJ:ak)(n:aH)(s:aq)(t:aD)(h:List aD)(u:aq)(J:x3):Prop:=ai (A9 2) w J/\∃cr cs,cg J ag gT ap A R cr aJ n s u t h cs/\(∀q r,cr q r->(∃a,A9 a r)\/w.heap.size<=r)/\∀r,cr 2 r->A9 2 r\/w.heap.size<=r
def kR.Gk(d:kR w ag gT ap A R A9 aJ n s t h u J):dw w ag gT ap A R A9 aJ n s t h u J:=by
 obtain⟨h1,cr,cs,a,e,_⟩:=d;exact⟨h1.mono λr _ h=>.inl ⟨2,h⟩,cr,cs,a,e⟩
def kR.same(p:cg w ag gT ap A R A9 aJ n s u t h cs)(U:Ext w J):kR w ag gT ap A R A9 aJ n s t h u J:=⟨U.ac _,A9,cs,p.ext U,λq r h=>.inl ⟨q,h⟩,λr h=>.inl h⟩
def kR.comp{cr:Nat->ak}(f:ai (A9 2) w aa)(x:∀q r,cr q r->(∃e,A9 e r)\/w.heap.size<=r)(p:∀r,cr 2 r->A9 2 r\/w.heap.size<=r)(d:kR aa ag gT ap A R cr aJ n s t h fb ab):kR w ag gT ap A R A9 aJ n s t h fb ab:=by
 obtain⟨y,B,b4,C,E,F⟩:=d;have:=f.size;refine⟨?_,B,b4,C,λq r a=>(E q r a).elim (λ⟨e,h⟩=>x e r h) λh=>.inr Ω,λr a=>(F r a).elim (p r) λh=>.inr Ω⟩;exact((f.mono λr _ h=>.inl h).trans (y.mono λr _ h=>p r h):ai (λr=>A9 2 r\/w.heap.size<=r) w ab).mono λr a h=>h.elim id λh=>Ω
def cg.Sj{T:ak}{v:x1}{u':aq}(p:cg w ag gT ap A R A9 aJ n s u t h cs)(z:∀q r,A9 q r->r<w.heap.size)(ae:cs[5]?=σ v)(e:ai T w J)(f:∀r,r<w.heap.size->T r->A9 2 r)(C:bG (λr=>A9 2 r\/w.heap.size<=r) aJ J [v] (u'.vars.map (·.un)))(E:u'.zero=u.zero)(F:u'.vars.map aE=u.vars.map aE)(G:(u'.vars.map λx=>decide (x.gone≠0))=u.vars.map λx=>decide (x.gone≠0))(H:u'.funs=u.funs)(I:u'.iq=u.iq):
  ∃cr,cg J ag gT ap A R cr aJ n s u' t h cs/\(∀q r,cr q r->(∃K,A9 K r)\/w.heap.size<=r)/\∀r,cr 2 r->A9 2 r\/w.heap.size<=r:=by
 have L:=ce.l5 p.doc (ze e) (λr a=>.inl (f r a.2 a.1)) C (λj r M a=>?_) (λr a=>?_)
 .have y:=zf (w:=w) (B:=λr=>A9 2 r\/w.heap.size<=r) λr h=>h;refine⟨_,p.row e f ?_ y,y,λr a=>a⟩;have:=ce.rR ae L;unfold jR;rw[E,F,G,H,I];exact this
 .rcases a with a|a
  .exact p.gP.1 2 j r (Ne.symm M) a
  .exact λh=>by have:=z j r h;omega
 .rcases a with a|a
  .exact p.gP.2 2 r a
  .exact λh=>by have:=(p.read r h).2.1;omega
def zp(p:cg w ag gT ap A R A9 aJ n s u t h cs){i:Nat}{x:bC}(U:u.vars[i]?=σ x):∃g cap y,cs[5]?=σ (.slice (σ ⟨g,0,ν⟩) u.vars.length cap)/\w.cell? ⟨g,i,ν⟩=σ y/\aK .i64 w y x.un/\
  ∀{J:x3}{v:Nat}{c:Int}{K:Unit->x3->Prop},Ext w J->v<x.un.length->(∀H,kR w ag gT ap A R A9 aJ n s t h (eQ u i x (x.un.set v c)) H->K () H)->
   ad x7 (c9 az y (Δ (v:Int))) J λa=>aF x7 (l9 av a (Δ c)) J K:=by
 have I:=p.olds;obtain⟨szv,ak,al,am,an,ao,L,_,_,_,M,_,_,C⟩:=id I.doc;obtain⟨g,cap,c,aq,e,S,N,aw,_⟩:=vH M (by rw[x8,U];rfl) λr _ h=>(C rfl).2 2 r h;obtain⟨y,rfl⟩:=V7.1 (au.len N);have O:w.cell? ⟨g,i,ν⟩=σ y:=by
  have:=S 0 y rfl;simpa[show au.n (Λ)=1 from rfl]using this
 rw[r9]at e;refine⟨g,cap,y,by rw[L,<-e];rfl,O,c3 (kB N),λ{J v c K}B ae V=>?_⟩;have W:=I.ext B;have z:=B.size;obtain⟨ax,ay,aA,aB,P,X,Q,E,Y⟩:=vH (bE M B) (by rw[x8,U];rfl) λr _ h=>(C rfl).2 2 r h;obtain⟨F,rfl⟩:=V7.1 (au.len Q);rw[r9,e]at P;cases P;have Z:F=y:=by
  have h1:=X 0 F rfl;have h1:J.cell? ⟨g,i,ν⟩=σ F:=by simpa[show au.n (Λ)=1 from rfl]using h1
  rw[j1 B O]at h1;exact(Z3 h1).symm
 subst Z;refine FY rfl rfl az.u av.i Q ae rfl rfl (λr _ f=>⟨λh=>h,(C rfl).2 2 r (E r f)⟩) λaC G aa=>?_;have ab:=Y G (λr _ h=>h) aa λr f=>f.elim .inl False.elim;obtain⟨cr,af,ah,ai⟩:=W.Sj (u':=eQ u i x (x.un.set v c)) (λq r h=>by have:=h.2;omega) (by rw[L];rfl) G (λr _ h=>E r h) (by show bG _ _ _ _ ((u.vars.set i {x with un:=x.un.set v c}).map (·.un));rw[T0];exact ab) rfl (q0 U (by unfold aE;simp)) (q0 U rfl) rfl rfl;refine V _ ⟨(B.ac _).trans (G.mono λr _ h=>(E r h).1),cr,cs,af,λq r f=>?_,λr f=>?_⟩
 .rcases ah q r f with⟨aj,h⟩|h
  .exact .inl ⟨aj,h.1⟩
  .exact .inr Ω
 .exact (ai r f).imp (λh=>h.1) λh=>Ω
def Sk(p:cg w ag gT ap A R A9 aJ n s u t h cs){f:bS}(af:u.funs[j]?=σ f):∃g cap C L y,cs[6]?=σ (.slice (σ ⟨g,0,ν⟩) u.funs.length cap)/\w.rangeAt g (j*4) [C,L,y,.bool (decide (f.live≠0))]/\aK .i64 w C f.sc/\aK .i64 w y f.cs/\
  ∀{J:x3}{m:Nat}{c:Int}{K:Unit->x3->Prop},Ext w J->m<f.cs.length->(∀N,dw w ag gT ap A R A9 aJ n s t h (dZ u j f (f.cs.set m c)) N->K () N)->
   ad x7 (c9 az y (Δ (m:Int))) J λa=>aF x7 (l9 av a (Δ c)) J K:=by
 have O:=p.olds;obtain⟨szv,aw,ax,ay,aA,aB,P,_,_,_,_,Q,_,E⟩:=id O.doc;obtain⟨g,cap,c,aC,e,F,V,aD,_⟩:=vH Q (by rw[x8,af];rfl) λr _ h=>(E rfl).2 3 r h;have W:=nF V;obtain⟨C,L,y,rfl,X,aE,Y⟩:=W;rw[r9]at e;have F:=F;refine⟨g,cap,C,L,y,by rw[P,<-e];rfl,F,c3 X,c3 Y,λ{J m c K}x hm Z=>?_⟩;have aa:=O.ext x;have:=x.size;obtain⟨aG,aH,aI,aL,S,M,ab,G,ae⟩:=vH (bE Q x) (by rw[x8,af];rfl) λr _ h=>(E rfl).2 3 r h;rw[r9,e]at S;cases S;obtain⟨aM,aN,U,aO,rfl,ah,H,ai⟩:=RU ab λr h=>(E rfl).2 3 r (G r h);have M:=M;have aj:U=y:=by
  have h1:=M 2 U rfl;rw[(o1 x F) 2 y rfl]at h1;exact(Z3 h1).symm
 subst aj;refine FY rfl rfl az.u av.i ah hm rfl rfl (λr _ B=>⟨λh=>h,(E rfl).2 3 r (G r (H r B))⟩) λaP I ak=>?_;have al:=ai I (au.mono ak (λr _ h=>h.elim id False.elim) λ_ _ h=>h);have am:=ae I (λr _ h=>H r h) al λr B=>.inl B;obtain⟨cr,an,ao⟩:=aa.RS (u':=dZ u j f (f.cs.set m c)) (λq r h=>by have:=h.2;omega) (by rw[P];rfl) I (λr _ h=>G r (H r h)) (by show bG _ _ _ _ ((u.funs.set j {f with cs:=f.cs.set m c}).map ko);rw[T0];exact am) rfl rfl rfl;refine Z _ ⟨(x.ac _).trans (I.mono λr _ h=>.inl ⟨3,(G r (H r h)).1⟩),cr,cs,an,λq r B=>?_⟩;rcases ao q r B with⟨aq,h⟩|h
 .exact .inl ⟨aq,h.1⟩
 .exact .inr Ω
def Sl(p:cg w ag gT ap A R A9 aJ n s u t h cs){K:Unit->x3->Prop}(f:∀e,dw w ag gT ap A R A9 aJ n s t h {u with zero:=c} e->K () e):aF x7 (l9 av (.pointer (σ ⟨ap,0+2,ν⟩)) (Δ c)) w K:=by
 refine bp (o:=0+2) av.i F rfl p.box (by rw[p.doc.len.1];omega) λab a y x=>?_;refine f _ ⟨a.mono λr _ h=>.inr h,A9,_,p.F5 a (λr _ h=>.inr h) x ?_ λq r h=>.inl ⟨q,h⟩,λq r h=>.inl ⟨q,h⟩⟩;exact(ce.ac p.doc a λr _ h he=>h.elim (λ⟨q,h⟩=>(p.apart q r h).2.2 he) λh=>(p.read r h).2.2 he).RH
def Sm(p:cg w ag gT ap A R A9 aJ n s u t h cs){i:Nat}{x:bC}(U:u.vars[i]?=σ x):∃g cap y,cs[3]?=σ (.slice (σ ⟨g,0,ν⟩) u.vars.length cap)/\w.cell? ⟨g,i,ν⟩=σ y/\aK .i64 w y (aE x)/\(∀r,leads y r->A9 0 r)/\
  ∀{J:x3}{m:Int}{z:x1}{gz:Nat}{K:Unit->x3->Prop},Ext w J->ay .i64 aj J gz z (aE {x with mask:=m})->(∀r,leads z r->w.heap.size<=r)->(∀I,dw w ag gT ap A R A9 aJ n s t h {u with vars:=u.vars.set i {x with mask:=m}} I->K () I)->
   ad x7 (c9 db (.slice (σ ⟨g,0,ν⟩) u.vars.length cap) (Δ (i:Int))) J λa=>aF x7 (l9 ao a z) J K:=by
 have L:=p.olds;have Y:=(x4.1 U).1;obtain⟨szv,Z,aD,aG,aH,aI,M,_,aa,_,_,_,_,ab⟩:=id L.doc;obtain⟨g,cap,full,ae,c,aL,e,C,af,E,N,F,ak,aM,al⟩:=F6 aa (by rw[x8,U];rfl) λr _ h=>(ab rfl).2 0 r h;obtain⟨y,rfl⟩:=V7.1 (au.len F);rw[r9]at e;have am:full[i]?=σ y:=by have:=N 0 y rfl;simpa[show au.n (Λ)=1 from rfl]using this
 refine⟨g,cap,y,by rw[M,<-e];rfl,by have:=C.cell am;exact this,c3 (kB F),λr f=>?_,λ{J m O gz K}G P Q an=>?_⟩
 .obtain⟨aN,aO,aq,av⟩:=BJ F;rcases av with rfl|aw
  .obtain⟨_,_,_,e,_⟩:=f;cases e
  .obtain⟨e,_⟩:=bR aq f;rw[e];exact(ak _ aw).1
 have z:=G.size;have E:i*1+1<=full.length:=E;rw[fe db.u ao.i Y λ_=>rfl];obtain⟨_,_,_,S⟩:=c6 P.ls;refine bp (o:=0+i*1) ao.i (by rw[S];rfl) (by rw[S];rfl) (C.ext G) Ω λV W aP B=>?_;have B:ah V g ae (over full (i*1) [O]):=by
  have e:=F7 (o:=i*1) (q:=0) (x:=O) N E Ξ;rw[W0]at B;rw[Nat.add_zero]at e;rw[e]at B;exact B
 have aQ:g<w.heap.size:=C.lt;have H:ai (λr=>r=g) w V:=(G.ac _).trans W;have ax:=bw P W λr f he=>by have he:r=g:=he;have:=Q r f;omega
 have az:=al H (λr _ h=>.inr h) B (oy ax) λr f=>.inr (Q r f);have X:∀r,r<w.heap.size->r=g->A9 0 r/\r<w.heap.size:=λr f h=>by rw[h];exact af
 obtain⟨cr,aA,aB⟩:=L.pP (u':={u with vars:=u.vars.set i {x with mask:=m}}) (λq r h=>h.2) (v:=Z) (by rw[M];rfl) H X (by show bG _ _ _ _ ((u.vars.set i {x with mask:=m}).map aE);rw[T0];exact az) rfl (q0 U rfl) (q0 U rfl) rfl rfl;refine an _ ⟨H.mono λr f h=>.inl ⟨0,(X r f h).1⟩,cr,cs,aA,λq r f=>?_⟩;rcases aB q r f with⟨aC,h⟩|h
 .exact .inl ⟨aC,h.1⟩
 .exact .inr h
end
def fZ(s:aq)(sc:Λ)(pos:Int)(v:Int):Nat->Nat->Λ->List (Λ)
 |0,_,tl=>[tl]
 |m+1,p,tl=>if(p:Int)=pos then fZ s sc pos v m (p+1) (tl.set p v)else(bj s (sc.getD p 0)).flatMap λx=>fZ s sc pos v m (p+1) (tl.set p x)
def vM{α:Type}{l:List α}{p:Nat}{x:α}(h:p<l.length):(l.set p x).take (p+1)=l.take p++[x]:=by
 rw[u9,b8 h,List.take_set_of_le (o4 _)];rfl
theorem sW{s:aq}{sc:Λ}{pos:Nat}{v:Int}:∀(m p:Nat)(tl:Λ),sc.length=p+m->tl.length=sc.length->fZ s sc pos v m p tl=(gG (iy s pos v (sc.drop p) p)).map (tl.take p++ ·)
 |0,p,tl,h1,a=>by
  rw[List.drop_eq_nil_of_le Ω,Z2 Ω];unfold fZ iy gG;rw[List.map_singleton,Y8]
 |m+1,p,tl,h1,a=>by
  have e:p<sc.length:=Ω
  obtain⟨u,hu⟩:=aI (l:=sc) e;have h:sc.drop p=u::sc.drop (p+1):=by rw[X5 e,(x4.1 hu).2]
  have q:sc.getD p 0=u:=by rw[u4,hu];rfl
  rw[h];unfold fZ iy;rw[gG];by_cases f:p=pos
  .rw[if_pos Ω,if_pos f,List.flatMap_singleton,sW m (p+1) (tl.set p v) Ω (by rw[Z0];exact a),S6,vM Ω];refine List.map_congr_left λr _=>?_;simp
  .rw[if_neg Ω,if_neg f,q,List.map_flatMap];congr 1;funext x;rw[sW m (p+1) (tl.set p x) Ω (by rw[Z0];exact a),S6,vM Ω];refine List.map_congr_left λr _=>?_;simp
def Sn{s:aq}{pos:Nat}{m p:Nat}(h1:sc.length=p+m)(e:tl.length=sc.length)(f:a.length=sc.length)(h:a.take p=tl.take p):fZ s sc pos v m p a=fZ s sc pos v m p tl:=by
 rw[sW m p tl h1 e,sW m p a h1 f,h]
def Sp{s:aq}{pos:Nat}(h:tl.length=sc.length):fZ s sc pos v sc.length 0 tl=b0 s sc pos v:=by
 rw[sW sc.length 0 tl Ω h];unfold b0;simp
def oE(w:x3)(ag gs bI bs ba:Nat)(aQ:x1)(pos v:Int):Prop:=ah w gs dm [Γ ag]/\ah w bI ao [aQ]/\ah w bs aj [Δ pos]/\ah w ba aj [Δ v]
def oE.ac{S:ak}{gs bI bs ba:Nat}(h:oE w ag gs bI bs ba aQ pos v)(a:ai S w J)(e:¬S gs/\¬S bI/\¬S bs/\¬S ba):oE J ag gs bI bs ba aQ pos v:=
 ⟨h.1.ac a e.1,h.2.1.ac a e.2.1,h.2.2.1.ac a e.2.2.1,h.2.2.2.ac a e.2.2.2⟩
def oE.ext{gs bI bs ba:Nat}(h:oE w ag gs bI bs ba aQ pos v)(U:Ext w J):oE J ag gs bI bs ba aQ pos v:=h.ac (U.ac λ_=>False) ⟨id,id,id,id⟩
def gu(ag gT:Nat)(R:ak)(n:aH)(s:aq)(gs bI bs ba:Nat)(aQ:x1)(sc:Λ)(pos v:Int)(B0:Nat)(D:Nat->Prop)(w:x3):Prop:=
 oE w ag gs bI bs ba aQ pos v/\(gs<B0/\bI<B0/\bs<B0/\ba<B0)/\aK .i64 w aQ sc/\(∀r,leads aQ r->r<B0)/\(Laid w/\B0<=w.heap.size)/\∃A s' bt,bz w ag gT A R n s' bt/\(∀i,bj s' i=bj s i)/\∀r,A r\/R r->r<B0\/D r
section
variable{ag gT gs bI bs ba B0:Nat}{R:ak}{n:aH}{s:aq}{aQ:x1}{sc:Λ}{pos v:Int}
def gu.ext(h:gu ag gT R n s gs bI bs ba aQ sc pos v B0 D w)(U:Ext w J):gu ag gT R n s gs bI bs ba aQ sc pos v B0 D J:=by
 obtain⟨h1,e,f,p,a,A,s',bt,q,r,x⟩:=h;exact⟨h1.ext U,e,f.ext U,p,⟨a.1.ext U,X3 a.2 U.size⟩,A,s',bt,q.ext U,r,x⟩
def lA(w:x3)(l gy gt gtb ga:Nat)(iA:Array x1)(q:Nat)(tl:Λ):Prop:=ah w gy Bo [.func (.yield l) #[] #[]]/\ah w gtb ao [.slice (σ ⟨gt,0,ν⟩) q q]/\ah w ga qb [.func (.func oY) #[] iA]/\
 ay .i64 aj w gt (.slice (σ ⟨gt,0,ν⟩) q q) tl
def lA.ac{S:ak}{l q:Nat}{iA:Array x1}(h:lA w l gy gt gtb ga iA q tl)(f:ai S w J)(p:¬S gy/\¬S gtb/\¬S ga/\¬S gt):lA J l gy gt gtb ga iA q tl:=
 ⟨h.1.ac f p.1,h.2.1.ac f p.2.1,h.2.2.1.ac f p.2.2.1,bw h.2.2.2 f λr s=>by
  obtain⟨a,_,_,e,x⟩:=s;cases e;rw[<-x];exact p.2.2.2⟩
def lA.ext{l q:Nat}{iA:Array x1}(h:lA w l gy gt gtb ga iA q tl)(U:Ext w J):lA J l gy gt gtb ga iA q tl:=h.ac (U.ac λ_=>False) ⟨id,id,id,id⟩
def Sq(V:aK .i64 w aQ sc):an x7 Bi [Γ ag,aQ,Δ pos,Δ v] w λr J=>Ext w J/\∃gs bI bs ba,r= .func (.func nb) #[] #[Γ bI,Γ bs,Γ ba,Γ gs]/\oE J ag gs bI bs ba aQ pos v/\w.heap.size<=gs/\w.heap.size<=bI/\w.heap.size<=bs/\w.heap.size<=ba:=by
 obtain⟨_,_,_,y⟩:=c6 V;refine aA func218 ?_;refine bh λgs aa A s h=>?_;refine bh λbI ab B p a=>?_;refine bh λbs C E e q=>?_;refine bh λba x G f z=>?_;have h:ah x gs dm [Γ ag]:=((ah.ext h p).ext e).ext f;have a:ah x bI ao [aQ]:=by rw[y]at a ⊢;exact(ah.ext a e).ext f
 have q:=ah.ext q f;rw[jB];have:=s.size;have:=p.size;have:=e.size;exact⟨((s.trans p).trans e).trans f,gs,bI,bs,ba,F,⟨h,a,q,z⟩,Ω,Ω,Ω,Ω⟩
def gu.own{S:ak}(h:gu ag gT R n s gs bI bs ba aQ sc pos v B0 D w)(p:ai S w J)(x:∀r,S r->B0<=r/\¬D r):gu ag gT R n s gs bI bs ba aQ sc pos v B0 D J:=by
 obtain⟨h1,f,E,y,z,A,s',bt,B,F,C⟩:=h;have no:∀{r:Nat},r<B0->¬S r:=λh1 f=>by have:=(x _ f).1;omega
 refine⟨h1.ac p ⟨no f.1,no f.2.1,no f.2.2.1,no f.2.2.2⟩,f,ji E p λr q a n c e G=>?_,y,⟨?_,X3 z.2 p.size⟩,A,s',bt,⟨B.1.ac p λr _ q V=>?_,B.2⟩,F,C⟩
 .exact no (y r ⟨a,n,c,e,G⟩) q
 .exact kw p (no Ω) z.1
 .exact (C r q).elim (λh=>no h V) (x r V).2
def Sr(P:(Nat->Prop)->x3->Prop)(aB:(Nat->Prop)->Nat->x3->Prop)(L:List (Λ))(l B:Nat):Prop:=∀(D:Nat->Prop)(k:Nat)tl aN J,(∀r,D r->B<=r/\r<J.heap.size)->B<=J.heap.size->P D J->L[k]?=σ tl->aK .i64 J aN tl->aB D k J->
 ja x7 l [aN] J λu a=>u= .bool true/\(∃D',(∀r,D' r->D r\/J.heap.size<=r/\r<a.heap.size)/\(∀r,D r->D' r)/\P D' a/\aB D' (k+1) a)/\cL J a/\J.heap.size<=a.heap.size/\ai (λr=>r<B\/D r) J a
def sX(D:Nat->Prop)(B gy gtb ga gt:Nat):Prop:=(B<=gy/\¬D gy)/\(B<=gtb/\¬D gtb)/\(B<=ga/\¬D ga)/\B<=gt/\¬D gt
def sX.go{D':Nat->Prop}{m cm:Nat}(h:sX D B gy gtb ga gt)(a:∀r,D' r->D r\/m<=r/\r<cm)(hm:gy<m/\gtb<m/\ga<m/\gt<m):sX D' B gy gtb ga gt:=
 have f:∀{g:Nat},g<m->¬D g->¬D' g:=λh1 e p=>(a _ p).elim e λh=>Ω
 ⟨⟨h.1.1,f hm.1 h.1.2⟩,⟨h.2.1.1,f hm.2.1 h.2.1.2⟩,⟨h.2.2.1.1,f hm.2.2.1 h.2.2.1.2⟩,h.2.2.2.1,f hm.2.2.2 h.2.2.2.2⟩
def lA.lt{l q:Nat}{iA:Array x1}(h:lA w l gy gt gtb ga iA q tl):gy<w.heap.size/\gtb<w.heap.size/\ga<w.heap.size/\gt<w.heap.size:=
 ⟨h.1.lt,h.2.1.lt,h.2.2.1.lt,(bR h.2.2.2 ⟨_,_,_,F,F⟩).2⟩
def AtR(l gy gt gtb ga:Nat)(iA:Array x1)(P:(Nat->Prop)->x3->Prop)(aB:(Nat->Prop)->Nat->x3->Prop)(S:ak)(D:Nat->Prop)(w:x3)(sl k p:Nat)(tl:Λ)(J:x3):Prop:=
 w.heap.size<=J.heap.size/\∃D' a,a.length=sl/\a.take p=tl.take p/\lA J l gy gt gtb ga iA sl a/\((∀r,D' r->D r\/w.heap.size<=r/\r<J.heap.size)/\∀r,D r->D' r)/\P D' J/\aB D' k J/\ai S w J
section
variable{l gy gt gtb ga B:Nat}{iA:Array x1}{P:(Nat->Prop)->x3->Prop}{aB:(Nat->Prop)->Nat->x3->Prop}{S T:ak}{D:Nat->Prop}{w aa ab:x3}{sl k p:Nat}{tl:Λ}
def AtR.own(x:∀D T aa ab,ai T aa ab->(∀r,T r->B<=r/\¬D r)->P D aa->P D ab)(y:∀D k aa ab,ai (λr=>B<=r/\¬D r) aa ab->fG B aa ab->aB D k aa->aB D k ab)(h:AtR l gy gt gtb ga iA P aB S D w sl k p tl aa)(e:ai T aa ab)(z:fG B aa ab)(a:∀r,T r->r<w.heap.size/\¬D r/\B<=r/\S r/\r≠gy/\r≠gtb/\r≠ga/\r≠gt):AtR l gy gt gtb ga iA P aB S D w sl k p tl ab:=by
 obtain⟨A,D',C,h1,E,F,⟨q,G⟩,H,I,J⟩:=h;have s:∀r,T r->B<=r/\¬D' r:=λr f=>⟨(a r f).2.2.1,λK=>(q r K).elim (a r f).2.1 λh=>by have:=(a r f).1;omega⟩;exact⟨X3 A e.size,D',C,h1,E,F.ac e ⟨λh=>(a _ h).2.2.2.2.1 rfl,λh=>(a _ h).2.2.2.2.2.1 rfl,λh=>(a _ h).2.2.2.2.2.2.1 rfl,λh=>(a _ h).2.2.2.2.2.2.2 rfl⟩,
  ⟨λr f=>(q r f).imp id λh=>⟨h.1,Q7 h.2 e.size⟩,G⟩,x D' T aa ab e s H,y D' k aa ab (e.mono λr _ h=>s r h) z I,J.trans (e.mono λr _ h=>(a r h).2.2.2.1)⟩
def AtR.base{w0:x3}(h:AtR l gy gt gtb ga iA P aB S D w sl k p tl aa)(U:Ext w0 w)(a:∀r,r<w0.heap.size->S r->T r):AtR l gy gt gtb ga iA P aB T D w0 sl k p tl aa:=by
 obtain⟨e,D',f,h1,q,s,⟨x,y⟩,z,A,B⟩:=h;exact⟨X3 U.size e,D',f,h1,q,s,⟨λr C=>(x r C).imp id λh=>⟨X3 U.size h.1,h.2⟩,y⟩,z,A,((U.ac S).trans B).mono a⟩
def AtR.comp{a:Nat->Prop}{q:Λ}{x:Int}(f:∀r,r<B\/D r\/r=gt->S r)(s:∀r,a r->D r\/w.heap.size<=r/\r<aa.heap.size)(z:∀r,D r->a r)(y:ai S w aa)(A:q.take p=tl.take p)(h:AtR l gy gt gtb ga iA P aB (λr=>r<B\/a r\/r=gt) a aa sl k (p+1) (q.set p x) ab):AtR l gy gt gtb ga iA P aB S D w sl k p tl ab:=by
 obtain⟨C,D',E,h1,F,G,⟨H,I⟩,J,K,L⟩:=h;have V:=y.size;refine⟨X3 V C,D',E,h1,?_,G,⟨λr e=>?_,λr e=>I r (z r e)⟩,J,K,?_⟩
 .have:=congrArg (List.take p) F;rw[List.take_take,List.take_take,Nat.min_eq_left Ω,List.take_set_of_le (o4 _)]at this;rw[this,A]
 .rcases H r e with h|h
  .exact (s r h).imp id λh=>⟨h.1,Ω⟩
  .exact .inr ⟨Ω,h.2⟩
 .refine ((y.mono λr _ h=>.inl h).trans (L.mono λr _ h=>?_):ai (λr=>S r\/w.heap.size<=r) w ab).mono λr e h=>h.elim id λh=>Ω
  rcases h with h|h|h
  .exact .inl (f r (.inl h))
  .exact (s r h).elim (λh=>.inl (f r (.inr (.inl h)))) λh=>.inr h.1
  .exact .inl (f r (.inr (.inr h)))
end
def Ss{α β:Type}{l:List α}{a:α->List β}{i:Nat}{y:α}{z:β}(h:l[j]?=σ y)(hi:(a y)[i]?=σ z):(l.flatMap a)[((l.take j).flatMap a).length+i]?=σ z:=by
 have f:=(x4.1 h).1;have e:l=l.take j++y::l.drop (j+1):=by
  conv=>lhs;rw[<-List.take_append_drop j l,X5 f,(x4.1 h).2]
 conv=>lhs;rw[e,List.flatMap_append,V0]
 have p:=(x4.1 hi).1;have el:((l.take j++y::l.drop (j+1)).take j)=l.take j:=by rw[List.take_append_of_le_length (by rw[j6];omega),List.take_take,Nat.min_self]
 rw[el,X1 Ω,Q3,X0 p];exact hi
def St{t:p8}{b o:Nat}{x:x1}{K:x1->Prop}(a:k5 x7 t=true)(h:w.cell? ⟨b,o,ν⟩=σ x):ad x7 (do loadVar t (<-asAddr (.pointer (σ ⟨b,o,ν⟩)))) w K=K x:=ad.of λJ U=>by
 have a7:=j1 U h;unfold k5 at a;cases hu:x7.underlying t with
 |none=>rw[hu]at a;cases a
 |some d=>
  rw[hu]at a;cases d<;>first|(cases a;done)|simp[asAddr,loadVar,isAgg,run_underlying hu,a7]
def mQ(bI gy gtb bs ba ga gs:Nat):Array x1:=#[Γ bI,Γ gy,Γ gtb,Γ bs,Γ ba,Γ ga,Γ gs]
def vN(p:Nat)(bI gy gtb bs ba ga gs:Nat):List x1:=[Δ (p:Int),Γ bI,Γ gy,Γ gtb,Γ bs,Γ ba,Γ ga,Γ gs]
def Su{l:Nat}{aB:(Nat->Prop)->Nat->x3->Prop}(bU:0<=pos)(bV:∀u∈sc,0<=u/\u<n.sizes.length)(cY:sc.length<=6)(bW:B0<=B)(Y:gt≠gy/\gt≠gtb/\gt≠ga)(P:∀D k aa ab,ai (λr=>B<=r/\¬D r) aa ab->fG B aa ab->aB D k aa->aB D k ab)(bX:Sr (gu ag gT R n s gs bI bs ba aQ sc pos v B0) aB L l B):
  ∀(q p:Nat)(tl:Λ)(k:Nat)(D:Nat->Prop)(w:x3),sc.length=p+q->tl.length=sc.length->(∀r,D r->B<=r/\r<w.heap.size)->B<=w.heap.size->sX D B gy gtb ga gt->lA w l gy gt gtb ga (mQ bI gy gtb bs ba ga gs) sc.length tl->gu ag gT R n s gs bI bs ba aQ sc pos v B0 D w->aB D k w->
   (∀i x,(fZ s sc pos v q p tl)[i]?=σ x->L[k+i]?=σ x)->
   an x7 oY (vN p bI gy gtb bs ba ga gs) w λr J=>r= .bool true/\AtR l gy gt gtb ga (mQ bI gy gtb bs ba ga gs) (gu ag gT R n s gs bI bs ba aQ sc pos v B0) aB (λr=>r<B\/D r\/r=gt) D w sc.length (k+(fZ s sc pos v q p tl).length) p tl J:=by
 obtain⟨eo,rfl⟩:=W6 bU;have Z:∀D T aa ab,ai T aa ab->(∀r,T r->B<=r/\¬D r)->gu ag gT R n s gs bI bs ba aQ sc eo v B0 D aa->gu ag gT R n s gs bI bs ba aQ sc eo v B0 D ab:=λD T aa ab aR bl h=>h.own aR λr f=>⟨X3 bW (bl r f).1,(bl r f).2⟩;have aS:∀{M:x3}{K:x1->Prop},ah M bI ao [aQ]->K aQ->ad x7 (u5 ao (Γ bI)) M K:=λaT aU=>by rw[ax Ψ (aT.cell F)];exact aU
 have aV:∀{aW p:Nat}{tl:Λ}{D:Nat->Prop}{w ab M:x3}{a:Nat}{b:Bool},Ext w ab->w.heap.size<=a->a<ab.heap.size->(∀r,D r->B<=r/\r<w.heap.size)->B<=w.heap.size->(gy<w.heap.size/\gtb<w.heap.size/\ga<w.heap.size/\gt<w.heap.size)->
   AtR l gy gt gtb ga (mQ bI gy gtb bs ba ga gs) (gu ag gT R n s gs bI bs ba aQ sc eo v B0) aB (λr=>r<B\/D r\/r=gt\/r=a) D ab sc.length aW p tl M->ah M a jd [.bool b]->
   aF x7 (l9 jd (Γ a) (.bool true)) M λ(_:Unit)aY=>ad x7 (do loadVar jd (<-asAddr (Γ a))) aY λr=>wk w.heap.size aY λbm=>r= .bool true/\AtR l gy gt gtb ga (mQ bI gy gtb bs ba ga gs) (gu ag gT R n s gs bI bs ba aQ sc eo v B0) aB (λr=>r<B\/D r\/r=gt) D w sc.length aW p tl bm:=by
  intro aW p tl D w ab M a b G bn ae z af al aZ a1;have bY:∀r,r=a->r<ab.heap.size/\¬D r/\B<=r/\(r<B\/D r\/r=gt\/r=a)/\r≠gy/\r≠gtb/\r≠ga/\r≠gt:=by
   rintro r rfl;exact⟨ae,λh=>by have:=(z _ h).2;omega,Ω,.inr (.inr (.inr F)),Ω,Ω,Ω,Ω⟩
  refine aF.cv (bp jd.i F rfl a1 Ξ λaY bZ cZ a2 b0=>?_);have a2:=a2;have b1:=aZ.own Z P bZ b0.o bY;rw[St Ψ (a2.cell F)];intro bm b2 b3;refine⟨F,((b1.own Z P (b2.ac λ_=>False) (b3.2.mono af) λ_ h=>h.elim).base G λr f h=>?_)⟩;rcases h with h|h|h|h
  .exact .inl h
  .exact .inr (.inl h)
  .exact .inr (.inr h)
  .omega
 intro q;induction q with
 |zero=>
  intro p tl k D w b4 ap z af C aq a7 bb au;refine iG func268 ?_;refine aF.cv (bh λg1 aa b5 av E bc=>?_);refine aF.cv (bu jd.i λa ab bn V N bd=>?_);have G:=av.trans V;have b6:=av.size;have b7:=V.size;have E:=ah.ext E V;have N:=N;have ae:=N.lt;have aD:=P D k w ab (G.ac _) (bc.trans bd).o bb;have I:=a7.ext G;have H:=aq.ext G;rw[ax Ψ (E.cell F)];refine aS I.1.2.1 ?_;rw[aX ao.u I.2.2.1,bf,am];refine⟨λ_=>?_,λh=>absurd Ω h⟩;rw[ax Ψ (H.1.cell F),ax Ψ (H.2.1.cell F)];have b8:=au 0 tl F;refine(show ja x7 l [.slice (σ ⟨gt,0,ν⟩) sc.length sc.length] ab _ from ja.mono (bX D k tl _ ab (λr f=>⟨(z r f).1,by have:=(z r f).2;omega⟩) Ω I b8 H.2.2.2.ls aD) ?_);rintro _ b9 ⟨rfl,⟨D',d1,d2,ca,cb⟩,cc,cd,bg⟩;refine⟨cc,?_⟩;have al:=aq.lt;have aG:∀{g:Nat},w.heap.size<=g->¬D g:=λh1 aw=>by have:=(z _ aw).2;omega
  have ay:∀{g:Nat},B<=g->¬D g->¬(g<B\/D g):=λh1 aw ce=>ce.elim Ω aw;have a1:=N.ac bg (ay Ω (aG Ω));have aZ:AtR l gy gt gtb ga (mQ bI gy gtb bs ba ga gs) (gu ag gT R n s gs bI bs ba aQ sc eo v B0) aB (λr=>r<B\/D r\/r=gt\/r=a) D ab sc.length (k+1) p tl b9:=
   ⟨cd,D',tl,ap,F,H.ac bg ⟨ay C.1.1 C.1.2,ay C.2.1.1 C.2.1.2,ay C.2.2.1.1 C.2.2.1.2,ay C.2.2.2.1 C.2.2.2.2⟩,⟨d1,d2⟩,ca,cb,bg.mono λr _ h=>h.imp id .inl⟩
  exact aV G Ω ae z af al aZ a1
 |succ q bo=>
  intro p tl k D w b4 ap z af C aq a7 bb au;refine iG func268 ?_;refine aF.cv (bh λg1 aa b5 av E bc=>?_);refine aF.cv (bu jd.i λa ab bn V N bd=>?_);have G:=av.trans V;have b6:=av.size;have b7:=V.size;have E:=ah.ext E V;have N:=N;have ae:=N.lt;have:=E.lt;have aD:=P D k w ab (G.ac _) (bc.trans bd).o bb;have I:=a7.ext G;have H:=aq.ext G;have al:=aq.lt;have aG:∀{g:Nat},w.heap.size<=g->¬D g:=λh1 aw=>by have:=(z _ aw).2;omega
  rw[ax Ψ (E.cell F)];refine aS I.1.2.1 ?_;rw[aX ao.u I.2.2.1,bf,am];refine⟨λh=>absurd h Ω,λ_=>?_⟩;rw[ax Ψ (E.cell F),ax Ψ (I.1.2.2.1.cell F),bf,am];have bq:∀{M:x3}{K:x1->Prop},ah M gtb ao [.slice (σ ⟨gt,0,ν⟩) sc.length sc.length]->K (.slice (σ ⟨gt,0,ν⟩) sc.length sc.length)->ad x7 (u5 ao (Γ gtb)) M K:=λaT aU=>by rw[ax Ψ (aT.cell F)];exact aU
  have aH:∀{D:Nat->Prop}(r:Nat),sX D B gy gtb ga gt->r=gt->B<=r/\¬D r:=λr h e=>e▸⟨h.2.2.2.1,h.2.2.2.2⟩;refine⟨λhe=>?_,λcf=>?_⟩
  .refine bq H.2.1 ?_;rw[ax Ψ (E.cell F),ax Ψ (I.1.2.2.2.cell F),iK F ao.u aj.i H.2.2.2 Ω];refine aF.cv (iL aj.i H.2.2.2 Ω λaJ S c0 cg ch=>?_);have br:lA aJ l gy gt gtb ga (mQ bI gy gtb bs ba ga gs) sc.length (tl.set p v):=⟨H.1.ac S λh=>Y.1 h.symm,H.2.1.ac S λh=>Y.2.1 h.symm,H.2.2.1.ac S λh=>Y.2.2 h.symm,cg⟩;have ci:=Z D _ _ _ S (λr h=>aH r C h) I;have cj:=P D k ab aJ (S.mono λr _ h=>aH r C h) ch.o aD;have ck:=E.ac S Ω;have cl:=N.ac S Ω;rw[ax Ψ (br.2.2.1.cell F),ax Ψ (ck.cell F),aM,wrap_i64 Ω Ω];have hw:fZ s sc eo v (q+1) p tl=fZ s sc eo v q (p+1) (tl.set p v):=by rw[fZ,if_pos he]
   rw[hw];rw[hw]at au;refine(show an x7 oY (vN (p+1) bI gy gtb bs ba ga gs) aJ _ from an.mono (bo (p+1) (tl.set p v) k D aJ Ω (by rw[Z0];exact ap) (λr f=>⟨(z r f).1,by have:=(z r f).2;omega⟩) Ω C br ci cj au) ?_);rintro _ cm c1 ⟨rfl,bw⟩;have cn:ah cm a jd [.bool false]:=by
    obtain⟨_,_,_,_,_,_,_,_,_,cp⟩:=bw;exact cl.ac cp λh=>by
     rcases h with h|h|h
     .omega
     .exact aG Ω h
     .omega
   exact aV G Ω ae z af al (AtR.comp (λr h=>h.imp id λh=>h.imp id .inl) (λr h=>.inl h) (λ_ h=>h) (S.mono λr _ h=>.inr (.inr (.inl h))) F bw) cn
  intro c2 aK _ cq;have aL:=I.ext aK;obtain⟨A,s',bt,bx,cr,c3⟩:=id aL.2.2.2.2.2;obtain⟨u,hu⟩:=aI (l:=sc) (i:=p) Ω;obtain⟨ct,c4⟩:=bV u (x5 hu);have:=bx.2.2.2.1.vars;obtain⟨x,bz⟩:=aI (l:=s'.vars) (i:=u.toNat) Ω;rw[ax Ψ (aL.1.1.cell F)];refine aS aL.1.2.1 ?_;rw[ax Ψ ((E.ext aK).cell F),be ao.u aj.i Ψ aL.2.2.1 hu];refine(kN (i:=u) bx).mono ?_;rintro _ c6 cu ⟨⟨b,c7,rfl,bA⟩,bB⟩;refine(oa).mono ?_;rintro _ aN cw ⟨cz,bC,rfl,c8,bD⟩;have bE:=nA bA ct bz;have cA:bj s (sc.getD p 0)=aE x:=by
   rw[<-cr,u4,hu,V2];unfold bj;rw[bz]
  have bF:fZ s sc eo v (q+1) p tl=(aE x).flatMap λy=>fZ s sc eo v q (p+1) (tl.set p y):=by rw[fZ,if_neg cf,cA]
  have W:=(aK.trans bB).trans cz;have cB:=(cq.trans cu).trans cw;have:=W.size;have:=(aK.trans bB).size;have:=bD.lt;have bG:B<=aN.heap.size:=Ω
  have cC:=P D k ab aN (W.ac _) cB.o aD;have bH:=I.ext W;have bJ:=H.ext W;refine⟨Nat,false,false,jW,#[Γ bC],0,_,_,λ_=>_,λ_ j J=>AtR l gy gt gtb ga (mQ bI gy gtb bs ba ga gs) (gu ag gT R n s gs bI bs ba aQ sc eo v B0) aB (λr=>r<B\/D r\/r=gt) D aN sc.length (k+(((aE x).take j).flatMap λy=>fZ s sc eo v q (p+1) (tl.set p y)).length) p tl J/\ah J g1 aj [Δ (p:Int)]/\ah J a jd [.bool false],
   λ_ _ _ _=>False,F,(n8 (g:=bC) bA.1).s.x,?_,λ_ _ _ U h=>⟨h.1.ext U,h.2.ext U⟩,?_,λ_ _ _ _ _ _ _ h=>h,⟨bD,bH.2.2.2.2.1.1⟩,?_,?_,?_,λ_ _ _ h=>h.elim,λ_ _ _ _ h=>h.elim⟩
  .rintro _ _ _ _ ⟨_,_,_,_,rfl⟩;rfl
  .rintro _ j db dc aR cD ⟨X,az,O⟩;have U:=aR.ext λ_ _ h=>nomatch h.1;exact⟨X.own Z P (U.ac λ_=>False) (cD.mono bG) λ_ h=>h.elim,az.ext U,O.ext U⟩
  .exact⟨⟨o4 _,D,tl,ap,F,bJ,⟨λ_ h=>.inl h,λ_ h=>h⟩,bH,by simpa using cC,ai.refl _ _⟩,E.ext W,N.ext W⟩
  .rintro _ _ j _ dd _ _ ⟨cE,de⟩ ⟨df,rfl,y,cF,cG⟩ ⟨cH,bK,cI⟩;cases cG;intro bL aA cJ _;have bN:(aE x)[j]?=σ (y:Int):=by rw[<-bE,x8,cF];rfl
   have cK:=cH.own Z P (aA.ac λ_=>False) (cJ.2.mono bG) λ_ h=>h.elim;obtain⟨dg,aC,aO,X,az,O,⟨aP,cL⟩,cM,cN,cO⟩:=cK;have cP:=bJ.lt;have bi:=C.go aP cP;have bO:∀r,aC r->B<=r/\r<bL.heap.size:=λr f=>(aP r f).elim (λh=>⟨(z r h).1,by have:=(z r h).2;omega⟩) λh=>⟨Ω,h.2⟩;refine bq O.2.1 ?_;rw[ax Ψ ((bK.ext aA).cell F),iK F ao.u aj.i O.2.2.2 Ω];refine aF.cv (iL aj.i O.2.2.2 Ω λak Q dh cQ cR=>?_);have bP:lA ak l gy gt gtb ga (mQ bI gy gtb bs ba ga gs) sc.length (aO.set p y):=⟨O.1.ac Q λh=>Y.1 h.symm,O.2.1.ac Q λh=>Y.2.1 h.symm,O.2.2.1.ac Q λh=>Y.2.2 h.symm,cQ⟩;have cS:=Z aC _ _ _ Q (λr h=>aH r bi h) cM;have cT:=P aC _ bL ak (Q.mono λr _ h=>aH r bi h) cR.o cN;have bQ:ah ak g1 aj [Δ (p:Int)]:=(bK.ext aA).ac Q Ω;have cU:ah ak a jd [.bool false]:=(cI.ext aA).ac Q Ω;have cV:=(cE.ext aA).ac Q Ω;rw[ax Ψ (bP.2.2.1.cell F),ax Ψ (bQ.cell F),aM,wrap_i64 Ω Ω];have bR:fZ s sc eo v q (p+1) (aO.set p (y:Int))=fZ s sc eo v q (p+1) (tl.set p (y:Int)):=Sn Ω (by rw[Z0];exact ap) (by rw[Z0];exact X) (by rw[vM Ω,vM Ω,az]);refine(show an x7 oY (vN (p+1) bI gy gtb bs ba ga gs) ak _ from an.mono (bo (p+1) (aO.set p y) _ aC ak Ω (by rw[Z0];exact X) (λr f=>⟨(bO r f).1,by have:=(bO r f).2;omega⟩) Ω bi bP cS cT λi di hi=>?_) ?_)
   .rw[bR]at hi;rw[Q1];refine au _ _ ?_;rw[bF];exact Ss bN hi
   rintro _ dj dk ⟨rfl,bS⟩;rw[bM,X2,a8];have bT:=AtR.comp (λr h=>h) (λr h=>(aP r h).imp id λh=>⟨h.1,Ω⟩) cL (cO.trans (Q.mono λr _ h=>.inr (.inr h))) az bS;obtain⟨_,_,_,_,_,_,_,cW,_,bk⟩:=bS;have a6:∀{g:Nat},w.heap.size<=g->g<aN.heap.size->¬(g<B\/aC g\/g=gt):=λcX dl h=>by
    rcases h with h|h|h
    .omega
    .exact (aP _ h).elim (aG cX) λh=>Ω
    .omega
   refine⟨⟨cV.ac bk (a6 Ω Ω),cW.2.2.2.2.1.1⟩,⟨?_,bQ.ac bk (a6 Ω Ω),cU.ac bk (a6 Ω Ω)⟩,λh=>by cases h⟩;have e:k+(((aE x).take j).flatMap λy=>fZ s sc eo v q (p+1) (tl.set p y)).length+(fZ s sc eo v q (p+1) (aO.set p (y:Int))).length=k+(((aE x).take (j+1)).flatMap λy=>fZ s sc eo v q (p+1) (tl.set p y)).length:=by
    rw[bR,u9,bN,j4,List.flatMap_append,List.flatMap_singleton,r8];omega
   rw[e]at bT;exact bT
  .rintro _ j dm rfl ⟨X,az,O⟩;rw[Z2 (by rw[<-bE,r9];exact o4 _),<-bF]at X;exact aV G Ω ae z af al (X.base W λr _ h=>h.imp id λh=>h.imp id .inl) O
end
section
variable{ag gT gs bI bs ba B0:Nat}{R:ak}{n:aH}{s:aq}{aQ:x1}{sc:Λ}{v:Int}
def Gl{eo:Nat}(S:∀u∈sc,0<=u/\u<n.sizes.length)(U:sc.length<=6):
  rk x7 true false nb [Γ bI,Γ bs,Γ ba,Γ gs] 0 (λk=>k=(b0 s sc eo v).length)
   (λk vs W w=>W=k+1/\∃tl aN,(b0 s sc eo v)[k]?=σ tl/\vs=[aN]/\aK .i64 w aN tl) (gu ag gT R n s gs bI bs ba aQ sc eo v B0):=by
 refine⟨nb.enters,λl aB aY w X _ Y hf Z=>?_⟩;have E:∀D k aa ab,ai (λr=>w.heap.size<=r/\¬D r) aa ab->fG w.heap.size aa ab->aB D k aa->aB D k ab:=λD k aa ab ae af=>X D k aa ab (ae.mono λr _ h=>⟨F,h⟩) af;have V:=hf.2.2.1;have ak:=hf.2.2.2.2.1.2;obtain⟨_,_,_,aZ⟩:=c6 V;refine ry func267 ?_;refine aF.cv (bh λgy aa a1 p G al=>?_);have am:∀{H:x3}{K:x1->Prop},ah H bI ao [aQ]->K aQ->ad x7 (u5 ao (Γ bI)) H K:=λan ap=>by rw[ax (v:=aQ) Ψ (an.Qz F)];exact ap
 refine am (hf.1.2.1.ext p) ?_;rw[aX ao.u (V.ext p)];refine aF.cv (k6 (k:=.i64) ao.u aj.i Ω Ω λgt ab a2 A I aq=>?_);refine aF.cv (bu ao.i λgtb a6 a7 q M au=>?_);refine aF.cv (bp ao.i F rfl M (by simp[x1.cells]) λa8 C bb av aw=>?_);refine aF.cv (bu qb.i λga bc bd e N az=>?_);rw[jB];refine aF.cv (bp qb.i F rfl N (by simp[x1.cells]) λa y be aA aC=>?_);have bf:=p.size;have bg:=A.size;have z3:=q.size;have z5:=e.size;have bi:=G.lt;have bj:=I.lt;have bk:=M.lt;have bl:=N.lt;have aD:ah a gy Bo [.func (.yield l) #[] #[]]:=(((((ah.ext G A).ext q).ac C Ω).ext e).ac y Ω);have aE:ah a gt aj (ints .i64 (o8 sc.length 0)):=((((I.ext q).ac C Ω).ext e).ac y Ω);have aG:ah a gtb ao [.slice (σ ⟨gt,0,ν⟩) sc.length sc.length]:=((ah.ext av e).ac y Ω);have O:ah a ga qb [.func (.func oY) #[] (mQ bI gy gtb bs ba ga gs)]:=aA;rw[ax (v:=.func (.func oY) #[] (mQ bI gy gtb bs ba ga gs)) Ψ (O.Qz F)];have hm:ay .i64 aj a gt (.slice (σ ⟨gt,0,ν⟩) sc.length sc.length) (o8 sc.length 0):=by
  have:=b1.full (n:=sc.length) (k:=1) aE Ξ (by simp only[maxLen];omega);unfold ay;rw[List.length_replicate];exact this
 have aH:=(p.trans A).trans q;have P:ai (λr=>w.heap.size<=r/\¬False) w a:=(((aH.ac _).trans (C.mono λr _ h=>⟨by have h:r=gtb:=h;omega,id⟩)).trans (e.ac _)).trans (y.mono λr _ h=>⟨by have h:r=ga:=h;omega,id⟩);have aI:cL w a:=((((al.trans aq).trans au).trans aw).trans az).trans aC;have aJ:gu ag gT R n s gs bI bs ba aQ sc eo v B0 (λ_=>False) a:=hf.own P λr aL=>⟨Ω,aL.2⟩;have Q:=Sp (s:=s) (sc:=sc) (pos:=eo) (v:=v) (tl:=o8 sc.length 0) Ξ;refine(show gL x7 oY (vN 0 bI gy gtb bs ba ga gs) a _ from(Su (L:=b0 s sc eo v) (B:=w.heap.size) (l:=l) (gy:=gy) (gt:=gt) (gtb:=gtb) (ga:=ga) (pos:=eo) Ω S U ak ⟨Ω,Ω,Ω⟩ E ?_ sc.length 0 (o8 sc.length 0) 0 (λ_=>False) a Ω Ξ (λ_ h=>h.elim) Ω ⟨⟨Ω,id⟩,⟨Ω,id⟩,⟨Ω,id⟩,Ω,id⟩ ⟨aD,aG,O,hm⟩ aJ (E _ _ _ _ P aI.o Z) λi x hi=>?_).free.mono ?_)
 .intro D k tl aN J aM aO aP aR aS z;refine ja.mono (Y D k (k+1) [aN] J aM aO aP ⟨F,tl,aN,aR,F,aS⟩ z) ?_;rintro u bm (⟨h1,aT,aU,aV,aW⟩|⟨h,_⟩)
  .exact⟨h1,aT,aU (.inr F),aV,aW F⟩
  .cases h
 .rw[Q]at hi;rw[W0];exact hi
 .rintro _ bn ⟨_,rfl,_,D',_,_,_,_,_,_,z,_⟩;rw[Q,W0]at z;exact .inl ⟨D',_,F,z⟩
end
def Gm(m gs bI bs ba:Nat)(aQ:x1):Prop:=(m<=gs/\m<=bI/\m<=bs/\m<=ba)/\∀r,leads aQ r->m<=r
section
variable{ag gT gs bI bs ba B0 m:Nat}{A R:ak}{n:aH}{s s':aq}{t:aD}{aQ:x1}{sc:Λ}{pos v:Int}{w J:x3}
def bz.lt(h:bz w ag gT A R n s t){r:Nat}(a:A r\/R r):r<w.heap.size:=by
 obtain⟨⟨p,q,x,y,⟨_,_,e,f⟩,_⟩,_⟩:=h;exact a.elim (f r) (e r)
def gu.put{D' S:Nat->Prop}(h:gu ag gT R n s gs bI bs ba aQ sc pos v B0 D w)(p:ai S w J)(hm:Gm m gs bI bs ba aQ)(z:∀r,S r->r<m\/B0<=r)(B:Laid J)(C:bz J ag gT A R n s' t)(E:∀i,bj s' i=bj s i)(F:∀r,A r\/R r->r<B0\/D' r):gu ag gT R n s gs bI bs ba aQ sc pos v B0 D' J:=by
 obtain⟨h1,f,q,x,G,_⟩:=h;have no:∀{r:Nat},m<=r->r<B0->¬S r:=λh1 f q=>by have:=z _ q;omega
 exact⟨h1.ac p ⟨no hm.1.1 f.1,no hm.1.2.1 f.2.1,no hm.1.2.2.1 f.2.2.1,no hm.1.2.2.2 f.2.2.2⟩,f,ji q p λr H a n c e y=>no (hm.2 r ⟨a,n,c,e,y⟩) (x r ⟨a,n,c,e,y⟩) H,x,⟨B,X3 G.2 p.size⟩,A,s',t,C,E,F⟩
def Gn{f:bS}{x:x3->Prop}(h:bz w ag gT A R n s t)(y:Laid w)(af:s.funs[j]?=σ f)(B:∀aQ gs bI bs ba J,Ext w J->Gm w.heap.size gs bI bs ba aQ->gu ag gT R n s gs bI bs ba aQ f.sc pos v J.heap.size (λ_=>False) J->K (.func (.func nb) #[] #[Γ bI,Γ bs,Γ ba,Γ gs]) J):
  an x7 rq [Γ ag,Δ (j:Int)] w λaQ aa=>(Ext w aa\/x aa)/\an x7 Bi [Γ ag,aQ,Δ pos,Δ v] aa K:=by
 refine(l7 h af).mono ?_;rintro aQ aa _ ⟨p,g,C,hm⟩;refine⟨.inl p,(Sq hm.ls).mono ?_⟩;rintro _ ab _ ⟨q,gs,bI,bs,ba,rfl,a,E,G,H,I⟩;have U:=p.trans q;have:=p.size;have:=U.size;refine B aQ gs bI bs ba ab U ⟨⟨Ω,Ω,Ω,Ω⟩,λr e=>(bR hm e).1▸C⟩ ⟨a,⟨a.1.lt,a.2.1.lt,a.2.2.1.lt,a.2.2.2.lt⟩,hm.ls.ext q,λr e=>?_,⟨y.ext U,o4 _⟩,A,s,t,h.ext U,λ_=>rfl,λr e=>.inl ?_⟩
 .have:=bR hm e;have:=q.size;omega
 .have:=h.lt e;omega
end
section
variable{k:Int}{sizes:Λ}{s:aq}{f:bS}{j pos:Nat}{v:Int}{tl:Λ}
def Gp{m:Nat}(af:s.funs[j]?=σ f)(a:f.live≠0)(hm:cn f.al tl 0=σ (m:Int)):(ia s j tl).isSome=true/\nz s j tl=bo f.al f.cs tl:=by
 unfold ia nz;rw[af];simp[a,hm]
end
section
variable{w:x3}{ag gT:Nat}{A R:ak}{n:aH}{s:aq}{t:aD}
def Sv{pos:Nat}{f:bS}(h:bz w ag gT A R n s t)(ad:Laid w)(af:s.funs[j]?=σ f)(az:f.live≠0)(ae:∀u,f.sc[pos]?=σ u->v∈bj s u):
  an x7 Je [Γ ag,Δ (j:Int),Δ (pos:Int),Δ v] w λr J=>r=Δ (nG n.k s f pos v)/\Ext w J:=by
 have ai:=h.2.2.2.1;have ak:=x5 af;obtain⟨M,aS,_⟩:=ai.funs f ak;refine iG func141 ?_;refine bh λg1 aa aT N y=>?_;refine bh λam ab aU I K=>?_;have y:=ah.ext y I;have K:=K;rw[ax Ψ (y.cell F)];refine(lp (h.ext (N.trans I))).mono ?_;rintro _ aV _ ⟨rfl,O⟩;refine bu av.i λP aW aX Q ao=>?_;have:=N.size;have:=I.size;have:=O.size;have:=Q.size;have:=y.lt;have:=K.lt;have:=ao.lt;refine bp av.i F rfl ao (by simp[x1.cells]) λa8 S bb V=>?_;have V:=V;intro ap z _ _;have:=z.size;have aq:=O.trans Q;have W:=((((N.trans I).trans O).trans Q).then S (by rintro r p rfl;omega)).trans z;have X:ah ap g1 dm [Γ ag]:=((y.ext aq).ac S Ω).ext z;have au:ah ap am aj [Δ (j:Int)]:=((K.ext aq).ac S Ω).ext z;have aw:=V.ext z;have:=aw.lt;rw[ax Ψ (X.cell F),ax Ψ (X.cell F),ax Ψ (au.cell F)];refine Gn (h.ext W) (ad.ext W) af λaQ gs bI bs ba aA B aB aC=>?_;have:=B.size;refine⟨Nat,true,false,nb,#[Γ bI,Γ bs,Γ ba,Γ gs],0,_,_,_,λD k J=>Ext w J/\ah J g1 dm [Γ ag]/\ah J am aj [Δ (j:Int)]/\ah J P av [Δ ((((b0 s f.sc pos v).take k).map (bo f.al f.cs)).foldl min n.k)],
  λ_ _ _ _=>False,F,Gl (λu hu=>⟨(M.scope.1 u hu).1,M.vars u hu⟩) M.scope.2,?_,λ_ _ _ U h=>h.ext U,?_,λ_ _ _ _ _ _ _ h=>h,aC,?_,?_,?_,λ_ _ _ h=>h.elim,λ_ _ _ _ h=>h.elim⟩
 .rintro _ _ _ _ ⟨_,_,_,_,rfl,_⟩;rfl
 .rintro D k aD aE L bf ⟨q,C,E,x⟩;have a6:∀{g:Nat}{e:p8}{cs:List x1},g<aA.heap.size->ah aD g e cs->ah aE g e cs:=λbg aG=>aG.ac L λh=>by have:=h.2.1;omega
  exact⟨q.then L λr p h=>by have:=h.2.1;omega,a6 Ω C,a6 Ω E,a6 Ω x⟩
 .exact⟨W.trans B,X.ext B,au.ext B,aw.ext B⟩
 .rintro aN D k bi bk bl bm aH ⟨rfl,tl,bn,ay,e,aI⟩ ⟨q,C,E,x⟩;cases e;intro bt G _ aJ;obtain⟨m,hm⟩:=pQ ai ak ae (x5 ay);obtain⟨aK,L⟩:=Gp af az hm;rw[ax Ψ ((C.ext G).cell F),ax Ψ ((E.ext G).cell F)];refine(yM (h.ext (q.trans G)) (aI.ext G)).mono ?_;rintro _ bw aL ⟨rfl,aM⟩;have a:=G.trans aM;rw[if_pos aK,L,bq,br,ax Ψ ((x.ext a).cell F),nh];refine aF.cv (bp av.i F rfl (x.ext a) Ξ λbx H bA Y aO=>?_);have:=a.size;have Z:=(q.trans a).then H (by rintro r p rfl;omega);have aP:=h.ext Z;refine⟨⟨D,λr h=>.inl h,λ_ h=>h,(aH.ext a).put H aB (λr p=>.inl (by have p:r=P:=p;omega)) (ad.ext Z) aP (λ_=>rfl) λr p=>.inl (by have:=h.lt p;omega),Z,(C.ext a).ac H Ω,(E.ext a).ac H Ω,?_⟩,aJ.trans (aL.lE.trans aO.lE),(a.ac _).trans (H.mono λr _ h=>.inl (by have h:r=P:=h;omega))⟩;have Y:=Y;rw[u9,ay,j4,Z9,R3];exact Y
 .rintro D k bC rfl ⟨q,C,E,x⟩;rw[ax Ψ (x.cell F)];intro bD aR _;refine⟨?_,q.trans aR⟩;rw[Z2 (o4 _)];rfl
end
def sY(t:aD):Prop:=∀m,t.marks.getLast? =σ m->m.olds+t.cells.length<100000000/\t.olds.length<=m.olds+t.cells.countP λc=>decide (c.st=m.st)
def fC(aC:List aD)(t:aD):Prop:=iJ t aC/\sY t
def iJ.m{t:aD}(h:iJ t []):fC [] t:=⟨h,λm hm=>by rw[h.1]at hm;cases hm⟩
def fC.room{aC:List aD}{t:aD}(h:fC aC t):Room t:=by
 cases hm:t.marks.getLast? with
 |none=>exact .inl (List.getLast?_eq_none_iff.1 hm)
 |some m=>
  obtain⟨h1,a⟩:=h.2 m hm;have:=List.countP_le_length (p:=λc:Cell=>decide (c.st=m.st)) (l:=t.cells);exact .inr Ω
def sY.set{t:aD}{i:Nat}{x:Int}(h:sY t):sY (t.set i x):=by
 unfold aD.set;cases e:t.cells[i]? with
 |none=>exact h
 |some c=>
  obtain⟨f,q⟩:=x4.1 e;cases hm:t.marks.getLast? with
  |none=>
   intro m a;have a:=a;rw[hm]at a;cases a
  |some m=>
   obtain⟨h1,r⟩:=h m hm;simp only;split
   .rename_i s;intro cm a;have a:=a;rw[hm]at a;cases a;show m.olds+(t.cells.set i _).length<_/\(t.olds++[_]).length<=m.olds+(t.cells.set i _).countP _;rw[Z0,List.countP_set f,q,r8,T7,if_neg (by rw[decide_eq_true_eq];omega),if_pos Ξ];exact⟨h1,Ω⟩
   .intro cm a;have a:=a;rw[hm]at a;cases a;show m.olds+(t.cells.set i _).length<_/\t.olds.length<=m.olds+(t.cells.set i _).countP _;rw[Z0,List.countP_set f,q];refine⟨h1,?_⟩;by_cases V:c.st=m.st
    .have:=List.countP_pos_iff (p:=λc:Cell=>decide (c.st=m.st)).2 ⟨c,x5 e,decide_eq_true V⟩;rw[if_pos (decide_eq_true V)];omega
    .rw[if_neg (by rw[decide_eq_true_eq];exact V)];omega
def fC.set{aC:List aD}{t:aD}{i:Nat}{x:Int}(h:fC aC t):fC aC (t.set i x):=⟨h.1.set,h.2.set⟩
def eJ(aC:List aD)(w:x3)(ag gT:Nat)(A R:ak)(n:aH)(s':aq)(J:x3):Prop:=ai (eA w) w J/\Laid J/\∃aU bt,Grow A w aU J/\bz J ag gT aU R n s' bt/\fC aC bt/\¬aU 0
def fD(aC:List aD)(w:x3)(ag gT:Nat)(A R:ak)(n:aH)(m:Nat)(D:Nat->Prop)(s':aq)(J:x3):Prop:=
 ai (λr=>eA w r\/w.heap.size<=r) w J/\(Laid J/\w.heap.size<=m/\0<w.heap.size/\(∀r,A r\/R r->r<w.heap.size))/\∃aU bt,Grow A w aU J/\bz J ag gT aU R n s' bt/\(fC aC bt/\¬aU 0)/\∀r,aU r->r<m\/D r
section
variable{aC:List aD}{w aa ab:x3}{ag gT m:Nat}{A R:ak}{n:aH}{s s' pR:aq}{t:aD}{D D' S:Nat->Prop}
def fD.start(h:bz w ag gT A R n s t)(e:Laid w)(f:¬A 0)(p:fC aC t)(U:Ext w aa)(hm:w.heap.size<=m):fD aC w ag gT A R n m D s aa:=
 ⟨U.ac _,⟨e.ext U,hm,by
  obtain⟨x,y,z,B,⟨h1,_,_,q⟩,_⟩:=h.1;have:=q _ h1;omega,λr a=>h.lt a⟩,A,t,Grow.ext U,h.ext U,⟨p,f⟩,λr a=>.inl (by have:=h.lt (.inl a);omega)⟩
def fD.own(h:fD aC w ag gT A R n m D s' aa)(e:ai S aa ab)(f:∀r,S r->m<=r/\¬D r):fD aC w ag gT A R n m D s' ab:=by
 obtain⟨h1,⟨x,y,z,p⟩,aU,bt,⟨g1,B,C⟩,q,E,s⟩:=h;refine⟨h1.trans (e.mono λr _ h=>.inr (by have:=(f r h).1;omega)),⟨kw e (λh=>by have:=(f _ h).1;omega) x,y,z,p⟩,aU,bt,⟨?_,B,C⟩,⟨q.1.ac e λr _ a V=>?_,q.2⟩,E,s⟩
 .exact ((g1.mono λr _ h=>.inl h).trans (e.mono λr _ h=>.inr (f r h).1):ai (λr=>A r\/m<=r) w ab).mono λr a h=>h.elim id λh=>Ω
 .obtain⟨G,F⟩:=f r V;rcases a with a|a
  .exact (s r a).elim Ω F
  .have:=p r (.inr a);omega
def fD.ext(h:fD aC w ag gT A R n m D s' aa)(U:Ext aa ab):fD aC w ag gT A R n m D s' ab:=h.own (U.ac λ_=>False) λ_ h=>h.elim
def fD.Sw(h:fD aC w ag gT A R n m D s' aa):∃aU bt,bz aa ag gT aU R n s' bt/\fC aC bt/\¬aU 0/\∀{ab:x3}{pR:aq}{D' a:Nat->Prop}{p:aD},ai (eA aa) aa ab->Grow aU aa a ab->bz ab ag gT a R n pR p->fC aC p->(∀r,D r->D' r)->(∀r,aa.heap.size<=r->r<ab.heap.size->D' r)->
  fD aC w ag gT A R n m D' pR ab/\ai (λr=>r<m\/D r) aa ab/\∀r,a r->r<m\/D' r:=by
 obtain⟨h1,⟨z,B,C,E⟩,aU,bt,F,G,q,s⟩:=h;refine⟨aU,bt,G,q.1,q.2,λ{ab pR D' a p}H e x I J K=>?_⟩;have:=h1.size;have L:¬a 0:=λh=>(e.2.1 0 h).elim q.2 λh=>Ω
 have y:∀r,a r->r<m\/D' r:=λr f=>(e.2.1 r f).elim (λh=>(s r h).imp id (J r)) λh=>.inr (K r h (x.lt (.inl f)));refine⟨⟨h1.trans (H.mono λr _ h=>?_),⟨kw e.1 q.2 z,B,C,E⟩,a,p,F.trans e,x,⟨I,L⟩,y⟩,e.1.mono λr _ h=>s r h,y⟩;by_cases f:w.heap.size<=r
 .exact .inr f
 .exact .inl (ol (λo M V N=>h1.a6 r o M V λh=>h.elim N f) h)
def fD.open(h:fD aC w ag gT A R n m D s' aa):∃aU bt,bz aa ag gT aU R n s' bt/\fC aC bt/\∀{ab:x3}{pR:aq}{D' e:Nat->Prop}{f:aD},ai (eA aa) aa ab->Grow aU aa e ab->bz ab ag gT e R n pR f->fC aC f->(∀r,D r->D' r)->(∀r,aa.heap.size<=r->r<ab.heap.size->D' r)->
  fD aC w ag gT A R n m D' pR ab/\ai (λr=>r<m\/D r) aa ab/\∀r,e r->r<m\/D' r:=by
 obtain⟨aU,bt,a,b,_,d⟩:=h.Sw;exact⟨aU,bt,a,b,d⟩
def fD.done(h:fD aC w ag gT A R n m D s' aa)(U:Ext aa ab):eJ aC w ag gT A R n s' ab:=by
 obtain⟨h1,⟨e,q,s,x⟩,aU,bt,f,p,a,y⟩:=h.ext U;exact⟨h1.mono λr z h=>h.elim id λh=>Ω,e,aU,bt,f,p,a.1,a.2⟩
end
section
variable{aC:List aD}{w:x3}{ag gT:Nat}{A R:ak}{n:aH}{s:aq}{t:aD}
def pS{u:Nat}{x:bC}(a:bk n.k n.sizes s)(U:s.vars[u]?=σ x)(ae:v∈aE x):fz n (u:Int) v:=by
 have:=(x4.1 U).1;have:=a.vars;obtain⟨z,e⟩:=aI (l:=n.sizes) (i:=u) Ω;have:=(a.var _ x z U e).1;have:=a.fT.2.2 z (x5 e);have f:=(gp.1 ae).1;refine⟨Ω,Ω,f.1,?_⟩;rw[u7,u4,e,V2];omega
def Gq{f:bS}{g:Int->Int}(a:bk k sizes s)(af:s.funs[j]?=σ f):dZ s j f (dF g [] f.al f.cs)=s:=by
 obtain⟨p,q⟩:=ly a (x5 af);rw[RW p Ω (λ_ h=>absurd h List.not_mem_nil)];have:s.funs.set j f=s.funs:=by
  apply Y9;intro i;by_cases e:j=i
  .subst e;rw[b8 (x4.1 af).1,af]
  .rw[Y6 e]
 unfold dZ;show{s with funs:=s.funs.set j f}=s;rw[this]
def Gr{pos u:Nat}{f:bS}{x:bC}{F1 F2:Q4}{tup un:Int->Int}(h:bz w ag gT A R n s t)(aO:Laid w)(bi:¬A 0)(bk:fC aC t)(af:s.funs[j]?=σ f)(bl:f.live≠0)(hu:f.sc[pos]?=σ (u:Int))(U:s.vars[u]?=σ x)(ae:v∈aE x)(h1:∀tl∈b0 s f.sc pos v,(0<=tup (bo f.al f.cs tl)/\tup (bo f.al f.cs tl)<=n.k)/\∀{w:x3}{A:ak}{s:aq}{t:aD},bz w ag gT A R n s t->an x7 F1 [Γ ag,Δ (bo f.al f.cs tl),Δ c] w λr J=>r=Δ (tup (bo f.al f.cs tl))/\Ext w J)(aP:(0<=un (x.un.getD v.toNat 0)/\un (x.un.getD v.toNat 0)<=n.k)/\∀{w:x3}{A:ak}{s:aq}{t:aD},bz w ag gT A R n s t->an x7 F2 [Γ ag,Δ (x.un.getD v.toNat 0),Δ c] w λr J=>r=Δ (un (x.un.getD v.toNat 0))/\Ext w J):
  an x7 Jf [.agg #[.func (.func F1) #[] #[],.func (.func F2) #[] #[]],Γ ag,Δ (j:Int),Δ (pos:Int),Δ v,Δ c] w λ_ J=>eJ aC w ag gT A R n (km s j f pos u x v tup un) J:=by
 have C:=h.2.2.2.1;have Z:=x5 af;obtain⟨ad,b3,_⟩:=C.funs f Z;have aR:∀u',f.sc[pos]?=σ u'->v∈bj s u':=λu' aS=>by
  rw[hu]at aS;cases aS;unfold bj;rw[u7,U];exact ae
 have bm:=Gd C Z aR;refine iG func144 ?_;refine bh λbn aa b4 aT N=>?_;refine bh λg1 ab b5 am a=>?_;refine bh λb6 b7 b9 W y=>?_;refine bh λca z cb X O=>?_;have N:ah z bn rx [.func (.func F1) #[] #[],.func (.func F2) #[] #[]]:=((ah.ext N am).ext W).ext X;have a:ah z g1 dm [Γ ag]:=(ah.ext a W).ext X;have y:=ah.ext y X;have O:=O;have ap:=((aT.trans am).trans W).trans X;have:=aT.size;have:=am.size;have:=W.size;have:=ap.size;have aV:=N.lt;have E:=a.lt;have aW:=y.lt;have aX:=O.lt;rw[ax Ψ (a.cell F),ax Ψ (y.cell F)];refine(l7 (h.ext ap) af).mono ?_;rintro cf cg _ ⟨bp,_,_,bt⟩;rw[be ao.u aj.i Ψ bt.ls hu];intro ch bu _ _;have G:=bp.trans bu;have au:=ap.trans G;have:=G.size;rw[ax Ψ ((a.ext G).cell F),ax Ψ ((a.ext G).cell F),ax Ψ ((y.ext G).cell F)];refine Gn (h.ext au) (aO.ext au) af λaQ gs bI bs ba aY av bw bx=>?_;have:=av.size;have bA:=G.trans av;refine⟨Nat,true,false,nb,#[Γ bI,Γ bs,Γ ba,Γ gs],0,_,_,_,
  λD k J=>fD aC w ag gT A R n w.heap.size D (dZ s j f (dF tup ((b0 s f.sc pos v).take k) f.al f.cs)) J/\(ai (λr=>r<w.heap.size\/aY.heap.size<=r) z J/\aY.heap.size<=J.heap.size),
  λ_ _ _ _=>False,F,Gl (λu hu=>⟨(ad.scope.1 u hu).1,ad.vars u hu⟩) ad.scope.2,?_,λ_ _ _ U h=>h.ext U,?_,λ_ _ _ _ _ _ _ h=>h,bx,?_,?_,?_,λ_ _ _ h=>h.elim,λ_ _ _ _ h=>h.elim⟩
 .rintro _ _ _ _ ⟨_,_,_,_,rfl,_⟩;rfl
 .rintro D k cj ck P cl ⟨H,I,aw⟩;exact⟨H.own P λr q=>⟨Ω,q.2.2⟩,I.trans (P.mono λr _ h=>.inr h.2.1),X3 aw P.size⟩
 .refine⟨?_,bA.ac _,o4 _⟩;have e:dZ s j f (dF tup ((b0 s f.sc pos v).take 0) f.al f.cs)=s:=Gq C af;rw[e];exact fD.start h aO bi bk (au.trans av) (o4 _)
 .rintro aN D k cm ay aZ cn bB ⟨rfl,tl,cp,az,e,a1⟩ ⟨H,I,aw⟩;cases e;intro cq Q _ bD;obtain⟨m,hm⟩:=pQ C Z aR (x5 az);obtain⟨bE,bF⟩:=Gf C af bm az hm;obtain⟨⟨bG,bH⟩,bJ⟩:=h1 tl (x5 az);have a6:∀{S:x3}{g:Nat}{e:p8}{cs:List x1},Ext ay S->w.heap.size<=g->g<z.heap.size->ah z g e cs->ah S g e cs:=λU K aA aB=>(aB.ac I Ω).ext U;have bK:=(x4.1 af).1;have a2:(dZ s j f (dF tup ((b0 s f.sc pos v).take k) f.al f.cs)).funs[j]?=σ {f with cs:=dF tup ((b0 s f.sc pos v).take k) f.al f.cs}:=b8 bK;obtain⟨K,P⟩:=Gp a2 bl hm;obtain⟨A9,t9,aF,a7,aG⟩:=H.open;rw[ax Ψ ((a6 Q Ω E a).cell F),ax Ψ ((a6 Q Ω aW y).cell F)];refine(yM (aF.ext Q) (a1.ext Q)).mono ?_;rintro _ cr bL ⟨rfl,bM⟩;rw[if_pos K,P,bq,br];intro bN bO _ bP;have B:=(Q.trans bM).trans bO;rw[ax Ψ ((a6 B Ω E a).cell F),ax Ψ ((a6 B Ω aW y).cell F),
   aL rx.p 0 (a6 B Ω aV N) F,ax Ψ ((a6 B Ω E a).cell F),ax Ψ ((a6 B Ω aX O).cell F)]
  show an x7 F1 [Γ ag,Δ (bo f.al (dF tup ((b0 s f.sc pos v).take k) f.al f.cs) tl),Δ c] bN _;rw[bE];refine(bJ (aF.ext B)).mono ?_;rintro _ ct bQ ⟨rfl,a8⟩;have V:=B.trans a8;refine⟨.inl a8,(QM (aF.ext V) a7.room (a1.ext V)).mono ?_⟩;rintro r bb bR ⟨_,_,aH⟩;obtain⟨_,Y,aU,bT,bU,aI,L⟩:=aH K ⟨bG,bH⟩ _ m a2 hm;rw[bF]at L;have:=V.size;have:=Y.size;obtain⟨bc,aJ,bV⟩:=aG (D':=λr=>D r\/ay.heap.size<=r/\r<bb.heap.size) (lk V Y) ((Grow.ext V).trans aI) L a7.set (λr h=>.inl h) λr K aA=>.inr ⟨K,aA⟩;refine⟨⟨λr=>D r\/ay.heap.size<=r/\r<bb.heap.size,λr h=>h,λr h=>.inl h,?_,bc,I.trans (aJ.mono λr _ h=>h.imp id λh=>(aZ r h).1),Ω⟩,bD.trans ((((bL.trans bP).trans bQ).trans bR).lE),aJ.mono λr _ h=>h.imp (λh=>Ω) id⟩;refine bB.put aJ bw (λr q=>?_) bc.2.1.1 L (λ_=>rfl) λr q=>?_
  .rcases q with q|q
   .exact .inl Ω
   .exact .inr (aZ r q).1
  .rcases q with q|q
   .exact (bV r q).imp (λh=>Ω) id
   .exact .inl (by have:=h.lt (.inr q);omega)
 .rintro D k bW rfl ⟨H,I,aw⟩;rw[Z2 (o4 _)]at H;have bd:=pS C U ae;obtain⟨cz,cA,aK,bf,aG⟩:=H.open;have a6:∀{S:x3}{g:Nat}{e:p8}{cs:List x1},Ext bW S->w.heap.size<=g->g<z.heap.size->ah z g e cs->ah S g e cs:=λU K aA aB=>(aB.ac I Ω).ext U;rw[ax Ψ ((a6 (Ext.refl _) Ω E a).cell F)];refine(qT aK).mono ?_;rintro _ cB _ ⟨rfl,bX⟩;have bY:jP (dZ s j f (dF tup (b0 s f.sc pos v) f.al f.cs)) (u:Int).toNat v.toNat=x.un.getD v.toNat 0:=by
   unfold jP;rw[u7,show(dZ s j f (dF tup (b0 s f.sc pos v) f.al f.cs)).vars[u]?=σ x from U]
  rw[if_pos bd,bY,bq,br];intro bZ b1 _ _;have M:=bX.trans b1;rw[ax Ψ ((a6 M Ω E a).cell F),aL rx.p 1 (a6 M Ω aV N) F,ax Ψ ((a6 M Ω E a).cell F),ax Ψ ((a6 M Ω aX O).cell F)];show an x7 F2 [Γ ag,Δ (x.un.getD v.toNat 0),Δ c] bZ _;refine(aP.2 (aK.ext M)).mono ?_;rintro _ cC _ ⟨rfl,bg⟩;have aM:=M.trans bg;refine⟨.inl bg,(Fv (aK.ext aM) bf.room).mono ?_⟩;rintro r cD _ ⟨_,_,aH⟩;obtain⟨_,Y,aU,bT,bU,aI,L⟩:=aH bd aP.1;have e:l5 (dZ s j f (dF tup (b0 s f.sc pos v) f.al f.cs)) (u:Int).toNat v.toNat (un (x.un.getD v.toNat 0))=km s j f pos u x v tup un:=by
   unfold l5 km eQ;rw[u7,show(dZ s j f (dF tup (b0 s f.sc pos v) f.al f.cs)).vars[u]?=σ x from U]
  rw[e]at L;intro cE b2 _;exact(aG (lk aM Y) ((Grow.ext aM).trans aI) L bf.set (λ_ _=>trivial) λ_ _ _=>trivial).1.done b2
end
def sZ(h e:Nat){l a:Nat}(f:l<256)(hm:a<256):(256*h+l) &&& (256*e+a)=256*(h &&& e)+(l &&& a):=by
 have p:l &&& a<2 ^ 8:=Nat.and_lt_two_pow _ hm;apply Nat.eq_of_testBit_eq;intro i;rw[Nat.testBit_and,show 256=2 ^ 8 from F,Nat.testBit_two_pow_mul_add _ f,Nat.testBit_two_pow_mul_add _ hm,Nat.testBit_two_pow_mul_add _ p];split
 .rw[Nat.testBit_and]
 .rw[Nat.testBit_and]
def ic(m x:Nat):Nat:=(x / 2 &&& m)+(x &&& m)
def i7(m x:Nat):Nat:=(x / 4 &&& m)+(x &&& m)
def kS(m x:Nat):Nat:=(x / 16+x) &&& m
def cY(a:Nat):Nat:=kS 15 (i7 51 (ic 85 a))
def Sx:∀e<2,∀l<256,(128*e+l / 2) &&& 85=l / 2 &&& 85:=by decide+kernel
def Sy:∀e<4,∀l<256,(64*e+l / 4) &&& 51=l / 4 &&& 51:=by decide+kernel
def Sz:∀e<5,∀l<69,(16*e+l / 16+l) &&& 15=(l / 16+l) &&& 15:=by decide+kernel
def oF:∀l<256,ic 85 l<256/\i7 51 (ic 85 l)<69/\i7 51 (ic 85 l) % 16<5/\cY l<=8/\(cY l=0->l=0):=by decide+kernel
def vO(h a:Nat){l:Nat}(e:l<256):ic (256*a+85) (256*h+l)=256*ic a h+ic 85 l:=by
 unfold ic;rw[show(256*h+l) / 2=256*(h / 2)+(128*(h % 2)+l / 2) by omega,sZ _ _ Ω Ω,sZ _ _ e Ω,Sx _ Ω _ e];omega
def vP(h a:Nat){l:Nat}(e:l<256):i7 (256*a+51) (256*h+l)=256*i7 a h+i7 51 l:=by
 unfold i7;rw[show(256*h+l) / 4=256*(h / 4)+(64*(h % 4)+l / 4) by omega,sZ _ _ Ω Ω,sZ _ _ e Ω,Sy _ Ω _ e];omega
def vQ(h a:Nat){l:Nat}(e:l<69)(he:h % 16<5):kS (256*a+15) (256*h+l)=256*kS a h+kS 15 l:=by
 unfold kS;rw[show(256*h+l) / 16+(256*h+l)=256*(h / 16+h)+(16*(h % 16)+l / 16+l) by omega,sZ _ _ Ω Ω,Sz _ he _ e]
def four(a b c d:Nat):Nat:=256*(256*(256*d+c)+b)+a
def SA{a b c d:Nat}(e:a<256)(f:b<256)(h:c<256)(p:d<256):ic 6148914691236517205 (four a b c d)=four (ic 85 a) (ic 85 b) (ic 85 c) (ic 85 d):=by
 unfold four;rw[show 6148914691236517205=256*(256*(256*(256*1431655765+85)+85)+85)+85 from F,vO _ _ e,vO _ _ f,vO _ _ h];have:=vO 0 1431655765 p;rw[show 256*0+d=d by omega,show ic 1431655765 0=0 from by unfold ic;simp]at this;rw[this,Nat.mul_zero,W0]
def SB{a b c d:Nat}(e:a<256)(f:b<256)(h:c<256)(p:d<256):i7 3689348814741910323 (four a b c d)=four (i7 51 a) (i7 51 b) (i7 51 c) (i7 51 d):=by
 unfold four;rw[show 3689348814741910323=256*(256*(256*(256*858993459+51)+51)+51)+51 from F,vP _ _ e,vP _ _ f,vP _ _ h];have:=vP 0 858993459 p;rw[show 256*0+d=d by omega,show i7 858993459 0=0 from by unfold i7;simp]at this;rw[this,Nat.mul_zero,W0]
def SC{a b c d:Nat}(e:a<69)(f:b<69/\b % 16<5)(h:c<69/\c % 16<5)(p:d<69/\d % 16<5):kS 1085102592571150095 (four a b c d)=four (kS 15 a) (kS 15 b) (kS 15 c) (kS 15 d):=by
 unfold four;rw[show 1085102592571150095=256*(256*(256*(256*252645135+15)+15)+15)+15 from F,vQ _ _ e Ω,vQ _ _ f.1 Ω,vQ _ _ h.1 Ω];have:=vQ 0 252645135 p.1 Ω;rw[show 256*0+d=d by omega,show kS 252645135 0=0 from by unfold kS;simp]at this;rw[this,Nat.mul_zero,W0]
def s3(x:Nat):Nat:=cY (x % 256)+cY (x / 256 % 256)+cY (x / 65536 % 256)+cY (x / 16777216)
def SD{x:Nat}(h:x<4294967296):s3 x=0↔x=0:=by
 constructor
 .intro a;unfold s3 at a;have:=(oF (x % 256) Ω).2.2.2.2 Ω;have:=(oF (x / 256 % 256) Ω).2.2.2.2 Ω;have:=(oF (x / 65536 % 256) Ω).2.2.2.2 Ω;have:=(oF (x / 16777216) Ω).2.2.2.2 Ω;omega
 .rintro rfl;decide
def SE{x:Nat}(U:x<4294967296):an x7 J8 [.int .u64 (x:Int)] w λv J=>v=Δ (s3 x:Int)/\Ext w J:=by
 obtain⟨a,b,c,d,H,I,L,M,e,S,V,W,X⟩:∃a b c d,a<256/\b<256/\c<256/\d<256/\x=four a b c d/\a=x % 256/\b=x / 256 % 256/\c=x / 65536 % 256/\d=x / 16777216:=
  ⟨x % 256,x / 256 % 256,x / 65536 % 256,x / 16777216,Ω,Ω,Ω,Ω,by unfold four;omega,F,F,F,F⟩
 obtain⟨Y,Z,a3,a4,_⟩:=oF a H;obtain⟨aa,ab,ac,aq,_⟩:=oF b I;obtain⟨ae,af,ag,au,_⟩:=oF c L;obtain⟨d1,d2,d3,d4,_⟩:=oF d M;have g1:=SA H I L M;have N:=SB Y aa ae d1;have ah:=SC Z ⟨ab,ac⟩ ⟨af,ag⟩ ⟨d2,d3⟩;have ai:s3 x=cY a+cY b+cY c+cY d:=by unfold s3;rw[<-S,<-V,<-W,<-X]
 rw[<-e]at g1;have ak:ic 6148914691236517205 x<4294967296:=by rw[g1];unfold four;omega
 have O:i7 3689348814741910323 (ic 6148914691236517205 x)<4294967296:=by rw[g1,N];unfold four;omega
 have B:kS 1085102592571150095 (i7 3689348814741910323 (ic 6148914691236517205 x))=four (cY a) (cY b) (cY c) (cY d):=by rw[g1,N,ah];rfl
 have al:four (cY a) (cY b) (cY c) (cY d)<4294967296:=by unfold four;omega
 refine aA func223 ?_;have A:∀{t:p8}{cx cy:Bool}{K:x1->Prop}(p q:Nat),p+q<18446744073709551616->ad x7 (aO .add t cx cy (.int .u64 (p:Int)) (.int .u64 (q:Int))) w K=K (.int .u64 ((p+q:Nat):Int)):=λp q h=>by
  rw[aM,wrap_u64 Ω Ω];rfl
 have small:∀(p m:Nat),p &&& m<=p:=λp m=>Nat.and_le_left;rw[show(1:Int)=((1:Nat):Int)from F,mu Ω,show(6148914691236517205:Int)=((6148914691236517205:Nat):Int)from F,u64_and Ω Ω,u64_and Ω Ω,A (x / 2 ^ 1 &&& 6148914691236517205) (x &&& 6148914691236517205) (by exact Nat.lt_of_le_of_lt (Nat.add_le_add (small _ _) (small _ _)) Ω)];obtain⟨y,C⟩:∃y,(x / 2 ^ 1 &&& 6148914691236517205)+(x &&& 6148914691236517205)=y:=⟨_,F⟩;rw[C];have C:ic 6148914691236517205 x=y:=C;rw[C]at ak O B;rw[show(2:Int)=((2:Nat):Int)from F,mu Ω,show(3689348814741910323:Int)=((3689348814741910323:Nat):Int)from F,u64_and Ω Ω,u64_and Ω Ω,A (y / 2 ^ 2 &&& 3689348814741910323) (y &&& 3689348814741910323) (by exact Nat.lt_of_le_of_lt (Nat.add_le_add (small _ _) (small _ _)) Ω)];obtain⟨z,E⟩:∃z,(y / 2 ^ 2 &&& 3689348814741910323)+(y &&& 3689348814741910323)=z:=⟨_,F⟩;rw[E];have E:i7 3689348814741910323 y=z:=E;rw[E]at O B;rw[show(4:Int)=((4:Nat):Int)from F,mu Ω,A (z / 2 ^ 4) z Ω,show(1085102592571150095:Int)=((1085102592571150095:Nat):Int)from F,u64_and Ω Ω];have B:z / 2 ^ 4+z &&& 1085102592571150095=four (cY a) (cY b) (cY c) (cY d):=B;rw[B];obtain⟨r,G⟩:∃r,four (cY a) (cY b) (cY c) (cY d)=r:=⟨_,F⟩;rw[G]at al ⊢;unfold four at G;rw[show(8:Int)=((8:Nat):Int)from F,mu Ω,A r (r / 2 ^ 8) Ω];obtain⟨s,P⟩:∃s,r+r / 2 ^ 8=s:=⟨_,F⟩;rw[P];rw[show(16:Int)=((16:Nat):Int)from F,mu Ω,A s (s / 2 ^ 16) Ω];obtain⟨f,Q⟩:∃f,s+s / 2 ^ 16=f:=⟨_,F⟩;rw[Q];rw[show(32:Int)=((32:Nat):Int)from F,mu Ω,A f (f / 2 ^ 32) Ω,fm fK.u aj.u,wrap_i64 Ω Ω,show(127:Int)=((127:Nat):Int)from F,Fh Ω Ω];refine⟨?_,Ext.refl _⟩;rw[ai,show 127=2 ^ 7-1 from F,Nat.and_two_pow_sub_one_eq_mod];have am:r / 2 ^ 8=65536*cY d+256*cY c+cY b:=Ω
 have ao:s / 2 ^ 16=256*cY d+(cY c+cY d):=Ω
 have R:f / 2 ^ 32=0:=Ω
 have av:f=128*(131072*cY d+512*(cY c+cY d)+2*(cY b+cY c+cY d))+(cY a+cY b+cY c+cY d):=Ω
 have ap:(f+f / 2 ^ 32) % 2 ^ 7=cY a+cY b+cY c+cY d:=by rw[R];clear G P Q am ao R;omega
 rw[ap]
def jg{b n:Nat}(a:np b n):an x7 Ji [kH b n] w λr J=>(∃q:Int,r=Δ q/\(q=0↔b=0))/\Ext w J:=by
 have e:b<4294967296:=by
  have:=a.2;have:(2:Nat) ^ n<=2 ^ 32:=S7 Ω a.1;omega
 refine aA func147 ?_;refine bh λg aa x f h=>?_;rw[aL b5.p 0 h F];refine(SE e).mono ?_;rintro _ ab _ ⟨rfl,s⟩;refine⟨⟨_,F,?_⟩,f.trans s⟩;rw[<-SD e];omega
def pT(aC:List aD)(w:x3)(ag gT:Nat)(A R:ak)(n:aH)(s:aq)(a:iZ)(r:x1)(J:x3):Prop:=r=Δ (cC n.k s a).2/\eJ aC w ag gT A R n (cC n.k s a).1 J
section
variable{aC:List aD}{w:x3}{ag gT:Nat}{A R:ak}{n:aH}{s:aq}{t:aD}{a:iZ}
def eJ.same(h:bz w ag gT A R n s t)(a:Laid w)(e:¬A 0)(f:fC aC t)(U:Ext w J):eJ aC w ag gT A R n s J:=(fD.start (m:=w.heap.size) (D:=λ_=>False) h a e f U (o4 _)).done (Ext.refl _)
def eJ.before{s':aq}(U:Ext w aa)(h:eJ aC aa ag gT A R n s' J):eJ aC w ag gT A R n s' J:=by
 obtain⟨h1,a,aU,bt,e,f⟩:=h;exact⟨lk U h1,a,aU,bt,(Grow.ext U).trans e,f⟩
def zq{j u:Int}{f:bS}{x:bC}(h:ew s j pos v=σ (f,u,x)):∃p e u':Nat,j=p/\pos=e/\u=u'/\s.funs[p]?=σ f/\f.live≠0/\f.sc[e]?=σ (u':Int)/\s.vars[u']?=σ x/\v∈aE x/\∀q,f.sc[e]?=σ q->v∈bj s q:=by
 obtain⟨h1,z,A,B,a,C⟩:=oA h;obtain⟨E,r,F,w⟩:=mb C;obtain⟨j,rfl⟩:=W6 h1;obtain⟨pos,rfl⟩:=W6 z;obtain⟨u,rfl⟩:=W6 E;refine⟨j,pos,u,rfl,rfl,rfl,A,B,a,r,w,λu' y=>?_⟩;have a:f.sc[pos]?=σ (u:Int):=a;rw[a]at y;cases y;unfold bj;rw[r];exact w
def SF(hk:a.kind=0)(h:bz w ag gT A R n s t)(z:Laid w)(E:¬A 0)(G:fC aC t):an x7 Io [Γ ag,Δ a.i,Δ a.pos,Δ a.v,Δ a.c] w (pT aC w ag gT A R n s a):=by
 have I:=h.2.2.2.1;refine aA func65 ?_;refine(Gg h).mono ?_;rintro _ aa _ ⟨y,u,e,rfl,q⟩;rw[bq,br];have p:cC n.k s a=match ew s a.i a.pos a.v with
  |none=>(s,1)
  |some (f,u,x)=>if dt n.k a.c (nG n.k s f a.pos.toNat a.v)≠0 then(s,dt n.k a.c (nG n.k s f a.pos.toNat a.v))else(km s a.i.toNat f a.pos.toNat u.toNat x a.v (λg=>dQ n.k g a.c) λg=>dR n.k g a.c,0):=by unfold cC;rw[if_pos hk]<;>cases ew s a.i a.pos a.v<;>rfl
 rcases q with⟨rfl,f,x,q⟩|⟨rfl,q⟩
 rotate_left
 .rw[q]at p;rw[bA,am];exact⟨λ_=>⟨by rw[p],by rw[p];exact eJ.same h z E G y⟩,λh=>absurd Φ h⟩
 rw[q]at p;rw[bA,am];refine⟨λh=>absurd F h,λ_=>?_⟩;obtain⟨j,pos,u,S,T,V,af,K,hu,U,ae,W⟩:=zq q;have X:=x5 af;simp only[S,T,V,u7]at p ⊢;refine(Sv (j:=j) (pos:=pos) (h.ext y) (z.ext y) af K W).mono ?_;rintro _ ab _ ⟨rfl,L⟩;refine(vJ (h.ext (y.trans L))).mono ?_;rintro _ ah _ ⟨Y,rfl⟩;have B:=(y.trans L).trans Y;refine da (λJ=>eJ aC w ag gT A R n (cC n.k s a).1 J) ?_ λaB M=>?_
 .intro J Z;refine⟨?_,Z⟩;rw[p];split
  .rfl
  .rename_i r;rw[Y3.1 r]
 rw[bf,am];refine⟨λr=>?_,λr=>M _ ?_⟩
 .obtain⟨C,hm⟩:=oz (λh=>h r);rw[cJ (cs:=#[.func (.func oW) #[] #[],.func (.func oX) #[] #[]]) Ψ];have N:∀t∈b0 s f.sc pos a.v,a.c<=bo f.al f.cs t:=λt ac=>((q1 _ _ _).1 hm).2 _ (c7.2 ⟨t,ac,F⟩);have O:=iz (v:=a.v.toNat) I U;refine(Gr (t:=t) (F1:=oW) (F2:=oX) (tup:=λg=>dQ n.k g a.c) (un:=λg=>dR n.k g a.c) (h.ext B) (z.ext B) E G af K hu U ae (λtl P=>?_) ⟨oC O C.1,λ{w A s t}H=>sV H O C⟩).mono ?_
  .have Q:=oD (t:=tl) I X;exact⟨oB Q ⟨C.1,N tl P⟩,λ{w A s t}H=>vK H Q C (.inr (N tl P))⟩
  .rintro _ ai _ ad;refine M _ ?_;rw[p,if_neg (λh=>h r)];exact ad.before B
 .rw[p,if_pos r];exact eJ.same h z E G B
def SG(hk:a.kind=1)(h:bz w ag gT A R n s t)(C:Laid w)(E:¬A 0)(G:fC aC t):an x7 Ip [Γ ag,Δ a.i,Δ a.pos,Δ a.v,Δ a.c] w (pT aC w ag gT A R n s a):=by
 have H:=h.2.2.2.1;refine aA func66 ?_;refine(Gg h).mono ?_;rintro _ aa _ ⟨y,u,e,rfl,q⟩;rw[bq,br];have p:cC n.k s a=match ew s a.i a.pos a.v with
  |none=>(s,1)
  |some (f,u,x)=>if dt n.k a.c (x.un.getD a.v.toNat 0)≠0 then(s,dt n.k a.c (x.un.getD a.v.toNat 0))else(km s a.i.toNat f a.pos.toNat u.toNat x a.v (λg=>dR n.k g a.c) λg=>dQ n.k g a.c,0):=by unfold cC;rw[if_neg Ω,if_pos hk]<;>cases ew s a.i a.pos a.v<;>rfl
 rcases q with⟨rfl,f,x,q⟩|⟨rfl,q⟩
 rotate_left
 .rw[q]at p;rw[bA,am];exact⟨λ_=>⟨by rw[p],by rw[p];exact eJ.same h C E G y⟩,λh=>absurd Φ h⟩
 rw[q]at p;rw[bA,am];refine⟨λh=>absurd F h,λ_=>?_⟩;obtain⟨j,pos,u,O,P,Q,af,S,hu,U,ae,Z⟩:=zq q;have T:=x5 af;simp only[O,P,Q,u7]at p ⊢;refine(qT (i:=(u:Int)) (v:=a.v) (h.ext y)).mono ?_;rintro _ ab _ ⟨rfl,K⟩;have V:jP s (u:Int).toNat a.v.toNat=x.un.getD a.v.toNat 0:=by
  unfold jP;rw[u7,U]
 rw[if_pos (pS H U ae),V,bq,br];refine(vJ (h.ext (y.trans K))).mono ?_;rintro _ ac _ ⟨W,rfl⟩;have z:=(y.trans K).trans W;refine da (λJ=>eJ aC w ag gT A R n (cC n.k s a).1 J) ?_ λaB L=>?_
 .intro J X;refine⟨?_,X⟩;rw[p];split
  .rfl
  .rename_i r;rw[Y3.1 r]
 rw[bf,am];refine⟨λr=>?_,λr=>L _ ?_⟩
 .obtain⟨B,hm⟩:=oz (λh=>h r);rw[cJ (cs:=#[.func (.func oX) #[] #[],.func (.func oW) #[] #[]]) Ψ];have M:=iz (v:=a.v.toNat) H U;refine(Gr (t:=t) (F1:=oX) (F2:=oW) (tup:=λg=>dR n.k g a.c) (un:=λg=>dQ n.k g a.c) (h.ext z) (C.ext z) E G af S hu U ae (λtl ad=>?_) ⟨oB M ⟨B.1,hm⟩,λ{w A s t}I=>vK I M B (.inr hm)⟩).mono ?_
  .have N:=oD (t:=tl) H T;exact⟨oC N B.1,λ{w A s t}I=>sV I N B⟩
  .rintro _ ah _ Y;refine L _ ?_;rw[p,if_neg (λh=>h r)];exact Y.before z
 .rw[p,if_pos r];exact eJ.same h C E G z
end
end Go.Proofs.YtikkpokkcdocoabGreatDoor
