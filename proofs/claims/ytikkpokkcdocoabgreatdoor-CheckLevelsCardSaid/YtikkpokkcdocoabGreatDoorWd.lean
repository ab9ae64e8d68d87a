/- own texts, made small by a tool (wip/ holds them as they were written): no statement of the seat. -/
import Derived.Test.YtikkpokkcdocoabGreatDoorWc
set_option linter.defProp false
set_option linter.unusedVariables false
set_option linter.unusedSimpArgs false
set_option linter.unnecessarySimpa false
open Array renaming getElem?_eq_some_iff→j4
open BitVec renaming ofInt→T0
open Bool renaming not_true→Y7,not_false→W3,and_eq_true→V5,eq_iff_iff→U1,true_and→U8,or_eq_false_iff→S8
open Decidable renaming not_not→Z9
open Go renaming Value→x1,World→x3,TypeId→p9,IntKind→o7,Program→W8
open Go.Builtin renaming append_→Z0,len_→V0
open Go.Instr renaming loadAt→u5,fieldAt→u6,storeAt→o8,indexAt→j9,extract→Y0,buildSlice→Y5,sliceAt→V9,alloc→Q1
open Go.IntKind renaming i64→X6
open Go.Proofs.Tryz renaming prog→x7
open Int renaming toNat_natCast→u7
open List renaming getElem?_eq_some_iff→x4,mem_of_getElem?→x5,getElem?_eq_getElem→x6,getElem?_map→x8,getD_eq_getElem?_getD→u4,take_add_one→u9,length_map→r8,length_append→r9,replicate→p8,mem_append→o5,take_length→o6,mem_singleton→o9,length_take→l9,mem_map→j5,eq_nil_of_length_eq_zero→j6,getElem?_set_self→c8,length_set→c9,length_cons→b6,take_of_length_le→b8,getElem?_eq_none→Z2,map_append→Z4,getElem?_take_of_lt→Z7,range→Y1,ext_getElem?→Y4,getElem?_append_left→Y6,getElem?_append_right→Y8,getElem?_set→X0,mem_iff_getElem?→X3,drop_eq_getElem_cons→X4,flatMap_cons→X8,mem_or_eq_of_mem_set→W0,append_nil→W6,length_eq_one_iff→W9,append_assoc→V1,map_set→U5,map_cons→U7,length_singleton→T2,mem_filter→T4,set_append_right→T7,mem_range→T8,mem_of_mem_take→T9,map_map→S1,getElem_mem→S3,length→S5,foldl_append→S6,mem_flatMap→R2,length_filter_le→R5
open Nat renaming le_refl→o4,le_trans→Y9,zero_le→X5,mul_le_mul_right→X9,mul_one→U2,add_mul→U3,sub_self→U4,pow_le_pow_right→S2,add_assoc→R4,add_sub_cancel_left→R6,eq_zero_or_pos→Q3
open Option renaming toList_some→n9,some→c7,isNone_some→Z5,map_some→Z6,map_eq_some_iff→X1,getD_some→V4,map→V7,isSome_some→T6,isSome_none→R3
open Option.some renaming inj→b9,injEq→Y3
open Prod renaming mk→Q4
open Prod.mk renaming injEq→T1
set_option maxHeartbeats 16000000
open Option renaming some→σ,none→ν
variable{V aa w w':x3}{B N af gT gs gz j:Nat}{a e:p9}{aj all cs l pl sizes t tl:Λ}{c k n y:Int}{aM sv szv v z:x1}{K:x1->Prop}{S:Nat->Prop}
namespace Go.Proofs.YtikkpokkcdocoabGreatDoor
open Go Go.Vc Go.RowKit Go.Proofs Go.Proofs.Tryz
set_option maxRecDepth 100000
def aD.xh(t:aD)(i:Nat)(x:Int):(t.set i x).marks=t.marks:=by
 unfold aD.set;cases t.cells[i]? with
 |none=>rfl
 |some c=>
  simp only;cases t.marks.getLast? with
  |none=>rfl
  |some m=>simp only;split<;>rfl
def aD.DH(t:aD)(i:Nat)(x:Int):(t.set i x).iB=t.iB:=by
 unfold aD.set;cases t.cells[i]? with
 |none=>rfl
 |some c=>
  simp only;cases t.marks.getLast? with
  |none=>rfl
  |some m=>simp only;split<;>rfl
def aD.DI(t:aD)(i:Nat)(x:Int):(t.set i x).cells.length=t.cells.length:=by
 have h:=congrArg S5 (aD.qN (t:=t) (i:=i) (x:=x));rw[c9]at h;unfold aD.bY at h;rwa [r8,r8]at h
def aD.DJ(t:aD)(i:Nat)(x:Int):(t.set i x).olds.length<=t.olds.length+1:=by
 unfold aD.set;cases t.cells[i]? with
 |none=>exact Nat.le_succ _
 |some c=>
  simp only;cases t.marks.getLast? with
  |none=>exact Nat.le_succ _
  |some m=>simp only;split<;>simp
def aD.xi{t:aD}(h:t.marks=[])(i:Nat)(x:Int):(t.set i x).olds=t.olds:=by
 unfold aD.set;cases t.cells[i]? with
 |none=>rfl
 |some c=>simp only[h,List.getLast?_nil]
def fZ(t:aD)(l:Λ):Nat->aD
 |0=>t.grow l.length
 |i+1=>(fZ t l i).set (t.cells.length+i) (l.getD i 0)
def nl(t:aD)(l:Λ):aD:=fZ t l l.length
theorem rG(t:aD)(l:Λ):∀i,(fZ t l i).marks=t.marks
 |0=>rfl
 |i+1=>(aD.xh _ _ _).trans (rG t l i)
theorem DK(t:aD)(l:Λ):∀i,(fZ t l i).iB=t.iB
 |0=>rfl
 |i+1=>(aD.DH _ _ _).trans (DK t l i)
theorem xj(t:aD)(l:Λ):∀i,(fZ t l i).cells.length=t.cells.length+l.length
 |0=>by simp[fZ,aD.grow]
 |i+1=>(aD.DI _ _ _).trans (xj t l i)
theorem xk(t:aD)(l:Λ):∀i,(fZ t l i).olds.length<=t.olds.length+i
 |0=>o4 _
 |i+1=>by have:=aD.DJ (fZ t l i) (t.cells.length+i) (l.getD i 0);have:=xk t l i;show(aD.set _ _ _).olds.length<=_;omega
theorem DL{t:aD}(h:t.marks=[])(l:Λ):∀i,(fZ t l i).olds=t.olds
 |0=>rfl
 |i+1=>(aD.xi ((rG t l i).trans h) _ _).trans (DL h l i)
theorem DM(t:aD)(l:Λ):∀i,i<=l.length->(fZ t l i).bY=t.bY++(l.take i++p8 (l.length-i) 0)
 |0,_=>by rw[List.take_zero,List.nil_append];exact aD.Kw
 |i+1,h=>by
  have a:=DM t l i Ω;show(aD.set _ _ _).bY=_;have e:t.bY.length=t.cells.length:=by simp[aD.bY]
  rw[aD.qN,a,T7 _ _ Ω,e,R6,T7 _ _ (by rw[l9];omega),l9,Nat.min_eq_left Ω,U4,show l.length-i=(l.length-(i+1))+1 by omega,List.replicate_succ,List.set_cons_zero,u9,u4,x6 (show i<l.length by omega)];simp only[n9,V4,V1,List.singleton_append]
def DN(t:aD)(l:Λ):(nl t l).bY=t.bY++l:=by
 unfold nl;rw[DM t l _ (o4 _),o6,U4,List.replicate_zero,W6]
theorem hM.fZ{h:List aD}{t:aD}(hk:hM t h)(l:Λ):∀i,hM (fZ t l i) h
 |0=>hk.grow
 |i+1=>(hM.fZ hk l i).set
def ly{s:Go.Sem x1}{x:x1}(h:ac x7 s w (λv=>v=x)):cD x7 s x w:=by
 obtain⟨v,h,rfl⟩:=h;exact h
def uh{off:Nat}{z:Nat}{cs:List x1}{x:x1}(f:ag w af e cs)(h:∀(K:x1->Prop),ac x7 (u6 cI (Γ af) z) w K=K (.pointer (σ ⟨af,0+off,ν⟩)))(p:jZ x7 a=true)(q:cs[0+off]?=σ x):
  cD x7 (u5 a (.pointer (σ ⟨af,0+off,ν⟩))) x w/\cD x7 (u6 cI (Γ af) z) (.pointer (σ ⟨af,0+off,ν⟩)) w/\cD x7 (bQ (Γ af)) (Γ af) w/\True:=
 ⟨s8 p (f.cell q),ly (by rw[h]),ly (by rw[bZ]),trivial⟩
def DO(w:x3)(r:Nat):Prop:=∃e c,ag w r e c/\(e=fM\/e=eL\/e=lg\/e=gD\/e=cI\/e=fo\/e=vN)
def ew(w:x3)(r:Nat):Prop:=DO w r\/∀o,w.heap[r]?=σ o->fH o≠true
def nn{r:Nat}(hk:∀o,w.heap[r]?=σ o->fH o=true->¬ew w r->V.heap[r]?=σ o)(h:ew V r):ew w r:=by
 by_cases a:ew w r
 .exact a
 .refine absurd (.inr λo p U=>?_) a;have h1:=hk o p U a;rcases h with⟨e,c,f,he⟩|q
  .refine a (.inl ⟨e,c,?_,he⟩);unfold ag at f ⊢;rw[h1]at f;rw[p];exact f
  .exact q o h1 U
def kf(J:Ext w V)(a:ai (ew V) V aa):ai (ew w) w aa:=(J.ab _).trans (a.mono λr _ h=>nn (λo e U _=>J.a6 r o e U) h)
def xl(h:ai (ew w) w V)(a:ai (ew V) V aa):ai (ew w) w aa:=h.trans (a.mono λr _ e=>nn (λo f U p=>h.a6 r o f U p) e)
def dz.min{A:ak}{t:aD}(h:dz w gT A t):dz w gT (λr=>A r/\DO w r) t:=by
 have⟨s,x,go,dm,a7,y,dG,h1,f,p,q,z⟩:=h;refine⟨⟨s,_,_,h1,.inl T⟩,x,go,dm,a7,y,dG,h1,f,p,q,λr a=>⟨z r a,?_⟩⟩;rcases a with a|a|a
 .obtain⟨rfl,c,e⟩:=dW f a;exact⟨_,c,e,.inr (.inl T)⟩
 .obtain⟨rfl,c,e⟩:=dW p a;exact⟨_,c,e,.inr (.inr (.inl T))⟩
 .obtain⟨rfl,c,e⟩:=dW q a;exact⟨_,c,e,.inr (.inr (.inr (.inl T)))⟩
def eS.xm{p:Nat}{q x y:x1}{A R:ak}{n:aG}{s:ap}{t:aD}(h:eS w af gT p q x y A R n s t):∃a,dz w gT a t/\∀z w' bt,Grow a w z w'->dz w' gT z bt->ai (ew w) w w'/\∃aR,Grow A w aR w'/\eS w' af gT p q x y aR R n s bt:=by
 have⟨a,B,C⟩:=h.rF;refine⟨_,B.min,λE V bt e F=>⟨e.1.mono λr _ h=>.inl h.2,?_⟩⟩;exact C (λr=>a r\/E r) V _ ⟨e.1.mono λr _ h=>h.1,λr f=>f.elim .inl λh=>(e.2.1 r h).imp (λh=>h.1) id,λr f=>.inl f⟩ (F.mono λr h=>.inr h)
def DP{z:Nat}{B C G:x1}{A R:ak}{n:aG}{s:ap}{t:aD}{dn:x1}(h:eS w af gT z B C G A R n s t)(H:aI .i64 w dn l)(Q:∀r,leads dn r->¬A r)(aF:t.cells.length+l.length<=100000000)(aJ:t.olds.length+l.length<=100000000)(hm:t.marks.length<=100000000):
  am x7 zZ [Γ af,dn] w λv w'=>v=Δ (t.cells.length:Int)/\ai (ew w) w w'/\∃aR,Grow A w aR w'/\eS w' af gT z B C G aR R n s (nl t l):=by
 apply az func127;have⟨_,a1,S,ge,L,E,_,w0,I,_⟩:=id h;have⟨U,K,M⟩:=h.xm;rw[aT cI.p 1 I T,aW ay.u H];apply(OL (n:=l.length) K ⟨Ω,Ω,hm⟩ Ω).mono;rintro _ V _ ⟨rfl,W,X,Y⟩;have⟨Z,ab,O,ac⟩:=M W V _ X Y;have P:∀{aR:ak}{w':x3},Grow A w aR w'->aI .i64 w' dn l:=λae=>ia H ae.1 λr ag a ah c ad aj=>Q r ⟨a,ah,c,ad,aj⟩ ag;rw[aW ay.u (P O)];have an:=H.le;refine cp.range l.length (λi aa=>ai (ew w) w aa/\∃f,Grow A w f aa/\eS aa af gT z B C G f R n s (fZ t l i)) an ⟨Z,ab,O,ac⟩ ?_ ?_
 .rintro i aa k hi ⟨N,f,q,y⟩ hk;apply bz Ω;have⟨x,J⟩:=aH (l:=l) hi;rw[bc ay.u aq.i Ψ (P q) J];have⟨_,a1,S,ge,L,E,_,w0,I,_⟩:=id y;have⟨U,K,M⟩:=y.xm;have:=xj t l i;have:=xk t l i;have ao:=rG t l i;rw[aT cI.p 1 I T,aN,wrap_i64 Ω Ω];refine(ue (i:=t.cells.length+i) K Ω Ω ⟨Ω,Ω,by rw[ao];exact hm⟩).mono ?_;rintro _ au _ ⟨rfl,av,aw,ax⟩;have⟨aA,aB,aC,aE⟩:=M av au _ aw ax;rw[aN];refine hk _ ⟨xl N aA,aB,q.trans aC,?_⟩;have e:fZ t l (i+1)=(fZ t l i).set (t.cells.length+i) x:=by
   show(fZ t l i).set _ (l.getD i 0)=_;rw[u4,J];rfl
  rw[e];exact aE
 .rintro aa k ⟨N,f,q,y⟩;rw[aP,al];exact⟨λh=>Ω,λ_=>⟨T,N,f,q,y⟩⟩
def ji(s:ap)(sc aj cs:Λ):ap:={s with funs:=s.funs++[⟨sc,aj,1,cs⟩]}
def oG(s:ap)(t:aD)(cs:Λ):aD:=(nl t (1::cs)).set 1 ((s.funs.length+1:Nat):Int)
def OZ{s:ap}{t:aD}{sc:Λ}(h:t.bY=s.cells):(oG s t cs).bY=(ji s sc aj cs).cells:=by
 unfold oG ji;rw[aD.qN,DN,h,<-OQ];rfl
def O0{bh:Nat}{bi aQ bj:x1}{A R:ak}{n:aG}{s:ap}{t:aD}{aK:x1}{sc:Λ}{g bR:Nat}{S:x1}(h:eS w af gT bh bi aQ bj A R n s t)(ad:t.bY=s.cells)(ck:aI .i64 w aK sc)(ds:∀r,leads aK r->¬A r)(bk:dk w g bR S aj k cs)(bT:¬A g/\¬A bR/\∀r,leads S r->¬A r)(dt:sc.length<=1000)(aZ:t.cells.length+cs.length+1<=100000000)(bl:t.olds.length+cs.length+1<=100000000)(hm:t.marks.length<=100000000)(ae:s.funs.length<=1000000):
  am x7 Ia [Γ af,aK,Γ g] w λv w'=>v=Δ (s.funs.length:Int)/\ai (ew w) w w'/\∃aR R' bz,Grow A w aR w'/\eS w' af gT bh bi bz bj aR R' n (ji s sc aj cs) (oG s t cs)/\(∀r,R r->R' r)/\∀r,R' r->R r\/leads S r\/w.heap.size<=r:=by
 have du:t.cells.length=s.cells.length:=by rw[<-ad];simp[aD.bY]
 have dv:=rA s;have cl:eZ (ji s sc aj cs) s.funs.length=t.cells.length:=by
  unfold eZ ji;simp only[List.take_left];omega
 have cm:∀j,j<s.funs.length->eZ (ji s sc aj cs) j=eZ s j:=λj bA=>by
  unfold eZ ji;simp only[List.take_append_of_le_length (show j<=s.funs.length by omega)]
 have cn:iM (ji s sc aj cs)=iM s:=rfl;apply az func129;refine dc (λV=>ai (ew w) w V/\∃aR R' bz,Grow A w aR V/\eS V af gT bh bi bz bj aR R' n (ji s sc aj cs) (nl t (1::cs))/\(∀r,R r->R' r)/\∀r,R' r->R r\/leads S r\/w.heap.size<=r) ?_ ?_
 .rintro V ⟨cp,dw,cq,cr,ct,cu,cw,cz⟩;intro aa bB _ _;have bU:=cu.ext bB;have⟨_,a1,bC,ge,L,E,_,w0,au,_,_,_,⟨ba,bm⟩,_⟩:=id bU;have bn:L.length=s.funs.length+1:=by rw[bm.1];simp[ji]
  rw[aT cI.p 1 au T,aT cI.p 3 au T,eF fK.u ba];have⟨bV,cA,cB⟩:=bU.xm;have cC:=xj t (1::cs) (1::cs).length;have cE:=xk t (1::cs) (1::cs).length;have cF:=rG t (1::cs) (1::cs).length;simp only[b6]at cC cE;refine(ue (i:=1) (y:=1) cA T (by show 1<(fZ _ _ _).cells.length;simp only[b6];omega) ⟨by show(fZ _ _ _).cells.length<=_;simp only[b6];omega,by show(fZ _ _ _).olds.length<=_;simp only[b6];omega,by show(fZ _ _ _).marks.length<=_;rw[cF];exact hm⟩).mono ?_;rintro _ cG _ ⟨rfl,cH,cJ,cK⟩;have⟨cL,cM,cN,bW⟩:=cB cH cG _ cJ cK;have⟨_,a1,bC,ge,cO,E,_,w0,au,_,_,_,⟨ba,cQ⟩,_⟩:=id bW;have dx:cO.length=s.funs.length+1:=by rw[cQ.1];simp[ji]
  rw[aT cI.p 3 au T,eF fK.u ba,dN,wrap_i64 Ω Ω];refine⟨by congr 1;omega,xl cp (kf bB cL),cM,cq,cr,ct.trans ((Grow.ext bB).trans cN),?_,cw,cz⟩;have e:oG s t cs=(nl t (1::cs)).set 1 (L.length:Int):=by unfold oG;rw[bn]
  rw[e];exact bW
 intro aA cR;intro aM aS _ _;have bX:=h.ext aS;have⟨_,a1,bC,ge,L,E,_,w0,au,_⟩:=id bX;rw[aT cI.p 3 au T];have z4:=aS.size;have bo:∀{G:x3}{Z W:x1}{a2 al:Nat},Ext aM G->w.heap.size<=a2->w.heap.size<=al->av .i64 ah G a2 Z sc->av .i64 aq G al W (1::cs)->(∀r,leads Z r\/leads W r->¬A r)->
   am x7 zZ [Γ af,W] G λcS aw=>
    (Ext aM aw\/cD x7 (u5 fK (.pointer (σ ⟨af,0+3,ν⟩))) aQ aw/\cD x7 (u6 cI (Γ af) 3) (.pointer (σ ⟨af,0+3,ν⟩)) aw/\cD x7 (bQ (Γ af)) (Γ af) aw/\True)/\
    ac x7 (Instr.build fo #[(0,Z),(1,.agg #[S]),(2,cS)]) aw λt22=>
    aE x7 (Y5 fK 1 #[(0,t22)]) aw λcT ax=>
     (Ext aM ax\/cD x7 (u5 fK (.pointer (σ ⟨af,0+3,ν⟩))) aQ ax/\cD x7 (u6 cI (Γ af) 3) (.pointer (σ ⟨af,0+3,ν⟩)) ax/\cD x7 (bQ (Γ af)) (Γ af) ax/\True)/\
    aE x7 (Z0 #[fK,fK] fK #[aQ,cT]) ax λcU bp=>
     ac x7 (bQ (Γ af)) bp λt25=>
     ac x7 (u6 cI t25 3) bp λcV=>
     aE x7 (o8 fK cV cU) bp λ(_:Unit)aV=>
      aA aV:=by
  intro G Z W a2 al H b0 X I N bD;have cW:=bX.ext H;refine(DP cW N.ls (λr B=>bD r (.inr B)) (by simp only[b6];omega) (by simp only[b6];omega) hm).mono ?_;rintro _ aw _ ⟨rfl,cX,bb,a6,cZ⟩;have⟨⟨b1,b2,c0,b3⟩,a1,bC,ge,L,E,bV,w0,au,⟨c1,c2,b4⟩,⟨c3,b5,b7,aN⟩,bE,⟨ba,bm⟩,bF,c4⟩:=id cZ;have aJ:av .i64 ah aw a2 Z sc:=bw I a6.1 λr B=>bD r (.inl B);have br:av .i64 ah G (Classical.choose (show∃gs,av .i64 ah w gs S aj from by have⟨⟨_,gs,_,q,_⟩,_⟩:=bk;exact⟨gs,q⟩)) S aj:=((Classical.choose_spec (show∃gs,av .i64 ah w gs S aj from by have⟨⟨_,gs,_,q,_⟩,_⟩:=bk;exact⟨gs,q⟩)).ext aS).ext H;have c5:=bw br a6.1 bT.2.2;refine⟨.inr (uh (off:=3) (z:=3) au (λK=>by rw[aU cI.p T]) Ψ T),?_⟩;rw[cY (cs:=#[Z,S,Δ (t.cells.length:Int)]) (by obtain⟨_,_,_,rfl⟩:=da I.ls;obtain⟨_,_,_,rfl⟩:=da br.ls;kernel_rfl)];let a:pX:=⟨Z,S,t.cells.length⟩;have c6:∀u∈oE a,u.oneCell'=true:=by
   intro u hu;simp[oE]at hu;rcases hu with rfl|rfl|rfl
   .exact I.ls.cells.2
   .exact br.ls.cells.2
   .rfl
  refine hU (f:=oE) (a:=a) fK.u fo.i Ω T rfl λdy dz ax dA M c7=>?_;refine⟨.inr (uh (off:=3) (z:=3) (au.ext M) (λK=>by rw[aU cI.p T]) Ψ T),?_⟩;have bc:=ba.ext M;have bn:L.length=s.funs.length:=bm.1;refine iG (f:=oE) (a:=a) fK.u fo.i T bc (by simpa using c7.sl) c6 Ω Ω λb8 c8 bp bd c9 b9=>?_;have be:=au.ext M;have ca:=be.ab b9 λhe=>cP bc be Φ he;rw[bZ,aU cI.p T];refine bq fK.i (eR bd.sl).1 (eR bd.sl).2 ca Ξ λaV bG dC bH=>?_;have bH:ag aV af cI [Γ bh,Γ gT,bi,b8,bj]:=bH;have aB:ai (λr=>leadsTo aQ r\/r=af) ax aV:=(b9.mono λr _ h=>.inl h).trans (bG.mono λr _ h=>.inr h);have z9:=H.size;have dD:=a6.1.size;have dE:=M.size;have dF:=aB.size;have bI:∀r,(leadsTo aQ r\/r=af)->bb r:=λr B=>B.elim (λB=>(aN r (.inr (.inl B))).1) λB=>B▸b1;have bJ:∀r,(leadsTo aQ r\/r=af)->¬R r:=λr B=>b2 r (bI r B);have db:ai (ew w) w aV:=xl (kf (aS.trans H) cX) (kf M (aB.mono λr _ B=>by
   rcases B with B|rfl
   .obtain⟨_,c,aZ⟩:=dW bc B;exact .inl ⟨_,c,‹r=_› ▸aZ,Φ⟩
   .exact .inl ⟨_,_,be,Φ⟩))
  let dd:ak:=λr=>bb r\/(ax.heap.size<=r/\r<aV.heap.size);let bK:ak:=λr=>R r\/(leads S r/\r<aw.heap.size)\/(leads Z r/\r<aw.heap.size);have dG:∀r,r<w.heap.size->bb r->A r:=λr B h=>(a6.2.1 r h).elim id λh=>Ω
  have bL:∀r,leads Z r->w.heap.size<=r/\r<G.heap.size:=λr B=>by have⟨h1,a7⟩:=bS I B;omega
  have cb:∀r,leads S r->r<G.heap.size:=λr B=>by have⟨h1,a7⟩:=bS br B;omega
  have bt:∀r,leads Z r\/leads S r->¬bb r:=λr B de=>by
   rcases a6.2.1 r de with h|h
   .rcases B with B|B
    .exact bD r (.inl B) h
    .exact bT.2.2 r B h
   .rcases B with B|B
    .have:=bL r B;omega
    .have:=cb r B;omega
  refine cR _ ⟨db,dd,bK,b8,(Grow.ext (aS.trans H)).trans (a6.trans ((Grow.ext M).trans ⟨aB.mono λr _ B=>bI r B,λr B=>B.imp id And.left,λr B=>.inl B⟩)),?_,λr B=>.inl B,λr B=>?_⟩
  rotate_left
  .rcases B with B|B|B
   .exact .inl B
   .exact .inr (.inl B.1)
   .exact .inr (.inr (bL r B.1).1)
  have cc:∀{v:x1}{bf:Nat}{l:Λ},av .i64 ah ax bf v l->(∀r,leads v r->¬bb r)->av .i64 ah aV bf v l:=λhm df=>bw hm aB λr B U=>df r B (bI r U);have cd:∀r,bK r->r<ax.heap.size:=λr B=>by
   rcases B with B|B|B
   .have:=c0 r B;omega
   .omega
   .omega
  refine⟨⟨.inl b1,λr B aO=>?_,λr B=>by have:=cd r B;omega,λr B=>B.elim (λB=>by have:=b3 r B;omega) And.right⟩,a1,c8,ge,L++[a],E,bV,w0,bH,⟨c1,uf (c2.trans M) aB λr o B bl U=>bJ r U (b4 r o B bl),λr o B bl=>.inl (b4 r o B bl)⟩,⟨(c3.ext M).ab aB λr B U=>?_,λr B=>.inl (b5 r B),b7,λr B=>?_⟩,?_,⟨bd.ab bG λr B he=>?_,?_⟩,(bF.ext M).ab aB λr B U=>?_,?_⟩
  .have:=cd r aO;rcases B with B|B
   .rcases aO with aO|aO|aO
    .exact b2 r B aO
    .exact bt r (.inr aO.1) B
    .exact bt r (.inl aO.1) B
   .omega
  .rcases U with U|rfl
   .exact (aN r (.inr (.inl U))).2 B
   .exact b7 B
  .rcases B with B|B|B
   .exact⟨.inl (aN r (.inl B)).1,(aN r (.inl B)).2⟩
   .obtain⟨h1,a7⟩:=bd.leads B;rcases c9 r B with h|h
    .exact⟨.inl (aN r (.inr (.inl h))).1,(aN r (.inr (.inl h))).2⟩
    .refine⟨.inr ⟨h,by have:=bG.size;omega⟩,λdg=>?_⟩;have:=b3 r (b5 r dg);omega
   .exact⟨.inl (aN r (.inr (.inr B))).1,(aN r (.inr (.inr B))).2⟩
  .rw[cn];exact bw (bE.ext M) aB λr B U=>by
    rcases U with U|rfl
    .obtain⟨rfl,c,aZ⟩:=dW bc U;exact ch (bE.ext M) aZ Φ B T
    .exact ch (bE.ext M) be Φ B T
  .have he:r=af:=he;subst he;exact cP bd ca Φ B
  .refine⟨by rw[r9,bn];simp[ji],λj x f J aW=>?_⟩;have aW:(s.funs++[⟨sc,aj,1,cs⟩])[j]?=σ f:=aW;by_cases bA:j<s.funs.length
   .rw[Y6 Ω]at J;rw[Y6 bA]at aW;have⟨dh,di,dj⟩:=((((lF.ab bm (M.ab λ_=>False) λ_ _ _ h=>h).ab aB λr _ B U=>bJ r U B).mono (R':=bK) λr B=>.inl B)).2 j x f J aW;exact⟨dh,di,by rw[cm j bA];exact dj⟩
   .have bM:j=s.funs.length:=by have:=(x4.1 aW).1;simp at this;omega
    rw[Y8 Ω,bn,bM,U4]at J;rw[Y8 Ω,bM,U4]at aW;cases J;cases aW;refine⟨⟨⟨_,cc (aJ.ext M) λr B=>bt r (.inl B)⟩,λr B=>.inr (.inr ⟨B,?_⟩)⟩,⟨⟨_,cc (c5.ext M) λr B=>bt r (.inr B)⟩,λr B=>.inr (.inl ⟨B,?_⟩)⟩,?_⟩
    .have:=bL r B;omega
    .have:=cb r B;omega
    .rw[bM,cl]
  .rcases U with U|rfl
   .obtain⟨rfl,c,aZ⟩:=dW bc U;exact cP (bF.ext M) aZ Φ B
   .exact cP (bF.ext M) be Φ B
  .exact ((mv.ab c4 (M.ab λ_=>False) λ_ _ _ h=>h).ab aB λr _ B U=>bJ r U B).mono λr B=>.inl B
 have a8:=bk.ext aS;have ce:=ck.ext aS;have dl:∀r,A r->r<w.heap.size:=h.1.2.2.2;have⟨_,⟨_,_,dH⟩,dI,dJ⟩:=id bk;have dK:cs.length<=4096:=Ω
 have bu:∀{aC:x3}{aX aY:x1}{Y:Nat}{K:x1->x3->Prop},Ext aM aC->aM.heap.size<=Y->av .i64 aq aC Y aX [1]->aI .i64 aC aY cs->
   (∀W al G,Ext aM G->ai (λr=>r=Y) aC G->w.heap.size<=al->av .i64 aq G al W (1::cs)->(Ext aM G->K W G))->aE x7 (Z0 #[ay,ay] ay #[aX,aY]) aC K:=by
  intro aC aX aY Y K C bx aF aL dm;refine jA ay.u aq.i T aF aL Θ Θ λW al G X N aH=>?_;have H:Ext aM G:=C.put aH Ω;have dn:=C.size;exact dm W al G H aH Ω N H
 have aP:∀{v:x1}{bf:Nat}{dp:o7}{e:p9}{dq:x3}{l:Λ},av dp e dq bf v l->w.heap.size<=bf->∀r,leads v r->¬A r:=λhm dL r B dr=>by
  have⟨h1,_⟩:=bS hm B;have:=dl r dr;omega
 refine⟨?_,?_⟩
 .refine (kH ce Ω).mono ?_;rintro Z cg _ ⟨O,a2,b0,I⟩;have z5:=O.size;refine⟨.inl O,?_,?_⟩
  .refine (pI (a8.ext O)).mono ?_;rintro _ ci _ ⟨rfl,P⟩;have an:=O.trans P;have dM:=an.size;have dO:=P.size;have cj:=(a8.ext O).ext P;refine⟨.inl an,?_,?_⟩
   .refine eD ay.u aq.i T λaX Y aC bx C aF=>?_;refine⟨.inl (an.trans C),?_⟩;apply(ng (cj.ext C)).mono;rintro aY bN _ ⟨Q,bO,bP,aL⟩;have ao:=(an.trans C).trans Q;refine⟨.inl ao,?_⟩;refine bu ao Ω (aF.ext Q) aL.ls λW al G H aH X N _=>⟨.inl H,?_⟩;have aJ:=bw (((I.ext P).ext C).ext Q) aH λr B he=>by have he:r=Y:=he;have⟨h1,a7⟩:=bS I B;omega
    exact bo H Ω X aJ N λr B=>B.elim (aP I Ω r) (aP N X r)
   .refine (ng cj).mono ?_;rintro aY aC _ ⟨C,bO,bP,aL⟩;refine⟨.inl (an.trans C),?_⟩;have dn:=C.size;refine eD ay.u aq.i T λaX Y bN bx Q aF=>?_;have ao:=(an.trans C).trans Q;refine⟨.inl ao,?_⟩;refine bu ao Ω aF (aL.ls.ext Q) λW al G H aH X N _=>⟨.inl H,?_⟩;have aJ:=bw (((I.ext P).ext C).ext Q) aH λr B he=>by have he:r=Y:=he;have⟨h1,a7⟩:=bS I B;omega
    exact bo H Ω X aJ N λr B=>B.elim (aP I Ω r) (aP N X r)
  .refine eD ay.u aq.i T λaX Y ci bx P aF=>?_;have an:=O.trans P;refine⟨.inl an,?_⟩;apply(pI ((a8.ext O).ext P)).mono;rintro _ aC _ ⟨rfl,C⟩;have bg:=an.trans C;refine⟨.inl bg,?_⟩;apply(ng (((a8.ext O).ext P).ext C)).mono;rintro aY bN _ ⟨Q,bO,bP,aL⟩;have ao:=bg.trans Q;refine⟨.inl ao,?_⟩;refine bu ao Ω ((aF.ext C).ext Q) aL.ls λW al G H aH X N _=>⟨.inl H,?_⟩;have aJ:=bw (((I.ext P).ext C).ext Q) aH λr B he=>by have he:r=Y:=he;have⟨h1,a7⟩:=bS I B;omega
   exact bo H Ω X aJ N λr B=>B.elim (aP I Ω r) (aP N X r)
 .refine eD ay.u aq.i T λaX Y cg bx O aF=>?_;refine⟨.inl O,?_⟩;have z5:=O.size;have dP:Y<cg.heap.size:=tM aF Ξ;apply(kH (ce.ext O) Ω).mono;rintro Z ci _ ⟨P,a2,b0,I⟩;have an:=O.trans P;refine⟨.inl an,?_⟩;apply(pI ((a8.ext O).ext P)).mono;rintro _ aC _ ⟨rfl,C⟩;have bg:=an.trans C;refine⟨.inl bg,?_⟩;apply(ng (((a8.ext O).ext P).ext C)).mono;rintro aY bN _ ⟨Q,bO,bP,aL⟩;have ao:=bg.trans Q;refine⟨.inl ao,?_⟩;refine bu ao Ω (((aF.ext P).ext C).ext Q) aL.ls λW al G H aH X N _=>⟨.inl H,?_⟩;have aJ:=bw ((I.ext C).ext Q) aH λr B he=>by have he:r=Y:=he;have⟨h1,a7⟩:=bS I B;omega
  exact bo H Ω X aJ N λr B=>B.elim (aP I Ω r) (aP N X r)
def hY{P:W8}{t F:p9}{k:o7}{b g:Nat}{x:x1}{m:Λ}{K:x1->x3->Prop}(y:P.underlying t=σ (.slice e))(hi:aS P e 1 b z)(A:z.cells.size=1)(h:av k e w g v l)(J:aI k w x m)(B:(l.length+m.length)*b<=140737488355328)(C:l.length+m.length<=9223372036854775807)(E:∀a f w',av k e w' f a (l++m)->(∀r,leads a r->leads v r\/w.heap.size<=r)->ai (λr=>leads v r) w w'->K a w'):aE P (Z0 #[t,t] F #[v,x]) w K:=by
 rcases h.2 with⟨ad,G⟩|⟨cap,cs,ad,L,M⟩
 .have H:l=[]:=j6 G;subst H;have h':av k e w w.heap.size v []:=by rw[ad];exact av.nil _ _ _ _
  refine jA y hi A h' J B C λa f w' q hm s=>E a f w' hm (λr p=>.inr ?_) (s.mono λr p he=>by have he:r=w.heap.size:=he;omega);have⟨I,_⟩:=bS hm p;omega
 .refine jA y hi A h J B C λa f w' q hm s=>E a f w' hm (λr p=>?_) (s.mono λr p he=>⟨_,_,_,ad,he.symm⟩);have⟨I,_⟩:=bS hm p;rcases q with q|q
  .exact .inl ⟨_,_,_,ad,by show g=r;omega⟩
  .exact .inr Ω
def addVar(s:ap)(u:Λ):ap:={s with vars:=s.vars++[newVar u]}
def O1(s:ap)(u:Λ):iM (addVar s u)=iM s++[((3+(s.vars.flatMap hX).length:Nat):Int)]:=by
 unfold iM addVar;rw[r9,T2,List.range_succ,Z4];congr 1
 .apply List.map_congr_left;intro i hi;have:=T8.1 hi;unfold fY;simp only[List.take_append_of_le_length (show i<=s.vars.length by omega)]
 .simp[fY]
def O2{s:ap}{u:Λ}(ae:s.funs=[]):(addVar s u).cells=s.cells++(0::0::u):=by
 unfold ap.cells addVar jg;simp only[ae,List.flatMap_nil,W6,List.flatMap_append,List.flatMap_singleton,V1];rfl
def e0(n:aG)(i j:Nat):ap:=⟨n.zero,(n.unary.take i).map newVar,(n.funs.take j).map (kS n.sizes),[]⟩
def DQ{n:aG}{i:Nat}{u:Λ}(h:n.unary[i]?=σ u):e0 n (i+1) 0=addVar (e0 n i 0) u:=by
 unfold e0 addVar;simp only[u9,h,n9,Z4,List.map_singleton]
def O3{n:aG}{i:Nat}{g:cL}(h:n.funs[j]?=σ g):e0 n i (j+1)=ji (e0 n i j) g.1 (bX n.sizes g.1) g.2:=by
 unfold e0 ji;simp only[u9,h,n9,Z4,List.map_singleton];rfl
def xn(n:aG):e0 n n.unary.length n.funs.length=dh n:=by
 unfold e0 dh;rw[o6,o6]
theorem xo{α β:Type}{f:α->List β}{b:Nat}:∀{L:List α},(∀x∈L,(f x).length<=b)->(L.flatMap f).length<=L.length*b
 |[],_=>Ξ
 |x::L,h=>by
  rw[X8,r9,b6,U3];have:=xo (L:=L) λy a=>h y (.tail _ a);have:=h x (.head _);omega
def ui{n:aG}(a:kd n)(ae:n.funs.length<=256)(i j:Nat):(e0 n i j).cells.length<=2000000:=by
 rw[rA];have:=xo (f:=hX) (b:=34) (L:=(e0 n i j).vars) λx J=>by
  obtain⟨u,hu,rfl⟩:=j5.1 (show x∈(n.unary.take i).map newVar from J);have⟨p,h⟩:=X3.1 (T9 hu);have:=a.kR;have:=(x4.1 h).1;have⟨z,q⟩:=aH (l:=n.sizes) (i:=p) Ω;have s:=(a.unary p z u q h).1;have e:=a.sizes.2.2 z (x5 q);show u.length+2<=34;omega
 have s:=xo (f:=fy) (b:=4097) (L:=(e0 n i j).funs) λx J=>by
  obtain⟨g,w,rfl⟩:=j5.1 (show x∈(n.funs.take j).map (kS n.sizes)from J);have e:=(a.funs g (T9 w)).1;have r:=e.len;have y:=e.small;show g.2.length+1<=4097;omega
 have e:(e0 n i j).vars.length<=64:=by
  show((n.unary.take i).map newVar).length<=64;rw[r8,l9];have:=a.kR;have:=a.sizes.2.1;omega
 have r:(e0 n i j).funs.length<=256:=by
  show((n.funs.take j).map (kS n.sizes)).length<=256;rw[r8,l9];omega
 have y:=X9 34 e;have:=X9 4097 r;omega
def Plain(t:aD):Prop:=t.marks=[]/\t.olds=[]/\hM t []/\t.iB=0
def Plain.set{t:aD}(h:Plain t)(i:Nat)(x:Int):Plain (t.set i x):=⟨(aD.xh _ _ _).trans h.1,(aD.xi h.1 _ _).trans h.2.1,h.2.2.1.set,(aD.DH _ _ _).trans h.2.2.2⟩
def Plain.lay{t:aD}(h:Plain t)(l:Λ):Plain (nl t l):=⟨(rG _ _ _).trans h.1,(DL h.1 _ _).trans h.2.1,h.2.2.1.fZ l _,(DK _ _ _).trans h.2.2.2⟩
def Plain.put{s:ap}{t:aD}(h:Plain t)(cs:Λ):Plain (oG s t cs):=(h.lay _).set _ _
def O4(w:x3)(R0:ak)(n:aG)(v:x1)(w':x3):Prop:=Ext w w'/\∃af gT A R t,v=Γ af/\StateM w' af gT A R n (dh n) t/\t.bY=(dh n).cells/\Plain t/\(∀r,A r->w.heap.size<=r)/\∀r,R r->R0 r\/w.heap.size<=r
def O5{w0:x3}{R0:ak}{n:aG}(aO:gp w0 B n)(aw:Ext w0 w)(bh:∀r o,w0.heap[r]?=σ o->fH o=true->R0 r)(aP:∀r,R0 r->r<w.heap.size)(C:kd n)(ae:n.funs.length<=256):am x7 zQ [Γ B] w (O4 w R0 n):=by
 have h:=aO.ext aw;have bU:=C.kR;have:=C.sizes.2.1;apply az func58;rw[di mS.u];simp only[Z5,a8];apply(OM (n:=3) Ω).mono;rintro _ V _ ⟨ax,gT,rfl,bV⟩;rw[cY (cs:=#[Γ B,Γ gT,.slice ν 0 0,.slice ν 0 0,.slice ν 0 0]) Ψ];refine bd λaf aa c1 Q S=>?_;have S:ag aa af cI [Γ B,Γ gT,.slice ν 0 0,.slice ν 0 0,.slice ν 0 0]:=S;have:=ax.size;have:=Q.size;have:=S.lt;have bW:eS aa af gT B (.slice ν 0 0) (.slice ν 0 0) (.slice ν 0 0) (λr=>r=af\/(w.heap.size<=r/\r<V.heap.size)) R0 n ⟨0,[],[],[]⟩ ⟨p8 3 ⟨0,0⟩,[],[],0⟩:=by
  refine⟨⟨.inl T,λr q N=>?_,λr q=>?_,λr q=>?_⟩,0,0,0,[],[],λr=>w.heap.size<=r/\r<V.heap.size,w0,S,⟨aO,aw.trans (ax.trans Q),bh⟩,⟨(bV.cut).ext Q,λr q=>.inr q,λq=>?_,λr q=>?_⟩,av.nil _ _ _ _,⟨bk.nil _ _ _ _ _,T,λj x f J=>by simp at J⟩,bk.nil _ _ _ _ _,T,λj x f J=>by simp at J⟩
  .have N:=aP r N;rcases q with q|q<;>omega
  .have q:=aP r q;omega
  .rcases q with q|q<;>omega
  .omega
  .rcases q with q|q|q
   .obtain⟨a,c5,c,aQ,c6⟩:=q;cases aQ
   .exact (e9 q).elim
   .exact (e9 q).elim
 intro c7 W _ _;have bX:=bW.ext W;rw[aT cI.p 1 (S.ext W) T];apply(OT (h.ext ((ax.trans Q).trans W))).mono;rintro _ c8 _ ⟨rfl,aA⟩;refine⟨.inl aA,?_⟩;have b0:=bX.ext aA;have⟨aS,b1,b2⟩:=b0.rF;apply(ue (i:=0) (y:=0) b1 T Φ ⟨Ξ,Ξ,Ξ⟩).mono;rintro _ bi _ ⟨_,b3,b5,b6⟩;have⟨b7,bj,aV⟩:=b2 b3 bi _ b5 b6;have aV:=aV.same (DF ⟨0,[],[],[]⟩ n.zero);have:=W.size;have:=aA.size;have b8:=((ax.trans Q).trans W).trans aA;have bl:Ext w bi:=b8.then bj.1 λr q he=>by rcases he with he|he<;>omega
 apply(xg (h.ext bl)).mono;rintro _ c9 _ ⟨rfl,bm⟩;refine cp.range n.sizes.length (λi aB=>∃A I t,Ext w aB/\eS aB af gT B I (.slice ν 0 0) (.slice ν 0 0) A R0 n (e0 n i 0) t/\t.bY=(e0 n i 0).cells/\Plain t/\∀r,A r->w.heap.size<=r) Ω
  ⟨b7,_,_,bl.trans bm,aV.ext bm,?_,?_,λr q=>?_⟩ ?_ ?_
 .rw[aD.qN];rfl
 .exact Plain.set (t:=⟨p8 3 ⟨0,0⟩,[],[],0⟩) ⟨T,T,⟨T,T,λc G=>by rw[(List.mem_replicate.1 G).2];exact o4 _,X5 _⟩,T⟩ _ _
 .rcases bj.2.1 r q with he|he
  .rcases he with he|he<;>omega
  .omega
 .rintro i aB b9 hi ⟨A,I,t,O,aW,X,Y,aC⟩ ca;have⟨u,hu⟩:=aH (l:=n.unary) (i:=i) Ω;have⟨bn,bo⟩:=aH (l:=n.sizes) (i:=i) Ω;have da:u.length<=32:=by
   have:=(C.unary i bn u bo hu).1;have:=C.sizes.2.2 bn (x5 bo);omega
  apply bz Ω;apply(DC (h.ext O) C).mono;rintro dd de _ ⟨cb,_,cc⟩;have⟨df,dg,cd⟩:=cc u Ω (by rw[u7];exact hu);intro aX bp _ _;have aY:=cb.trans bp;have br:=aW.ext aY;have⟨⟨_,_,_,Z⟩,a1,bt,ge,L,E,aS,w0,aE,_⟩:=id br;have:=aY.size;have:=O.size;rw[aT cI.p 2 aE T];refine oc (l:=[0,0]) ay.u aq.i Ω T Ψ λce dl dm dn aF bu=>?_;refine⟨.inl aF,?_⟩;refine hY ay.u aq.i T bu ((cd.ext bp).ls.ext aF) Θ Θ λcg dp ci cj ck cl=>?_;have bx:∀r,leads ce r->aX.heap.size<=r:=λr q=>by have⟨aQ,_⟩:=bS bu q;omega
  have aI:Ext aX ci:=aF.then cl λr q he=>by have:=bx r he;omega
  refine⟨.inl aI,?_⟩;have cm:=br.ext aI;have cn:∀r,leads cg r->aX.heap.size<=r:=λr q=>by
   rcases ck r q with h|h
   .exact bx r h
   .have:=aF.size;omega
  have cq:t.cells.length<=2000000:=by
   have h1:=ui C ae i 0;rw[<-X]at h1;unfold aD.bY at h1;rwa [r8]at h1
  have cr:t.olds.length=0:=by rw[Y.2.1];rfl
  have ct:t.marks.length=0:=by rw[Y.1];rfl
  refine(DP cm cj.ls (λr q s=>by have:=Z r s;have:=cn r q;omega) Θ Θ Ω).mono ?_;rintro _ dq _ ⟨rfl,_,aZ,a2,cu⟩;have⟨⟨bA,bB,cw,bC⟩,a1,bt,ge,L,E,aS,w0,aE,⟨cz,cA,bD⟩,⟨cB,bE,bF,aJ⟩,cC,⟨cD,cE⟩,cF,cG⟩:=id cu;refine⟨.inr (uh (off:=2) (z:=2) aE (λK=>by rw[aU cI.p T]) Ψ T),?_⟩;refine eD (k:=.i64) an.u ah.i T λdr ds bG dt H cH=>?_;have a6:=aE.ext H;refine⟨.inr (uh (off:=2) (z:=2) a6 (λK=>by rw[aU cI.p T]) Ψ T),?_⟩;have bH:(iM (e0 n i 0)).length=i:=by
   unfold iM e0;simp only[r8,List.length_range,l9];omega
  have bI:=cC.ext H;refine hY an.u ah.i T bI cH.ls (by rw[bH];simp;omega) (by rw[bH];simp;omega) λbJ cJ du ac cK bK=>?_;have bL:=a6.ab bK λhe=>ch bI a6 Φ he T;rw[bZ,aU cI.p T];refine bq an.i ac.ls.cells.1 ac.ls.cells.2 bL Ξ λa7 ba dv bb=>?_;have bb:ag a7 af cI [Γ B,Γ gT,bJ,.slice ν 0 0,.slice ν 0 0]:=bb;rw[aN];have G:ai (λr=>leads I r\/r=af) bG a7:=(bK.mono λr _ h=>.inl h).trans (ba.mono λr _ h=>.inr h);have:=aI.size;have:=a2.1.size;have:=H.size;have:=G.size;have bM:∀r,aZ r->w.heap.size<=r:=λr q=>(a2.2.1 r q).elim (aC r) λh=>Ω
  have bN:∀r,(leads I r\/r=af)->aZ r:=λr q=>q.elim (λq=>(aJ r (.inl q)).1) λq=>q▸bA;have cL:(e0 n (i+1) 0).cells=(e0 n i 0).cells++(0::0::u):=by rw[DQ hu];exact O2 T
  have cM:t.cells.length=3+((e0 n i 0).vars.flatMap hX).length:=by
   have h1:=congrArg S5 X;rw[rA]at h1;unfold aD.bY at h1;rw[r8]at h1;have:((e0 n i 0).funs.flatMap fy).length=0:=by simp[e0]
   omega
  refine ca _ ⟨λr=>aZ r\/(bG.heap.size<=r/\r<a7.heap.size),bJ,nl t ([0,0]++u),?_,⟨⟨.inl bA,λr q N=>?_,λr q=>by have:=cw r q;omega,λr q=>?_⟩,cJ,bt,ge,L,E,aS,w0,bb,⟨cz,uf (cA.trans H) G λr o q cN U=>bB r (bN r U) (bD r o q cN),bD⟩,⟨(cB.ext H).ab G λr q U=>?_,λr q=>.inl (bE r q),bF,λr q=>?_⟩,?_,⟨(cD.ext H).ab G λr q U=>?_,?_⟩,(cF.ext H).ab G λr q U=>?_,?_⟩,?_,Y.lay _,λr q=>?_⟩
  .exact ((O.trans (aY.trans aI)).then a2.1 λr q he=>by have:=aC r he;omega).trans H |>.then G λr q U=>by have:=bM r (bN r U);omega
  .rcases q with q|q
   .exact bB r q N
   .have N:=aP r N;omega
  .rcases q with q|q
   .have:=bC r q;omega
   .exact q.2
  .rcases U with U|rfl
   .exact (aJ r (.inl U)).2 q
   .exact bF q
  .rcases q with q|q|q
   .have dz:=(bS ac q);rcases cK r q with h|h
    .exact⟨.inl (aJ r (.inl h)).1,(aJ r (.inl h)).2⟩
    .refine⟨.inr ⟨h,by have:=ba.size;omega⟩,λcO=>by have:=bC r (bE r cO);omega⟩
   .exact (e9 q).elim
   .exact (e9 q).elim
  .rw[DQ hu,O1,<-cM];exact bw ac ba λr q he=>by
    have he:r=af:=he;subst he;exact ch ac bL Φ q T
  .exact (e9 q).elim
  .refine⟨cE.1,λj x f J bc=>?_⟩;have bc:((n.funs.take 0).map (kS n.sizes))[j]?=σ f:=bc;simp at bc
  .exact (e9 q).elim
  .refine⟨cG.1,λj x e J he=>?_⟩;have he:([]:List xe)[j]?=σ e:=he;simp at he
  .rw[DN,cL,X];rfl
  .rcases q with q|q
   .exact bM r q
   .omega
 .rintro aB b9 ⟨A,I,t,O,aW,X,Y,aC⟩;apply b4 Ω;apply(DB (h.ext O)).mono;rintro _ dA _ ⟨rfl,bO⟩;refine cp.range n.funs.length (λj ad=>∃A R aL t,Ext w ad/\eS ad af gT B I aL (.slice ν 0 0) A R n (e0 n n.sizes.length j) t/\t.bY=(e0 n n.sizes.length j).cells/\Plain t/\(∀r,A r->w.heap.size<=r)/\∀r,R r->R0 r\/w.heap.size<=r) Ω
   ⟨A,_,_,t,O.trans bO,aW.ext bO,X,Y,aC,λ_ h=>.inl h⟩ ?_ ?_
  .rintro j ad cP cQ ⟨A,R,aL,t,M,aj,P,al,ao,be⟩ cR;have⟨g,aM⟩:=aH (l:=n.funs) cQ;have bf:=(C.funs g (x5 aM)).1;apply bz Ω;apply(OU (h.ext M) C aM).mono;rintro aK dC _ ⟨ap,gs,dD,bP⟩;apply(OW aO (aw.trans (M.trans ap)) aM).mono;rintro _ dE _ ⟨au,gt,dF,cS,rfl,dG,dH,cT,bQ⟩;have:=aw.size;have cU:∀r,leads cS r->r<w.heap.size:=λr q=>by have⟨c,bg⟩:=bQ r q;have:=bg.lt;omega
   have cV:=(aj.ext ap).ext au;have Z:∀r,A r->r<ad.heap.size:=aj.1.2.2.2;have:=ap.size;have cq:t.cells.length<=2000000:=by
    have h1:=ui C ae n.sizes.length j;rw[<-P]at h1;unfold aD.bY at h1;rwa [r8]at h1
   have cr:t.olds.length=0:=by rw[al.2.1];rfl
   have ct:t.marks.length=0:=by rw[al.1];rfl
   have dJ:g.2.length<=4096:=by have:=bf.len;have:=bf.small;omega
   have dK:g.1.length<=6:=bf.scope.2;refine(O0 (sc:=g.1) cV P (bP.ls.ext au) (λr q s=>by have:=Z r s;have⟨aQ,_⟩:=bS bP q;omega) cT ⟨λs=>by have:=Z _ s;omega,λs=>by have:=Z _ s;omega,λr q s=>by have:=ao r s;have:=cU r q;omega⟩ Ω Ω Ω Ω ?_).mono ?_
   .show ((n.funs.take j).map (kS n.sizes)).length<=_;rw[r8,l9];omega
   rintro _ dL _ ⟨rfl,_,aR,R',cW,bR,cX,dM,cZ⟩;rw[aN];have bT:=O3 (i:=n.sizes.length) aM;refine cR _ ⟨aR,R',cW,oG (e0 n n.sizes.length j) t g.2,((M.trans ap).trans au).then bR.1 (λr q s=>by have:=ao r s;omega),?_,?_,al.put _,λr q=>?_,λr q=>?_⟩
   .rw[bT];exact cX
   .rw[bT];exact OZ P
   .rcases bR.2.1 r q with h|h
    .exact ao r h
    .have:=M.size;have:=au.size;omega
   .rcases cZ r q with h|h|h
    .exact be r h
    .exact .inl (by have⟨c,bg⟩:=bQ r h;exact bh r _ bg T)
    .exact .inr (by have:=M.size;have:=ap.size;have:=au.size;omega)
  .rintro ad cP ⟨A,R,aL,t,M,aj,P,al,ao,be⟩;apply b4 Ω;have e:e0 n n.sizes.length n.funs.length=dh n:=by rw[<-bU];exact xn n
   rw[e]at aj P;exact⟨M,af,gT,A,R,t,T,⟨B,I,aL,_,aj⟩,P,al,ao,be⟩
def O6(L:Bytes l)(U:l.length<=100000):am x7 IT [bL l] w λv w'=>v=kL l/\Ext w w':=by
 apply az func189;refine gQ (λad af V=>Ext w V/\∃(m:Λ)(s:Int),ad=bL m/\af=Δ s/\Bytes m/\m.length<=100000/\pE l m s) ?_ ?_
 .rintro _ _ V ⟨M,m,s,rfl,rfl,H,ax,I⟩;rw[od cQ.u,be,al];refine⟨λN=>?_,λN=>?_⟩
  .have O:m=[]:=j6 Ω;exact⟨by rw[ti I (by rw[O];rfl)],M⟩
  have O:m≠[]:=λh=>N (by rw[h];rfl);refine qs.range m.length (λi _ _ P Q f=>Ext V f/\∃(n:Int)(a:Bool),P= .int .u64 n/\Q= .bool a/\m8 n a ((m.take i).foldl e7 0)/\(m.take i).all gE=true) Ω ⟨Ext.refl _,0,false,T,T,Kt,T⟩ ?_ ?_
  .rintro i ag t3 _ _ f ah hi ⟨B,n,a,rfl,rfl,q,C⟩ ai;have⟨b,r⟩:=aH (l:=m) hi;have ay:=H b (x5 r);rw[od cQ.u];apply bz Ω;refine AZ (λ_ _ P Q p=>Ext V p/\∃(n:Int)(a:Bool),P= .int .u64 n/\Q= .bool a/\m8 n a ((m.take (i+1)).foldl e7 0)/\(m.take (i+1)).all gE=true) ?_ ?_
   .rintro aB aC a3 a4 p aj;rw[aN];exact ai _ _ _ _ _ aj
   intro aA z;refine aV (λv p=>f=p/\v= .bool (!gE b)) ?_ ?_
   rotate_left
   .intro R e;rw[qO T cQ.u H r,aP,al];refine⟨λh=>e _ _ ⟨T,by unfold gE;rw[decide_eq_false Ω];rfl⟩,λh=>?_⟩;rw[qO T cQ.u H r,bJ];refine e _ _ ⟨T,?_⟩;unfold gE;congr 1;by_cases W:57<b
    .rw[decide_eq_true W,decide_eq_false Ω];rfl
    .rw[decide_eq_false W,decide_eq_true Ω];rfl
   rintro _ _ ⟨rfl,rfl⟩;cases S:gE b with
   |false=>
    rw[W3,bV];exact⟨by rw[ti I (BN r S)],M.trans B⟩
   |true=>
    rw[Y7,a8];have ak:=of_decide_eq_true S;have K:=Ks q ak;rw[BL r,BK r,C,S]at z;have an:=q.1;have ao:=q.2.1;refine aV (λv p=>f=p/\v= .bool (a||decide (461168601842738790<n))) ?_ ?_
    rotate_left
    .intro R e;rw[bJ,al];refine⟨λh=>e _ _ ⟨T,by rw[decide_eq_true h,Bool.or_true]⟩,λh=>e _ _ ⟨T,by rw[decide_eq_false h,Bool.or_false]⟩⟩
    rintro _ _ ⟨rfl,rfl⟩;by_cases E:a=true\/461168601842738790<n
    .have ae:(a||decide (461168601842738790<n))=true:=by rcases E with h|h<;>simp[h]
     rw[if_pos E,ae]at K;rw[ae,bK,Y7,a8];exact z _ _ _ _ _ ⟨B,n,true,T,T,K,T⟩
    .have ae:(a||decide (461168601842738790<n))=false:=by
      cases a with
      |true=>exact absurd (.inl T) E
      |false=>simp;omega
     rw[if_neg E,ae]at K;have aD:¬461168601842738790<n:=λh=>E (.inr h);rw[ae,bK,W3,bV,h9,qO T cQ.u H r,dN,wrap_u8 Ω Ω,fq cJ.u fL.u,wrap_u64 Ω Ω,wrap_u64 Ω Ω,aN,wrap_u64 Ω Ω];exact z _ _ _ _ _ ⟨B,_,false,T,T,K,T⟩
  .rintro ag t3 _ _ f ah ⟨B,n,a,rfl,rfl,q,C⟩;rw[o6]at C q;rw[od cQ.u];apply b4 Ω;have X:=Ku q;have an:=q.1;have ao:=q.2.1;have ap:∀{x:Int},x=m.foldl e7 0->0<=x->x<=4611686018427387904->(ac x7 (convert fL aq (.int .u64 x)) f λau=>
     ac x7 (aO .mul aq false false (Δ s) au) f λav=>(λv w'=>v=kL l/\Ext w w') (.tuple #[av,(Δ 0)]) f):=by
    intro x J N h1;rw[fq fL.u aq.u,wrap_i64 Ω Ω,h9];have hw:X6.wrap (s*x)=s*x:=by
     rcases I.1 with rfl|rfl<;>exact wrap_i64 Ω Ω
    rw[hw];refine⟨?_,M.trans B⟩;rw[BQ I (BM O C),J]
   refine aV (λv p=>f=p/\v= .int .u64 (m.foldl e7 0)) ?_ ?_
   .rintro _ _ ⟨rfl,rfl⟩;have Y:=s5 (l:=m) (n:=0) C ⟨Int.le_refl _,Φ⟩;exact ap T Y.1 Y.2
   intro R e;refine aV (λv p=>f=p/\v= .bool (a||decide (4611686018427387904<n))) ?_ ?_
   .rintro _ _ ⟨rfl,rfl⟩;rw[ca];refine⟨λh=>e _ _ ⟨T,?_⟩,λh=>e _ _ ⟨T,?_⟩⟩
    .have h':a=true\/4611686018427387904<n:=by simpa using h
     rw[X,if_pos h']
    .have h':¬(a=true\/4611686018427387904<n):=by
      intro G;rcases G with G|G
      .simp[G]at h
      .simp[G]at h
     rw[X,if_neg h']
   .intro aE Z;cases a with
    |true=>rw[bV];exact Z _ _ ⟨T,T⟩
    |false=>rw[a8,bJ];exact Z _ _ ⟨T,by rw[Bool.false_or]⟩
 .intro aA z;refine aV (λv aa=>w=aa/\∃c:Bool,v= .bool c/\(c=true↔l[0]?=σ 45)) ?_ ?_
  .rintro _ _ ⟨rfl,c,rfl,ab⟩;rw[ca];refine⟨λaw=>?_,λae=>?_⟩
   .obtain⟨m,rfl⟩:∃m,l=45::m:=by
     have:=ab.1 aw;cases l with
     |nil=>simp at this
     |cons x m=>exact⟨m,by simp at this;rw[this]⟩
    rw[A2 (y:=1) (i:=1) T cQ.u Ξ];exact z _ _ _ ⟨Ext.refl _,m,-1,T,T,λb A=>L b (.tail _ A),by simp at U;omega,BO⟩
   .refine z _ _ _ ⟨Ext.refl _,l,1,T,T,L,U,BP λb A he=>?_⟩;subst he;have:=ab.2 A;rw[ae]at this;cases this
  .intro R e;rw[od cQ.u,bJ,al];refine⟨λh=>?_,λh=>e _ _ ⟨T,false,T,?_⟩⟩
   .obtain⟨b,A⟩:=aH (l:=l) (i:=0) Ω;rw[qO (y:=0) (i:=0) T cQ.u L A,be];refine e _ _ ⟨T,_,T,?_⟩;rw[decide_eq_true_eq,A];exact⟨λh=>by rw[h],λh=>b9 h⟩
   .have:l=[]:=j6 Ω;subst this;simp
def O7{s:Go.Sem x1}(h:ac x7 s w λu=>u=v)(hk:K v):ac x7 s w K:=by
 obtain⟨u,h1,rfl⟩:=h;exact⟨u,h1,hk⟩
abbrev ht:Type:=Λ×Int
def gb(x:ht):List x1:=[bL x.1,Δ x.2]
def xp(x:ht):∀u∈gb x,u.oneCell'=true:=by
 intro u hu;simp[gb]at hu;rcases hu with rfl|rfl<;>rfl
def jj(w:x3)(v:x1)(L:List ht):Prop:=ck w 2 v L.length (L.flatMap gb)
def xq{g:Nat}{L:List ht}(h:bk gb 2 ct w g v L):jj w v L:=h.sl
def DR{L:List ht}(h:jj w v L):ac x7 (V0 #[fp] a #[v]) w K=K (Δ (L.length:Int)):=by
 obtain⟨_,_,_,_,_,rfl,_⟩:=h;exact hI fp.u
def O8{k n:Nat}{cs:List x1}(h:ck w k v n cs)(f:ai S w w')(p:∀r,leadsTo v r->¬S r):ck w' k v n cs:=by
 obtain⟨h1,b,o,base,cap,rfl,q,s,e,x⟩:=h;refine⟨h1,b,o,base,cap,T,q,s,e,?_⟩;rcases Q3 n with a|a
 .have:cs=[]:=j6 (by rw[h1,a,Nat.zero_mul]);subst this;intro j v ad;simp at ad
 .have y:=e a;exact jw f (p b ⟨⟨b,o,ν⟩,n,cap,by rw[y],T⟩) x
def jj.ab{L:List ht}(h:jj w v L)(a:ai S w w')(e:∀r,leadsTo v r->¬S r):jj w' v L:=O8 h a e
def DS{x:ht}{L:List ht}(h:jj w v (x::L))(a:∀b o,w.rangeAt b o (gb x)->K (.pointer (σ ⟨b,o,ν⟩))):ac x7 (j9 fp v (Δ 0)) w K:=by
 obtain⟨_,b,o,base,cap,rfl,_,_,e,f⟩:=h;have:=fg (P:=x7) (w:=w) (K:=K) (k:=.i64) (c:=cap) fp.u ct.i (show 0<(x::L).length by simp) e;rw[show((0:Nat):Int)=0 from T]at this;rw[this];refine a _ _ λj u hu=>?_;have p:=(x4.1 hu).1;rw[Nat.zero_mul,Nat.add_zero];exact f j u (by rw[X8,Y6 p];exact hu)
def O9{x:ht}{L:List ht}(h:jj w v (x::L))(y:∀p,(∀w',jj w' v (x::L)->jj w' p L)->(∀r,leadsTo p r->leadsTo v r)->K p):ac x7 (V9 fp v (σ (Δ 1)) ν ν) w K:=by
 have C:=h;obtain⟨_,b,o,base,cap,rfl,E,_⟩:=h;rw[hj fp.u ct.i (nZ 1 1 T) jy fh Ξ Ω (o4 _)];refine y _ (λw' z=>?_) λr A=>?_
 .have:=ck.part (l:=1) (h:=(x::L).length) (m:=cap) z Ξ (o4 _) Ω (o4 _);have e:(((x::L).flatMap gb).drop (1*2)).take (((x::L).length-1)*2)=L.flatMap gb:=by
   rw[X8];have B:(L.flatMap gb).length=L.length*2:=ig (k:=2) λ_ _=>rfl;show(L.flatMap gb).take _=_;rw[b8 (by rw[B,b6,Nat.add_sub_cancel];exact o4 _)]
  rw[e]at this;exact this
 .obtain⟨a,n,c,f,s⟩:=A;split at f
  .cases f;exact⟨_,_,_,T,s⟩
  .cases base with
   |none=>cases f
   |some q=>cases f;exact⟨_,_,_,T,s⟩
def Pa{g n:Nat}{L:List ht}(z:y=(n:Int))(h:bk gb 2 ct w g v L)(A:n<=L.length)(B:∀s,jj w s (L.take n)->(∀r,leadsTo s r->leadsTo v r)->K s):ac x7 (V9 fp v ν (σ (Δ y)) ν) w K:=by
 have C:=xq h;obtain⟨_,b,o,base,cap,rfl,G,_⟩:=h.sl;rw[hj fp.u ct.i jx (n0 n y z) fh (X5 _) Ω (o4 _)];refine B _ ?_ λr E=>?_
 .have:=ck.part (l:=0) (h:=n) (m:=cap) C (X5 _) A Ω (o4 _);have e:((L.flatMap gb).drop (0*2)).take ((n-0)*2)=(L.take n).flatMap gb:=by
   rw[Nat.zero_mul,List.drop_zero,Nat.sub_zero,pK (f:=gb) (k:=2) n λ_ _=>rfl]
  rw[e]at this;have F:(L.take n).length=n-0:=by rw[l9];omega
  unfold jj;rw[F];exact this
 .obtain⟨a,n,c,p,x⟩:=E;split at p
  .cases p;exact⟨_,_,_,T,x⟩
  .cases base with
   |none=>cases p
   |some q=>cases p;exact⟨_,_,_,T,x⟩
def Pb(w:x3)(pl:Λ)(v:x1)(w':x3):Prop:=Ext w w'/\∃a L,∃bad:Int,v= .tuple #[a,Δ bad]/\jj w' a L/\L.map (·.1)=(lex pl).1/\(0<=bad↔(lex pl).2=false)/\(∀r,leadsTo a r->w.heap.size<=r)/\∀r,leadsTo a r->∃c,ag w' r ct c
def Pc{p:x1}(R:aI .u8 w p pl)(aB:Bytes pl)(bb:pl.length<=65536):am x7 H2 [p] w (Pb w pl):=by
 apply az func114;rw[aW cN.u R];refine qs.range pl.length (λi _ _ A I V=>Ext w V/\∃g L,∃(q:List (Λ))(B:Λ)(op:Bool),I= .bool op/\bk gb 2 ct V g A L/\L.map (·.1)=(if op then q++[B]else q)/\(op=true->B.length<=i)/\L.length<=i/\iC (pl.drop i) q B op=lex pl/\∀r,leadsTo A r->w.heap.size<=r) R.le
  ⟨Ext.refl _,0,[],[],[],false,T,bk.nil _ _ _ _ _,T,(λh=>by cases h),o4 _,KO pl,λr C=>(e9 C).elim⟩ ?_ ?_
 rotate_left
 .rintro aC t3 A I V aD ⟨G,g,L,q,B,op,rfl,E,z,_,_,s,H⟩;apply b4 Ω;rw[List.drop_length]at s;have s:(if op then q++[B]else q,true)=lex pl:=s;exact⟨G,A,L,-1,T,xq E,by rw[z,<-s],by rw[<-s];simp,H,λr C=>by obtain⟨rfl,c,Y⟩:=dW E C;exact⟨c,Y⟩⟩
 rintro i aC t3 A I V aD hi ⟨G,g,L,q,B,op,rfl,E,z,ak,bd,s,H⟩ aE;have⟨b,Z⟩:=aH (l:=pl) hi;have bf:=aB b (x5 Z);have an:pl.drop i=b::pl.drop (i+1):=by rw[X4 hi,(x4.1 Z).2]
 rw[an]at s;unfold iC at s;apply bz Ω;refine AZ (λ_ _ A I aa=>Ext w aa/\∃g L,∃(q:List (Λ))(B:Λ)(op:Bool),I= .bool op/\bk gb 2 ct aa g A L/\L.map (·.1)=(if op then q++[B]else q)/\(op=true->B.length<=i+1)/\L.length<=i+1/\iC (pl.drop (i+1)) q B op=lex pl/\∀r,leadsTo A r->w.heap.size<=r) ?_ ?_
 .rintro bg bh a3 a4 aa aF;rw[aN];exact aE _ _ _ _ _ aF
 intro aA ao;rw[bc cN.u cJ.i Ψ (R.ext G) Z];refine aV (λv N=>V=N/\v= .bool (cA b)) ?_ ?_
 rotate_left
 .intro ab y;unfold cA at y;rw[be,al];refine⟨λh=>y _ _ ⟨T,by rw[decide_eq_true (.inl h)]⟩,λh1=>?_⟩;rw[be,al];refine⟨λh=>y _ _ ⟨T,by rw[decide_eq_true (.inr (.inl h))]⟩,λS=>?_⟩;rw[be,al];refine⟨λh=>y _ _ ⟨T,by rw[decide_eq_true (.inr (.inr (.inl h)))]⟩,λaG=>?_⟩;rw[be];refine y _ _ ⟨T,?_⟩;congr 1;rw[U1,decide_eq_true_eq,decide_eq_true_eq];exact⟨λh=>.inr (.inr (.inr h)),λh=>by rcases h with h|h|h|h;exact absurd h h1;exact absurd h S;exact absurd h aG;exact h⟩
 rintro _ _ ⟨rfl,rfl⟩;cases U:cA b with
 |true=>
  rw[bV];rw[if_pos U]at s;exact ao _ _ _ _ _ ⟨G,g,L,_,[],false,T,E,z,(λh=>by cases h),Ω,s,H⟩
 |false=>
  rw[a8];rw[if_neg (by rw[U];simp)]at s;refine aV (λv N=>V=N/\v= .bool (!bO b)) ?_ ?_
  rotate_left
  .intro ab y;unfold bO at y;rw[aP,al];refine⟨λh=>y _ _ ⟨T,by rw[decide_eq_false Ω];rfl⟩,λh=>?_⟩;rw[bJ];refine y _ _ ⟨T,?_⟩;by_cases S:126<b
   .rw[decide_eq_true S,decide_eq_false Ω];rfl
   .rw[decide_eq_false S,decide_eq_true Ω];rfl
  rintro _ _ ⟨rfl,rfl⟩;cases hw:bO b with
  |false=>
   rw[W3,bV];rw[if_neg (by rw[hw];simp)]at s;refine aV (λv N=>V=N/\∃W,jj V v W/\W.map (·.1)=q/\(∀r,leadsTo v r->w.heap.size<=r)/\∀r,leadsTo v r->leadsTo A r) ?_ ?_
   .rintro v _ ⟨rfl,W,ad,aJ,X,aK⟩;exact⟨G,v,W,(i:Int),T,ad,by rw[aJ,<-s],by rw[<-s];simp,X,λr C=>by obtain⟨rfl,c,Y⟩:=dW E (aK r C);exact⟨c,Y⟩⟩
   .intro ab y;cases op with
    |false=>
     rw[a8];rw[if_neg Ξ]at z;exact y _ _ ⟨T,L,xq E,z,H,λ_ h=>h⟩
    |true=>
     rw[bV];rw[if_pos T]at z;have ae:L.length=q.length+1:=by have:=congrArg S5 z;simpa using this
     rw[eF fp.u E,dN,wrap_i64 Ω Ω];refine Pa (n:=q.length) Ω E Ω λO ad X=>y _ _ ⟨T,_,ad,?_,λr C=>H r (X r C),X⟩;rw[List.map_take,z,List.take_left]
  |true=>
   rw[Y7,a8];rw[if_pos hw]at s;refine aV (λA af=>Ext w af/\∃g M,∃x:ht,bk gb 2 ct af g A (M++[x])/\M.map (·.1)=q/\x.1=(if op then B else[])/\(M++[x]).length<=i+1/\∀r,leadsTo A r->w.heap.size<=r) ?_ ?_
   .rintro bi af ⟨ap,aL,M,x,aM,aO,J,aQ,aq⟩;intro ag ah _ _;have Q:=aM.ext ah;have au:(M++[x])[M.length]?=σ x:=Ξ
    have bj:(M++[x]).length=M.length+1:=Ξ
    rw[eF fp.u Q,dN,wrap_i64 Ω Ω,dw (i:=M.length) Ω fp.u ct.i Q Ω,aU ct.p T,ax (o:=M.length*2+0) Ψ (Q.range au 0 _ T),aN,wrap_i64 Ω Ω];obtain⟨bl,av⟩:∃O,aI .u8 ag O [b]/\ac x7 (V9 cN p (σ (Δ (i:Int))) (σ (Δ ((i:Int)+1))) ν) ag (λv=>v=O):=by
     have aR:=R.ext (ap.trans ah);have:=s7 (P:=x7) (low:=σ (Δ (i:Int))) (high:=σ (Δ ((i:Int)+1))) (K:=λv=>aI .u8 ag v [b]) cN.u cJ.i aR (nZ i _ T) (n0 (i+1) ((i:Int)+1) Ω) Ω Ω λO aw=>by
      have e:((ints .u8 pl).drop (i*1)).take ((i+1-i)*1)=ints .u8 [b]:=by
       simp only[U2,show i+1-i=1 by omega];rw[ints,<-List.map_drop,<-List.map_take,an];rfl
      rw[e]at aw;exact aI.of (n:=i+1-i) aw
     have⟨v,aS,aT⟩:=this;exact⟨v,aT,v,aS,T⟩
    apply O7 av.2;have bm:x.1.length<=65536:=by
     rw[J];cases op with
     |true=>rw[if_pos T];have:=ak T;omega
     |false=>simp
    rw[wc cN.u cJ.u cQ.u av.1,wa Θ,dw (i:=M.length) Ω fp.u ct.i Q Ω,aU ct.p T];refine pM (f:=gb) (j:=0) (a:=x) (a':=(x.1++[b],x.2)) cQ.i T rfl Q au T Ω λbn aX bo ay=>?_;have e:(M++[x]).set M.length (x.1++[b],x.2)=M++[(x.1++[b],x.2)]:=by
     rw[T7 _ _ (o4 _),U4];rfl
    rw[e]at ay;refine ao _ _ _ _ _ ⟨(ap.trans ah).then aX (λr C he=>by have:=aq r he;omega),aL,_,q,x.1++[b],true,T,ay,by rw[Z4,aO];rfl,λ_=>?_,by simp at aQ ⊢;omega,?_,aq⟩
    .rw[r9,J];cases op with
     |true=>rw[if_pos T];have:=ak T;simp;omega
     |false=>simp
    .rw[<-s,J];cases op with
     |true=>rfl
     |false=>rfl
   .intro ab y;cases op with
    |true=>
     rw[bK,Y7,a8];rw[if_pos T]at z;have ae:L.length=q.length+1:=by have:=congrArg S5 z;simpa using this
     obtain⟨M,x,rfl⟩:∃M x,L=M++[x]:=by
      have:L≠[]:=λh=>by rw[h]at ae;simp at ae
      exact⟨L.dropLast,L.getLast this,(List.dropLast_concat_getLast this).symm⟩
     rw[Z4]at z;have⟨aY,ai⟩:=List.append_inj' z Ξ;refine y _ _ ⟨G,g,M,x,E,aY,?_,Ω,H⟩;rw[if_pos T];have ai:[x.1]=[B]:=ai;exact(List.cons.inj ai).1
    |false=>
     rw[bK,W3,bV];rw[if_neg Ξ]at z;rw[cY (cs:=#[bL [],Δ (i:Int)]) Ψ];refine hU (f:=gb) (a:=(([],(i:Int)):ht)) fp.u ct.i Ω T rfl λv9 bp bq br aj aZ=>?_;have a1:=E.ext aj;refine iG (f:=gb) (a:=(([],(i:Int)):ht)) fp.u ct.i T a1 (by simpa using aZ.sl) (xp _) Ω Ω λO a2 bt a6 a7 ba=>?_;have bu:=G.size;have z9:=aj.size;refine y _ _ ⟨(G.trans aj).then ba (λr C he=>by have:=H r he;omega),a2,L,_,a6,z,T,Θ,λr C=>?_⟩;rcases a7 r C with h|h
     .exact H r h
     .omega
structure xr where
 v:x1
 t:Λ
 c:Int
def oH(y:xr):List x1:=[y.v,Δ y.c]
def kT(w:x3)(g:Nat)(v:x1)(l:List (Λ×Int)):Prop:=∃L:List xr,bk oH 2 cg w g v L/\(∀y∈L,∃gy,av .i64 aq w gy y.v y.t)/\L.map (λy=>(y.t,y.c))=l
structure jk where
 aK:x1
 szv:x1
 o:Int
 cc:x1
def e1(h:jk):List x1:=[h.aK,h.szv,Δ h.o,h.cc]
def gY(w:x3)(h:jk)(x:cn):Prop:=(∃g,av .i64 aq w g h.aK x.scope)/\(∃g,av .i64 aq w g h.szv x.sizes)/\h.o=x.other/\∃g,kT w g h.cc x.lines
def hv(w:x3)(r:Nat):Prop:=∃e c,ag w r e c/\e≠aq/\e≠cg
def eH{g:Nat}(h:av .i64 aq w g v l)(f:ai S w w')(p:∀r,S r->hv w r\/w.heap.size<=r):av .i64 aq w' g v l:=bw h f λr a U=>by
 rcases p r U with⟨e,c,q,s,_⟩|x
 .exact ch h q (λhe=>s he.symm) a T
 .obtain⟨y,z⟩:=bS h a;omega
def xt{α:Type}{f:α->List x1}{k:Nat}{g:Nat}{L:List α}(h:bk f k e w g v L)(q:ai S w w')(s:∀r,S r->(∃a c,ag w r a c/\a≠e)\/w.heap.size<=r):bk f k e w' g v L:=h.ab q λr p U=>by
 rcases s r U with⟨a,c,x,y⟩|z
 .exact cP h x (λhe=>y he.symm) p
 .obtain⟨A,B⟩:=h.leads p;omega
def kT.dQ{g:Nat}{l:List (Λ×Int)}(h:kT w g v l)(a:ai S w w')(f:∀r,S r->hv w r\/w.heap.size<=r):kT w' g v l:=by
 have⟨L,h1,p,q⟩:=h;refine⟨L,xt h1 a λr s=>(f r s).imp (λ⟨e,c,x,_,z⟩=>⟨e,c,x,z⟩) id,λy A=>?_,q⟩;have⟨gy,hm⟩:=p y A;exact⟨gy,eH hm a f⟩
def gY.dQ{h:jk}{x:cn}(aB:gY w h x)(a:ai S w w')(e:∀r,S r->hv w r\/w.heap.size<=r):gY w' h x:=by
 have⟨⟨g1,h1⟩,⟨f,p⟩,q,s,y⟩:=aB;exact⟨⟨g1,eH h1 a e⟩,⟨f,eH p a e⟩,q,s,y.dQ a e⟩
def gY.ext{h:jk}{x:cn}(aB:gY w h x)(J:Ext w w'):gY w' h x:=aB.dQ (J.ab λ_=>False) λ_ h=>h.elim
def gY.one{h:jk}{x:cn}(aB:gY w h x):∀u∈e1 h,u.oneCell'=true:=by
 have⟨⟨g1,h1⟩,⟨f,a⟩,p,q,L,e,_⟩:=aB;intro u hu;simp[e1]at hu;rcases hu with rfl|rfl|rfl|rfl
 .exact h1.ls.cells.2
 .exact a.ls.cells.2
 .rfl
 .exact (eR e.sl).2
def mw(w:x3)(a:x1)(f:List ht)(gs:Nat)(sv:x1)(L:List jk)(e:List cn):Prop:=(jj w a f/\∀r,leadsTo a r->∃c,ag w r ct c)/\bk e1 4 ba w gs sv L/\e.length=L.length/\∀(i:Nat)h x,L[i]?=σ h->e[i]?=σ x->gY w h x
def mw.dQ{q:x1}{z:List ht}{L:List jk}{A:List cn}(h:mw w q z gs sv L A)(p:ai S w w')(s:∀r,S r->(∃e c,ag w r e c/\e≠aq/\e≠cg/\e≠ct/\¬leadsTo sv r)\/w.heap.size<=r):mw w' q z gs sv L A:=by
 have⟨⟨h1,B⟩,C,F,G⟩:=h;have hw:∀r,leadsTo q r->¬S r:=λr a U=>by
  have⟨c,f⟩:=B r a;rcases s r U with⟨e,H,E,_,_,y,_⟩|I
  .exact y (eQ E f)
  .have:=f.lt;omega
 refine⟨⟨h1.ab p hw,λr a=>?_⟩,C.ab p λr a U=>?_,F,λi aB x hi J=>(G i aB x hi J).dQ p λr a=>(s r a).imp (λ⟨e,c,f,K,M,_⟩=>⟨e,c,f,K,M⟩) id⟩
 .obtain⟨c,f⟩:=B r a;exact⟨c,f.ab p (hw r a)⟩
 .rcases s r U with⟨e,H,E,_,_,_,y⟩|I
  .exact y a
  .obtain⟨N,O⟩:=C.leads a;omega
def gJ(a:x1)(e f bad h big p told:Int)(sv:x1):List x1:=[a,Δ e,Δ f,Δ bad,Δ h,Δ big,Δ p,Δ told,sv]
def Pd(N:Nat)(so:Option aF)(a:List ht)(e bad big told:Int)(L:List jk)(f:List cn):Prop:=match so with
 |some s=>bad=0/\e≠0/\(big≠0↔s.big=true)/\(s.big=false->told=s.told)/\True/\a.map (·.1)=s.toks/\(∀t∈s.toks,Bytes t/\t.length<=65536)/\f.map (λx=>(x.sizes,x.lines))=s.shared/\L.length+a.length<=100000
 |none=>bad≠0/\L.length<=N
def bN(w:x3)(g B:Nat)(H:ak)(N:Nat)(so:Option aF):Prop:=100000<=N/\∃w0 a e gs sv L f,∃(p h bad q big s told:Int),w0.heap.size=B/\ai (λr=>r=g) w0 w/\(∃c,ag w0 g bD c)/\ag w g bD (gJ a p h bad q big s told sv)/\mw w0 a e gs sv L f/\(∀r,leadsTo sv r->H r)/\Pd N so e h bad big told L f
theorem mw.g{g:Nat}{e:x1}{f:List ht}{L:List jk}{p:List cn}(h:mw w e f gs sv L p)(s:ai (λr=>r=g) w w')(x:∃c,ag w g bD c):mw w' e f gs sv L p:=
 h.dQ s λr a=>.inl (by
  have a:r=g:=a;subst a;have⟨c,q⟩:=x;exact⟨_,c,q,Φ,Φ,Φ,λy=>cP h.2.1 q Φ y⟩)
def bN.new{g:Nat}{H:ak}{so:Option aF}(h:bN w g B H N so)(a:ai S w w')(e:∀r,S r->B<=r):bN w' g B H N so:=by
 have⟨x,w0,y,z,gs,sv,L,A,C,E,bad,F,big,G,told,h1,f,p,I,J,K,M⟩:=h;have q:g<w0.heap.size:=by have⟨c,O⟩:=p;exact O.lt
 exact⟨x,w0,y,z,gs,sv,L,A,C,E,bad,F,big,G,told,h1,⟨Y9 f.size a.size,λr o s U q=>a.a6 r o (f.a6 r o s U q) U λP=>by
  have:=e r P;have:=(j4.1 s).1;omega⟩,p,I.ab a λU=>by have:=e g U;omega,J,K,M⟩
def bN.ext{g:Nat}{H:ak}{so:Option aF}(h:bN w g B H N so)(J:Ext w w'):bN w' g B H N so:=h.new (J.ab λ_=>False) λ_ h=>h.elim
def bN.base{g:Nat}{H:ak}{so:Option aF}(h:bN w g B H N so):bN w g w.heap.size H N so:=by
 have⟨e,w0,f,p,gs,sv,L,q,r,s,bad,x,big,y,told,h1,z,A,a,C,E,F⟩:=h;exact⟨e,w,f,p,gs,sv,L,q,r,s,bad,x,big,y,told,T,ai.refl _ _,⟨_,a⟩,a,C.g z A,E,F⟩
def bN.dQ{g:Nat}{H:ak}{so:Option aF}(h:bN w g B H N so)(p:ai S w w')(q:∀r,S r->(∃e c,ag w r e c/\e≠aq/\e≠cg/\e≠ct/\e≠bD/\¬H r)\/w.heap.size<=r):bN w' g w'.heap.size H N so:=by
 have⟨A,w0,s,x,gs,sv,L,y,C,E,bad,F,big,G,told,h1,I,J,f,K,z,M⟩:=h.base;have O:mw w s x gs sv L y:=K.g I J;have a:=f.ab p λU=>by
  rcases q g U with⟨e,c,a,_,_,_,P,_⟩|Z
  .exact P (eQ a f)
  .have:=f.lt;omega
 refine⟨A,w',s,x,gs,sv,L,y,C,E,bad,F,big,G,told,T,ai.refl _ _,⟨_,a⟩,a,O.dQ p λr Q=>(q r Q).imp (λ⟨e,c,a,R,V,W,_,X⟩=>⟨e,c,a,R,V,W,λY=>X (z r Y)⟩) id,z,M⟩
def bN.lt{g:Nat}{H:ak}{so:Option aF}(h:bN w g B H N so):g<B/\B<=w.heap.size:=by
 have⟨f,w0,p,q,gs,sv,L,r,s,x,bad,y,big,z,told,h1,a,⟨c,e⟩,_⟩:=h;have:=e.lt;have:=a.size;omega
def ii{g:Nat}{H:ak}{so:Option aF}(h:bN w g B H N so):∃a,∃(e f bad p big q told:Int),∃sv,ag w g bD (gJ a e f bad p big q told sv)/\(so.isSome=true↔bad=0):=by
 have⟨y,w0,a,z,gs,sv,L,A,e,f,bad,p,big,q,told,h1,C,E,x,F,G,r⟩:=h;refine⟨a,e,f,bad,p,big,q,told,sv,x,?_⟩;cases so with
 |none=>exact⟨(λh=>by cases h),λh=>absurd h r.1⟩
 |some s=>exact⟨λ_=>r.1,λ_=>rfl⟩
def lG{g:Nat}{H:ak}{so:Option aF}(h:bN w g B H N so):ac x7 (bQ (Γ g)) w (λa=>ac x7 (u6 bD a 3) w λt45=>ac x7 (u5 ah t45) w λt46=>ac x7 (aO .eql ah false true t46 (Δ 0)) w K)=K (.bool so.isSome):=by
 have⟨f,q,r,bad,s,big,x,told,sv,e,hi⟩:=ii h;rw[aT bD.p 3 e T,be];congr 2;rw[U1,decide_eq_true_eq];exact hi.symm
def rH{g:Nat}{H:ak}{so:Option aF}(h:bN w g B H N so):ac x7 (bQ (Γ g)) w (λf=>ac x7 (u6 bD f 3) w λt45=>ac x7 (u5 ah t45) w λt46=>ac x7 (aO .neq ah false true t46 (Δ 0)) w K)=K (.bool (!so.isSome)):=by
 have⟨r,s,x,bad,y,big,z,told,sv,q,hi⟩:=ii h;rw[aT bD.p 3 q T,bB];congr 2;cases e:so.isSome with
 |true=>have a:=hi.1 e;simp[a]
 |false=>
  have a:bad≠0:=λa=>by rw[hi.2 a]at e;cases e
  simp[a]
def pY(w:x3)(g B:Nat)(H:ak)(N:Nat)(so:Option aF)(w':x3):Prop:=ai (λr=>r=g) w w'/\bN w' g B H N so
def oI{g:Nat}{H:ak}{so:Option aF}{e at_:Int}(h:bN w g B H N so)(he:e≠0):am x7 nT [Γ g,Δ e,Δ at_] w λ_ w'=>pY w g B H N ν w':=by
 apply az func119;rw[lG h];cases so with
 |none=>rw[R3,a8];exact⟨ai.refl _ _,h⟩
 |some s=>
  rw[T6,bV];have⟨z,w0,f,A,gs,sv,L,C,q,r,bad,R,big,x,told,h1,E,G,I,J,K,M⟩:=h;rw[bZ,aU bD.p T];refine bq (g:=g) (o:=3) ah.i T rfl I (by simp[gJ]) λV O S P=>?_;rw[bZ,aU bD.p T];refine bq (g:=g) (o:=4) ah.i T rfl P (by simp[gJ]) λaa Q U a=>?_;have a:ag aa g bD (gJ f q r e at_ big x told sv):=a;have y:=O.trans Q;have⟨_,_,_,_,_,_,_,_,W⟩:=M;exact⟨y,z,w0,f,A,gs,sv,L,C,q,r,e,at_,big,x,told,h1,E.trans y,G,a,J,K,he,Ω⟩
def np{g:Nat}{H:ak}{so:Option aF}{b:Bool}{at_:Int}(h:bN w g B H N so):am x7 sH [Γ g,.bool b,Δ at_] w λ_ w'=>pY w g B H N (so.map (bb b)) w':=by
 apply az func116;have⟨J,w0,e,K,gs,sv,L,M,f,q,bad,r,big,X,told,h1,O,P,x,Q,R,y⟩:=id h;refine aV (λv V=>w=V/\v= .bool (b&&decide (big=0)&&so.isSome)) ?_ ?_
 .rintro _ _ ⟨rfl,rfl⟩;rw[ca];refine⟨λS=>?_,λae=>⟨ai.refl _ _,J,w0,e,K,gs,sv,L,M,f,q,bad,r,big,X,told,h1,O,P,x,Q,R,?_⟩⟩
  .rw[V5,V5]at S;have⟨⟨Y,af⟩,Z⟩:=S;rw[bZ,aU bD.p T];refine bq (g:=g) (o:=5) ah.i T rfl x (by simp[gJ]) λV ab aj ac=>?_;rw[bZ,aU bD.p T];refine bq (g:=g) (o:=6) ah.i T rfl ac (by simp[gJ]) λaa ad an z=>?_;have z:ag aa g bD (gJ e f q bad r 5 at_ told sv):=z;have U:=ab.trans ad;refine⟨U,J,w0,e,K,gs,sv,L,M,f,q,bad,r,5,at_,told,h1,O.trans U,P,z,Q,R,?_⟩;cases so with
   |none=>cases Z
   |some s=>
    have⟨A,C,W,E,G⟩:=y;exact⟨A,C,⟨λ_=>by show(s.big||b)=true;rw[Y,Bool.or_true],λ_=>Ω⟩,λaB=>E (S8.1 aB).1,G⟩
  .cases so with
   |none=>exact y
   |some s=>
    have⟨A,C,W,E,G⟩:=y;refine⟨A,C,?_,λaB=>E (S8.1 aB).1,G⟩;show big≠0↔(s.big||b)=true;cases b with
    |false=>rw[Bool.or_false];exact W
    |true=>
     have a:big≠0:=by simpa using ae
     simp[a]
 .intro aA I;cases b with
  |false=>rw[a8];exact I _ _ ⟨T,Ξ⟩
  |true=>
   rw[bV,aT bD.p 5 x T,be,al];refine⟨λa=>?_,λa=>I _ _ ⟨T,by rw[decide_eq_false a];simp⟩⟩;rw[lG h];exact I _ _ ⟨T,by rw[decide_eq_true a];simp⟩
def jJ(so:Option aF):Option (Λ×aF):=so.bind dO
def DT{g:Nat}{H:ak}{so:Option aF}(h:bN w g B H N so):am x7 H3 [Γ g] w λv w'=>pY w g B H N ((jJ so).map (·.2)) w'/\∃(t:Λ)(n:Int),v= .agg #[bL t,Δ n]/\Bytes t/\t.length<=65536/\∀q,jJ so=σ q->t=q.1:=by
 have aH:=h.lt;apply az func115;refine bu ct.i λa V bm z A=>?_;have h1:=h.ext z;have zero:∀{f:x3},pY V g B H N ν f->ag f a ct [.string ⟨#[]⟩,Δ 0]->jJ so=ν->(ac x7 (Instr.build ct #[]) f λt9=>
   aE x7 (o8 ct (Γ a) t9) f λ(_:Unit)aa=>
   ac x7 (do loadVar ct (<-asAddr (Γ a))) aa λaI=>(λv w'=>pY w g B H N ((jJ so).map (·.2)) w'/\∃(t:Λ)(n:Int),v= .agg #[bL t,Δ n]/\Bytes t/\t.length<=65536/\∀q,jJ so=σ q->t=q.1) aI aa):=by
  intro f y J Q;rw[cY (cs:=#[.string ⟨#[]⟩,Δ 0]) Ψ];refine cd (vs:=[.string ⟨#[]⟩,Δ 0]) ct.i T rfl (by intro v ad;simp at ad;rcases ad with rfl|rfl<;>rfl) J λaJ Y bn aK=>?_;rw[fQ ct.p ct.i T aK.range,Q];have aL:=z.size;have:=aH;refine⟨⟨hQ ((z.ab _).trans y.1) Y λr e he=>?_,y.2.new Y λr e=>?_⟩,[],0,T,(λb aM=>by cases aM),Ξ,λq R=>by cases R⟩
  .have he:r=a:=he;omega
  .have e:r=a:=e;omega
 rw[rH h1];cases so with
 |none=>
  rw[R3,W3,bV];exact zero ⟨ai.refl _ _,h1⟩ A T
 |some s=>
 rw[T6,Y7,a8];have⟨aN,w0,bp,S,gs,sv,L,Z,ae,af,bad,ah,big,aj,told,aO,an,ao,C,K,aP,aQ⟩:=id h1;have aR:=K.g an ao;have⟨⟨M,br⟩,_⟩:=id aR;have⟨aS,ap,aV,aW,aX,aq,au,aY,aZ⟩:=id aQ;rw[aT bD.p 0 C T,DR M,be,al];refine⟨λav=>?_,λav=>?_⟩
 .have a1:S=[]:=j6 Ω;have E:s.toks=[]:=by rw[<-aq,a1];rfl
  have Q:jJ (σ s)=ν:=by show dO s=ν;unfold dO;rw[E]
  intro f O _ _;have J:=C.ext O;rw[aT bD.p 2 J T,aT bD.p 1 J T];apply(oI (h1.ext O) ap).mono;rintro _ aJ _ y;have a2:=A.lt;exact zero ⟨(O.ab _).trans y.1,y.2⟩ ((A.ext O).ab y.1 λhe=>by have he:a=g:=he;omega) Q
 .obtain⟨x,G,rfl⟩:∃x l,S=x::l:=by
   cases S with
   |nil=>exact absurd T av
   |cons x l=>exact⟨x,l,T⟩
  have E:s.toks=x.1::G.map (·.1):=by rw[<-aq];rfl
  have a6:jJ (σ s)=σ (x.1,{s with toks:=G.map (·.1)}):=by show dO s=_;unfold dO;rw[E]
  have aw:=au x.1 (by rw[E];exact .head _);rw[aT bD.p 0 C T];refine DS M λb o a7=>?_;rw[bR ct.p ct.i T a7];refine bu ct.i λax bt bw ba bb=>?_;refine cd (vs:=gb x) ct.i T rfl (xp x) bb λbc bd bx ay=>?_;have P:Ext V bc:=ba.put bd Ω;have aA:=C.ext P;rw[aT bD.p 0 aA T];refine O9 (M.ab (P.ab λ_=>False) λ_ _ h=>h) λU aB bf=>?_;have aC:=aB V M;rw[bZ,aU bD.p T];refine bq (g:=g) (o:=0) fp.i (eR aC).1 (eR aC).2 aA (by simp[gJ]) λI W bz X=>?_;have X:ag I g bD (gJ U ae af bad ah big aj told sv):=X;have a2:=C.lt;have:=ay.lt;have:=A.lt;have aL:=z.size;have bg:ag I ax ct (gb x):=ay.ab W λhe=>by have he:ax=g:=he;omega
  rw[bR ct.p ct.i T bg.range];have bh:ag I a ct [.string ⟨#[]⟩,Δ 0]:=(ag.ext A P).ab W λhe=>by have he:a=g:=he;omega
  refine cd (vs:=gb x) ct.i T rfl (xp x) bh λbC aD bE bi=>?_;rw[fQ ct.p ct.i T bi.range];have aG:ai (λr=>r=g) V I:=(P.ab _).trans W;rw[a6];refine⟨⟨hQ ((z.ab _).trans aG) aD λr e he=>?_,?_⟩,x.1,x.2,T,aw.1,aw.2,λq R=>by cases R;rfl⟩
  .have he:r=a:=he;omega
  .have bj:mw w0 U G gs sv L Z:=⟨⟨aB w0 K.1.1,λr e=>K.1.2 r (bf r e)⟩,K.2⟩;have bk:bN I g B H N (σ {s with toks:=G.map (·.1)}):=⟨aN,w0,U,G,gs,sv,L,Z,ae,af,bad,ah,big,aj,told,aO,an.trans aG,ao,X,bj,aP,aS,ap,aV,aW,aX,T,λt bl=>au t (by rw[E];exact .tail _ bl),aY,by simp at aZ;omega⟩;refine bk.new aD λr e=>?_;have e:r=a:=e;omega
def Pe{lo hi:Int}{so:Option aF}:bf lo hi so=match jJ so with
  |none=>ν
  |some (w,s)=>match gF w with
   |none=>ν
   |some n=>if lo<=n/\n<=hi then σ (n,s)else ν:=by
 cases so with
 |none=>rfl
 |some s=>rfl
def kU{g:Nat}{H:ak}{so:Option aF}{lo hi:Int}(h:bN w g B H N so):am x7 ma [Γ g,Δ lo,Δ hi] w λv w'=>pY w g B H N ((bf lo hi so).map (·.2)) w'/\∃n at_:Int,v= .tuple #[Δ n,Δ at_]/\(∀q,bf lo hi so=σ q->n=q.1)/\(bf lo hi so=ν->n=0):=by
 have:=h.lt;apply az func117;apply(DT h).mono;rintro _ V _ ⟨⟨M,h1⟩,t,at_,rfl,W,ay,O⟩;have:=h1.lt;refine bu ct.i λX aa aD Y Z=>?_;refine cd (vs:=[bL t,Δ at_]) ct.i T rfl (by intro v ad;simp at ad;rcases ad with rfl|rfl<;>rfl) Z λac ae aE P=>?_;have Q:Ext V ac:=Y.put ae Ω;have af:=h1.ext Q;rw[aL ct.p 0 P T];apply(O6 W Ω).mono;rintro _ E _ ⟨rfl,G⟩;have I:=af.ext G;have R:=P.ext G;have ag:=Q.trans G;have:=M.size;obtain⟨n,e,ah,J,aj⟩:∃n e:Int,kL t= .tuple #[Δ n,Δ e]/\(∀m,gF t=σ m->n=m/\e=0)/\(gF t=ν->e≠0):=by
  unfold kL;cases gF t with
  |none=>exact⟨0,4,T,(λm hm=>by cases hm),λ_=>Ω⟩
  |some m=>exact⟨m,0,T,(λm hm=>by cases hm;exact⟨T,T⟩),λh=>by cases h⟩
 rw[ah,bo,bp];have a:=Pe (lo:=lo) (hi:=hi) (so:=so);have S:ai (λr=>r=g) w E:=M.trans (ag.ab _);refine dc (λy=>ai (λr=>r=g) E y/\bN y g B H N ((bf lo hi so).map (·.2))) ?_ ?_
 .rintro y ⟨z,x⟩;rw[rH x];cases A:bf lo hi so with
  |none=>
   rw[A]at x;rw[Option.map_none,R3,W3,bV];exact⟨⟨S.trans z,x⟩,0,0,T,(λq A=>by cases A),λ_=>rfl⟩
  |some q=>
   rw[A]at x a;rw[Z6,T6,Y7,a8];intro aH K _ _;have an:=(R.ab z λhe=>by have he:X=g:=he;omega).ext K;rw[aL ct.p 1 an T];refine⟨⟨(S.trans z).trans (K.ab _),x.ext K⟩,n,at_,T,λaI ao=>?_,λh=>by cases h⟩;cases ao;cases s:jJ so with
   |none=>rw[s]at a;cases a
   |some p=>
    have⟨bt,s1⟩:=p;have L:=O (bt,s1) s;subst L;rw[s]at a;simp only at a;cases f:gF t with
    |none=>rw[f]at a;cases a
    |some m=>
     rw[f]at a;simp only at a;split at a
     .cases a;exact(J m f).1
     .cases a
 .intro aA U;refine aV (λv y=>E=y/\∃c:Bool,v= .bool c/\(c=true->bf lo hi so=ν)/\(c=false->(bf lo hi so).map (·.2)=(jJ so).map (·.2))) ?_ ?_
  .rintro _ _ ⟨rfl,c,rfl,ap,aq⟩;rw[ca];refine⟨λh=>?_,λh=>U _ ⟨ai.refl _ _,by rw[aq h];exact I⟩⟩;rw[aL ct.p 1 R T];apply(oI I Ω).mono;rintro _ y _ ⟨z,x⟩;exact U _ ⟨z,by rw[ap h];exact x⟩
  .intro aJ C;rw[lG I];cases s:jJ so with
   |none=>
    rw[s]at a;simp only at a;rw[Option.map_none,R3,a8];exact C _ _ ⟨T,false,T,(λh=>by cases h),λ_=>by rw[a,s];rfl⟩
   |some p=>
    have⟨bt,s1⟩:=p;have L:=O (bt,s1) s;subst L;rw[s]at a;simp only at a;rw[Z6,T6,bV,bB,al];refine⟨λhe=>?_,λhe=>?_⟩
    .refine C _ _ ⟨T,true,T,λ_=>?_,λh=>by cases h⟩;cases f:gF t with
     |none=>rw[a,f]
     |some m=>exact absurd (J m f).2 he
    .have au:e=0:=Z9.1 he;cases f:gF t with
     |none=>exact absurd au (aj f)
     |some m=>
      rw[f]at a;simp only at a;have av:=(J m f).1;subst av;rw[aP,al];refine⟨λaw=>C _ _ ⟨T,true,T,λ_=>by rw[a,if_neg Ω],λh=>by cases h⟩,λaw=>?_⟩;rw[bJ];refine C _ _ ⟨T,_,T,λaB=>?_,λaB=>?_⟩
      .rw[a,if_neg (by have:=of_decide_eq_true aB;omega)]
      .rw[a,if_pos (by have:=of_decide_eq_false aB;omega),s];rfl
def xu{bj bv:x1}{a b:Λ}(e:aI .i64 w bj a)(s:aI .i64 w bv b):am x7 sI [bj,bv] w λv w'=>v= .bool (decide (a=b))/\Ext w w':=by
 apply az func190;rw[aW ay.u e,aW ay.u s,bB,al];refine⟨λh=>⟨by rw[decide_eq_false];intro he;rw[he]at h;exact h T,Ext.refl _⟩,λh=>?_⟩;have z:a.length=b.length:=by have:=Z9.1 h;omega
 rw[aW ay.u e];refine bT.range a.length (λi _ V=>Ext w V/\a.take i=b.take i) e.le ⟨Ext.refl _,T⟩ ?_ ?_
 .rintro i _ V k hi ⟨q,f⟩ hk;have⟨x,J⟩:=aH (l:=a) hi;have⟨y,r⟩:=aH (l:=b) (i:=i) Ω;apply bz Ω;intro aa A _ _;have p:=q.trans A;rw[bc ay.u aq.i Ψ (e.ext p) J,bc ay.u aq.i Ψ (s.ext p) r,bB,al];refine⟨λB=>⟨by rw[decide_eq_false];intro he;rw[he,r]at J;exact B (b9 J).symm,p⟩,λhe=>?_⟩;rw[aN];refine hk _ _ ⟨p,?_⟩;rw[u9,u9,f,J,r,Z9.1 he]
 .rintro _ V k ⟨q,f⟩;rw[aP,al];refine⟨λh=>Ω,λ_=>⟨?_,q⟩⟩;rw[o6,z,o6]at f;rw[decide_eq_true f]
def hx(w:x3)(B a:Nat)(x:cn):Prop:=∃aK szv cc g1 e f,ag w a ba [aK,szv,Δ x.other,cc]/\av .i64 aq w g1 aK x.scope/\av .i64 aq w e szv x.sizes/\kT w f cc x.lines/\(∀r,leads aK r\/leads szv r->B<=r)/\(∀r,leads aK r->¬leads szv r)/\B<=a
def DU(w:x3)(r:Nat):Prop:=(∃e c,ag w r e c/\e≠aq/\e≠cg/\e≠ba)\/w.heap.size<=r
def hx.dQ{f:Nat}{x:cn}(h:hx w B f x)(a:ai S w w')(s:∀r,S r->DU w r):hx w' B f x:=by
 have⟨aK,szv,cc,g1,y,z,h1,A,C,E,F,G,H⟩:=h;have p:∀r,S r->hv w r\/w.heap.size<=r:=λr I=>(s r I).imp (λ⟨e,c,q,J,K,_⟩=>⟨e,c,q,J,K⟩) id;refine⟨aK,szv,cc,g1,y,z,h1.ab a λU=>?_,eH A a p,eH C a p,E.dQ a p,F,G,H⟩;rcases s f U with⟨e,c,q,_,_,L⟩|M
 .exact L (eQ q h1)
 .have:=h1.lt;omega
def hx.ext{a:Nat}{x:cn}(h:hx w B a x)(J:Ext w w'):hx w' B a x:=h.dQ (J.ab λ_=>False) λ_ h=>h.elim
def kV{g:Nat}{H:ak}{so:Option aF}(h:bN w g B H N so):∀r,r=g->DU w r:=λr a=>by
 subst a;have⟨f,p,q,bad,s,big,x,told,sv,e,_⟩:=ii h;exact .inl ⟨_,_,e,Φ,Φ,Φ⟩
def gZ(g B:Nat):ak:=λr=>r=g\/B<=r
def Pf{k:Nat}{acc:Λ}{s:aF}:cK (λacc s=>match bh 0 (n-1) s with
 |none=>ν
 |some (v,s)=>if v∈acc then ν else σ (v,s)) (k+1) acc s=match bh 0 (n-1) s with
  |none=>ν
  |some (v,s')=>if v∈acc then ν else cK (λacc s=>match bh 0 (n-1) s with
 |none=>ν
 |some (v,s)=>if v∈acc then ν else σ (v,s)) k (acc++[v]) s':=by
 rw[cK];cases bh 0 (n-1) s with
 |none=>rfl
 |some q=>
  have⟨v,s'⟩:=q;simp only;by_cases ad:v∈acc
  .rw[if_pos ad,if_pos ad]
  .rw[if_neg ad,if_neg ad]
def DV(n:Int)(k:Nat)(acc:Λ)(s:aF):Option (Λ×aF):=cK (λacc s=>match bh 0 (n-1) s with
 |none=>ν
 |some (v,s)=>if v∈acc then ν else σ (v,s)) k acc s
def DW{g f ar:Nat}{H:ak}{s:aF}{so:Option aF}{aa:x1}{aQ aR:x3->Prop}(aB:bN w g B H N so)(b3:so=σ s\/(so=ν/\ar=0))(b4:hx w B f ⟨[],[],0,[]⟩)(b5:∀c,ag w f ba c->c[3]?=σ (.slice ν 0 0))(bG:av .i64 aq w gz aa all)(b6:∀r,leads aa r->r<B)(dn:all.length<=100001)(dp:ar<=4611686018427387904)(aS:so=σ s->s.toks.length<=100000)(ap:so=σ s->∀w' x,ai (gZ g B) w w'->eW all.length ar s=ν->bN w' g B H N ν->hx w' B f x->aQ w')(b7:so=ν->aR w)(aT:so=σ s->∀w' scope s',ai (gZ g B) w w'->eW all.length ar s=σ (scope,s')->bN w' g B H N (σ s')->hx w' B f ⟨scope,scope.map λv=>all.getD v.toNat 0,0,[]⟩->(∀c,ag w' f ba c->c[3]?=σ (.slice ν 0 0))->aR w'):
  cp (Δ 0) w λi z k=>
   cz (α:=x1->x3->Prop) (λ(b8:x1)(K:x3)=>
    Split b8 (ac x7 (V0 #[ay] ah #[aa]) K λt53=>
   ac x7 (aO .sub aq false true t53 (Δ 1)) K λca=>
   am x7 ma [Γ g,(Δ 0),ca] K λt55 A=>
   ac x7 (Y0 t55 0) A λaX=>
   ac x7 (Y0 t55 1) A λcb=>
   ac x7 (bQ (Γ g)) A λcd=>
   ac x7 (u6 bD cd 3) A λce=>
   ac x7 (u5 ah ce) A λcg=>
   ac x7 (aO .neq ah false true cg (Δ 0)) A λci=>
   Split ci (aQ A)
    (ac x7 (u6 ba (Γ f) 0) A λcj=>
   ac x7 (u5 ay cj) A λbH=>
   ac x7 (V0 #[ay] ah #[bH]) A λt66=>
   cp (Δ 0) A λaY E ck=>
    ac x7 (aO .lss ah false false aY t66) E λcl=>
    Split cl (ac x7 (j9 ay bH aY) E λcm=>
    ac x7 (u5 aq cm) E λt70=>
    ac x7 (aO .eql aq false false t70 aX) E λcn=>
    Split cn (am x7 nT [Γ g,(Δ 4),cb] E λt76 aZ=>aQ aZ)
     (ac x7 (aO .add ah false true aY (Δ 1)) E λcq=>
    ck cq E))
     (ac x7 (u6 ba (Γ f) 0) E λcr=>
   ac x7 (u5 ay cr) E λct=>
   aE x7 (Y5 ay 1 #[(0,aX)]) E λcu ae=>
   aE x7 (Z0 #[ay,ay] ay #[ct,cu]) ae λcw a1=>
   ac x7 (u6 ba (Γ f) 0) a1 λcA=>
   aE x7 (o8 ay cA cw) a1 λ(_:Unit)P=>
   ev P λR=>
   ac x7 (u6 ba (Γ f) 1) R λa2=>
   ac x7 (u5 ay a2) R λbI=>
   ac x7 (j9 ay aa aX) R λcB=>
   ac x7 (u5 aq cB) R λcC=>
   aE x7 (Y5 ay 1 #[(0,cC)]) R λcE Z=>
    (Ext R Z\/cD x7 (u5 ay a2) bI Z/\cD x7 (u6 ba (Γ f) 1) a2 Z/\True)/\
   aE x7 (Z0 #[ay,ay] ay #[bI,cE]) Z λcF a6=>
    ac x7 (u6 ba (Γ f) 1) a6 λcG=>
    aE x7 (o8 ay cG cF) a6 λ(_:Unit)S=>
     ac x7 (aO .add aq false true i (Δ 1)) S λcH=>
   k cH S)))
     (aR K)) λbJ=>
   ac x7 (aO .lss aq false false i (Δ (ar:Int))) z λcI=>
   Split cI (ac x7 (bQ (Γ g)) z λcJ=>
   ac x7 (u6 bD cJ 3) z λcK=>
   ac x7 (u5 ah cK) z λt45=>
   ac x7 (aO .eql ah false true t45 (Δ 0)) z λt46=>
   bJ t46 z)
    (bJ (.bool false) z):=by
 have dq:=aB.lt;rcases b3 with rfl|⟨rfl,rfl⟩
 rotate_left
 .refine cp.range 0 (λ_ V=>w=V) Ω T (λi V k hi=>Ω) ?_;rintro _ k rfl;refine aV (λv K=>w=K/\v= .bool false) ?_ ?_
  .rintro _ _ ⟨rfl,rfl⟩;rw[a8];exact b7 T
  .intro aA af;rw[aP,al];exact⟨λh=>Ω,λ_=>af _ _ ⟨T,T⟩⟩
 have h:=aB;have aS:=aS T;have ap:=ap T;have aT:=aT T;refine cp.range ar (λi z=>∃scope M,ai (gZ g B) w z/\bN z g B H N (σ M)/\hx z B f ⟨scope,scope.map λv=>all.getD v.toNat 0,0,[]⟩/\scope.length=i/\scope.length+M.toks.length<=100000/\eW all.length ar s=DV all.length (ar-i) scope M/\∀c,ag z f ba c->c[3]?=σ (.slice ν 0 0)) Ω ⟨[],s,ai.refl _ _,h,b4,T,by simpa using aS,T,b5⟩ ?_ ?_
 rotate_left
 .rintro z k ⟨scope,M,au,Q,aw,bK,cL,C,a7⟩;refine aV (λv K=>z=K/\v= .bool false) ?_ ?_
  .rintro _ _ ⟨rfl,rfl⟩;rw[a8];rw[U4]at C;exact aT z scope M au C Q aw a7
  .intro aA af;rw[aP,al];exact⟨λh=>Ω,λ_=>af _ _ ⟨T,T⟩⟩
 rintro i z k hi ⟨scope,M,au,Q,aw,bK,cL,C,a7⟩ hk;refine aV (λv K=>z=K/\v= .bool true) ?_ ?_
 rotate_left
 .intro aA af;apply bz Ω;rw[lG Q];exact af _ _ ⟨T,T⟩
 rintro _ _ ⟨rfl,rfl⟩;rw[bV];have bL:∀{w':x3},ai (gZ g B) w w'->av .i64 aq w' gz aa all:=λcM=>bw bG cM λr e U=>by
  rcases U with rfl|U
  .obtain⟨cN,G,aj,bad,cO,big,cQ,told,sv,I,_⟩:=ii h;exact ch bG I Φ e T
  .have:=b6 r e;omega
 rw[aW ay.u (bL au).ls,dN,wrap_i64 Ω Ω];apply(kU Q).mono;rintro _ A _ ⟨⟨bb,J⟩,n,at_,rfl,bd,cR⟩;rw[bo,bp,rH J];have bg:=aw.dQ bb (kV Q);have bi:ai (gZ g B) w A:=au.trans (bb.mono λr _ h=>.inl h);have cS:=Pf (n:=(all.length:Int)) (k:=ar-(i+1)) (acc:=scope) (s:=M);have cT:ar-i=(ar-(i+1))+1:=Ω
 rw[cT]at C;unfold DV at C;rw[cS]at C;have cU:bf 0 ((all.length:Int)-1) (σ M)=bh 0 ((all.length:Int)-1) M:=rfl;rw[cU]at J bd cR ⊢;cases ax:bh 0 ((all.length:Int)-1) M with
 |none=>
  rw[ax]at J C;rw[Option.map_none,R3,W3,bV];exact ap A _ bi C J bg
 |some q=>
  have⟨v,bj⟩:=q;rw[ax]at J C bd;have cV:n=v:=bd _ T;subst cV;have dr:=(ib ax).1;have ds:=(dl ax).1;simp only at C;rw[Z6,T6,Y7,a8];have J:bN A g B H N (σ bj):=J;have⟨aK,szv,cc,g1,cW,bk,f1,f2,f3,f4,f5,f6,f7⟩:=id bg;rw[aL ba.p 0 f1 T,aW ay.u f2.ls];have dt:scope.length<=100000:=Ω
  refine cp.range scope.length (λj E=>A=E/\n∉scope.take j) Ω ⟨T,Ξ⟩ ?_ ?_
  .rintro j _ cX cY ⟨rfl,az⟩ cZ;have⟨u,hu⟩:=aH (l:=scope) cY;rw[aP,al];refine⟨λ_=>?_,λh=>by simp only at h;omega⟩;rw[bc ay.u aq.i Ψ f2.ls hu,be,al];refine⟨λhe=>?_,λc0=>?_⟩
   .refine (oI J Ω).mono ?_;rintro _ aZ _ ⟨bM,c1⟩;rw[if_pos (by rw[<-he];exact x5 hu)]at C;exact ap aZ _ (bi.trans (bM.mono λr _ h=>.inl h)) C c1 (bg.dQ bM (kV J))
   .rw[aN];refine cZ _ ⟨T,?_⟩;rw[u9,hu];intro hm;rcases o5.1 hm with hm|hm
    .exact az hm
    .simp at hm;exact c0 hm.symm
  .rintro _ cX ⟨rfl,az⟩;rw[o6]at az;rw[aP,al];refine⟨λh=>by simp only at h;omega,λ_=>?_⟩;rw[if_neg az]at C;rw[aL ba.p 0 f1 T];refine eD ay.u aq.i T λdu dv ae dw O c2=>?_;have dx:=J.lt;refine hY ay.u aq.i T (f2.ext O) c2.ls Θ Θ λW bl a1 aC c3 bO=>?_;have aD:=f1.ext O;have f113:=aD.ab bO λhe=>ch (f2.ext O) aD Φ he T;rw[aU ba.p T];refine bq (g:=f) (o:=0) ay.i aC.ls.cells.1 aC.ls.cells.2 f113 Ξ λP bP dy aG=>?_;have aG:ag P f ba [W,szv,Δ 0,cc]:=aG;intro R bm _ _;have an:ai (λr=>leads aK r\/r=f) ae P:=(bO.mono λr _ h=>.inl h).trans (bP.mono λr _ h=>.inr h);have bR:∀r,(leads aK r\/r=f)->gZ g B r:=λr e=>.inr (e.elim (λe=>f5 r (.inl e)) λe=>e▸f7);have bT:ai (gZ g B) w P:=(bi.trans (O.ab _)).trans (an.mono λr _ e=>bR r e);have c4:ai (gZ g B) w R:=bT.trans (bm.ab _);have c5:av .i64 aq P cW szv _:=bw (f3.ext O) an λr e U=>by
    rcases U with U|rfl
    .exact f6 r U e
    .exact ch (f3.ext O) aD Φ e T
   have c6:av .i64 aq P bl W (scope++[n]):=bw aC bP λr e he=>by
    have he:r=f:=he;subst he;exact ch aC f113 Φ e T
   have c8:∀r,(leads aK r\/r=f)->(∃c,ag ae r aq c)\/∃c,ag ae r ba c:=λr e=>by
    rcases e with e|rfl
    .obtain⟨G,_⟩:=bS f2 e;obtain⟨_,⟨ad,_⟩|⟨_,cs,ad,I,_⟩⟩:=f2.ext O
     .rw[ad]at e;have⟨a,c9,c,G,aj⟩:=e;cases G
     .exact .inl ⟨cs,G▸I⟩
    .exact .inr ⟨_,aD⟩
   have da:kT P bk cc []:=by
    have⟨L,X,db,bn⟩:=f4.dQ (O.ab λ_=>False) λ_ h=>h.elim;have br:L=[]:=List.map_eq_nil_iff.1 bn;subst br;refine⟨[],X.ab an λr e U=>?_,λy bt=>(by cases bt),T⟩;rcases c8 r U with⟨c,I⟩|⟨c,I⟩
    .exact cP X I Φ e
    .exact cP X I Φ e
   have dc:bN P g B H N (σ bj):=(J.ext O).new an λr e=>by
    rcases bR r e with rfl|h
    .rcases e with e|e
     .exact f5 _ (.inl e)
     .exact e▸f7
    .exact h
   rw[aL ba.p 1 (aG.ext bm) T];have dd:all[n.toNat]?=σ (all.getD n.toNat 0):=by rw[u4,x6 Ω];rfl
   rw[fP (y:=n) (i:=n.toNat) Ω ay.u aq.i Ψ (bL c4).ls dd];refine eD ay.u aq.i T λdz dA Z dC bU de=>?_;refine⟨.inl bU,?_⟩;have Y:=bm.trans bU;have f316:=c5.ext Y;have bW:(scope.map λv=>all.getD v.toNat 0).length=scope.length:=r8 _;refine hY ay.u aq.i T f316 de.ls (by simp at bW ⊢;omega) (by simp at bW ⊢;omega) λbu df a6 aI bX bY=>?_;have aJ:=aG.ext Y;have bZ:=aJ.ab bY λhe=>ch f316 aJ Φ he T;rw[aU ba.p T];refine bq (g:=f) (o:=1) ay.i aI.ls.cells.1 aI.ls.cells.2 bZ Ξ λS b0 dD ao=>?_;have ao:ag S f ba [W,bu,Δ 0,cc]:=ao;rw[aN];have aM:ai (λr=>leads szv r\/r=f) Z S:=(bY.mono λr _ h=>.inl h).trans (b0.mono λr _ h=>.inr h);have b1:∀r,(leads szv r\/r=f)->B<=r:=λr e=>e.elim (λe=>f5 r (.inr e)) λe=>e▸f7;have bx:=c6.ext Y;have dE:=O.size;have dF:=an.size;have bA:∀r,leads W r->B<=r/\¬leads szv r:=λr e=>by
    rcases c3 r e with h|h
    .exact⟨f5 r (.inl h),f6 r h⟩
    .exact⟨Ω,λbB=>by have⟨G,aj⟩:=bS f3 bB;omega⟩
   have dg:av .i64 aq S bl W (scope++[n]):=bw bx aM λr e U=>by
    rcases U with U|rfl
    .exact (bA r e).2 U
    .exact ch bx aJ Φ e T
   have dh:=bw aI b0 λr e he=>by
    have he:r=f:=he;subst he;exact ch aI bZ Φ e T
   have di:kT S bk cc []:=by
    have⟨L,X,db,bn⟩:=da.dQ (Y.ab λ_=>False) λ_ h=>h.elim;have br:L=[]:=List.map_eq_nil_iff.1 bn;subst br;refine⟨[],X.ab aM λr e U=>?_,λy bt=>(by cases bt),T⟩;rcases U with U|rfl
    .obtain⟨G,_⟩:=bS f316 U;obtain⟨_,⟨ad,_⟩|⟨_,cs,ad,I,_⟩⟩:=f316
     .rw[ad]at U;have⟨a,c9,c,G,aj⟩:=U;cases G
     .exact cP X (G▸I) Φ e
    .exact cP X aJ Φ e
   refine hk _ ⟨scope++[n],bj,((bT.trans (Y.ab _)).trans (aM.mono λr _ e=>.inr (b1 r e))),(dc.ext Y).new aM b1,⟨W,bu,cc,bl,df,bk,ao,dg,by rw[Z4];exact dh,di,λr e=>?_,λr e bB=>?_,f7⟩,by rw[r9,bK];rfl,by rw[r9];simp;omega,C,λc bC=>?_⟩
   .rcases e with e|e
    .exact (bA r e).1
    .rcases bX r e with h|h
     .exact f5 r (.inr h)
     .have:=Y.size;omega
   .rcases bX r bB with h|h
    .exact (bA r e).2 h
    .obtain⟨G,aj⟩:=bS bx e;omega
   .have dj:c=[W,bu,Δ 0,cc]:=by
     unfold ag at bC ao;rw[ao]at bC;have:=(Obj.cells.inj (b9 bC)).1;exact(Array.toList_inj.2 this).symm
    have dk:cc= .slice ν 0 0:=by
     have⟨dG,dH,dI,_,_,_,bE,_⟩:=aw;have b2:=a7 _ bE;have bF:=bE.ab bb λhe=>by
      have he:f=g:=he;have⟨cN,G,aj,bad,cO,big,cQ,told,sv,I,_⟩:=ii Q;subst he;exact absurd (eQ I bE) Φ
     unfold ag at bF f1;rw[f1]at bF;have dm:=Array.toList_inj.2 (Obj.cells.inj (b9 bF)).1;have Q:=congrArg (λl=>l[3]?) dm;simp at Q;simp at b2;rw[Q,b2]
    rw[dj,dk];rfl
def Pg{y:x1->x3->Prop}(h:aI .i64 w sv l)(h1:∀z∈l,1<=z)(J:∀c:Int,(4096<c↔dq l=true)->y (Δ c) w):
  bT (Δ 1) (Δ 0) w λA r a K=>
   ac x7 (aO .lss ah false false r (Δ (l.length:Int))) a λL=>
   Split L (cz (α:=x1->x3->Prop) (λ(M:x1)(B:x3)=>
    ac x7 (aO .add ah false true r (Δ 1)) B λN=>
    K M N B) λC=>
   ac x7 (j9 ay sv r) a λO=>
   ac x7 (u5 aq O) a λE=>
   cz (α:=x1->x3->Prop) (λ(P:x1)(f:x3)=>
    ac x7 (aO .mul aq false false A P) f λF=>
    ac x7 (aO .gtr aq false true F (Δ 4096)) f λQ=>
    Split Q (C (Δ 4097) f)
     (C F f)) λG=>
   ac x7 (aO .gtr aq false true E (Δ 4096)) a λR=>
   Split R (G (Δ 4097) a)
    (G E a))
    (y A a):=by
 refine bT.range l.length (λi c V=>w=V/\∃p:Int,p=aQ ((l.take i).map λk=>min k 4097)/\1<=p/\c=Δ (if 4096<p then 4097 else p)) h.le ⟨T,1,by simp[aQ],Ω,by rw[if_neg Ω]⟩ ?_ ?_
 .rintro i _ _ S hi ⟨rfl,p,q,U,rfl⟩ W;have⟨z,s⟩:=aH (l:=l) hi;have:=h1 z (x5 s);have e:aQ ((l.take (i+1)).map λk=>min k 4097)=p*min z 4097:=by
   rw[q,u9,s,n9,Z4,U7,List.map_nil,BW]
  have Z:p*1<=p*min z 4097:=Int.mul_le_mul_of_nonneg_left Ω Ω;apply bz Ω;refine aV (λv aa=>w=aa/\v=Δ (if 4096<p*min z 4097 then 4097 else p*min z 4097)) ?_ ?_
  .rintro _ _ ⟨rfl,rfl⟩;rw[aN];exact W _ _ ⟨T,_,e.symm,Ω,T⟩
  intro aA x;rw[bc ay.u aq.i Ψ h s];refine aV (λv aa=>w=aa/\v=Δ (min z 4097)) ?_ ?_
  .rintro _ _ ⟨rfl,rfl⟩;rw[h9];by_cases H:4096<p
   .rw[if_pos H];have X:(4097:Int)*1<=4097*min z 4097:=Int.mul_le_mul_of_nonneg_left Ω Ω;rw[wrap_i64 Ω Ω,bJ,al];refine⟨λ_=>x _ _ ⟨T,by rw[if_pos Ω]⟩,λab=>Ω⟩
   .rw[if_neg H];have X:p*min z 4097<=4096*4097:=by
     have:=Int.mul_le_mul_of_nonneg_right (show p<=4096 by omega) (show 0<=min z 4097 by omega);have:=Int.mul_le_mul_of_nonneg_left (show min z 4097<=4097 by omega) (show(0:Int)<=4096 by omega);omega
    rw[wrap_i64 Ω Ω,bJ,al];exact⟨λaB=>x _ _ ⟨T,by rw[if_pos aB]⟩,λaB=>x _ _ ⟨T,by rw[if_neg aB]⟩⟩
  .intro af I;rw[bJ,al];exact⟨λaB=>I _ _ ⟨T,by congr 1;omega⟩,λaB=>I _ _ ⟨T,by congr 1;omega⟩⟩
 .rintro _ _ S ⟨rfl,p,q,U,rfl⟩;rw[o6]at q;rw[aP,al];refine⟨λh=>Ω,λ_=>J _ ?_⟩;unfold dq;rw[<-q,decide_eq_true_eq];split
  .exact⟨λ_=>Ω,λ_=>Ω⟩
  .exact Iff.rfl
def Ph{g ao:Nat}{H:ak}{so:Option aF}{Y:x3->Prop}(h:bN w g B H N so)(C:av .i64 aq w gz szv sizes)(aD:∀z∈sizes,1<=z/\z<=aw)(bn:sizes.length<=100001)(Q:ag w ao cg [.slice ν 0 0,Δ 0])(aG:B<=ao)(Z:∀t w' aM gt,t.length=sizes.length->ai (λr=>r=g\/r=ao\/w.heap.size<=r) w w'->ag w' ao cg [aM,Δ 0]->av .i64 aq w' gt aM t->(∀r,leads aM r->w.heap.size<=r)->bN w' g B H N ((fb sizes [] so).map (·.2))->(∀q,fb sizes [] so=σ q->t=q.1)->Y w'):
  cp (Δ 0) w λR s aI=>
      ac x7 (aO .lss ah false false R (Δ (sizes.length:Int))) s λaJ=>
      Split aJ (ac x7 (j9 ay szv R) s λaK=>
      ac x7 (u5 aq aK) s λaP=>
      ac x7 (aO .sub aq false true aP (Δ 1)) s λaQ=>
      am x7 ma [Γ g,(Δ 0),aQ] s λad E=>
      ac x7 (Y0 ad 0) E λaR=>
      ac x7 (Y0 ad 1) E λbr=>
      ac x7 (u6 cg (Γ ao) 0) E λaS=>
      ac x7 (u5 ay aS) E λaT=>
      aE x7 (Y5 ay 1 #[(0,aR)]) E λaV aW=>
      aE x7 (Z0 #[ay,ay] ay #[aT,aV]) aW λaX ae=>
      ac x7 (u6 cg (Γ ao) 0) ae λaY=>
      aE x7 (o8 ay aY aX) ae λ(_:Unit)af=>
      ac x7 (aO .add ah false true R (Δ 1)) af λaZ=>
      aI aZ af)
       (Y s):=by
 have bt:=Q.lt;have bu:=h.lt;refine cp.range sizes.length (λj V=>∃t aM gt s1,t.length=j/\ai (λr=>r=g\/r=ao\/w.heap.size<=r) w V/\ag V ao cg [aM,Δ 0]/\av .i64 aq V gt aM t/\(∀r,leads aM r->w.heap.size<=r)/\bN V g B H N s1/\fb sizes [] so=fb (sizes.drop j) t s1) C.ls.le
  ⟨[],_,0,so,T,ai.refl _ _,Q,av.nil _ _ _ _,(λr e=>by have⟨a,n,c,K,S⟩:=e;cases K),h,T⟩ ?_ ?_
 rotate_left
 .rintro V a1 ⟨t,aM,gt,s1,L,x,M,G,y,I,he⟩;apply b4 Ω;rw[List.drop_length]at he;cases s1 with
  |none=>
   have he:fb sizes [] so=ν:=he;exact Z t V aM gt L x M G y (by rw[he];exact I) (λq f=>by rw[he]at f;cases f)
  |some s1=>
   have he:fb sizes [] so=σ (t,s1):=he;exact Z t V aM gt L x M G y (by rw[he];exact I) (λq f=>by rw[he]at f;cases f;rfl)
 rintro j V a1 aj ⟨t,aM,gt,s1,L,x,M,G,y,I,he⟩ a2;have⟨z,W⟩:=aH (l:=sizes) aj;have a6:=aD z (x5 W);have bx:z<=4611686018427387904:=a6.2;have a7:av .i64 aq V gz szv sizes:=bw C x λr e U=>by
  rcases U with rfl|rfl|U
  .obtain⟨a8,K,S,bad,ba,big,bb,told,sv,J,_⟩:=ii h;exact ch C J Φ e T
  .exact ch C Q Φ e T
  .obtain⟨K,S⟩:=bS C e;omega
 apply bz Ω;rw[bc ay.u aq.i Ψ a7.ls W,dN,wrap_i64 Ω Ω];apply(kU I).mono;rintro _ aa _ ⟨⟨O,bd⟩,n,at_,rfl,be,bA⟩;rw[bo,bp];have bg:ao≠g:=Ω
 have al:=M.ab O λhe=>bg he;have bh:∃c,ag V g bD c:=by have⟨a8,K,S,bad,ba,big,bb,told,sv,J,_⟩:=ii I;exact⟨_,J⟩
 have an:av .i64 aq aa gt aM t:=bw G O λr e he=>by
  have he:r=g:=he;have⟨c,J⟩:=bh;exact ch G J Φ e he
 rw[aL cg.p 0 al T];refine eD ay.u aq.i T λa3 bB bi bC A bj=>?_;refine hY ay.u aq.i T (an.ext A) bj.ls Θ Θ λap bk bE P bl au=>?_;have ax:=al.ext A;have az:=ax.ab au λhe=>ch (an.ext A) ax Φ he T;rw[aU cg.p T];refine bq (g:=ao) (o:=0) ay.i P.ls.cells.1 P.ls.cells.2 az Ξ λaA aB bF X=>?_;have X:ag aA ao cg [ap,Δ 0]:=X;rw[aN];have aC:ai (λr=>leads aM r\/r=ao) bi aA:=(au.mono λr _ h=>.inl h).trans (aB.mono λr _ h=>.inr h);have bG:=x.size;have bH:=O.size;have z3:=A.size;refine a2 _ ⟨t++[n],ap,bk,(bf 0 (z-1) s1).map (·.2),by simp[L],?_,X,bw P aB λr e he=>?_,λr e=>?_,?_,?_⟩
 .refine (x.trans (O.mono λr _ h=>.inl h)).trans ((A.ab _).trans (aC.mono λr _ h=>?_));exact h.elim (λh=>.inr (.inr (y r h))) λh=>.inr (.inl h)
 .have he:r=ao:=he;subst he;exact ch P az Φ e T
 .rcases bl r e with h|h
  .exact y r h
  .omega
 .refine (bd.ext A).new aC λr e=>?_;rcases e with e|rfl
  .have:=y r e;omega
  .exact aG
 .rw[he];have bm:sizes.drop j=z::sizes.drop (j+1):=by rw[X4 aj,(x4.1 W).2]
  rw[bm,Cy];cases f:bf 0 (z-1) s1 with
  |none=>rfl
  |some q=>
   have⟨v,bI⟩:=q;have:=be _ f;subst this;rfl
def xv{g:Nat}(h:av .i64 aq w g v t):∀u∈oH ⟨v,t,c⟩,u.oneCell'=true:=by
 intro u hu;simp[oH]at hu;rcases hu with rfl|rfl
 .exact h.ls.cells.2
 .rfl
def Pj(sizes:Λ)(cnt i:Nat)(s0:aF)(A:List (Λ×Int))(so:Option aF):Prop:=(∃s,so=σ s/\cK (dU sizes) cnt [] s0=cK (dU sizes) (cnt-i) A s/\A.length+s.toks.length<=100000)\/(so=ν/\cK (dU sizes) cnt [] s0=ν)
def Pk{g I g1 a6 W:Nat}{H:ak}{s0:aF}{aK cc:x1}{scope:Λ}{o:Int}{aC:List (Λ×Int)}{bZ:x3->Prop}(h:bN w g B H N (σ s0))(f1:ag w I ba [aK,szv,Δ o,cc])(f2:av .i64 aq w g1 aK scope)(f3:av .i64 aq w a6 szv sizes)(f4:kT w W cc aC)(f5:∀r,leads aK r\/leads szv r->B<=r)(f6:∀r,leads aK r->¬leads szv r)(f7:B<=I)(cV:∀z∈sizes,1<=z/\z<=aw)(cW:sizes.length<=100001)(eU:n<=4611686018427387904)(br:0<n->aC=[]/\∀r,¬leadsTo cc r)(cX:s0.toks.length<=100000)(b0:∀w' A bx,ai (gZ g B) w w'->hx w' B I ⟨scope,sizes,o,A⟩->bN w' g B H N bx->(n<=0->A=aC/\bx=σ s0)->(0<n->bx=(cK (dU sizes) n.toNat [] s0).map (·.2)/\∀q,cK (dU sizes) n.toNat [] s0=σ q->A=q.1)->bZ w'):
  cp (Δ 0) w λb1 ad cY=>
     cz (α:=x1->x3->Prop) (λ(cZ:x1)(b2:x3)=>
      Split cZ (aE x7 (Q1 cg true (.tuple #[])) b2 λx X=>
     ac x7 (u6 ba (Γ I) 1) X λc0=>
     ac x7 (u5 ay c0) X λb3=>
     ac x7 (V0 #[ay] ah #[b3]) X λc1=>
     cp (Δ 0) X λbA ae c2=>
      ac x7 (aO .lss ah false false bA c1) ae λc3=>
      Split c3 (ac x7 (j9 ay b3 bA) ae λc4=>
      ac x7 (u5 aq c4) ae λc5=>
      ac x7 (aO .sub aq false true c5 (Δ 1)) ae λc6=>
      am x7 ma [Γ g,(Δ 0),c6] ae λb5 aD=>
      ac x7 (Y0 b5 0) aD λc7=>
      ac x7 (Y0 b5 1) aD λeV=>
      ac x7 (u6 cg x 0) aD λc8=>
      ac x7 (u5 ay c8) aD λc9=>
      aE x7 (Y5 ay 1 #[(0,c7)]) aD λda db=>
      aE x7 (Z0 #[ay,ay] ay #[c9,da]) db λdd b6=>
      ac x7 (u6 cg x 0) b6 λde=>
      aE x7 (o8 ay de dd) b6 λ(_:Unit)b7=>
      ac x7 (aO .add ah false true bA (Δ 1)) b7 λdf=>
      c2 df b7)
       (am x7 ma [Γ g,(Δ 0),(Δ 4611686018427387904)] ae λb8 E=>
     ac x7 (Y0 b8 0) E λdg=>
     ac x7 (Y0 b8 1) E λdh=>
     ac x7 (u6 ba (Γ I) 3) E λdi=>
     ac x7 (u5 ec di) E λb9=>
     ac x7 (V0 #[ec] ah #[b9]) E λdj=>
     cp (Δ 0) E λbB J dk=>
      ac x7 (aO .lss ah false false bB dj) J λdm=>
      Split dm (cz (α:=x3->Prop) (λ(au:x3)=>
       ac x7 (aO .add ah false true bB (Δ 1)) au λdn=>
       dk dn au) λca=>
      ac x7 (j9 ec b9 bB) J λdp=>
      ac x7 (u5 cg dp) J λdq=>
      aE x7 (Q1 cg true (.tuple #[])) J λy cb=>
      aE x7 (o8 cg y dq) cb λ(_:Unit)K=>
      cz (α:=x1->x3->Prop) (λ(dr:x1)(aG:x3)=>
       Split dr (am x7 nT [Γ g,(Δ 4),dh] aG λeW ce=>
        ca ce)
        (ca aG)) λci=>
      ac x7 (bQ (Γ g)) K λds=>
      ac x7 (u6 bD ds 3) K λdt=>
      ac x7 (u5 ah dt) K λdu=>
      ac x7 (aO .eql ah false true du (Δ 0)) K λdv=>
      Split dv (ac x7 (u6 cg x 0) K λdx=>
       ac x7 (u5 ay dx) K λdy=>
      ac x7 (u6 cg y 0) K λdz=>
      ac x7 (u5 ay dz) K λdA=>
      am x7 sI [dy,dA] K λdC cj=>
      ci dC cj)
       (ci (.bool false) K))
       (ac x7 (u6 cg x 1) J λdD=>
     aE x7 (o8 aq dD dg) J λ(_:Unit)Y=>
     ac x7 (u6 ba (Γ I) 3) Y λdE=>
     ac x7 (u5 ec dE) Y λdF=>
     ac x7 (u5 cg x) Y λdG=>
     aE x7 (Y5 ec 1 #[(0,dG)]) Y λdH a7=>
     aE x7 (Z0 #[ec,ec] ec #[dF,dH]) a7 λdI bC=>
     ac x7 (u6 ba (Γ I) 3) bC λdJ=>
     aE x7 (o8 ec dJ dI) bC λ(_:Unit)Z=>
     ac x7 (aO .add aq false true b1 (Δ 1)) Z λdK=>
     cY dK Z)))
       (bZ b2)) λck=>
     ac x7 (aO .lss aq false false b1 (Δ n)) ad λdL=>
     Split dL (ac x7 (bQ (Γ g)) ad λdM=>
     ac x7 (u6 bD dM 3) ad λdN=>
     ac x7 (u5 ah dN) ad λdO=>
     ac x7 (aO .eql ah false true dO (Δ 0)) ad λdP=>
     ck dP ad)
      (ck (.bool false) ad):=by
 have dR:=h.lt;refine cp.range n.toNat (λi V=>∃A so cc W,ai (gZ g B) w V/\ag V I ba [aK,szv,Δ o,cc]/\av .i64 aq V g1 aK scope/\av .i64 aq V a6 szv sizes/\kT V W cc A/\(0<n->∀r,leadsTo cc r->B<=r)/\bN V g B H N so/\(n<=0->A=aC/\so=σ s0)/\(0<n->Pj sizes n.toNat i s0 A so)) Ω
  ⟨aC,σ s0,cc,W,ai.refl _ _,f1,f2,f3,f4,λQ r C=>absurd C ((br Q).2 r),h,λ_=>⟨T,T⟩,λQ=>.inl ⟨s0,T,by rw[(br Q).1];rfl,by rw[(br Q).1];simpa using cX⟩⟩ ?_ ?_
 rotate_left
 .rintro V k ⟨A,so,cc,W,aI,az,bb,aJ,aQ,bE,af,cl,G⟩;refine aV (λv aa=>V=aa/\v= .bool false) ?_ ?_
  .rintro _ _ ⟨rfl,rfl⟩;rw[a8];refine b0 V A so aI ⟨aK,szv,cc,g1,a6,W,az,bb,aJ,aQ,f5,f6,f7⟩ af cl λQ=>?_;rcases G Q with⟨s,rfl,he,_⟩|⟨rfl,he⟩
   .rw[U4]at he;rw[he];exact⟨T,λq M=>by cases M;rfl⟩
   .rw[he];exact⟨T,λq M=>by cases M⟩
  .intro aA bF;rw[aP,al];exact⟨λh=>Ω,λ_=>bF _ _ ⟨T,T⟩⟩
 rintro i V k hi ⟨A,so,cc,W,aI,az,bb,aJ,aQ,bE,af,cl,G⟩ hk;have Q:0<n:=Ω
 refine aV (λv aa=>V=aa/\v= .bool so.isSome) ?_ ?_
 rotate_left
 .intro aA bF;apply bz Ω;rw[lG af];exact bF _ _ ⟨T,T⟩
 rintro _ _ ⟨rfl,rfl⟩;rcases G Q with⟨fe,rfl,he,eX⟩|⟨rfl,he⟩
 rotate_left
 .rw[R3,a8];refine b0 V A ν aI ⟨aK,szv,cc,g1,a6,W,az,bb,aJ,aQ,f5,f6,f7⟩ af (λh=>Ω) λ_=>?_;rw[he];exact⟨T,λq M=>by cases M⟩
 rw[T6,bV];have:=af.lt;refine bu cg.i λao X eZ aR bG=>?_;have bG:ag X ao cg [.slice ν 0 0,Δ 0]:=bG;have dS:=az.ext aR;have cm:=aJ.ext aR;have:=aR.size;have:=az.lt;rw[aU ba.p T,ax Ψ (dS.cell (o:=0+1) T),aW ay.u cm.ls];refine Ph (af.ext aR) cm cV cW bG Ω λt ae aM gt e2 dT dV dX dY dZ ea=>?_;apply(kU dZ).mono;rintro _ E _ ⟨⟨bH,bc⟩,c,at_,rfl,eb,e3⟩;rw[bo,bp];have bI:ao≠g:=Ω
 have cn:I≠g:=by have:=h.lt;omega
 have ed:ai (λr=>r=g\/r=ao\/X.heap.size<=r) X E:=dT.trans (bH.mono λr _ h=>.inl h);have cq:∀{S:Nat->Prop},(∀r,S r->r=g\/V.heap.size<=r)->∀r,S r->hv V r\/V.heap.size<=r:=λee r C=>(ee r C).imp (λhe=>by
  subst he;have⟨cr,aS,aT,bad,ct,big,cu,told,sv,G,_⟩:=ii af;exact⟨_,_,G,Φ,Φ⟩) id
 have bd:ai (λr=>r=g\/V.heap.size<=r) V E:=(aR.ab _).trans (ed.mono λr _ h=>h.elim .inl λh=>h.elim (λh=>.inr Ω) λh=>.inr Ω);have cw:ag E I ba [aK,szv,Δ o,cc]:=az.ab bd λh=>h.elim cn λh=>Ω
 have⟨L,be,cA,bJ⟩:=aQ.dQ bd (cq λr C=>C);have cB:ag E ao cg [aM,Δ 0]:=dV.ab bH λhe=>bI he;have cC:av .i64 aq E gt aM t:=bw dX bH λr C he=>by
  have he:r=g:=he;have:=dY r C;omega
 have e4:L.length=A.length:=by rw[<-bJ,r8]
 rw[aL ba.p 3 cw T,eF ec.u be];generalize cD:(bf 0 4611686018427387904 (V7 (λx=>x.snd) (fb sizes [] (σ fe)))).map (·.2)=aj at bc;have:=bd.size;refine cp.range L.length (λj J=>ai (λr=>r=g) E J/\bN J g B H N (if t∈(L.take j).map (·.t)then ν else aj)) be.le ⟨ai.refl _ _,by simpa using bc⟩ ?_ ?_
 .rintro j J ef cE ⟨O,aX⟩ eg;have⟨y,P⟩:=aH (l:=L) cE;have bK:∃c,ag E g bD c:=by have⟨cr,aS,aT,bad,ct,big,cu,told,sv,G,_⟩:=ii bc;exact⟨_,G⟩
  have an:∀r,r=g->hv E r\/E.heap.size<=r:=λr C=>by
   subst C;have⟨c,G⟩:=bK;exact .inl ⟨_,c,G,Φ,Φ⟩
  have bg:=xt be O λr C=>(an r C).imp (λ⟨e,c,G,_,aY⟩=>⟨e,c,G,aY⟩) id;have⟨e6,eh⟩:=cA y (x5 P);have cF:=eH eh O an;have bL:=eH cC O an;have bi:=cB.ab O λhe=>bI he;apply bz Ω;have bM:t∈(L.take (j+1)).map (·.t)↔t∈(L.take j).map (·.t)\/t=y.t:=by
   rw[u9,P,n9,Z4,o5];simp
  refine dc (λau=>ai (λr=>r=g) E au/\bN au g B H N (if t∈(L.take (j+1)).map (·.t)then ν else aj)) ?_ ?_
  .rintro au ei;rw[aN];exact eg _ ei
  intro e7 cG;rw[dw T ec.u cg.i bg cE,bR cg.p cg.i T (bg.range P)];refine bu cg.i λgy cb e8 ej ek=>?_;refine cd (vs:=oH y) cg.i T rfl (xv cF) ek λK em e9 en=>?_;have aZ:Ext J K:=ej.put em Ω;have cH:=aX.ext aZ;have cI:ai (λr=>r=g) E K:=O.trans (aZ.ab _);refine aV (λv aG=>∃b:Bool,v= .bool b/\Ext K aG/\(b=true->t=y.t)/\(b=false->t≠y.t\/(if t∈(L.take j).map (·.t)then ν else aj)=ν)) ?_ ?_
  .rintro _ aG ⟨b,rfl,bO,eo,ep⟩;have ap:=cH.ext bO;cases b with
   |true=>
    rw[bV];apply(oI ap Ω).mono;rintro _ ce _ ⟨er,es⟩;refine cG _ ⟨(cI.trans (bO.ab _)).trans er,?_⟩;rw[if_pos (bM.2 (.inr (eo T)))];exact es
   |false=>
    rw[a8];refine cG _ ⟨cI.trans (bO.ab _),?_⟩;by_cases hm:t∈(L.take j).map (·.t)
    .rw[if_pos (bM.2 (.inl hm))];rw[if_pos hm]at ap;exact ap
    .rw[if_neg hm]at ap;rcases ep rfl with aY|cJ
     .rw[if_neg (λh=>(bM.1 h).elim hm aY)];exact ap
     .rw[if_neg hm]at cJ;rw[cJ]at ap ⊢;split<;>exact ap
  .intro fa cL;rw[lG cH];cases a1:(if t∈(L.take j).map (·.t)then ν else aj)with
   |none=>
    rw[R3,a8];exact cL _ _ ⟨false,T,Ext.refl _,(λh=>by cases h),λ_=>.inr a1⟩
   |some fc=>
    rw[T6,bV];have et:=bi.ext aZ;rw[aL cg.p 0 et T,aL cg.p 0 en T];apply(xu (bL.ls.ext aZ) (cF.ls.ext aZ)).mono;rintro _ cj _ ⟨rfl,eu⟩;exact cL _ _ ⟨_,T,eu,λh=>of_decide_eq_true h,λh=>.inl (of_decide_eq_false h)⟩
 .rintro J ef ⟨O,aX⟩;rw[o6]at aX;have ev:L.map (·.t)=A.map (·.1):=by rw[<-bJ,S1];rfl
  rw[ev]at aX;have bK:∃c,ag E g bD c:=by have⟨cr,aS,aT,bad,ct,big,cu,told,sv,G,_⟩:=ii bc;exact⟨_,G⟩
  have an:∀r,r=g->hv E r\/E.heap.size<=r:=λr C=>by
   subst C;have⟨c,G⟩:=bK;exact .inl ⟨_,c,G,Φ,Φ⟩
  have cM:∀r,(r=g\/V.heap.size<=r)->hv V r\/V.heap.size<=r:=cq λr C=>C;have bj:ai (λr=>r=g\/V.heap.size<=r) V J:=bd.trans (O.mono λr _ h=>.inl h);have ew:=cw.ab O λhe=>cn he;have ey:=eH bb bj cM;have ez:=eH aJ bj cM;have bg:=xt be O λr C=>(an r C).imp (λ⟨e,c,G,_,aY⟩=>⟨e,c,G,aY⟩) id;have eA:∀y∈L,∃gy,av .i64 aq J gy y.v y.t:=λy P=>by
   have⟨gy,hm⟩:=cA y P;exact⟨gy,eH hm O an⟩
  have bL:=eH cC O an;have bi:=cB.ab O λhe=>bI he;apply b4 Ω;rw[aU cg.p T];refine bq (g:=ao) (o:=1) aq.i T rfl bi Ξ λY aB fd bP=>?_;have bP:ag Y ao cg [aM,Δ c]:=bP;have eB:I≠ao:=Ω
  have cN:=ew.ab aB λhe=>eB he;have ff:V.heap.size<=ao:=Ω
  have eC:∀r,leadsTo cc r->r≠ao:=λr C=>by have⟨aS,aT⟩:=aQ.choose_spec.1.leads C;omega
  have eD:=bg.ab aB λr C he=>eC r C he;rw[aL ba.p 3 cN T,bR cg.p cg.i T bP.range];let a:xr:=⟨aM,t,c⟩;have bk:∀{v:x1}{a2:Nat}{l:Λ},av .i64 aq J a2 v l->av .i64 aq Y a2 v l:=λhm=>bw hm aB λr C he=>by
   have he:r=ao:=he;exact ch hm bi Φ C he
  have cO:=bk bL;refine hU (f:=oH) (a:=a) ec.u cg.i Ω T rfl λv45 fg a7 fh R eE=>?_;have bS:=eD.ext R;refine iG (f:=oH) (a:=a) ec.u cg.i T bS (by simpa using eE.sl) (xv (cO.ext R)) Ω Ω λbT cQ bC bl eI cR=>?_;have bU:=cN.ext R;have cS:=bU.ab cR λhe=>cP bS bU Φ he;rw[aU ba.p T];refine bq (g:=I) (o:=3) ec.i (eR bl.sl).1 (eR bl.sl).2 cS Ξ λZ cT fi bW=>?_;have bW:ag Z I ba [aK,szv,Δ o,bT]:=bW;rw[aN];have bX:ai (λr=>leadsTo cc r\/r=I) a7 Z:=(cR.mono λr _ h=>.inl h).trans (cT.mono λr _ h=>.inr h);have bm:∀{v:x1}{a2:Nat}{l:Λ},av .i64 aq a7 a2 v l->av .i64 aq Z a2 v l:=λhm=>bw hm bX λr C U=>by
   rcases U with U|rfl
   .obtain⟨rfl,fj,G⟩:=dW bS U;exact ch hm G Φ C T
   .exact ch hm bU Φ C T
  have cU:∀r,(leadsTo cc r\/r=I)->B<=r:=λr C=>C.elim (λC=>bE Q r C) λC=>C▸f7;have eJ:bN Y g B H N (if t∈A.map (·.1)then ν else aj):=aX.new aB λr C=>by
   have C:r=ao:=C;omega
  have eK:=(eJ.ext R).new bX cU;have eL:ai (gZ g B) V Z:=((bj.mono λr _ h=>h.elim .inl λh=>.inr Ω).trans (aB.mono λr _ h=>.inr (by have h:r=ao:=h;omega))).trans ((R.ab _).trans (bX.mono λr _ h=>.inr (cU r h)));have eM:kT Z cQ bT (A++[(t,c)]):=⟨L++[a],bl.ab cT λr C he=>by
   have he:r=I:=he;subst he;exact cP bl cS Φ C,λy P=>by
   rcases o5.1 P with P|P
   .obtain⟨gy,hm⟩:=eA y P;exact⟨gy,bm ((bk hm).ext R)⟩
   .rw[o9.1 P];exact⟨gt,bm (cO.ext R)⟩,by rw[Z4,bJ];rfl⟩
  refine hk _ ⟨A++[(t,c)],_,bT,cQ,aI.trans eL,bW,bm ((bk ey).ext R),bm ((bk ez).ext R),eM,λ_ r C=>?_,eK,λh=>Ω,λ_=>?_⟩
  .rcases eI r C with h|h
   .exact bE Q r h
   .have:=aI.size;have:=bj.size;have:=aB.size;have:=R.size;have:=dR.2;omega
  .have eN:n.toNat-i=(n.toNat-(i+1))+1:=Ω
   rw[eN]at he;have⟨eO,eP⟩:=CC (sizes:=sizes) (acc:=A) (st:=fe) (t:=t) (c:=c) ea eb;cases M:bf 0 aw ((fb sizes [] (σ fe)).map (·.2))with
   |none=>
    have a1:aj=ν:=by rw[<-cD];show(bf 0 aw _).map _=ν;rw[M];rfl
    rw[pH (eO M)]at he;refine .inr ⟨?_,he⟩;rw[a1];split<;>rfl
   |some q=>
    have a1:aj=σ q.2:=by rw[<-cD];show(bf 0 aw _).map _=_;rw[M];rfl
    have bn:=eP q M;by_cases hm:t∈A.map (·.1)
    .rw[if_pos hm]at bn;rw[pH bn]at he;exact .inr ⟨by rw[if_pos hm],he⟩
    .rw[if_neg hm]at bn;rw[ts bn]at he;refine .inl ⟨q.2,by rw[if_neg hm,a1],he,?_⟩;cases bY:fb sizes [] (σ fe)with
     |none=>rw[bY]at M;cases M
     |some p=>
      rw[bY]at M;have⟨bt,s1⟩:=p;have aS:iY sizes [] fe=σ (bt,s1):=bY;have⟨u,_,_,eQ⟩:=wv aS;have aT:bh 0 aw s1=σ q:=M;have⟨fk,fm⟩:=q;have eS:=dl aT;have:=eQ.1;have:=eS.1;rw[r9];simp only[T2];omega
def kg(s:aF):Prop:=s.big=false->0<=s.told/\s.told<=16384
def kh(neg:Bool)(ar:Nat)(scope sizes:Λ)(e:Option aF):Option (cn×aF):=match bf 0 aw (e.map (bb (decide (6<ar)||dq sizes)))with
 |none=>ν
 |some (other,f)=>match dF sizes f with
  |none=>ν
  |some (lines,a)=>σ (⟨scope,sizes,other,lines⟩,if neg=true then{a with shared:=a.shared++[(sizes,lines)]}else a)
def DX{s s':aF}{l:List (Λ×Int)}(h:dF sizes s=σ (l,s')):s'.toks.length+1<=s.toks.length/\s'.shared=s.shared:=by
 unfold dF at h;cases e:bh (-aw) aw s with
 |none=>rw[e]at h;cases h
 |some q=>
  have⟨n,s1⟩:=q;have r:=dl e;have A:=r.1;have w:=r.eqs.2.2;rw[e]at h;simp only at h;split at h
  .split at h
   .cases h
   .split at h
    .cases h;exact⟨Ω,w⟩
    .cases h
  .have h':cK (dU sizes) n.toNat [] (bb (decide (16384<min (s1.told+n) aw)) {s1 with told:=min (s1.told+n) aw})=σ (l,s'):=h;have:=i7 (f:=dU sizes) (λ_ t=>t.toks.length<=s1.toks.length/\t.shared=s1.shared) (λacc t a bt x z=>by
    have⟨_,_,_,y⟩:=oj z;have h1:=y.1;have p:=y.eqs.2.2;exact⟨by have:=x.1;omega,p.trans x.2⟩) n.toNat [] (bb (decide (16384<min (s1.told+n) aw)) {s1 with told:=min (s1.told+n) aw}) l s' ⟨o4 _,T⟩ h'
   have⟨⟨h1,p⟩,_⟩:=this;exact⟨Ω,p.trans w⟩
def uj{g:Nat}{H:ak}{s:aF}(h:bN w g B H N (σ s)):s.toks.length<=100000/\s.shared.length+s.toks.length<=100000:=by
 have⟨p,w0,q,r,gs,sv,L,x,y,z,bad,A,big,C,told,h1,E,F,G,e,I,J,K,M,O,P,a,Q,f,R⟩:=h;have:=e.2.2.1;refine⟨by rw[<-a,r8];omega,by rw[<-a,<-f,r8,r8];omega⟩
def DY(w:x3)(g h B:Nat)(H:ak)(e:Option (cn×aF))(v:x1)(w':x3):Prop:=∃f x a,ai (λr=>r=g\/H r\/r=h\/B<=r) w w'/\v= .agg (e1 f).toArray/\gY w' f x/\bN w' g w'.heap.size a 100001 (e.map (·.2))/\(∀q,e=σ q->x=q.1)/\(∀r,H r->a r)/\(∀r,a r->H r\/B<=r)/\∀r,a r->r<w'.heap.size
def DZ{g G ar:Nat}{H:ak}{R:Option aF}{neg:Bool}{dC:Int}{scope:Λ}{Q:x1->x3->Prop}(h:bN w g B H 100000 R)(dD:hx w B G ⟨scope,sizes,0,[]⟩)(fq:∀c,ag w G ba c->c[3]?=σ (.slice ν 0 0))(dG:∀z∈sizes,1<=z/\z<=aw)(fs:sizes.length<=100001)(dH:ag w N ba [.slice ν 0 0,.slice ν 0 0,Δ 0,.slice ν 0 0])(jA:N<B)(cI:¬H N)(cJ:∀r,H r->r<B)(ft:∀ap,R=σ ap->kg ap)(fu:∀v w',DY w g N B H (kh neg ar scope sizes R) v w'->Q v w'):
  ac x7 (u6 ba (Γ G) 1) w λfv=>
  ac x7 (u5 ay fv) w λdI=>
  ac x7 (V0 #[ay] ah #[dI]) w λfw=>
  bT (Δ 1) (Δ 0) w λdJ c0 aG fx=>
   ac x7 (aO .lss ah false false c0 fw) aG λfy=>
   Split fy (cz (α:=x1->x3->Prop) (λ(fz:x1)(dK:x3)=>
    ac x7 (aO .add ah false true c0 (Δ 1)) dK λfA=>
    fx fz fA dK) λdL=>
   ac x7 (j9 ay dI c0) aG λfB=>
   ac x7 (u5 aq fB) aG λdM=>
   cz (α:=x1->x3->Prop) (λ(fD:x1)(cL:x3)=>
    ac x7 (aO .mul aq false false dJ fD) cL λdO=>
    ac x7 (aO .gtr aq false true dO (Δ 4096)) cL λfE=>
    Split fE (dL (Δ 4097) cL)
     (dL dO cL)) λdP=>
   ac x7 (aO .gtr aq false true dM (Δ 4096)) aG λfF=>
   Split fF (dP (Δ 4097) aG)
    (dP dM aG))
    (cz (α:=x3->Prop) (λ(bY:x3)=>
   am x7 ma [(Γ g),(Δ 0),(Δ 4611686018427387904)] bY λdR bC=>
   ac x7 (Y0 dR 0) bC λfG=>
   ac x7 (Y0 dR 1) bC λjB=>
   ac x7 (u6 ba (Γ G) 2) bC λfH=>
   aE x7 (o8 aq fH fG) bC λ(_:Unit)bg=>
   am x7 ma [(Γ g),(Δ (-4611686018427387904)),(Δ 4611686018427387904)] bg λdS O=>
   ac x7 (Y0 dS 0) O λbE=>
   ac x7 (Y0 dS 1) O λdT=>
   ac x7 (bQ (Γ g)) O λfI=>
   ac x7 (u6 bD fI 3) O λfJ=>
   ac x7 (u5 ah fJ) O λfK=>
   ac x7 (aO .neq ah false true fK (Δ 0)) O λfL=>
   Split fL (ac x7 (u5 ba (Γ G)) O λb0=>
    aE x7 (o8 ba (Γ N) b0) O λ(_:Unit)bi=>
    ac x7 (do loadVar ba (<-asAddr (Γ N))) bi λb1=>
 Q b1 bi)
    (cz (α:=x3->Prop) (λ(aX:x3)=>
    cp (Δ 0) aX λdV br fM=>
     cz (α:=x1->x3->Prop) (λ(fN:x1)(b2:x3)=>
      Split fN (aE x7 (Q1 cg true (.tuple #[])) b2 λx cM=>
     ac x7 (u6 ba (Γ G) 1) cM λfO=>
     ac x7 (u5 ay fO) cM λdX=>
     ac x7 (V0 #[ay] ah #[dX]) cM λfP=>
     cp (Δ 0) cM λc1 bF fR=>
      ac x7 (aO .lss ah false false c1 fP) bF λfS=>
      Split fS (ac x7 (j9 ay dX c1) bF λfU=>
      ac x7 (u5 aq fU) bF λfV=>
      ac x7 (aO .sub aq false true fV (Δ 1)) bF λfW=>
      am x7 ma [(Γ g),(Δ 0),fW] bF λdY b3=>
      ac x7 (Y0 dY 0) b3 λfX=>
      ac x7 (Y0 dY 1) b3 λjC=>
      ac x7 (u6 cg x 0) b3 λfY=>
      ac x7 (u5 ay fY) b3 λfZ=>
      aE x7 (Y5 ay 1 #[(0,fX)]) b3 λgb gc=>
      aE x7 (Z0 #[ay,ay] ay #[fZ,gb]) gc λgd dZ=>
      ac x7 (u6 cg x 0) dZ λgf=>
      aE x7 (o8 ay gf gd) dZ λ(_:Unit)ea=>
      ac x7 (aO .add ah false true c1 (Δ 1)) ea λgg=>
      fR gg ea)
       (am x7 ma [(Γ g),(Δ 0),(Δ 4611686018427387904)] bF λeb bG=>
     ac x7 (Y0 eb 0) bG λgh=>
     ac x7 (Y0 eb 1) bG λgi=>
     ac x7 (u6 ba (Γ G) 3) bG λgj=>
     ac x7 (u5 ec gj) bG λed=>
     ac x7 (V0 #[ec] ah #[ed]) bG λgk=>
     cp (Δ 0) bG λc2 bH gl=>
      ac x7 (aO .lss ah false false c2 gk) bH λgm=>
      Split gm (cz (α:=x3->Prop) (λ(ee:x3)=>
       ac x7 (aO .add ah false true c2 (Δ 1)) ee λgn=>
       gl gn ee) λef=>
      ac x7 (j9 ec ed c2) bH λgp=>
      ac x7 (u5 cg gp) bH λgq=>
      aE x7 (Q1 cg true (.tuple #[])) bH λy gu=>
      aE x7 (o8 cg y gq) gu λ(_:Unit)aI=>
      cz (α:=x1->x3->Prop) (λ(gv:x1)(eg:x3)=>
       Split gv (am x7 nT [(Γ g),(Δ 4),gi] eg λjD gw=>
        ef gw)
        (ef eg)) λeh=>
      ac x7 (bQ (Γ g)) aI λgx=>
      ac x7 (u6 bD gx 3) aI λgA=>
      ac x7 (u5 ah gA) aI λgB=>
      ac x7 (aO .eql ah false true gB (Δ 0)) aI λgC=>
      Split gC (ac x7 (u6 cg x 0) aI λgD=>
       ac x7 (u5 ay gD) aI λgE=>
      ac x7 (u6 cg y 0) aI λgF=>
      ac x7 (u5 ay gF) aI λgH=>
      am x7 sI [gE,gH] aI λgI gK=>
      eh gI gK)
       (eh (.bool false) aI))
       (ac x7 (u6 cg x 1) bH λgL=>
     aE x7 (o8 aq gL gh) bH λ(_:Unit)cN=>
     ac x7 (u6 ba (Γ G) 3) cN λgM=>
     ac x7 (u5 ec gM) cN λgN=>
     ac x7 (u5 cg x) cN λgO=>
     aE x7 (Y5 ec 1 #[(0,gO)]) cN λgP gQ=>
     aE x7 (Z0 #[ec,ec] ec #[gN,gP]) gQ λgR ei=>
     ac x7 (u6 ba (Γ G) 3) ei λgS=>
     aE x7 (o8 ec gS gR) ei λ(_:Unit)ej=>
     ac x7 (aO .add aq false true dV (Δ 1)) ej λgU=>
     fM gU ej)))
       (cz (α:=x3->Prop) (λ(af:x3)=>
     ac x7 (u5 ba (Γ G)) af λgV=>
     aE x7 (o8 ba (Γ N) gV) af λ(_:Unit)ek=>
     ac x7 (do loadVar ba (<-asAddr (Γ N))) ek λgW=>
 Q gW ek) λem=>
    Split (.bool neg) (ev b2 λau=>
     ac x7 (bQ (Γ g)) au λc3=>
     ac x7 (u6 bD c3 8) au λc4=>
     ac x7 (u5 dE c4) au λen=>
     ac x7 (u5 ba (Γ G)) au λgX=>
     aE x7 (Y5 dE 1 #[(0,gX)]) au λg0 aY=>
     (Ext au aY\/cD x7 (u5 dE c4) en aY/\cD x7 (u6 bD c3 8) c4 aY/\cD x7 (bQ (Γ g)) c3 aY/\True)/\
     aE x7 (Z0 #[dE,dE] dE #[en,g0]) aY λg2 cO=>
      ac x7 (bQ (Γ g)) cO λg3=>
      ac x7 (u6 bD g3 8) cO λg4=>
      aE x7 (o8 dE g4 g2) cO λ(_:Unit)bt=>
      em bt)
     (em b2))) λeo=>
     ac x7 (aO .lss aq false false dV bE) br λg5=>
     Split g5 (ac x7 (bQ (Γ g)) br λg6=>
     ac x7 (u6 bD g6 3) br λg7=>
     ac x7 (u5 ah g7) br λg8=>
     ac x7 (aO .eql ah false true g8 (Δ 0)) br λg9=>
     eo g9 br)
      (eo (.bool false) br)) λep=>
   ac x7 (aO .lss aq false true bE (Δ 0)) O λha=>
   Split ha (cz (α:=x1->x3->Prop) (λ(hb:x1)(Y:x3)=>
     Split hb (am x7 nT [(Γ g),(Δ 4),dT] Y λjE c5=>
     ac x7 (u5 ba (Γ G)) c5 λhc=>
     aE x7 (o8 ba (Γ N) hc) c5 λ(_:Unit)er=>
     ac x7 (do loadVar ba (<-asAddr (Γ N))) er λhd=>
 Q hd er)
     (ac x7 (bQ (Γ g)) Y λhg=>
    ac x7 (u6 bD hg 8) Y λhh=>
    ac x7 (u5 dE hh) Y λhj=>
    ac x7 (Op.unary .neg bE) Y λhl=>
    ac x7 (aO .sub aq false true hl (Δ 1)) Y λhn=>
    ac x7 (j9 dE hj hn) Y λho=>
    ac x7 (u6 ba ho 3) Y λhp=>
    ac x7 (u5 ec hp) Y λhq=>
    ac x7 (u6 ba (Γ G) 3) Y λhr=>
    aE x7 (o8 ec hr hq) Y λ(_:Unit)es=>
    ep es)) λet=>
    ev O λP=>
    ac x7 (Op.unary .neg bE) P λhs=>
    ac x7 (bQ (Γ g)) P λht=>
    ac x7 (u6 bD ht 8) P λhy=>
    ac x7 (u5 dE hy) P λhz=>
    ac x7 (V0 #[dE] ah #[hz]) P λhA=>
    ac x7 (aO .gtr aq false false hs hA) P λhB=>
    Split hB (et (.bool true) P)
    (ac x7 (bQ (Γ g)) P λhC=>
    ac x7 (u6 bD hC 8) P λhD=>
    ac x7 (u5 dE hD) P λhE=>
    ac x7 (Op.unary .neg bE) P λhF=>
    ac x7 (aO .sub aq false true hF (Δ 1)) P λhG=>
    ac x7 (j9 dE hE hG) P λhH=>
    ac x7 (u6 ba hH 1) P λhI=>
    ac x7 (u5 ay hI) P λhJ=>
    ac x7 (u6 ba (Γ G) 1) P λhK=>
    ac x7 (u5 ay hK) P λhL=>
    am x7 sI [hJ,hL] P λhM c6=>
    ac x7 (Op.unary .not hM) c6 λhN=>
    et hN c6))
    (ac x7 (bQ (Γ g)) O λhO=>
    ac x7 (u6 bD hO 7) O λhP=>
    ac x7 (u5 aq hP) O λhQ=>
    ac x7 (aO .add aq false false hQ bE) O λhR=>
    ac x7 (bQ (Γ g)) O λhS=>
    ac x7 (u6 bD hS 7) O λhT=>
    aE x7 (o8 aq hT hR) O λ(_:Unit)aJ=>
    cz (α:=x3->Prop) (λ(aM:x3)=>
     ac x7 (bQ (Γ g)) aM λhV=>
     ac x7 (u6 bD hV 7) aM λhW=>
     ac x7 (u5 aq hW) aM λhX=>
     ac x7 (aO .gtr aq false true hX (Δ 16384)) aM λhY=>
     am x7 sH [(Γ g),hY,dT] aM λjF c8=>
     ep c8) λeu=>
    ac x7 (bQ (Γ g)) aJ λhZ=>
    ac x7 (u6 bD hZ 7) aJ λh0=>
    ac x7 (u5 aq h0) aJ λh2=>
    ac x7 (aO .gtr aq false true h2 (Δ 4611686018427387904)) aJ λh3=>
    Split h3 (ac x7 (bQ (Γ g)) aJ λh4=>
    ac x7 (u6 bD h4 7) aJ λh5=>
    aE x7 (o8 aq h5 (Δ 4611686018427387904)) aJ λ(_:Unit)ew=>
    eu ew)
    (eu aJ)))) λey=>
  ac x7 (aO .gtr aq false true (Δ (ar:Int)) (Δ 6)) aG λh6=>
  Split h6 (am x7 sH [(Γ g),(.bool true),(Δ dC)] aG λjG h7=>
  ey h7)
   (ac x7 (aO .gtr aq false true dJ (Δ 4096)) aG λh8=>
  am x7 sH [(Γ g),h8,(Δ dC)] aG λjH h9=>
  ey h9)):=by
 have ia:=h.lt;have ez:N≠g:=λhe=>by
  have⟨az,aa,ad,bad,aB,big,aC,told,sv,E,_⟩:=ii h;subst he;exact absurd (eQ E dH) Φ
 have⟨aK,szv,cc,g1,cQ,cR,f1,f2,f3,f4,f5,f6,f7⟩:=id dD;have b4:G≠g:=Ω
 have ret:∀{I:x3}{x:cn}{S:ak},hx I B G x->ag I N ba [.slice ν 0 0,.slice ν 0 0,Δ 0,.slice ν 0 0]->ai (λr=>r=g\/H r\/B<=r) w I->bN I g I.heap.size S 100001 ((kh neg ar scope sizes R).map (·.2))->(∀q,kh neg ar scope sizes R=σ q->x=q.1)->¬S N->(∀r,H r->S r)->(∀r,S r->H r\/B<=r)->(∀r,S r->r<I.heap.size)->
   (ac x7 (u5 ba (Γ G)) I λb0=>
    aE x7 (o8 ba (Γ N) b0) I λ(_:Unit)bi=>
    ac x7 (do loadVar ba (<-asAddr (Γ N))) bi λb1=>Q b1 bi):=by
  intro I x S c9 da ic ie J ig db ih ij;have⟨aK,szv,cc,g1,cQ,cR,dd,de,df,dg,dh,eA,eB⟩:=c9;let ae:jk:=⟨aK,szv,x.other,cc⟩;have b5:gY I ae x:=⟨⟨g1,de⟩,⟨cQ,df⟩,T,cR,dg⟩;rw[bR ba.p ba.i T (show I.rangeAt G 0 (e1 ae)from dd.range)];refine cd (vs:=e1 ae) ba.i T rfl b5.one da λjI di ik il=>?_;rw[fQ ba.p ba.i T il.range];have im:∀r,r=N->hv I r\/I.heap.size<=r:=λr C=>by subst C;exact .inl ⟨_,_,da,Φ,Φ⟩
  refine fu _ _ ⟨ae,x,S,(ic.mono λr _ h=>?_).trans (di.mono λr _ h=>.inr (.inr (.inl h))),T,b5.dQ di im,ie.dQ di λr C=>.inl ?_,J,db,ih,λr C=>by rw[ik];exact ij r C⟩
  .exact h.elim .inl λh=>h.elim (λh=>.inr (.inl h)) λh=>.inr (.inr (.inr h))
  .have C:r=N:=C;subst C;exact⟨_,_,da,Φ,Φ,Φ,Φ,ig⟩
 have dj:∀{I:x3},ai (gZ g B) w I->ag I N ba [.slice ν 0 0,.slice ν 0 0,Δ 0,.slice ν 0 0]:=λaZ=>dH.ab aZ λU=>U.elim ez λh=>Ω
 have dk:∀{I:x3},ai (gZ g B) w I->ai (λr=>r=g\/H r\/B<=r) w I:=λaZ=>aZ.mono λr _ h=>h.elim .inl λh=>.inr (.inr h);have eC:∀{I:x3}{eD:Nat}{S:ak}{so:Option aF},bN I g eD S 100000 so->bN I g eD S 100001 so:=λC=>by
  have⟨b6,w0,az,bj,gs,sv,L,aD,aa,ad,bad,aB,big,aC,told,h1,io,ip,iq,ir,dm,dn⟩:=C;refine⟨Ω,w0,az,bj,gs,sv,L,aD,aa,ad,bad,aB,big,aC,told,h1,io,ip,iq,ir,dm,?_⟩;rename_i so;cases so with
  |none=>exact⟨dn.1,by have:=dn.2;omega⟩
  |some s=>exact dn
 have eE:∀{I:x3}{x:cn},hx I B G x->ai (gZ g B) w I->bN I g B H 100000 ν->kh neg ar scope sizes R=ν->(ac x7 (u5 ba (Γ G)) I λb0=>
    aE x7 (o8 ba (Γ N) b0) I λ(_:Unit)bi=>
    ac x7 (do loadVar ba (<-asAddr (Γ N))) bi λb1=>Q b1 bi):=λc9 aZ C eI=>
  ret c9 (dj aZ) (dk aZ) (by rw[eI];exact eC C.base) (λq W=>by rw[eI]at W;cases W) cI (λ_ h=>h) (λ_ h=>.inl h) λr C=>by have:=cJ r C;have:=aZ.size;omega
 rw[aL ba.p 1 f1 T,aW ay.u f3.ls];refine Pg f3.ls (λz it=>(dG z it).1) λc aZ=>?_;refine dc (λbY=>ai (λr=>r=g) w bY/\bN bY g B H 100000 (R.map (bb (decide (6<ar)||dq sizes)))) ?_ ?_
 rotate_left
 .intro aA a1;rw[bJ,al];refine⟨λdm=>?_,λdm=>?_⟩
  .refine (np h).mono ?_;rintro _ V _ a2;refine a1 _ ⟨a2.1,?_⟩;rw[decide_eq_true (show 6<ar by omega),Bool.true_or];exact a2.2
  .rw[bJ];apply(np h).mono;rintro _ V _ a2;refine a1 _ ⟨a2.1,?_⟩;have e:dq sizes=decide (4096<c):=by rw[U1,decide_eq_true_eq];exact aZ.symm
   rw[decide_eq_false (show¬6<ar by omega),Bool.false_or,e];exact a2.2
 rintro bY ⟨iu,iv⟩;apply(kU iv).mono;rintro _ bC _ ⟨⟨iw,ix⟩,o,jJ,rfl,iy,jK⟩;rw[bo,bp];have bI:ai (λr=>r=g) w bC:=iu.trans iw;have jL:=dD.dQ bI (kV h);have f123:=f1.ab bI λhe=>b4 he;rw[aU ba.p T];refine bq (g:=G) (o:=2) aq.i T rfl f123 Ξ λbg b7 jM bL=>?_;have bL:ag bg G ba [aK,szv,Δ o,cc]:=bL;have dp:∀r,r=g->hv w r\/w.heap.size<=r:=λr C=>(kV h r C).imp (λ⟨e,c,E,a6,a7,_⟩=>⟨e,c,E,a6,a7⟩) id;have bM:∀{I:x3}{c:List x1},ag I G ba c->∀r,r=G->hv I r\/I.heap.size<=r:=λE r C=>by subst C;exact .inl ⟨_,_,E,Φ,Φ⟩
 have f224:=eH (eH f2 bI dp) b7 (bM f123);have f324:=eH (eH f3 bI dp) b7 (bM f123);have eJ:=(f4.dQ bI dp).dQ b7 (bM f123);have bO:=ix.new b7 λr C=>by have C:r=G:=C;omega
 have eK:ai (gZ g B) w bg:=(bI.mono λr _ h=>.inl h).trans (b7.mono λr _ h=>.inr (by have h:r=G:=h;omega));apply(kU bO).mono;rintro _ O _ ⟨⟨bk,bc⟩,n,jN,rfl,iz,eL⟩;rw[bo,bp,rH bc];have eM:ai (gZ g B) w O:=eK.trans (bk.mono λr _ h=>.inl h);have iA:hx bg B G ⟨scope,sizes,o,[]⟩:=⟨aK,szv,cc,g1,cQ,cR,bL,f224,f324,eJ,f5,f6,f7⟩;have eN:=iA.dQ bk (kV bO);cases bd:bf (-4611686018427387904) 4611686018427387904 (V7 (λx=>x.snd) (bf 0 4611686018427387904 (R.map (bb (decide (6<ar)||dq sizes)))))with
 |none=>
  rw[bd]at bc;rw[Option.map_none,R3,W3,bV];apply eE eN eM bc;unfold kh;cases X:bf 0 aw (R.map (bb (decide (6<ar)||dq sizes)))with
  |none=>rfl
  |some p=>
   have⟨o',M⟩:=p;have iB:bf 0 4611686018427387904 (R.map (bb (decide (6<ar)||dq sizes)))=σ (o',M):=X;rw[iB]at bd;have e:bh (-aw) aw M=ν:=bd;simp only;unfold dF;rw[e]
 |some q=>
 have⟨jO,K⟩:=q;have iC:=iz _ bd;subst iC;rw[bd]at bc;have bc:bN O g B H 100000 (σ K):=bc;rw[Z6,T6,Y7,a8];obtain⟨M,X,dr⟩:∃M,bf 0 aw (R.map (bb (decide (6<ar)||dq sizes)))=σ (o,M)/\bh (-aw) aw M=σ (n,K):=by
  cases X:bf 0 4611686018427387904 (R.map (bb (decide (6<ar)||dq sizes)))with
  |none=>rw[X]at bd;cases bd
  |some p=>
   have⟨o',M⟩:=p;have:=iy _ X;subst this;rw[X]at bd;exact⟨M,X,bd⟩
 have b8:kh neg ar scope sizes R=match dF sizes M with
   |none=>ν
   |some (lines,K)=>σ (⟨scope,sizes,o,lines⟩,if neg=true then{K with shared:=K.shared++[(sizes,lines)]}else K):=by
  unfold kh;rw[X]
 have iD:=(ib dr).1;have iE: -4611686018427387904<=n/\n<=4611686018427387904:=iD;have eO:dF sizes M=(if n<0 then match K.shared[(-n-1).toNat]? with
   |none=>ν
   |some (z,l)=>if z=sizes then σ (l,K)else ν
  else cK (dU sizes) n.toNat [] (bb (decide (16384<min (K.told+n) aw)) {K with told:=min (K.told+n) aw})):=by
  unfold dF;rw[dr];rfl
 have iF:kg K:=by
  cases bP:R with
  |none=>rw[bP]at X;cases X
  |some ap=>
   rw[bP]at X;have ds:bh 0 aw (bb (decide (6<ar)||dq sizes) ap)=σ (o,M):=X;have cS:=(dl ds).eqs;have ca:=(dl dr).eqs;intro E;rw[ca.2.1,cS.2.1]at E;rw[ca.1,cS.1];exact ft ap bP (S8.1 E).1
 refine dc (λaX=>ai (gZ g B) w aX/\∃bu cb cT bl,ag aX G ba [aK,szv,Δ o,bu]/\av .i64 aq aX g1 aK scope/\av .i64 aq aX cQ szv sizes/\kT aX cb bu cT/\bN aX g B H 100000 (σ bl)/\(0<n->cT=[]/\∀r,¬leadsTo bu r)/\dF sizes M=(if n<=0 then σ (cT,bl)else cK (dU sizes) n.toNat [] bl)) ?_ ?_
 .rintro aX ⟨iH,bu,cb,cT,bl,dd,de,df,dg,dh,eA,eB⟩;refine Pk dh dd de df dg f5 f6 f7 dG fs iE.2 eA (uj dh).1 λb2 A dt iI eP eS iJ ce=>?_;have bS:=iH.trans iI;have bw:dt=(dF sizes M).map (·.2)/\∀q,dF sizes M=σ q->A=q.1:=by
   rw[eB];by_cases du:n<=0
   .obtain⟨aa,ad⟩:=iJ du;rw[if_pos du];exact⟨ad,λq W=>by cases W;exact aa⟩
   .rw[if_neg du];exact ce Ω
  have⟨bw,a2⟩:=bw;cases neg with
  |false=>
   refine dc (λaf=>b2=af) ?_ ?_
   .rintro _ rfl;refine ret eP (dj bS) (dk bS) ?_ ?_ cI (λ_ h=>h) (λ_ h=>.inl h) λr C=>by have:=cJ r C;have:=bS.size;omega
    .have:(kh false ar scope sizes R).map (·.2)=dt:=by
      rw[b8,bw];cases dF sizes M with
      |none=>rfl
      |some p=>rfl
     rw[this];exact eC eS.base
    .intro q W;rw[b8]at W;cases aj:dF sizes M with
     |none=>rw[aj]at W;cases W
     |some p=>
      rw[aj]at W;have:=a2 p aj;cases W;rw[this]
   .intro aA a1;rw[a8];exact a1 _ T
  |true=>
   refine dc (λaf=>∃S,ai (λr=>r=g\/H r\/B<=r) w af/\hx af B G ⟨scope,sizes,o,A⟩/\ag af N ba [.slice ν 0 0,.slice ν 0 0,Δ 0,.slice ν 0 0]/\bN af g af.heap.size S 100001 ((kh true ar scope sizes R).map (·.2))/\¬S N/\(∀r,H r->S r)/\(∀r,S r->H r\/B<=r)/\∀r,S r->r<af.heap.size) ?_ ?_
   .rintro af ⟨S,iK,iL,a3,a4,a5,iM,iN,iO⟩;refine ret iL a3 iK a4 ?_ a5 iM iN iO;intro q W;rw[b8]at W;cases aj:dF sizes M with
    |none=>rw[aj]at W;cases W
    |some p=>
     rw[aj]at W;have:=a2 p aj;cases W;rw[this]
   .intro aA a1;rw[bV];intro au ch _ _;have iP:=eS.ext ch;have iQ:=eP.ext ch;have iR:=(dj bS).ext ch;have⟨b6,w0,az,bj,gs,sv,L,aD,aa,ad,bad,aB,big,aC,told,cU,bx,bz,an,bA,bm,bB⟩:=id iP;have iS:=bA.g bx bz;have⟨⟨iT,eU⟩,aQ,ci,cj⟩:=id iS;have iU:∀r,leadsTo sv r->r<B:=λr C=>cJ r (bm r C);rw[aT bD.p 8 an T];have⟨eV,eW,bu,eX,eY,cb,eZ,e0,e2,e3,iV,iW,iX⟩:=id iQ;let ae:jk:=⟨eV,eW,o,bu⟩;let x:cn:=⟨scope,sizes,o,A⟩;have b5:gY au ae x:=⟨⟨eX,e0⟩,⟨eY,e2⟩,T,cb,e3⟩;rw[bR ba.p ba.i T (show au.rangeAt G 0 (e1 ae)from eZ.range)];refine hU (f:=e1) (a:=ae) dE.u ba.i Ω T rfl λjP jQ aY jR Z iY=>?_;refine⟨.inl Z,?_⟩;have jS:L.length<=100000:=by
     cases dt with
     |none=>exact bB.2
     |some s=>have:=bB.2.2.2.2.2.2.2.2;omega
    have dv:=aQ.ext Z;refine iG (f:=e1) (a:=ae) dE.u ba.i T dv (by simpa using iY.sl) (b5.ext Z).one Ω Ω λe4 iZ cO ck i0 e5=>?_;have dx:=an.ext Z;have e6:=dx.ab e5 λhe=>cP dv dx Φ he;rw[bZ,aU bD.p T];refine bq (g:=g) (o:=8) dE.i (eR ck.sl).1 (eR ck.sl).2 e6 (by simp[gJ]) λbt dy jT cV=>?_;have cV:ag bt g bD (gJ az aa ad bad aB big aC told e4):=cV;have aR:ai (λr=>leadsTo sv r\/r=g) aY bt:=(e5.mono λr _ h=>.inl h).trans (dy.mono λr _ h=>.inr h);have cW:∀r,(leadsTo sv r\/r=g)->hv aY r\/aY.heap.size<=r:=λr C=>by
     rcases C with C|rfl
     .obtain⟨rfl,c,E⟩:=dW dv C;exact .inl ⟨_,c,E,Φ,Φ⟩
     .exact .inl ⟨_,_,dx,Φ,Φ⟩
    have e7:∀{ae x},gY au ae x->gY bt ae x:=λhe=>(he.ext Z).dQ aR cW;have z50:=ch.size;have jU:=Z.size;have z53:=aR.size;have jV:=bS.size;have jW:=ia.2;refine a1 _ ⟨λr=>H r\/(au.heap.size<=r/\r<bt.heap.size),?_,?_,?_,?_,?_,λr C=>.inl C,λr C=>C.imp id λC=>Ω,λr C=>?_⟩
    .refine (((dk bS).trans (ch.ab _)).trans (Z.ab _)).trans (aR.mono λr _ C=>?_);exact C.elim (λC=>.inr (.inl (bm r C))) .inl
    .have i1:=eZ.ext Z;refine⟨eV,eW,bu,eX,eY,cb,i1.ab aR λC=>?_,eH (e0.ext Z) aR cW,eH (e2.ext Z) aR cW,(e3.dQ (Z.ab λ_=>False) λ_ h=>h.elim).dQ aR cW,iV,iW,iX⟩;rcases C with C|C
     .have:=iU _ C;omega
     .exact b4 C
    .exact (iR.ext Z).ab aR λC=>C.elim (λC=>cI (bm _ C)) ez
    .refine⟨Ω,bt,az,bj,iZ,e4,L++[ae],aD++[x],aa,ad,bad,aB,big,aC,told,T,ai.refl _ _,⟨_,cV⟩,cV,⟨⟨?_,λr C=>?_⟩,ck.ab dy λr C he=>?_,by rw[r9,r9,ci];rfl,λi i2 i3 hi cl=>?_⟩,λr C=>?_,?_⟩
     .refine (iT.ab (Z.ab λ_=>False) λ_ _ h=>h).ab aR λr C U=>?_;have⟨c,E⟩:=eU r C;rcases U with U|rfl
      .obtain⟨rfl,i4,dz⟩:=dW aQ U;exact absurd (eQ E dz) Φ
      .exact absurd (eQ E an) Φ
     .obtain⟨c,E⟩:=eU r C;refine⟨c,(E.ext Z).ab aR λU=>?_⟩;rcases U with U|rfl
      .obtain⟨rfl,i4,dz⟩:=dW aQ U;exact absurd (eQ E dz) Φ
      .exact absurd (eQ E an) Φ
     .have he:r=g:=he;subst he;exact cP ck e6 Φ C
     .by_cases i5:i<L.length
      .rw[Y6 i5]at hi;rw[Y6 Ω]at cl;exact e7 (cj i i2 i3 hi cl)
      .rw[Y8 Ω]at hi;rw[Y8 Ω]at cl;have i6:i-L.length=0:=by have:=(x4.1 hi).1;simp at this;omega
       have db:i-aD.length=0:=Ω
       rw[i6]at hi;rw[db]at cl;cases hi;cases cl;exact e7 b5
     .rcases i0 r C with h|h
      .exact .inl (bm r h)
      .have:=(ck.leads C);have:=dy.size;exact .inr ⟨Ω,Ω⟩
     .rw[b8];cases aj:dF sizes M with
      |none=>
       rw[aj]at bw;rw[bw]at bB;exact⟨bB.1,by rw[r9];simp;have:=bB.2;omega⟩
      |some p=>
       have⟨lines,bl⟩:=p;rw[aj]at bw;rw[bw]at bB;have i7:=a2 _ aj;have⟨cm,cq,cr,ct,cu,bU,cw,aS,cX⟩:=id bB;have e8:=DX aj;refine⟨cm,cq,cr,ct,cu,bU,cw,?_,?_⟩
       .show (aD++[x]).map _=bl.shared++[(sizes,lines)];rw[Z4,aS];simp only[x,U7,List.map_nil];rw[i7]
       .have jX:M.shared.length+M.toks.length<=100000:=by
         cases bP:R with
         |none=>rw[bP]at X;cases X
         |some ap=>
          rw[bP]at X h;have ds:bh 0 aw (bb (decide (6<ar)||dq sizes) ap)=σ (o,M):=X;have t9:=dl ds;have cS:=t9.1;have ca:=t9.eqs.2.2;have t3:=(uj h).2;have fa:(bb (decide (6<ar)||dq sizes) ap).toks=ap.toks:=rfl;have fb:(bb (decide (6<ar)||dq sizes) ap).shared=ap.shared:=rfl;rw[fa]at cS;rw[fb]at ca;rw[ca];omega
        have fc:L.length=bl.shared.length:=by rw[<-aS,r8,ci]
        have i8:bj.length=bl.toks.length:=by rw[<-bU,r8]
        rw[e8.2]at fc;rw[r9,fc,i8];simp only[T2];have:=e8.1;omega
    .rintro (C|C)
     .exact cI C
     .omega
    .rcases C with C|C
     .have:=cJ r C;omega
     .exact C.2
 .intro aA a1;rw[aP,al];refine⟨λi9=>?_,λja=>?_⟩
  .
   refine aV (λv Y=>Ext O Y/\∃b:Bool,v= .bool b/\(b=true->dF sizes M=ν)/\(b=false->∃lines,dF sizes M=σ (lines,K)/\K.shared[(-n-1).toNat]?=σ (sizes,lines))) ?_ ?_
   .rintro _ Y ⟨bW,b,rfl,jb,jc⟩;have cY:=bc.ext bW;have jd:=eN.ext bW;have fd:=eM.trans (bW.ab _);cases b with
    |true=>
     rw[bV];apply(oI cY Ω).mono;rintro _ c5 _ ⟨fe,je⟩;exact eE (jd.dQ fe (kV cY)) (fd.trans (fe.mono λr _ h=>.inl h)) je (by rw[b8,jb T])
    |false=>
     rw[a8];have⟨lines,jf,bX⟩:=jc T;have⟨b6,w0,az,bj,gs,sv,L,aD,aa,ad,bad,aB,big,aC,told,cU,bx,bz,an,bA,bm,cm,cq,cr,ct,cu,bU,cw,aS,cX⟩:=id cY;have⟨_,aQ,ci,cj⟩:=bA.g bx bz;have cA:(-n-1).toNat<L.length:=by
      have h1:=(x4.1 bX).1;rw[<-aS,r8]at h1;omega
     obtain⟨hk,cB⟩:∃h,L[(-n-1).toNat]?=σ h:=⟨_,x6 cA⟩;have⟨be,cC⟩:=aH (l:=aD) (i:=(-n-1).toNat) Ω;have⟨_,_,_,jg,ao⟩:=cj _ hk be cB cC;have jh:be.lines=lines:=by
      rw[<-aS,x8,cC]at bX;have:=b9 bX;exact(Q4.inj this).2
     rw[aT bD.p 8 an T,mf,wrap_i64 Ω Ω,dN,wrap_i64 Ω Ω,dw (i:=(-n-1).toNat) Ω dE.u ba.i aQ cA,aU ba.p T,ax Ψ (aQ.range cB 3 _ T)];have⟨jY,ff,jZ,j1⟩:=id ao;have cZ:ag Y G ba [aK,szv,Δ o,cc]:=(bL.ab bk λhe=>b4 he).ext bW;have ji:=(eH f224 bk λr C=>(kV bO r C).imp (λ⟨e,c,E,a6,a7,_⟩=>⟨e,c,E,a6,a7⟩) id).ext bW;have jj:=(eH f324 bk λr C=>(kV bO r C).imp (λ⟨e,c,E,a6,a7,_⟩=>⟨e,c,E,a6,a7⟩) id).ext bW;rw[aU ba.p T];refine bq (g:=G) (o:=3) ec.i (eR ff.sl).1 (eR ff.sl).2 cZ Ξ λes cE j2 jl=>?_;refine a1 _ ⟨fd.trans (cE.mono λr _ h=>.inr (by have h:r=G:=h;omega)),hk.cc,jg,lines,K,jl,eH ji cE (bM cZ),eH jj cE (bM cZ),?_,cY.new cE λr C=>by have C:r=G:=C;omega,λh=>Ω,by rw[jf,if_pos Ω]⟩;rw[<-jh];exact ao.dQ cE (bM cZ)
   .intro j3 fg;intro P cF _ _;have jm:=bc.ext cF;have⟨b6,w0,az,bj,gs,sv,L,aD,aa,ad,bad,aB,big,aC,told,cU,bx,bz,an,bA,bm,cm,cq,cr,ct,cu,bU,cw,aS,cX⟩:=id jm;have⟨_,aQ,ci,cj⟩:=bA.g bx bz;have j4:K.shared.length=L.length:=by rw[<-aS,r8,ci]
    have ao:=eO;rw[if_pos i9]at ao;rw[mf,wrap_i64 Ω Ω,aT bD.p 8 an T,eF dE.u aQ,bJ,al];refine⟨λce=>fg _ _ ⟨cF,true,T,λ_=>?_,λh=>by cases h⟩,λce=>?_⟩
    .rw[ao,Z2 Ω]
    have cA:(-n-1).toNat<L.length:=Ω
    obtain⟨hk,cB⟩:∃h,L[(-n-1).toNat]?=σ h:=⟨_,x6 cA⟩;have⟨be,cC⟩:=aH (l:=aD) (i:=(-n-1).toNat) Ω;have⟨_,⟨gz,jn⟩,_,_⟩:=cj _ hk be cB cC;have bX:K.shared[(-n-1).toNat]?=σ (be.sizes,be.lines):=by rw[<-aS,x8,cC];rfl
    rw[bX]at ao;simp only at ao;rw[aT bD.p 8 an T,mf,wrap_i64 Ω Ω,dN,wrap_i64 Ω Ω,dw (i:=(-n-1).toNat) Ω dE.u ba.i aQ cA,aU ba.p T,ax Ψ (aQ.range cB 1 _ T)];have jo:ag P G ba [aK,szv,Δ o,cc]:=(bL.ab bk λhe=>b4 he).ext cF;have jp:=(eH f324 bk λr C=>(kV bO r C).imp (λ⟨e,c,E,a6,a7,_⟩=>⟨e,c,E,a6,a7⟩) id).ext cF;rw[aL ba.p 1 jo T];apply(xu jn.ls jp.ls).mono;rintro _ c6 _ ⟨rfl,jq⟩;rw[bK];refine fg _ _ ⟨cF.trans jq,_,T,λE=>?_,λE=>?_⟩
    .have jr:be.sizes≠sizes:=by simpa using E
     rw[ao,if_neg jr]
    .have fh:be.sizes=sizes:=by simpa using E
     exact⟨be.lines,by rw[ao,if_pos fh],by rw[bX,fh]⟩
  .
   have ao:=eO;rw[if_neg ja]at ao;have⟨b6,w0,az,bj,gs,sv,L,aD,aa,ad,bad,aB,big,aC,told,cU,bx,bz,an,bA,bm,cm,cq,cr,ct,cu,bU,cw,aS,cX⟩:=id bc;rw[aT bD.p 7 an T,aN];generalize js:X6.wrap (told+n)=bn;have fi:K.big=false->bn=K.told+n/\0<=bn:=λE=>by
    have⟨fa,fb⟩:=iF E;have jt:=ct E;rw[<-js,jt,wrap_i64 Ω Ω];exact⟨T,Ω⟩
   rw[bZ,aU bD.p T];refine bq (g:=g) (o:=7) aq.i T rfl an (by simp[gJ]) λaJ fj j5 cG=>?_;have cG:ag aJ g bD (gJ az aa ad bad aB big aC bn sv):=cG;refine dc (λaM=>ai (λr=>r=g) O aM/\ag aM g bD (gJ az aa ad bad aB big aC (min bn aw) sv)) ?_ ?_
   rotate_left
   .intro j6 fk;rw[aT bD.p 7 cG T,bJ,al];refine⟨λce=>?_,λce=>fk _ ⟨fj,?_⟩⟩
    .rw[bZ,aU bD.p T];refine bq (g:=g) (o:=7) aq.i T rfl cG (by simp[gJ]) λew ju j7 jv=>?_;refine fk _ ⟨fj.trans ju,?_⟩;have e:min bn aw=4611686018427387904:=by unfold aw;omega
     rw[e];exact jv
    .have e:min bn aw=bn:=by unfold aw;omega
     rw[e];exact cG
   rintro aM ⟨fm,fo⟩;have jw:bN aM g B H 100000 (σ {K with told:=min (K.told+n) aw}):=⟨b6,w0,az,bj,gs,sv,L,aD,aa,ad,bad,aB,big,aC,_,cU,bx.trans fm,bz,fo,bA,bm,cm,cq,cr,λE=>by
    have E:K.big=false:=E;rw[(fi E).1],cu,bU,cw,aS,cX⟩
   rw[aT bD.p 7 fo T,bJ];apply(np jw).mono;rintro _ c8 _ ⟨jx,fp⟩;have jy:(σ {K with told:=min (K.told+n) aw}).map (bb (decide (16384<min bn aw)))=σ (bb (decide (16384<min (K.told+n) aw)) {K with told:=min (K.told+n) aw}):=by
    show σ (bb _ _)=_;congr 1;unfold bb;cases E:K.big with
    |true=>simp
    |false=>rw[(fi E).1]
   rw[jy]at fp;have cH:ai (λr=>r=g) bg c8:=(bk.trans fm).trans jx;have dA:∀r,r=g->hv bg r\/bg.heap.size<=r:=λr C=>(kV bO r C).imp (λ⟨e,c,E,a6,a7,_⟩=>⟨e,c,E,a6,a7⟩) id;have jz:cc= .slice ν 0 0:=by
    have:=fq _ f1;simpa using this
   refine a1 _ ⟨eK.trans (cH.mono λr _ h=>.inl h),cc,cR,[],_,bL.ab cH λhe=>b4 he,eH f224 cH dA,eH f324 cH dA,eJ.dQ cH dA,fp,λ_=>⟨T,λr C=>by rw[jz]at C;exact e9 C⟩,?_⟩;rw[ao];by_cases eL:n<=0
   .have:n=0:=Ω
    subst this;rw[if_pos (Int.le_refl _)];rfl
   .rw[if_neg eL]
def D0{s:aF}:cZ all s=match bh (-aw) aw s with
  |none=>ν
  |some (a,s1)=>match eW all.length a.natAbs s1 with
   |none=>ν
   |some (scope,e)=>kh (decide (a<0)) a.natAbs scope (scope.map λv=>all.getD v.toNat 0) (σ e):=by
 unfold cZ;cases bh (-aw) aw s with
 |none=>rfl
 |some q=>
  have⟨a,s1⟩:=q;simp only;cases eW all.length a.natAbs s1 with
  |none=>rfl
  |some p=>
   have⟨scope,e⟩:=p;simp only;unfold kh;show _=match bh 0 aw (bb (decide (6<a.natAbs)||dq (scope.map λv=>all.getD v.toNat 0)) e)with
    |none=>ν
    |some (other,f)=>_
   cases bh 0 aw (bb (decide (6<a.natAbs)||dq (scope.map λv=>all.getD v.toNat 0)) e)with
   |none=>rfl
   |some r=>
    have⟨o,f⟩:=r;simp only;cases dF (scope.map λv=>all.getD v.toNat 0) f with
    |none=>rfl
    |some w=>
     have⟨ls,x⟩:=w;by_cases h:a<0
     .simp[h]
     .simp[h]
def xw(w:x3)(g:Nat)(H:ak)(e:Option (cn×aF))(v:x1)(w':x3):Prop:=∃f x a,ai (λr=>r=g\/H r) w w'/\v= .agg (e1 f).toArray/\gY w' f x/\bN w' g w'.heap.size a 100001 (e.map (·.2))/\(∀q,e=σ q->x=q.1)/\(∀r,H r->a r)/\(∀r,a r->H r\/w.heap.size<=r)/\∀r,a r->r<w'.heap.size
def D1{k:Nat}{s s':aF}(h:eW n k s=σ (l,s')):s'.toks.length+l.length<=s.toks.length/\s'.told=s.told/\s'.big=s.big/\s'.shared=s.shared/\∀v∈l,0<=v/\v<n:=by
 have:=i7 (f:=kM n) (λ(acc:Λ)t=>t.toks.length+acc.length<=s.toks.length/\t.told=s.told/\t.big=s.big/\t.shared=s.shared/\∀v∈acc,0<=v/\v<n) (λacc t a bt p e=>by
  unfold kM at e;cases w:bh 0 (n-1) t with
  |none=>rw[w]at e;cases e
  |some q=>
   have⟨v,C⟩:=q;rw[w]at e;simp only at e;split at e
   .cases e
   .cases e;have x:=dl w;have E:=(ib w).1;have⟨z,A,B⟩:=x.eqs;have t0:=x.1;refine⟨by have:=p.1;rw[r9];simp only[T2];omega,z.trans p.2.1,A.trans p.2.2.1,B.trans p.2.2.2.1,λy r=>?_⟩;rcases o5.1 r with r|r
    .exact p.2.2.2.2 y r
    .rw[o9.1 r];omega) k [] s l s' ⟨Ξ,T,T,T,λv ad=>by cases ad⟩ h
 exact this.1
theorem Pl{g B0:Nat}{H:ak}{s:aF}{O:x1}(h:bN w g B0 H 100000 (σ s))(ae:av .i64 aq w gz O all)(af:∀z∈all,1<=z/\z<=aw)(aT:all.length<=100001)(P:∀r,H r->r<w.heap.size)(bl:kg s):
  am x7 zX [Γ g,O] w (xw w g H (cZ all s)):=by
 have bX:=h.lt;refine az func118 ?_;refine bu ba.i λI V bY Q R=>?_;have R:ag V I ba [.slice ν 0 0,.slice ν 0 0,Δ 0,.slice ν 0 0]:=R;refine bu ba.i λK aa bZ S W=>?_;have W:ag aa K ba [.slice ν 0 0,.slice ν 0 0,Δ 0,.slice ν 0 0]:=W;have h1:=(h.ext Q).base;have ah:=h1.ext S;have b0:=Q.size;have aU:=R.lt;have b1:=W.lt;refine(kU ah).mono ?_;rintro _ G _ ⟨⟨X,A⟩,a,b2,rfl,aj,an⟩;rw[bo,bp,aP];have bm:K≠g:=Ω
 have ao:I≠g:=Ω
 have ap:=W.ab X λhe=>bm he;have au:=(R.ext S).ab X λhe=>ao he;have aW:av .i64 aq G gz O all:=bw ((ae.ext Q).ext S) X λr e he=>by
  have he:r=g:=he;obtain⟨aX,C,J,bad,aY,big,aZ,told,sv,Y,_⟩:=ii h;subst he;exact ch ae Y Φ e T
 have a1:∀r,leads O r->r<V.heap.size:=λr e=>by obtain⟨C,J⟩:=bS ae e;omega
 have ax:hx G V.heap.size K ⟨[],[],0,[]⟩:=⟨_,_,_,0,0,0,ap,av.nil _ _ _ _,av.nil _ _ _ _,⟨[],bk.nil _ _ _ _ _,λy bn=>(by cases bn),T⟩,(λr e=>by rcases e with⟨a,n,c,C,J⟩|⟨a,n,c,C,J⟩<;>cases C),(λr e=>by obtain⟨a,n,c,C,J⟩:=e;cases C),Ω⟩;have ay:∀c,ag G K ba c->c[3]?=σ (.slice ν 0 0):=λc aC=>by
  unfold ag at aC ap;rw[ap]at aC;have:=Array.toList_inj.2 (Obj.cells.inj (b9 aC)).1;simp at this;rw[<-this];rfl
 have a2:ai (λr=>r=g) V G:=(S.ab _).trans X;have b3:V.heap.size<=G.heap.size:=a2.size;have aD:∀{f:x3}{aG:Option (cn×aF)}{v:x1}{w':x3},ai (gZ g V.heap.size) G f->aG=cZ all s->DY f g I V.heap.size H aG v w'->xw w g H (cZ all s) v w':=by
  rintro f aG v w' E rfl ⟨N,x,bq,aH,aI,aJ,aL,a6,a7,a8,br⟩;refine⟨N,x,bq,?_,aI,aJ,aL,a6,a7,λr e=>(a8 r e).imp id λh=>Ω,br⟩;refine hQ (hQ ((Q.ab _).trans (a2.mono λr _ h=>.inl h)) E λr e he=>?_) aH λr e he=>?_
  .exact he.elim .inl λhe=>Ω
  .rcases he with he|he|he|he
   .exact .inl he
   .exact .inr he
   .omega
   .omega
 have bt:∀{f:x3}{x:cn},ai (gZ g V.heap.size) G f->cZ all s=ν->bN f g V.heap.size H 100000 ν->hx f V.heap.size K x->
   (ac x7 (u5 ba (Γ K)) f λbx=>
    aE x7 (o8 ba (Γ I) bx) f λ(_:Unit)bb=>
    ac x7 (do loadVar ba (<-asAddr (Γ I))) bb λbz=>xw w g H (cZ all s) bz bb):=by
  intro f x E bc aM bA;obtain⟨aK,szv,cc,g1,bB,bC,aH,aI,aJ,aL,a6,a7,a8⟩:=bA;let N:jk:=⟨aK,szv,x.other,cc⟩;have bd:gY f N x:=⟨⟨g1,aI⟩,⟨bB,aJ⟩,T,bC,aL⟩;have aN:=au.ab E λU=>U.elim ao λh=>Ω
  rw[bR ba.p ba.i T (show f.rangeAt K 0 (e1 N)from aH.range)];refine cd (vs:=e1 N) ba.i T rfl bd.one aN λb4 aO b5 bD=>?_;rw[fQ ba.p ba.i T bD.range];have bE:∀r,r=I->hv f r\/f.heap.size<=r:=λr e=>by subst e;exact .inl ⟨_,_,aN,Φ,Φ⟩
  have b6:=E.size;refine aD E T ⟨N,x,H,aO.mono λr _ h=>.inr (.inr (.inl h)),T,bd.dQ aO bE,?_,(λq B=>by rw[bc]at B;cases B),λ_ h=>h,λ_ h=>.inl h,λr e=>by have:=P r e;omega⟩;rw[bc];have bF:bN f g V.heap.size H 100001 ν:=by
   obtain⟨b7,w0,aX,bG,gs,sv,L,bH,C,J,bad,aY,big,aZ,told,h1,ah,A,bI,bJ,aQ,be⟩:=aM;exact⟨Ω,w0,aX,bG,gs,sv,L,bH,C,J,bad,aY,big,aZ,told,h1,ah,A,bI,bJ,aQ,be.1,by have:=be.2;omega⟩
  refine bF.dQ aO λr e=>.inl ?_;have e:r=I:=e;subst e;exact⟨_,_,aN,Φ,Φ,Φ,Φ,λaB=>by have:=P _ aB;omega⟩
 have M:=D0 (all:=all) (s:=s);have bK:bf (-4611686018427387904) 4611686018427387904 (σ s)=bh (-aw) aw s:=rfl;rw[bK]at A aj an;have b8: -4611686018427387904<=a/\a<=4611686018427387904:=by
  cases B:bh (-aw) aw s with
  |none=>have:=an B;omega
  |some q=>have:=aj q B;rw[this];exact(ib (n:=q.1) (s':=q.2) B).1
 refine aV (λv bL=>G=bL/\v=Δ (a.natAbs:Int)) ?_ ?_
 rotate_left
 .intro aA bg;rw[al];refine⟨λca=>?_,λcb=>bg _ _ ⟨T,by congr 1;omega⟩⟩;rw[mf,wrap_i64 Ω Ω];exact bg _ _ ⟨T,by congr 1;omega⟩
 rintro _ _ ⟨rfl,rfl⟩;have bi:∀r,H r->r<V.heap.size:=λr e=>by have:=P r e;omega
 have bj:¬H I:=λaB=>by have:=P _ aB;omega
 have bM:∀{scope:Λ},(∀v∈scope,0<=v/\v<(all.length:Int))->∀z∈scope.map (λv=>all.getD v.toNat 0),1<=z/\z<=aw:=λad z bO=>by
  obtain⟨v,bP,rfl⟩:=j5.1 bO;have:=ad v bP;refine af _ ?_;rw[u4,x6 Ω];exact S3 _
 cases B:bh (-aw) aw s with
 |none=>
  rw[B]at A M;have bQ:=an B;subst bQ;refine DW (s:=s) (ar:=(0:Int).natAbs) A (.inr ⟨T,T⟩) ax ay aW a1 aT Φ (λh=>by cases h) ?_ ?_ ?_
  .intro h;cases h
  .intro _;exact DZ (neg:=decide ((0:Int)<0)) A ax ay (λz af=>by cases af) Ξ au aU bj bi (λbT U=>by cases U) λv w' aR=>aD (ai.refl _ _) (by rw[M];rfl) aR
  .intro h;cases h
 |some q=>
  obtain⟨a',s1⟩:=q;rw[B]at A M;have:=aj _ B;subst this;simp only at M;have A:bN G g V.heap.size H 100000 (σ s1):=A;have bU:=dl B;refine DW (s:=s1) (ar:=a.natAbs) A (.inl T) ax ay aW a1 aT Ω (λ_=>(uj A).1) ?_ ?_ ?_
  .intro _ f x E Z aM aS;exact bt E (by rw[M,Z]) aM aS
  .intro h;cases h
  .intro _ f scope s' E Z aQ aS bV;obtain⟨ce,bW,t3,t4,t5⟩:=D1 Z;rw[Z]at M;obtain⟨C,J,cg⟩:=bU.eqs;refine DZ (neg:=decide (a<0)) aQ aS bV (bM t5) ?_ (au.ab E λU=>U.elim ao λh=>Ω) aU bj bi (λbT U=>?_) λv w' aR=>aD E M.symm aR
   .rw[r8];have:=(uj A).1;omega
   .cases U;intro Y;rw[t3,J]at Y;rw[bW,C];exact bl Y
def Pm{s s':aF}{l:List (Λ×Int)}(h:dF sizes s=σ (l,s'))(w:kg s):kg s':=by
 unfold dF at h;cases p:bh (-aw) aw s with
 |none=>rw[p]at h;cases h
 |some q=>
  have⟨n,s1⟩:=q;have⟨x,y,t3⟩:=(dl p).eqs;have r:kg s1:=λe=>by rw[x];exact w (by rw[<-y];exact e)
  rw[p]at h;simp only at h;split at h
  .split at h
   .cases h
   .split at h
    .cases h;exact r
    .cases h
  .rename_i H;have h':cK (dU sizes) n.toNat [] (bb (decide (16384<min (s1.told+n) aw)) {s1 with told:=min (s1.told+n) aw})=σ (l,s'):=h;have:=i7 (f:=dU sizes) (λ_ t=>kg t) (λacc t a bt z A=>by
    have⟨_,_,_,B⟩:=oj A;have⟨C,E,I⟩:=B.eqs;intro e;rw[C];exact z (by rw[<-E];exact e)) n.toNat [] (bb (decide (16384<min (s1.told+n) aw)) {s1 with told:=min (s1.told+n) aw}) l s' (λe=>by
     have⟨F,G⟩:=S8.1 e;have J:=r F;have K:=of_decide_eq_false G;show 0<=min (s1.told+n) aw/\min (s1.told+n) aw<=16384;unfold aw at*;omega) h'
   exact this.1
def Pn{s s':aF}{x:cn}(h:cZ all s=σ (x,s')):s'.toks.length+1<=s.toks.length/\(kg s->kg s'):=by
 rw[D0]at h;cases w:bh (-aw) aw s with
 |none=>rw[w]at h;cases h
 |some q=>
  have⟨a,s1⟩:=q;rw[w]at h;simp only at h;have B:=dl w;cases U:eW all.length a.natAbs s1 with
  |none=>rw[U]at h;cases h
  |some p=>
   have⟨scope,f⟩:=p;rw[U]at h;simp only at h;have⟨T,G,t3,_⟩:=D1 U;unfold kh at h;have e:bf 0 aw ((σ f).map (bb (decide (6<a.natAbs)||dq (scope.map λv=>all.getD v.toNat 0))))=bh 0 aw (bb (decide (6<a.natAbs)||dq (scope.map λv=>all.getD v.toNat 0)) f):=rfl;rw[e]at h;cases y:bh 0 aw (bb (decide (6<a.natAbs)||dq (scope.map λv=>all.getD v.toNat 0)) f)with
   |none=>rw[y]at h;cases h
   |some H=>
    have⟨o,C⟩:=H;rw[y]at h;simp only at h;have E:=dl y;cases r:dF (scope.map λv=>all.getD v.toNat 0) C with
    |none=>rw[r]at h;cases h
    |some I=>
     have⟨ls,z⟩:=I;rw[r]at h;simp only[Y3,T1]at h;have⟨_,J⟩:=h;have:=DX r;have K:(bb (decide (6<a.natAbs)||dq (scope.map λv=>all.getD v.toNat 0)) f).toks=f.toks:=rfl;have L:=E.1;rw[K]at L;have:=B.1;have⟨M,N,_⟩:=B.eqs;have⟨f1,f2,_⟩:=E.eqs;have A:s'.toks=z.toks/\s'.told=z.told/\s'.big=z.big:=by
      rw[<-J];split<;>exact⟨rfl,rfl,rfl⟩
     refine⟨by rw[A.1];omega,λO=>?_⟩;have P:kg C:=λF=>by
      rw[f2]at F;rw[f1];have Q:f.big=false:=(S8.1 F).1;show 0<=f.told/\f.told<=16384;rw[G,M];exact O (by rw[<-N,<-t3];exact Q)
     have R:=Pm r P;intro S;rw[A.2.1];exact R (by rw[<-A.2.2];exact S)
def bN.shrink{g:Nat}{H:ak}{so:Option aF}(h:bN w g B H N so):∃a,bN w g B a N so/\(∀r,a r->H r)/\∀r,a r->∃c,ag w r ba c:=by
 have⟨x,w0,y,z,gs,sv,L,A,C,E,bad,F,big,G,told,h1,f,p,I,q,J,K⟩:=h;refine⟨λr=>leadsTo sv r,⟨x,w0,y,z,gs,sv,L,A,C,E,bad,F,big,G,told,h1,f,p,I,q,λr e=>e,K⟩,J,λr e=>?_⟩;obtain⟨rfl,c,s⟩:=dW q.2.1 e;refine⟨c,s.ab f λhe=>?_⟩;have⟨O,M⟩:=p;subst he;exact absurd (eQ s M) Φ
def bN.low{g:Nat}{H:ak}{s:aF}(h:bN w g B H N (σ s)):bN w g B H 100000 (σ s):=by
 have⟨G,w0,a,e,gs,sv,L,f,p,q,bad,r,big,x,told,h1,y,z,A,C,E,F⟩:=h;exact⟨o4 _,w0,a,e,gs,sv,L,f,p,q,bad,r,big,x,told,h1,y,z,A,C,E,F⟩
def bN.up{g M:Nat}{H:ak}{so:Option aF}(h:bN w g B H N so)(G:N<=M):bN w g B H M so:=by
 have⟨I,w0,e,f,gs,sv,L,p,q,r,bad,x,big,y,told,h1,z,A,C,E,F,a⟩:=h;refine⟨Ω,w0,e,f,gs,sv,L,p,q,r,bad,x,big,y,told,h1,z,A,C,E,F,?_⟩;cases so with
 |none=>exact⟨a.1,by have:=a.2;omega⟩
 |some s=>exact a
def lH{α:Type}(f:List α->aF->Option (α×aF))(cnt i:Nat)(a:Option aF)(A:List α)(so:Option aF):Prop:=a.bind (cK f cnt [])=(match so with
 |none=>ν
 |some s=>cK f (cnt-i) A s)
def lH.step{α:Type}{f:List α->aF->Option (α×aF)}{cnt i:Nat}{p:Option aF}{A:List α}{s:aF}{a:α}{r:Option aF}(h:lH f cnt i p A (σ s))(hi:i<cnt)(h1:r=(f A s).map (·.2))(w:∀q,f A s=σ q->a=q.1):lH f cnt (i+1) p (A++[a]) r:=by
 unfold lH at*;rw[h,show cnt-i=(cnt-(i+1))+1 by omega];simp only;cases e:f A s with
 |none=>rw[pH e,h1,e];rfl
 |some q=>
  have⟨a',s'⟩:=q;have:=w _ e;subst this;rw[ts e,h1,e];rfl
def Po{s0:aF}{acc:Λ}{most r:Int}{G:List cn}{y z A B H so6 e:Option aF}(h1:y=((dO s0).map (·.2)).map (bb (decide (64<t.length))))(Q:∀q,dO s0=σ q->t=q.1)(w:z=((bf 1 aw y).map (·.2)).map (bb (decide (64<n))))(N:∀q,bf 1 aw y=σ q->n=q.1)(h:A=(bf 1 aw z).map (·.2))(hm:∀q,bf 1 aw z=σ q->most=q.1)(f:B=((bf 0 aw A).map (·.2)).map (bb (decide (256<r))))(O:∀q,bf 0 aw A=σ q->r=q.1)(a:H=((bf 1 aw B).map (·.2)).map (bb (decide (2147483648<k))))(hk:∀q,bf 1 aw B=σ q->k=q.1)(x:H.bind (cK (fi most) n.toNat [])=so6.map λs=>(acc,s))(p:so6.bind (cK (λ_ s=>cZ acc s) r.toNat [])=e.map λs=>(G,s)):hn s0=e.map λs=>(⟨t,k,acc,G⟩,s):=by
 unfold hn;cases I:dO s0 with
 |none=>
  rw[I]at h1;subst h1;subst w;subst h;subst f;subst a;have:so6=ν:=by cases so6 with|none=>rfl|some s=>cases x
  subst this;cases e with|none=>rfl|some s=>cases p
 |some R=>
 have⟨bt,s1⟩:=R;have:=Q _ I;subst this;rw[I]at h1;have h1:y=σ (bb (decide (64<t.length)) s1):=h1;subst h1;simp only;have S:bf 1 aw (σ (bb (decide (64<t.length)) s1))=bh 1 aw (bb (decide (64<t.length)) s1):=rfl;rw[S]at w N;cases J:bh 1 aw (bb (decide (64<t.length)) s1)with
 |none=>
  rw[J]at w;subst w;subst h;subst f;subst a;have:so6=ν:=by cases so6 with|none=>rfl|some s=>cases x
  subst this;cases e with|none=>rfl|some s=>cases p
 |some T=>
 have⟨ab,C⟩:=T;have:=N _ J;subst this;rw[J]at w;have w:z=σ (bb (decide (64<n)) C):=w;subst w;simp only;have U:bf 1 aw (σ (bb (decide (64<n)) C))=bh 1 aw (bb (decide (64<n)) C):=rfl;rw[U]at h hm;cases K:bh 1 aw (bb (decide (64<n)) C)with
 |none=>
  rw[K]at h;subst h;subst f;subst a;have:so6=ν:=by cases so6 with|none=>rfl|some s=>cases x
  subst this;cases e with|none=>rfl|some s=>cases p
 |some V=>
 have⟨b2,E⟩:=V;have:=hm _ K;subst this;rw[K]at h;have h:A=σ E:=h;subst h;simp only;have W:bf 0 aw (σ E)=bh 0 aw E:=rfl;rw[W]at f O;cases L:bh 0 aw E with
 |none=>
  rw[L]at f;subst f;subst a;have:so6=ν:=by cases so6 with|none=>rfl|some s=>cases x
  subst this;cases e with|none=>rfl|some s=>cases p
 |some X=>
 have⟨ac,F⟩:=X;have:=O _ L;subst this;rw[L]at f;have f:B=σ (bb (decide (256<r)) F):=f;subst f;simp only;have Y:bf 1 aw (σ (bb (decide (256<r)) F))=bh 1 aw (bb (decide (256<r)) F):=rfl;rw[Y]at a hk;cases M:bh 1 aw (bb (decide (256<r)) F)with
 |none=>
  rw[M]at a;subst a;have:so6=ν:=by cases so6 with|none=>rfl|some s=>cases x
  subst this;cases e with|none=>rfl|some s=>cases p
 |some Z=>
 have⟨ad,P⟩:=Z;have:=hk _ M;subst this;rw[M]at a;have a:H=σ (bb (decide (2147483648<k)) P):=a;subst a;simp only;have x:cK (fi most) n.toNat [] (bb (decide (2147483648<k)) P)=so6.map λs=>(acc,s):=x;rw[x];cases so6 with
 |none=>cases e with|none=>rfl|some s=>cases p
 |some aa=>
  simp only[Z6];have p:cK (λ_ s=>cZ acc s) r.toNat [] aa=e.map λs=>(G,s):=p;rw[p];cases e<;>rfl
def pZ(w:x3)(gr:Nat)(e:x1)(a:List cn):Prop:=∃L,bk e1 4 ba w gr e L/\a.length=L.length/\∀(i:Nat)h x,L[i]?=σ h->a[i]?=σ x->gY w h x
def oJ(w:x3)(e:Nat)(f:b3):Prop:=∃szv gz a gr,ag w e dJ [bL f.name,Δ f.k,szv,a]/\av .i64 aq w gz szv f.sizes/\pZ w gr a f.funs
def pZ.ext{gr:Nat}{a:x1}{e:List cn}(h:pZ w gr a e)(J:Ext w w'):pZ w' gr a e:=by
 have⟨L,h1,f,p⟩:=h;exact⟨L,h1.ext J,f,λi aB x hi q=>(p i aB x hi q).ext J⟩
def oJ.ext{a:Nat}{f:b3}(h:oJ w a f)(J:Ext w w'):oJ w' a f:=by
 have⟨szv,gz,e,gr,h1,p,q⟩:=h;exact⟨szv,gz,e,gr,h1.ext J,p.ext J,q.ext J⟩
def Pp(w:x3)(pl:Λ)(v:x1)(w':x3):Prop:=Ext w w'/\∃n e:Int,(fs pl=ν->v= .tuple #[.pointer ν,Δ n,Δ e])/\∀f,fs pl=σ f->∃a,v= .tuple #[Γ a,Δ n,Δ e]/\oJ w' a f
def Pq{w0:x3}{g A:Nat}{so6:Option aF}{acc:Λ}{R bad:Int}{p:x1}{Q:x1->x3->Prop}(db:ai (λr=>w0.heap.size<=r) w0 w)(b1:ag w A dJ [bL t,Δ k,szv,.slice ν 0 0])(dd:av .i64 aq w gz szv acc)(h:bN w g B bE 100000 so6)(de:∀s,so6=σ s->kg s/\s.toks.length<=100000/\(∀z∈acc,1<=z/\z<=aw)/\acc.length<=100001)(fc:w0.heap.size<=g)(fd:w0.heap.size<=A)(df:aI .u8 w0 p pl)(fe:0<=R/\R<=4611686018427387904)(bj:∀v w' M bl,Ext w0 w'->so6.bind (cK (λ_ s=>cZ acc s) R.toNat [])=bl.map (λs=>(M,s))->
   (∀s,bl=σ s->s.toks=[]/\¬0<=bad/\s.big=false->v= .tuple #[Γ A,Δ (pl.length:Int),Δ 0]/\oJ w' A ⟨t,k,acc,M⟩)->
   ((∀s,bl=σ s->¬(s.toks=[]/\¬0<=bad/\s.big=false))->∃n e:Int,v= .tuple #[.pointer ν,Δ n,Δ e])->Q v w'):
  cp (Δ 0) w λb2 E dg=>
   cz (α:=x1->x3->Prop) (λ(dh:x1)(N:x3)=>
    Split dh (ev N λI=>
   ac x7 (bQ (Γ A)) I λaH=>
   ac x7 (u6 dJ aH 3) I λaJ=>
   ac x7 (u5 dE aJ) I λbm=>
   ac x7 (bQ (Γ A)) I λdi=>
   ac x7 (u6 dJ di 2) I λdj=>
   ac x7 (u5 ay dj) I λdk=>
   am x7 zX [(Γ g),dk] I λdl af=>
    (Ext I af\/cD x7 (u5 dE aJ) bm af/\cD x7 (u6 dJ aH 3) aJ af/\cD x7 (bQ (Γ A)) aH af/\True)/\
   aE x7 (Y5 dE 1 #[(0,dl)]) af λdm S=>
    (Ext I S\/cD x7 (u5 dE aJ) bm S/\cD x7 (u6 dJ aH 3) aJ S/\cD x7 (bQ (Γ A)) aH S/\True)/\
    aE x7 (Z0 #[dE,dE] dE #[bm,dm]) S λdn aZ=>
     ac x7 (bQ (Γ A)) aZ λdp=>
     ac x7 (u6 dJ dp 3) aZ λdq=>
     aE x7 (o8 dE dq dn) aZ λ(_:Unit)aK=>
     ac x7 (aO .add aq false true b2 (Δ 1)) aK λdr=>
   dg dr aK)
     (cz (α:=x3->Prop) (λ(P:x3)=>
   cz (α:=x3->Prop) (λ(G:x3)=>
    ac x7 (bQ (Γ g)) G λds=>
    ac x7 (u6 bD ds 3) G λdt=>
    ac x7 (u5 ah dt) G λdu=>
    ac x7 (aO .neq ah false true du (Δ 0)) G λdv=>
    Split dv (ev G λZ=>
     ac x7 (bQ (Γ g)) Z λdw=>
     ac x7 (u6 bD dw 4) Z λdx=>
     ac x7 (u5 ah dx) Z λdy=>
     ac x7 (bQ (Γ g)) Z λdz=>
     ac x7 (u6 bD dz 3) Z λdA=>
     ac x7 (u5 ah dA) Z λdC=>
     Q (.tuple #[(.pointer ν),dy,dC]) Z)
     (ac x7 (bQ (Γ g)) G λdD=>
    ac x7 (u6 bD dD 5) G λdF=>
    ac x7 (u5 ah dF) G λdG=>
    ac x7 (aO .neq ah false true dG (Δ 0)) G λdH=>
    Split dH (ev G λaa=>
     ac x7 (bQ (Γ g)) aa λdI=>
     ac x7 (u6 bD dI 6) aa λdK=>
     ac x7 (u5 ah dK) aa λdL=>
     ac x7 (bQ (Γ g)) aa λdM=>
     ac x7 (u6 bD dM 5) aa λdN=>
     ac x7 (u5 ah dN) aa λdO=>
     Q (.tuple #[(.pointer ν),dL,dO]) aa)
     (ac x7 (V0 #[cN] ah #[p]) G λdP=>
    Q (.tuple #[(Γ A),dP,(Δ 0)]) G))) λb3=>
   cz (α:=x1->x3->Prop) (λ(dR:x1)(a1:x3)=>
    Split dR (am x7 nT [(Γ g),(Δ 11),(Δ bad)] a1 λff b4=>
     b3 b4)
     (b3 a1)) λb5=>
   ac x7 (bQ (Γ g)) P λdS=>
   ac x7 (u6 bD dS 3) P λdT=>
   ac x7 (u5 ah dT) P λdU=>
   ac x7 (aO .eql ah false true dU (Δ 0)) P λdV=>
   Split dV (ac x7 (aO .geq ah false true (Δ bad) (Δ 0)) P λdX=>
   b5 dX P)
    (b5 (.bool false) P)) λb6=>
  cz (α:=x1->x3->Prop) (λ(dY:x1)(V:x3)=>
   Split dY (ac x7 (bQ (Γ g)) V λdZ=>
    ac x7 (u6 bD dZ 0) V λea=>
    ac x7 (u5 fp ea) V λeb=>
    ac x7 (j9 fp eb (Δ 0)) V λec=>
    ac x7 (u6 ct ec 1) V λed=>
    ac x7 (u5 ah ed) V λee=>
    am x7 nT [(Γ g),(Δ 4),ee] V λfg bn=>
    b6 bn)
    (b6 V)) λb7=>
  ac x7 (bQ (Γ g)) N λef=>
  ac x7 (u6 bD ef 3) N λeg=>
  ac x7 (u5 ah eg) N λeh=>
  ac x7 (aO .eql ah false true eh (Δ 0)) N λei=>
  Split ei (ac x7 (bQ (Γ g)) N λej=>
  ac x7 (u6 bD ej 0) N λek=>
  ac x7 (u5 fp ek) N λem=>
  ac x7 (V0 #[fp] ah #[em]) N λen=>
  ac x7 (aO .gtr ah false true en (Δ 0)) N λeo=>
  b7 eo N)
   (b7 (.bool false) N))) λb8=>
   ac x7 (aO .lss aq false false b2 (Δ R)) E λep=>
   Split ep (ac x7 (bQ (Γ g)) E λer=>
   ac x7 (u6 bD er 3) E λes=>
   ac x7 (u5 ah es) E λet=>
   ac x7 (aO .eql ah false true et (Δ 0)) E λeu=>
   b8 eu E)
    (b8 (.bool false) E):=by
 have b9:A≠g:=λhe=>by
  have⟨aj,ad,ae,bad,an,big,ao,told,sv,C,_⟩:=ii h;subst he;exact absurd (eQ C b1) Φ
 refine⟨λbo E=>∃i:Nat,bo=Δ (i:Int)/\i<=R.toNat/\ai (λr=>w0.heap.size<=r) w0 E/\∃O gr M so,∃H:ak,ag E A dJ [bL t,Δ k,szv,O]/\av .i64 aq E gz szv acc/\pZ E gr O M/\(∀r,leadsTo O r->w0.heap.size<=r/\¬H r)/\¬H A/\(∀r,leads szv r->¬H r)/\(∀r,H r->w0.heap.size<=r)/\bN E g E.heap.size H 100001 so/\lH (λ_ s=>cZ acc s) R.toNat i so6 M so/\
   ∀s,so=σ s->kg s/\M.length+s.toks.length<=100000/\(∀z∈acc,1<=z/\z<=aw)/\acc.length<=100001,λbo _=>R.toNat-(bW bo).toNat,
  ⟨0,T,X5 _,db,_,0,[],so6,bE,b1,dd,⟨[],bk.nil _ _ _ _ _,T,λi h x hi=>by simp at hi⟩,λr y=>(e9 y).elim,id,λr _ h=>h,λr h=>h.elim,h.base.up Ω,?_,λs U=>?_⟩,?_⟩
 .unfold lH;cases so6<;>rfl
 .obtain⟨ew,ey,a3,a4⟩:=de s U;exact⟨ew,by simpa using ey,a3,a4⟩
 rintro _ E ⟨i,rfl,hi,a2,O,gr,M,so,H,ca,cb,cc,aL,bp,ez,cd,Y,br,eA⟩;refine aV (λv N=>E=N/\((v= .bool true/\i<R.toNat/\∃s,so=σ s)\/(v= .bool false/\(so=ν\/i=R.toNat)))) ?_ ?_
 rotate_left
 .intro aA bt;rw[aP,al];refine⟨λce=>?_,λfh=>bt _ _ ⟨T,.inr ⟨T,.inr Ω⟩⟩⟩;rw[lG Y];cases so with
  |none=>exact bt _ _ ⟨T,.inr ⟨T,.inl T⟩⟩
  |some s=>exact bt _ _ ⟨T,.inl ⟨T,Ω,s,T⟩⟩
 rintro _ _ ⟨rfl,⟨rfl,ce,s,rfl⟩|⟨rfl,eB⟩⟩
 .
  rw[bV];intro I ap _ _;have⟨ch,fi,ci,cj⟩:=eA s T;have aM:=ca.ext ap;have⟨eC,ck,aQ,cl⟩:=(Y.ext ap).low.shrink;have bu:=cb.ext ap;have eD:=cc.ext ap;rw[aT dJ.p 3 aM T,aT dJ.p 2 aM T];refine(Pl ck bu ci cj (λr y=>by have⟨c,C⟩:=cl r y;exact C.lt) ch).mono ?_;rintro _ af _ ⟨bw,x,cm,au,rfl,cn,eE,eF,fj,cq,eI⟩;have cr:∃c,ag I g bD c:=by have⟨aj,ad,ae,bad,an,big,ao,told,sv,C,_⟩:=ii ck;exact⟨_,C⟩
  have cu:∀r,(r=g\/eC r)->hv I r\/I.heap.size<=r:=λr y=>by
   rcases y with rfl|y
   .obtain⟨c,C⟩:=cr;exact .inl ⟨_,c,C,Φ,Φ⟩
   .obtain⟨c,C⟩:=cl r y;exact .inl ⟨_,c,C,Φ,Φ⟩
  have bx:=aM.ab au λy=>y.elim (λhe=>b9 he) λy=>bp (aQ _ y);have st:∀{w':x3},ag w' A dJ [bL t,Δ k,szv,O]->cD x7 (u5 dE (.pointer (σ ⟨A,0+3,ν⟩))) O w'/\cD x7 (u6 dJ (Γ A) 3) (.pointer (σ ⟨A,0+3,ν⟩)) w'/\cD x7 (bQ (Γ A)) (Γ A) w'/\True:=λC=>
   ⟨s8 Ψ (C.cell (o:=0+3) T),ly (by rw[aU dJ.p T]),ly (by rw[bZ]),trivial⟩
  refine⟨.inr (st bx),?_⟩;refine hU (f:=e1) (a:=bw) dE.u ba.i Ω T rfl λfk fm S fo W eJ=>?_;refine⟨.inr (st (bx.ext W)),?_⟩;have⟨L,az,bz,bA⟩:=id eD;have eK:bk e1 4 ba af gr O L:=az.ab au λr y U=>U.elim (λhe=>by
   have⟨c,C⟩:=cr;subst he;exact cP az C Φ y) λU=>(aL r y).2 (aQ r U)
  have bC:=eK.ext W;refine iG (f:=e1) (a:=bw) dE.u ba.i T bC (by simpa using eJ.sl) (cn.ext W).one Ω Ω λcw eL aZ a6 eM cA=>?_;have bF:=bx.ext W;have cB:=bF.ab cA λhe=>cP bC bF Φ he;rw[bZ,aU dJ.p T];refine bq (g:=A) (o:=3) dE.i (eR a6.sl).1 (eR a6.sl).2 cB Ξ λaK cC fq bG=>?_;have bG:ag aK A dJ [bL t,Δ k,szv,cw]:=bG;have fs:i<=4611686018427387904:=Ω
  rw[aN,wrap_i64 Ω Ω];have aC:ai (λr=>leadsTo O r\/r=A) S aK:=(cA.mono λr _ h=>.inl h).trans (cC.mono λr _ h=>.inr h);have cE:∀r,(leadsTo O r\/r=A)->∃e c,ag S r e c/\e≠aq/\e≠cg/\e≠ct/\e≠bD:=λr y=>by
   rcases y with y|rfl
   .obtain⟨rfl,c,C⟩:=dW bC y;exact⟨_,c,C,Φ,Φ,Φ,Φ⟩
   .exact⟨_,_,bF,Φ,Φ,Φ,Φ⟩
  have bH:∀r,(leadsTo O r\/r=A)->hv S r\/S.heap.size<=r:=λr y=>by
   have⟨e,c,C,bI,bK,_⟩:=cE r y;exact .inl ⟨e,c,C,bI,bK⟩
  have ft:=ap.size;have fu:=au.size;have fv:=W.size;have fw:=aC.size;have cF:∀r,leadsTo O r->r<I.heap.size:=λr y=>by have⟨ad,ae⟩:=az.leads y;omega
  have aR:∀r,r<I.heap.size->¬H r->¬cm r:=λr y eN bM=>(cq r bM).elim (λh=>eN (aQ r h)) λh=>Ω
  have eO:∀r,leads szv r->r<I.heap.size:=λr y=>by have⟨ad,ae⟩:=bS bu y;omega
  refine⟨⟨i+1,T,Ω,?_,cw,eL,M++[x],_,cm,bG,eH ((eH bu au cu).ext W) aC bH,⟨L++[bw],a6.ab cC λr y he=>?_,by rw[r9,r9,bz];rfl,λj cG eP aD aS=>?_⟩,λr y=>?_,aR A aM.lt bp,λr y=>aR r (eO r y) (ez r y),λr y=>?_,?_,br.step ce T λq K=>eF q K,λs' X=>?_⟩,by simp only[bW];omega⟩
  .refine (((a2.trans (ap.ab _)).trans (au.mono λr _ h=>?_)).trans (W.ab _)).trans (aC.mono λr _ h=>?_)
   .exact h.elim (λh=>Ω) λh=>cd r (aQ r h)
   .exact h.elim (λh=>(aL r h).1) λh=>Ω
  .have he:r=A:=he;subst he;exact cP a6 cB Φ y
  .by_cases eS:j<L.length
   .rw[Y6 eS]at aD;rw[Y6 Ω]at aS;exact(((bA j cG eP aD aS).dQ au cu).ext W).dQ aC bH
   .rw[Y8 Ω]at aD;rw[Y8 Ω]at aS;have eU:j-L.length=0:=by have:=(x4.1 aD).1;simp at this;omega
    have eV:j-M.length=0:=Ω
    rw[eU]at aD;rw[eV]at aS;cases aD;cases aS;exact(cn.ext W).dQ aC bH
  .rcases eM r y with h|h
   .exact⟨(aL r h).1,aR r (cF r h) (aL r h).2⟩
   .exact⟨by have:=a2.size;omega,λbM=>by have:=eI r bM;omega⟩
  .rcases cq r y with h|h
   .exact cd r (aQ r h)
   .have:=a2.size;omega
  .refine (eE.ext W).dQ aC λr y=>.inl ?_;have⟨e,c,C,bI,bK,eW,eX⟩:=cE r y;refine⟨e,c,C,bI,bK,eW,eX,?_⟩;rcases y with y|rfl
   .exact aR r (cF r y) (aL r y).2
   .exact aR _ aM.lt bp
  .cases bO:cZ acc s with
   |none=>rw[bO]at X;cases X
   |some q=>
    have⟨fx,cH⟩:=q;rw[bO]at X;cases X;have⟨fy,eY⟩:=Pn bO;refine⟨eY ch,?_,ci,cj⟩;rw[r9];simp only[T2];omega
 .
  rw[a8];have bP:so6.bind (cK (λ_ s=>cZ acc s) R.toNat [])=so.map λs=>(M,s):=by
   unfold lH at br;rw[br];cases so with
   |none=>rfl
   |some s=>
    rcases eB with h|rfl
    .cases h
    .simp only[U4];rfl
  have row:∀{w':x3},ai (λr=>r=g) E w'->pZ w' gr O M/\ag w' A dJ [bL t,Δ k,szv,O]/\av .i64 aq w' gz szv acc:=λa7=>by
   have⟨aj,ad,ae,bad,an,big,ao,told,sv,C,_⟩:=ii Y;have cI:∀r,r=g->hv E r\/E.heap.size<=r:=λr y=>by subst y;exact .inl ⟨_,_,C,Φ,Φ⟩
   have⟨L,az,bz,bA⟩:=id cc;refine⟨⟨L,az.ab a7 λr y he=>?_,bz,λi h x hi J=>(bA i h x hi J).dQ a7 cI⟩,ca.ab a7 λhe=>b9 he,eH cb a7 cI⟩;have he:r=g:=he;subst he;exact cP az C Φ y
  refine dc (λP=>ai (λr=>r=g) E P/\bN P g E.heap.size H 100001 (so.bind λs=>if s.toks=[]then σ s else ν)) ?_ ?_
  rotate_left
  .intro fz cJ;refine aV (λv V=>E=V/\∃b:Bool,v= .bool b/\(b=true->∃s,so=σ s/\s.toks≠[])/\(b=false->∀s,so=σ s->s.toks=[])) ?_ ?_
   .rintro _ _ ⟨rfl,b,rfl,bR,bT⟩;cases b with
    |true=>
     obtain⟨s,rfl,bb⟩:=bR T;rw[bV];have⟨cL,cM,aj,aX,gs,sv,L,cQ,ad,ae,bU,an,big,ao,told,cR,bc,bd,aG,be,cS,cT,cU,bf,cV,cW,bg,cX,cY,c0⟩:=id Y;have⟨⟨bX,eZ⟩,_⟩:=be.g bc bd;obtain⟨x,fA,rfl⟩:∃x l,aX=x::l:=by
      cases aX with
      |nil=>exact absurd bg.symm (by simpa using bb)
      |cons x l=>exact⟨x,l,T⟩
     rw[aT bD.p 0 aG T];refine DS bX λb o e0=>?_;rw[aU ct.p T,ax Ψ (e0 1 _ T)];apply(oI Y Ω).mono;rintro _ bn _ ⟨e2,e3⟩;refine cJ _ ⟨e2,?_⟩;show bN bn g _ H 100001 (if s.toks=[]then σ s else ν);rw[if_neg bb];exact e3
    |false=>
     rw[a8];refine cJ _ ⟨ai.refl _ _,?_⟩;cases so with
     |none=>exact Y
     |some s=>
      show bN _ g _ H 100001 (if s.toks=[]then σ s else ν);rw[if_pos (bT T s T)];exact Y
   .intro fB c1;rw[lG Y];cases so with
    |none=>
     rw[R3,a8];exact c1 _ _ ⟨T,false,T,(λh=>by cases h),λ_ s U=>by cases U⟩
    |some s=>
     rw[T6,bV];have⟨cL,cM,aj,aX,gs,sv,L,cQ,ad,ae,bU,an,big,ao,told,cR,bc,bd,aG,be,cS,cT,cU,bf,cV,cW,bg,cX,cY,c0⟩:=id Y;have⟨⟨bX,eZ⟩,_⟩:=be.g bc bd;rw[aT bD.p 0 aG T,DR bX,bJ];have fD:aX.length=s.toks.length:=by rw[<-bg,r8]
     refine c1 _ _ ⟨T,_,T,λh=>⟨s,T,λaY=>?_⟩,λh s' X=>?_⟩
     .have:=of_decide_eq_true h;have cG:s.toks.length=0:=by rw[aY];rfl
      omega
     .cases X;have:=of_decide_eq_false h;exact j6 Ω
  rintro P ⟨c2,bY⟩;refine dc (λG=>ai (λr=>r=g) E G/\bN G g E.heap.size H 100001 (so.bind λs=>if s.toks=[]/\¬0<=bad then σ s else ν)) ?_ ?_
  rotate_left
  .intro fE c3;refine aV (λv a1=>P=a1/\∃b:Bool,v= .bool b/\(b=true->(so.bind λs=>if s.toks=[]/\¬0<=bad then σ s else ν)=ν)/\(b=false->(so.bind λs=>if s.toks=[]/\¬0<=bad then σ s else ν)=so.bind λs=>if s.toks=[]then σ s else ν)) ?_ ?_
   .rintro _ _ ⟨rfl,b,rfl,bR,bT⟩;cases b with
    |true=>
     rw[bV];apply(oI bY Ω).mono;rintro _ b4 _ ⟨e4,e5⟩;exact c3 _ ⟨c2.trans e4,by rw[bR T];exact e5⟩
    |false=>
     rw[a8];exact c3 _ ⟨c2,by rw[bT T];exact bY⟩
   .intro fF c4;rw[lG bY];cases K:(so.bind λs=>if s.toks=[]then σ s else ν)with
    |none=>
     rw[R3,a8];refine c4 _ _ ⟨T,false,T,(λh=>by cases h),λ_=>?_⟩;cases so with
     |none=>rfl
     |some s=>
      have K:(if s.toks=[]then σ s else ν)=ν:=K;show(if s.toks=[]/\¬0<=bad then σ s else ν)=(if s.toks=[]then σ s else ν);rw[K];split at K
      .cases K
      .rename_i bb;rw[if_neg (λh=>bb h.1)]
    |some s=>
     rw[T6,bV,cO];refine c4 _ _ ⟨T,_,T,λh=>?_,λh=>?_⟩
     .have aY:=of_decide_eq_true h;cases so with
      |none=>rfl
      |some s=>exact if_neg λh=>h.2 aY
     .have aY:=of_decide_eq_false h;cases so with
      |none=>rfl
      |some s=>
       show(if s.toks=[]/\¬0<=bad then σ s else ν)=(if s.toks=[]then σ s else ν);by_cases U:s.toks=[]
       .rw[if_pos U,if_pos ⟨U,aY⟩]
       .rw[if_neg U,if_neg λh=>U h.1]
  rintro G ⟨c5,bh⟩;have⟨e6,e7,e8⟩:=row c5;have fa:ai (λr=>w0.heap.size<=r) w0 G:=a2.trans (c5.mono λr _ h=>by have h:r=g:=h;omega);have bi:Ext w0 G:=fa.ext λr y he=>Ω
  rw[rH bh];cases K:(so.bind λs=>if s.toks=[]/\¬0<=bad then σ s else ν)with
  |none=>
   rw[R3,W3,bV];intro Z c6 _ _;have⟨aj,ad,ae,bU,an,big,ao,told,sv,C,_⟩:=ii (bh.ext c6);rw[aT bD.p 4 C T,aT bD.p 3 C T];refine bj _ _ M so (bi.trans c6) bP (λs U aB=>?_) λ_=>⟨_,_,T⟩;subst U;have K:(if s.toks=[]/\¬0<=bad then σ s else ν)=ν:=K;rw[if_pos ⟨aB.1,aB.2.1⟩]at K;cases K
  |some s=>
   rw[K]at bh;rw[T6,Y7,a8];obtain⟨s',rfl,X⟩:∃s',so=σ s'/\(if s'.toks=[]/\¬0<=bad then σ s' else ν)=σ s:=by
    cases so with
    |none=>cases K
    |some s'=>exact⟨s',T,K⟩
   split at X
   .rename_i c7;cases X;have⟨cL,cM,aj,aX,gs,sv,L,cQ,ad,ae,bU,an,big,ao,told,cR,bc,bd,aG,be,cS,cT,cU,bf,cV,cW,bg,cX,cY,c0⟩:=id bh;rw[aT bD.p 5 aG T,bB,al];refine⟨λb0=>?_,λb0=>?_⟩
    .intro aa c8 _ _;have c9:=aG.ext c8;rw[aT bD.p 6 c9 T,aT bD.p 5 c9 T];refine bj _ _ M _ (bi.trans c8) bP (λcH da aB=>?_) λ_=>⟨_,_,T⟩;cases da;rw[bf.1 b0]at aB;cases aB.2.2
    .rw[aW cN.u (df.ext bi)];refine bj _ _ M _ bi bP (λcH da aB=>⟨T,szv,gz,O,gr,e7,e8,e6⟩) λfb=>?_;refine absurd ⟨c7.1,c7.2,?_⟩ (fb s T);cases C:s.big with
     |false=>rfl
     |true=>exact absurd (bf.2 C) b0
   .cases X
def Zero(so:Option aF):Prop:=∀s,so=σ s->s.told=0/\s.toks.length<=100000
def Zero.big{so:Option aF}(h:Zero so)(b:Bool):Zero (so.map (bb b)):=λs U=>by
 cases so with
 |none=>cases U
 |some s0=>cases U;exact h s0 T
def zero_num{lo hi:Int}{so:Option aF}(h:Zero so):Zero ((bf lo hi so).map (·.2)):=λs U=>by
 cases so with
 |none=>cases U
 |some s0=>
  have U:V7 (λx=>x.2) (bh lo hi s0)=σ s:=U;cases a:bh lo hi s0 with
  |none=>rw[a]at U;cases U
  |some q=>
   have⟨n,s1⟩:=q;rw[a]at U;cases U;have e:=dl a;have:=e.1;have⟨h1,f⟩:=h s0 T;exact⟨e.eqs.1.trans h1,by show s1.toks.length<=100000;omega⟩
def Pr{so:Option aF}(h:Zero so):Zero ((jJ so).map (·.2)):=λs U=>by
 cases so with
 |none=>cases U
 |some s0=>
  have U:V7 (λx=>x.2) (dO s0)=σ s:=U;cases a:dO s0 with
  |none=>rw[a]at U;cases U
  |some q=>
   have⟨n,s1⟩:=q;rw[a]at U;cases U;have⟨V,aa⟩:=q1 a;have⟨h1,e⟩:=h s0 T;have:s0.toks.length=s1.toks.length+1:=by rw[V];rfl
   exact⟨by show s1.told=0;rw[aa];exact h1,by show s1.toks.length<=100000;omega⟩
def Ps{so:Option aF}{f:b3}(h:hn ⟨(lex pl).1,0,false,[]⟩=so.map λs=>(f,s))(a:¬65536<pl.length):fs pl=so.bind λs=>if s.toks=[]/\(lex pl).2=true/\s.big=false then σ f else ν:=by
 unfold fs;rw[if_neg a,h]<;>cases so<;>rfl
def Pt(a:pl.length<=60000):(∀t∈(lex pl).1,Bytes t/\t.length<=65536)/\(lex pl).1.length<=60000:=by
 refine⟨λt e=>?_,Y9 (pw pl.length pl (o4 _)) a⟩;have⟨_,f,p⟩:=s4 pl.length pl (o4 _) t e;refine⟨λb h=>?_,Ω⟩;have:=of_decide_eq_true (f b h);omega
def D2{p:x1}(ap:aI .u8 w p pl)(cA:Bytes pl)(cB:pl.length<=60000):am x7 Hq [p] w (Pp w pl):=by
 have⟨cC,dQ⟩:=Pt cB;apply az func56;rw[aW cN.u ap,bJ,al];refine⟨λh=>Ω,λ_=>?_⟩;apply(Pc ap cA Ω).mono;rintro _ V _ ⟨aK,au,bj,bad,rfl,bl,bm,cD,dR,bn⟩;rw[bo,bp,aW cN.u (ap.ext aK),cY (cs:=#[au,Δ (pl.length:Int),Δ 4,Δ 0,Δ 0,Δ 0,Δ 0,Δ 0,.slice ν 0 0]) (by obtain⟨_,_,_,_,_,rfl,_⟩:=bl;kernel_rfl)];refine bd λg aa dS ax W=>?_;have W:ag aa g bD (gJ au (pl.length:Int) 4 0 0 0 0 0 (.slice ν 0 0)):=W;have dT:=aK.size;have dU:=ax.size;have dV:=W.lt;refine dc (λE=>Ext w E/\ai (λr=>r=g) aa E/\∃X Y:Int,Y≠0/\ag E g bD (gJ au X Y 0 0 0 0 0 (.slice ν 0 0))) ?_ ?_
 rotate_left
 .intro aA R;have br:=aK.trans ax;rw[cO,al];refine⟨λ_=>?_,λ_=>R _ ⟨br,ai.refl _ _,_,_,Ω,W⟩⟩;rw[bZ,aU bD.p T];refine bq (g:=g) (o:=1) ah.i T rfl W (by simp[gJ]) λdW cE dX cF=>?_;rw[bZ,aU bD.p T];refine bq (g:=g) (o:=2) ah.i T rfl cF (by simp[gJ]) λdY cG dZ cH=>?_;have G:=cE.trans cG;exact R _ ⟨br.then G λr A he=>by have he:r=g:=he;omega,G,bad,11,Ω,cH⟩
 rintro E ⟨bt,aM,X,Y,cI,bx⟩;have z3:=aM.size;have cJ:bN E g E.heap.size bE 100000 (σ ⟨(lex pl).1,0,false,[]⟩):=by
  refine⟨o4 _,E,au,bj,0,_,[],[],X,Y,0,0,0,0,0,T,ai.refl _ _,⟨_,bx⟩,bx,⟨⟨?_,λr A=>?_⟩,bk.nil _ _ _ _ _,T,λi h x hi=>by simp at hi⟩,λr A=>e9 A,T,cI,Ξ,λ_=>rfl,trivial,bm,cC,T,?_⟩
  .refine (bl.ab (ax.ab λ_=>False) λ_ _ h=>h).ab aM λr A he=>?_;have he:r=g:=he;have⟨c,M⟩:=bn r A;have:=M.lt;omega
  .obtain⟨c,M⟩:=bn r A;exact⟨c,(M.ext ax).ab aM λhe=>by have he:r=g:=he;have:=M.lt;omega⟩
  .have:bj.length=(lex pl).1.length:=by rw[<-bm,r8]
   simp only[List.length_nil];omega
 have ea:∀{Q:x3}{cL N:Nat}{H:ak}{so:Option aF},bN Q g cL H N so->True:=λ_=>trivial;rw[cY (cs:=#[bL [],Δ 0,.slice ν 0 0,.slice ν 0 0]) Ψ];refine bd λB cM eb aO aC=>?_;have aC:ag cM B dJ [bL [],Δ 0,.slice ν 0 0,.slice ν 0 0]:=aC;have ec:E.heap.size<=B:=Ω
 have ed:=aC.lt;have cP:B≠g:=Ω
 have I:∀{Q Z:x3}{c:List x1},ag Q B dJ c->ai (λr=>r=g) Q Z->ag Z B dJ c:=λM G=>M.ab G λhe=>cP he;apply(DT (cJ.ext aO)).mono;rintro _ cR _ ⟨⟨aQ,cS⟩,t,bz,rfl,ee,ef,cT⟩;refine bu ct.i λbA eg eh cU cV=>?_;refine cd (vs:=[bL t,Δ bz]) ct.i T rfl (by intro v ad;simp at ad;rcases ad with rfl|rfl<;>rfl) cV λcW cX ei bB=>?_;have aD:Ext cR cW:=cU.put cX Ω;have cZ:=(I aC aQ).ext aD;rw[aL ct.p 0 bB T,bZ,aU dJ.p T];refine bq (g:=B) (o:=0) cQ.i T rfl cZ Ξ λaR aS ej aX=>?_;have aX:ag aR B dJ [bL t,Δ 0,.slice ν 0 0,.slice ν 0 0]:=aX;have c0:=(cS.ext aD).new aS λr A=>by have A:r=B:=A;omega
 have z4:=aO.size;have z5:=aQ.size;have ek:=aD.size;have bC:ag aR bA ct [bL t,Δ bz]:=bB.ab aS λhe=>by have he:bA=B:=he;omega
 rw[aL ct.p 0 bC T,od cQ.u,bJ,aL ct.p 1 bC T];have c1:ai (λr=>w.heap.size<=r) w aR:=((((bt.ab _).trans (aO.ab _)).trans (aQ.mono λr _ h=>by have h:r=g:=h;omega)).trans (aD.ab _)).trans (aS.mono λr _ h=>by have h:r=B:=h;omega);have up:∀{Q Z:x3},ai (λr=>w.heap.size<=r) w Q->ai (λr=>r=g) Q Z->ai (λr=>w.heap.size<=r) w Z:=λh k=>h.trans (k.mono λr _ h=>by have h:r=g:=h;omega);apply(np c0).mono;rintro _ em _ ⟨bF,ac⟩;have c2:=up c1 bF;have c3:=I aX bF;generalize aY:(((jJ (σ ⟨(lex pl).1,0,false,[]⟩)).map (·.2)).map (bb (decide ((64:Int)<(t.length:Int)))))=aZ at ac;apply(kU ac).mono;rintro _ en _ ⟨⟨bG,c4⟩,n,eo,rfl,bH,c5⟩;rw[bo,bp,bJ];apply(np c4).mono;rintro _ ep _ ⟨bI,bK⟩;have c6:=up (up c2 bG) bI;have c7:=I (I c3 bG) bI;generalize bM:((bf 1 4611686018427387904 aZ).map (·.2)).map (bb (decide (64<n)))=a1 at bK;apply(kU bK).mono;rintro _ er _ ⟨⟨bO,bP⟩,most,es,rfl,hm,c8⟩;rw[bo,bp];generalize bQ:(bf 1 4611686018427387904 a1).map (·.2)=a2 at bP;apply(kU bP).mono;rintro _ et _ ⟨⟨bR,c9⟩,a6,eu,rfl,bS,da⟩;rw[bo,bp,bJ];apply(np c9).mono;rintro _ ev _ ⟨bT,bU⟩;generalize bX:((bf 0 4611686018427387904 a2).map (·.2)).map (bb (decide (256<a6)))=bY at bU;apply(kU bU).mono;rintro _ ew _ ⟨⟨b0,db⟩,k,ey,rfl,hk,ez⟩;rw[bo,bp,bJ];apply(np db).mono;rintro _ eA _ ⟨b1,b2⟩;generalize b3:((bf 1 4611686018427387904 bY).map (·.2)).map (bb (decide (2147483648<k)))=af at b2;have dd:=up (up (up (up (up c6 bO) bR) bT) b0) b1;have de:=I (I (I (I (I c7 bO) bR) bT) b0) b1;rw[bZ,aU dJ.p T];refine bq (g:=B) (o:=1) aq.i T rfl de Ξ λb4 b5 eB a7=>?_;have a7:ag b4 B dJ [bL t,Δ k,.slice ν 0 0,.slice ν 0 0]:=a7;have df:=b2.new b5 λr A=>by have A:r=B:=A;omega
 have b6:ai (λr=>w.heap.size<=r) w b4:=dd.trans (b5.mono λr _ h=>by have h:r=B:=h;omega);have eC:0<=n/\n<=4611686018427387904:=by
  cases C:bf 1 4611686018427387904 aZ with
  |none=>have:=c5 C;omega
  |some q=>have ac:=bH q C;have:=ni (n:=q.1) (s':=q.2) C;omega
 have eE:0<=most/\most<=4611686018427387904:=by
  cases C:bf 1 4611686018427387904 a1 with
  |none=>have:=c8 C;omega
  |some q=>have ac:=hm q C;have:=ni (n:=q.1) (s':=q.2) C;omega
 have dg:0<=a6/\a6<=4611686018427387904:=by
  cases C:bf 0 4611686018427387904 a2 with
  |none=>have:=da C;omega
  |some q=>have ac:=bS q C;have:=ni (n:=q.1) (s':=q.2) C;omega
 have dh:Zero (σ (⟨(lex pl).1,0,false,[]⟩:aF)):=λs U=>by cases U;exact⟨T,by simp only;omega⟩
 have di:Zero aZ:=by rw[<-aY];exact(Pr dh).big _
 have dj:Zero a1:=by rw[<-bM];exact(zero_num di).big _
 have dk:Zero a2:=by rw[<-bQ];exact zero_num dj
 have dm:Zero bY:=by rw[<-bX];exact(zero_num dk).big _
 have b7:Zero af:=by rw[<-b3];exact(zero_num dm).big _
 have eF:=b6.size;refine⟨λba O=>∃i:Nat,ba=Δ (i:Int)/\i<=n.toNat/\ai (λr=>w.heap.size<=r) w O/\∃szv gz acc so,ag O B dJ [bL t,Δ k,szv,.slice ν 0 0]/\av .i64 aq O gz szv acc/\(∀r,leads szv r->E.heap.size<=r)/\bN O g E.heap.size bE 100000 so/\lH (fi most) n.toNat i af acc so/\∀s,so=σ s->s.told=0/\acc.length+s.toks.length<=100000/\∀z∈acc,1<=z/\z<=aw,λba _=>n.toNat-(bW ba).toNat,
  ⟨0,T,X5 _,b6,_,0,[],af,a7,av.nil _ _ _ _,(λr A=>by have⟨a,aE,c,X,Y⟩:=A;cases X),df,?_,λs U=>⟨(b7 s U).1,by simpa using(b7 s U).2,λz dn=>by cases dn⟩⟩,?_⟩
 .unfold lH;cases af<;>rfl
 rintro _ O ⟨i,rfl,hi,bc,szv,gz,acc,so,b8,b9,ca,aj,be,cb⟩;refine aV (λv dp=>O=dp/\((v= .bool true/\i<n.toNat/\∃s,so=σ s)\/(v= .bool false/\(so=ν\/i=n.toNat)))) ?_ ?_
 rotate_left
 .intro aA R;rw[aP,al];refine⟨λcc=>?_,λeI=>R _ _ ⟨T,.inr ⟨T,.inr Ω⟩⟩⟩;rw[lG aj];cases so with
  |none=>exact R _ _ ⟨T,.inr ⟨T,.inl T⟩⟩
  |some s=>exact R _ _ ⟨T,.inl ⟨T,Ω,s,T⟩⟩
 rintro _ _ ⟨rfl,⟨rfl,cc,s,rfl⟩|⟨rfl,dq⟩⟩
 .rw[bV];have⟨dr,eJ,ds⟩:=cb s T;apply(kU aj).mono;rintro _ eK _ ⟨⟨dt,du⟩,z,eL,rfl,bg,eM⟩;rw[bo,bp,bJ];apply(np du).mono;rintro _ eN _ ⟨dv,dw⟩;have aG:=dt.trans dv;have ce:=I b8 aG;have dx:∀r,r=g->hv O r\/O.heap.size<=r:=λr A=>(kV aj r A).imp (λ⟨e,c,M,dy,dz,_⟩=>⟨e,c,M,dy,dz⟩) id;have cg:=eH b9 aG dx;rw[aT dJ.p 2 ce T];refine eD ay.u aq.i T λa22 eO dA eP S dC=>?_;refine hY ay.u aq.i T (cg.ext S) dC.ls Θ Θ λci dD eQ aH dE cj=>?_;have ck:=ce.ext S;have cl:=ck.ab cj λhe=>ch (cg.ext S) ck Φ he T;rw[bZ,aU dJ.p T];refine bq (g:=B) (o:=2) ay.i aH.ls.cells.1 aH.ls.cells.2 cl Ξ λcm cn eR bi=>?_;have bi:ag cm B dJ [bL t,Δ k,ci,.slice ν 0 0]:=bi;rw[aN,wrap_i64 Ω Ω];have cp:ai (λr=>leads szv r\/r=B) dA cm:=(cj.mono λr _ h=>.inl h).trans (cn.mono λr _ h=>.inr h);have cq:∀r,(leads szv r\/r=B)->E.heap.size<=r:=λr A=>A.elim (ca r) λA=>Ω
  have eS:w.heap.size<=E.heap.size:=bt.size;have eU:=aG.size;have z22:=S.size;have eV:=bc.size;have eW:=aj.lt;refine⟨⟨i+1,T,Ω,((up bc aG).trans (S.ab _)).trans (cp.mono λr _ h=>by have:=cq r h;omega),ci,dD,acc++[z],((bf 1 most (σ s)).map (·.2)).map (bb (decide (32<z))),bi,bw aH cn λr A he=>?_,λr A=>?_,(dw.ext S).new cp cq,?_,λs' K=>?_⟩,by simp only[bW];omega⟩
  .have he:r=B:=he;subst he;exact ch aH cl Φ A T
  .rcases dE r A with h|h
   .exact ca r h
   .omega
  .refine be.step cc ?_ λq C=>?_
   .show (V7 _ (bh 1 most s)).map _=_;unfold fi;cases C:bh 1 most s with
    |none=>rfl
    |some q=>
     have:=bg q C;have⟨cr,aJ⟩:=q;subst this;rfl
   .unfold fi at C;cases L:bh 1 most s with
    |none=>rw[L]at C;cases C
    |some an=>
     rw[L]at C;have:=bg an L;have⟨cr,aJ⟩:=an;cases C;exact this
  .cases L:bh 1 most s with
   |none=>
    have K:(V7 (λx=>x.2) (bh 1 most s)).map (bb (decide (32<z)))=σ s':=K;rw[L]at K;cases K
   |some an=>
    have K:(V7 (λx=>x.2) (bh 1 most s)).map (bb (decide (32<z)))=σ s':=K;rw[L]at K;have dF:=bg an L;have⟨cr,aJ⟩:=an;cases K;have cu:=dl L;have ij:=(ib L).1;have eX:=cu.1;refine⟨by show aJ.told=0;rw[cu.eqs.1];exact dr,?_,λy ao=>?_⟩
    .rw[r9];show acc.length+1+aJ.toks.length<=100000;omega
    .rcases o5.1 ao with ao|ao
     .exact ds y ao
     .rw[o9.1 ao,dF];exact⟨ij.1,by unfold aw;have:=ij.2;simp only at*;omega⟩
 .rw[a8];have dG:af.bind (cK (fi most) n.toNat [])=so.map λs=>(acc,s):=by
   unfold lH at be;rw[be];cases so with
   |none=>rfl
   |some s=>
    rcases dq with h|rfl
    .cases h
    .simp only[U4];rfl
  refine Pq bc b8 b9 aj (λs U=>?_) Ω Ω ap dg λv w' dH dI J dK dL cw=>?_
  .obtain⟨dM,eY,a3⟩:=cb s U;exact⟨λ_=>by rw[dM];omega,Ω,a3,Ω⟩
  .have dN:(decide ((64:Int)<(t.length:Int)))=decide (64<t.length):=by rw[U1,decide_eq_true_eq,decide_eq_true_eq];omega
   rw[dN]at aY;have dO:=Po (s0:=⟨(lex pl).1,0,false,[]⟩) aY.symm (λq C=>cT q C) bM.symm bH bQ.symm hm bX.symm bS b3.symm hk dG dK;have P:=Ps dO Ω;have cz:¬0<=bad↔(lex pl).2=true:=by
    rw[cD];cases (lex pl).2<;>simp
   cases dI with
   |none=>
    obtain⟨aE,e,rfl⟩:=cw λs U=>by cases U
    exact⟨J,aE,e,λ_=>rfl,λf ae=>by rw[P]at ae;cases ae⟩
   |some s=>
    have P:fs pl=if s.toks=[]/\(lex pl).2=true/\s.big=false then σ ⟨t,k,acc,dH⟩else ν:=P;by_cases G:s.toks=[]/\(lex pl).2=true/\s.big=false
    .rw[if_pos G]at P;obtain⟨rfl,dP⟩:=dL s T ⟨G.1,cz.2 G.2.1,G.2.2⟩;exact⟨J,_,_,(λae=>by rw[P]at ae;cases ae),λf ae=>⟨B,T,by rw[P]at ae;cases ae;exact dP⟩⟩
    .rw[if_neg G]at P;obtain⟨aE,e,rfl⟩:=cw λs' K aB=>by
      cases K;exact G ⟨aB.1,cz.1 aB.2.1,aB.2.2⟩
     exact⟨J,aE,e,λ_=>rfl,λf ae=>by rw[P]at ae;cases ae⟩
def D3{a b:Int}:am x7 Ja [Δ a,Δ b] w λv w'=>v=Δ (min a b)/\Ext w w':=by
 apply az func215;rw[aP,al];exact⟨λh=>⟨by congr 1;omega,Ext.refl _⟩,λh=>⟨by congr 1;omega,Ext.refl _⟩⟩
def Pu{z:jk}{x:cn}(h:gY w z x)(O:(x.lines.map (·.1)).Nodup)(P:aI .i64 w aM t):am x7 JE [.agg (e1 z).toArray,aM,Δ k] w λv w'=>v=Δ (j7 x k t)/\Ext w w':=by
 have⟨⟨g1,Q⟩,⟨au,R⟩,S,av,L,f,U,G⟩:=id h;apply az func265;refine bd λW V aw A a=>?_;have a:ag V W ba (e1 z):=by
  have⟨_,_,_,X⟩:=da Q.ls;have⟨_,_,_,Y⟩:=da R.ls;have⟨_,_,_,_,_,Z,_⟩:=f.sl;simp only[e1,X,Y,Z]at a ⊢;exact a
 have ab:=f.ext A;have ac:L.length=x.lines.length:=by rw[<-G,r8]
 rw[aL ba.p 2 a T,aL ba.p 3 a T,eF ec.u ab,S];refine bT.range L.length (λi q aa=>Ext V aa/\∃c:Int,q=Δ c/\min c k=lB x k i t) f.le ⟨Ext.refl _,x.other,T,(CU x k t).symm⟩ ?_ ?_
 .rintro i _ aa ad hi ⟨e,c,rfl,r⟩ ae;have⟨y,B⟩:=aH (l:=L) hi;have⟨gy,H⟩:=U y (x5 B);have C:=A.trans e;have af:x.lines[i]?=σ (y.t,y.c):=by rw[<-G,x8,B];rfl
  have I:=CW (k:=k) O af t;apply bz Ω;refine aV (λq J=>Ext V J/\∃c:Int,q=Δ c/\min c k=lB x k (i+1) t) ?_ ?_
  .rintro q J ah;rw[aN];exact ae _ _ ah
  intro aA K;have M:=f.ext C;rw[dw T ec.u cg.i M hi,bR cg.p cg.i T (M.range B)];refine bu cg.i λao ax ay ai aj=>?_;refine cd (vs:=oH y) cg.i T rfl (xv H) aj λak an aB N=>?_;have s:Ext aa ak:=ai.put an Ω;rw[aL cg.p 0 N T];apply(xu ((H.ls.ext C).ext s) ((P.ext C).ext s)).mono;rintro _ aC _ ⟨rfl,E⟩;rw[al];refine⟨λhe=>?_,λap=>?_⟩
  .rw[aL cg.p 1 (N.ext E) T];refine K _ _ ⟨(e.trans s).trans E,y.c,T,?_⟩;rw[I,if_pos he.symm]
  .refine K _ _ ⟨(e.trans s).trans E,c,T,?_⟩;rw[I,if_neg λhe=>ap he.symm,r]
 .rintro _ aa ad ⟨e,c,rfl,r⟩;rw[ac,CV]at r;apply b4 Ω;apply D3.mono;rintro _ aD _ ⟨rfl,aq⟩;exact⟨by rw[r],(A.trans e).trans aq⟩
def Pv{dn:x1}(h:aI .i64 w dn l)(L:l.Nodup)(ag:l.length<=64):am x7 JD [dn] w λv w'=>Ext w w'/\∃g,av .i64 ah w' g v (br l)/\∀r,leads v r->w.heap.size<=r:=by
 apply az func264;have M:∀i,i<=64->(((Y1 i).map λ(v:Nat)=>(v:Int)).filter λv=>decide (v∈l)).length<=i:=λi _=>by
  have:=R5 (λv=>decide (v∈l)) ((Y1 i).map λ(v:Nat)=>(v:Int));simp at this;omega
 refine bT.range 64 (λi e V=>Ext w V/\∃g,av .i64 ah V g e (((Y1 i).map λ(v:Nat)=>(v:Int)).filter λv=>decide (v∈l))/\∀r,leads e r->w.heap.size<=r) Ω ⟨Ext.refl _,0,av.nil _ _ _ _,λr y=>by have⟨a,n,c,N,ai⟩:=y;cases N⟩ ?_ ?_
 .rintro i e V k hi ⟨z,g,hm,C⟩ hk;apply bz Ω;rw[aW ay.u (h.ext z)];have O:=M i Ω;generalize P:(((Y1 i).map λ(v:Nat)=>(v:Int)).filter λv=>decide (v∈l))=A at hm O;refine bT.range l.length (λj e aa=>Ext w aa/\∃g,av .i64 ah aa g e (A++(if(i:Int)∈l.take j then[(i:Int)]else[]))/\∀r,leads e r->w.heap.size<=r) h.le ⟨z,g,by simpa using hm,C⟩ ?_ ?_
  .rintro j Q aa R S ⟨q,E,f,s⟩ U;have⟨x,J⟩:=aH (l:=l) S;apply bz Ω;refine aV (λe B=>Ext w B/\∃g,av .i64 ah B g e (A++(if(i:Int)∈l.take (j+1)then[(i:Int)]else[]))/\∀r,leads e r->w.heap.size<=r) ?_ ?_
   .rintro aj B W;rw[aN];exact U _ _ W
   intro aA K;have G:(i:Int)∈l.take (j+1)↔(i:Int)∈l.take j\/(i:Int)=x:=by
    rw[u9,J,n9,o5,o9]
   rw[bc ay.u aq.i Ψ (h.ext q) J,be,al];refine⟨λhe=>?_,λX=>?_⟩
   .have Y:(i:Int)∉l.take j:=λhm=>by
     have⟨p,H⟩:=X3.1 hm;have Z:p<j:=by have:=(x4.1 H).1;rw[l9]at this;omega
     rw[Z7 Z,<-he]at H;have:=kN L H J;omega
    rw[if_neg Y,W6]at f;refine eD (k:=.i64) an.u ah.i T λa3 ak B ao I ab=>?_;refine hY an.u ah.i T (f.ext I) ab.ls Θ Θ λap ac au ad ae af=>?_;have aw:=q.size;have z3:=I.size;refine K _ _ ⟨(q.trans I).then af λr y he=>by have:=s r he;omega,ac,?_,λr y=>(ae r y).elim (s r) λh=>Ω⟩;rw[if_pos (G.2 (.inr he.symm))];exact ad
   .refine K _ _ ⟨q,E,?_,s⟩;have:((i:Int)∈l.take (j+1))=((i:Int)∈l.take j):=propext ⟨λaB=>(G.1 aB).resolve_right λhe=>X he.symm,λaB=>G.2 (.inl aB)⟩;simp only[this];exact f
  .rintro Q aa R ⟨q,E,f,s⟩;rw[o6]at f;apply b4 Ω;rw[aN];refine hk _ _ ⟨q,E,?_,s⟩;rw[List.range_succ,Z4,List.filter_append,P];by_cases hm:(i:Int)∈l
   .rw[if_pos hm]at f;simpa[hm]using f
   .rw[if_neg hm]at f;simpa[hm]using f
 .rintro e V k ⟨z,g,hm,C⟩;rw[aP,al];exact⟨λh=>Ω,λ_=>⟨z,g,hm,C⟩⟩
structure fA where
 aK:x1
 szv:x1
 a7:x1
 sc:Λ
 cs:Λ
def dt(h:fA):List x1:=[h.aK,h.szv,h.a7]
def p0(h:fA)(r:Nat):Prop:=leads h.a7 r\/leads h.aK r\/leads h.szv r
def gd(w:x3)(sizes:Λ)(h:fA):Prop:=(∃g,av .i64 ah w g h.aK h.sc)/\(∃g,av .i64 ah w g h.szv (bX sizes h.sc))/\∃g,av .i64 aq w g h.a7 h.cs
def gd.ext{h:fA}(aB:gd w sizes h)(J:Ext w w'):gd w' sizes h:=by
 have⟨⟨g1,h1⟩,⟨a,e⟩,f,p⟩:=aB;exact⟨⟨g1,h1.ext J⟩,⟨a,e.ext J⟩,f,p.ext J⟩
def gd.one{h:fA}(aB:gd w sizes h):∀u∈dt h,u.oneCell'=true:=by
 have⟨⟨g1,h1⟩,⟨f,a⟩,p,e⟩:=aB;intro u hu;simp[dt]at hu;rcases hu with rfl|rfl|rfl
 .exact h1.ls.cells.2
 .exact a.ls.cells.2
 .exact e.ls.cells.2
def D4{f:b3}{x:cn}{ac:jk}(h:gY w ac x)(aF:e8 N f)(bM:x∈f.funs)(cA:av .i64 aq w gz sv f.sizes):
  am x7 I8 [.agg (e1 ac).toArray,sv,Δ f.k] w λv w'=>Ext w w'/\∃c:fA,v= .agg (dt c).toArray/\c.sc=br x.scope/\c.cs=(ic f.sizes f.k x).2/\gd w' f.sizes c/\∀r,p0 c r->w.heap.size<=r:=by
 have⟨ae,cB,dQ⟩:=aF.funs x bM;have ad:=tI ae aF.sizes.2.1;have bN:=tH ad ae.scope.1;have cC:(br x.scope).length<=6:=by rw[bN.length_eq];exact cB
 have cD:=pS aF bM;have bO:=CL x.scope;have⟨⟨g1,aG⟩,⟨dR,cE⟩,dS,dT,cF⟩:=id h;apply az func212;refine bd λbg V dU bP af=>?_;have af:ag V bg ba (e1 ac):=by
  have⟨L,cG,_⟩:=cF;have⟨_,_,_,E⟩:=da aG.ls;have⟨_,_,_,I⟩:=da cE.ls;have⟨_,_,_,_,_,cH,_⟩:=cG.sl;simp only[e1,E,I,cH]at af ⊢;exact af
 refine bu aZ.i λbQ aa dV bh bi=>?_;have bj:=bP.trans bh;rw[aL ba.p 0 (af.ext bh) T];apply(Pv (aG.ls.ext bj) ae.scope.1 Ω).mono;rintro aK bU _ ⟨aI,gr,bk,cI⟩;rw[cY (cs:=#[aK,.slice ν 0 0,.slice ν 0 0]) (by obtain⟨_,_,_,rfl⟩:=da bk.ls;kernel_rfl)];refine bu aZ.i λB dW cJ cK cL=>?_;refine cd (vs:=[aK,.slice ν 0 0,.slice ν 0 0]) aZ.i T rfl (by intro u hu;simp at hu;rcases hu with rfl|rfl;exact bk.ls.cells.2;rfl) cL λJ cM dX W=>?_;have aJ:Ext bU J:=cK.put cM Ω;have bV:=(bj.trans aI).trans aJ;have R:=bk.ext aJ;have bl:=((af.ext bh).ext aI).ext aJ;have bW:=(bi.ext aI).ext aJ;have dY:=bj.size;have z3:=aI.size;have dZ:=bV.size;have ea:=W.lt;have eb:B=bU.heap.size:=cJ;rw[aL aZ.p 0 W T,aW an.u R.ls];have bY:∀v∈br x.scope,0<=v/\v<f.sizes.length:=λv hm=>ae.scope.2 v ((rj ad).1 hm);have bn:∀{w':x3},ai (λr=>r=B\/J.heap.size<=r) J w'->Ext w w':=λbo=>bV.then bo λr s he=>Ω
 have bp:(bX f.sizes (br x.scope)).length=(br x.scope).length:=by simp[bX]
 refine cp.range (br x.scope).length (λi K=>ai (λr=>r=B\/J.heap.size<=r) J K/\∃szv gs,ag K B aZ [aK,szv,.slice ν 0 0]/\av .i64 ah K gs szv ((bX f.sizes (br x.scope)).take i)/\∀r,leads szv r->J.heap.size<=r) Ω
  ⟨ai.refl _ _,_,0,W,av.nil _ _ _ _,λr s=>by have⟨a,n,c,E,I⟩:=s;cases E⟩ ?_ ?_
 .rintro i K cN hi ⟨M,szv,gs,cO,aj,aO⟩ cP;have⟨v,bt⟩:=aH (l:=(br x.scope)) hi;have ec:=bY v (x5 bt);have cQ:av .i64 ah K gr aK (br x.scope):=bw R M λr s U=>by
   rcases U with rfl|U
   .exact ch R W Φ s T
   .obtain⟨E,I⟩:=bS R s;omega
  apply bz Ω;rw[bc an.u ah.i Ψ cQ.ls bt];intro ed ak _ _;have bZ:=cO.ext ak;have cR:f.sizes[v.toNat]?=σ (f.sizes.getD v.toNat 0):=by rw[u4,x6 Ω];rfl
  rw[aL aZ.p 1 bZ T,fP (y:=v) (i:=v.toNat) Ω ay.u aq.i Ψ (cA.ext ((bn M).trans ak)).ls cR];refine eD (k:=.i64) an.u ah.i T λee ef cS eg ao cT=>?_;refine⟨.inl ao,?_⟩;have b0:=(aj.ext ak).ext ao;refine hY an.u ah.i T b0 cT.ls Θ Θ λcV cW eh aP cX b1=>?_;have b2:=bZ.ext ao;have b5:=b2.ab b1 λhe=>ch b0 b2 Φ he T;rw[aU aZ.p T];refine bq (g:=B) (o:=1) an.i aP.ls.cells.1 aP.ls.cells.2 b5 Ξ λcZ b6 ei c0=>?_;rw[aN];have c1:ai (λr=>leads szv r\/r=B) cS cZ:=(b1.mono λr _ h=>.inl h).trans (b6.mono λr _ h=>.inr h);have c2:=M.size;have ej:=(ak.trans ao).size;refine cP _ ⟨((M.trans (ak.ab _)).trans (ao.ab _)).trans (c1.mono λr _ h=>h.elim (λh=>.inr (aO r h)) .inl),cV,cW,c0,?_,λr s=>(cX r s).elim (aO r) λh=>Ω⟩;have e:(bX f.sizes (br x.scope)).take (i+1)=(bX f.sizes (br x.scope)).take i++[f.sizes.getD v.toNat 0]:=by
   unfold bX;rw[<-List.map_take,<-List.map_take,u9,bt,n9,Z4];rfl
  rw[e];exact bw aP b6 λr s he=>by
   have he:r=B:=he;subst he;exact ch aP b5 Φ s T
 rintro K cN ⟨M,szv,gs,bx,aj,aO⟩;rw[<-bp,o6]at aj;apply b4 Ω;have ek:=bn M;have aR:cb (bX f.sizes (br x.scope)):=⟨by rw[bp];exact cC,pR aF.sizes.2.2 bY⟩;have c3:=cD.small;rw[aL aZ.p 1 bx T];apply(tc _ aj.ls aR).mono;rintro c4 C _ ⟨aS,b7⟩;have em:=iz aR.2;have en:=mn aR.2;have eo:aQ (bX f.sizes (br x.scope))<=4096:=c3;rw[hL cU.u b7];have aT:ai (λr=>r=B\/J.heap.size<=r) J C:=M.trans (aS.ab _);have ap:=bx.ext aS;have b8:=aj.ext aS;have c2:=M.size;have ep:=aS.size;have bA:av .i64 ah C gr aK (br x.scope):=bw R aT λr s U=>by
  rcases U with rfl|U
  .exact ch R W Φ s T
  .obtain⟨E,I⟩:=bS R s;omega
 have bB:ag C bg ba (e1 ac):=bl.ab aT λU=>U.elim (λhe=>by subst he;exact absurd (eQ bl W) Φ) λh=>by have:=bl.lt;omega
 have b9:=bW.ab aT λU=>U.elim (λhe=>by have:=bi.lt;omega) λh=>by have:=bW.lt;omega
 have ca:∀{w':x3},ai (λr=>r=B\/C.heap.size<=r) C w'->Ext w w':=λbo=>(bn aT).then bo λr s he=>by
  have he:r=B\/C.heap.size<=r:=he;omega
 have er:B<C.heap.size:=ap.lt;refine cp.range (bm (bX f.sizes (br x.scope))).length (λq z=>ai (λr=>r=B\/C.heap.size<=r) C z/\∃a7 aw,ag z B aZ [aK,szv,a7]/\av .i64 aq z aw a7 (((bm (bX f.sizes (br x.scope))).take q).map λt=>j7 x f.k (pF x.scope (br x.scope) t))/\∀r,leads a7 r->C.heap.size<=r) Ω
  ⟨ai.refl _ _,_,0,ap,av.nil _ _ _ _,λr s=>by have⟨a,n,c,E,I⟩:=s;cases E⟩ ?_ ?_
 .rintro q z c5 c6 ⟨G,a7,aw,ax,aC,aX⟩ c7;obtain⟨t,aY⟩:∃t,(bm (bX f.sizes (br x.scope)))[q]?=σ t:=⟨_,x6 c6⟩;have es:t.length=(br x.scope).length:=by
   have c8:=qT aR.2 (i:=q) Ω;rw[c8]at aY;cases aY;rw[jD,bp]
  have bC:=ca G;have c9:au.rep (α:=List (Λ)) true (eN K.heap.size) bE z [c4] (bm (bX f.sizes (br x.scope))):=au.ab b7 G λr s h U=>by
   rcases h with h|h
   .have h:K.heap.size<=r:=h;have:=bx.lt;rcases U with U|U<;>omega
   .exact h
  have X:∀{O:Nat}{P:x1}{Q:Λ},av .i64 ah C O P Q->av .i64 ah z O P Q:=λhm=>bw hm G λr s U=>by
   rcases U with rfl|U
   .exact ch hm ap Φ s T
   .obtain⟨E,I⟩:=bS hm s;omega
  have cc:=X bA;have ce:ag z bg ba (e1 ac):=bB.ab G λU=>U.elim (λhe=>by subst he;exact absurd (eQ bB ap) Φ) λh=>by have:=bB.lt;omega
  apply bz Ω;refine gj (α:=Λ) T rfl cU.u an.i Ψ c9 aY λaM db=>?_;have dc:=de db;rw[aL ba.p 0 ce T,aW ay.u (aG.ls.ext bC)];have z12:=G.size;refine bT.range x.scope.length (λp H a1=>Ext z a1/\∃go,av .i64 aq a1 go H ((x.scope.take p).map λv=>t.getD ((br x.scope).idxOf v) 0)/\∀r,leads H r->z.heap.size<=r) Ω ⟨Ext.refl _,0,av.nil _ _ _ _,λr s=>by have⟨a,n,c,E,I⟩:=s;cases E⟩ ?_ ?_
  .rintro p H a1 dd df ⟨Y,go,aD,cg⟩ dg;have⟨v,bD⟩:=aH (l:=x.scope) df;have dh:v∈br x.scope:=bN.mem_iff.2 (x5 bD);apply bz Ω;have di:=bC.trans Y;have dj:=ax.ext Y;have dk:=cc.ext Y;rw[bc ay.u aq.i Ψ (aG.ls.ext di) bD,aL aZ.p 0 dj T,aW an.u dk.ls];generalize ci:((x.scope.take p).map λv=>t.getD ((br x.scope).idxOf v) 0)=A at aD;have et:A.length=p:=by rw[<-ci,r8,l9];omega
   refine bT.range (br x.scope).length (λj H a2=>Ext z a2/\∃go,av .i64 aq a2 go H (A++if v∈(br x.scope).take j then[t.getD ((br x.scope).idxOf v) 0]else[])/\∀r,leads H r->z.heap.size<=r) Ω ⟨Y,go,by simpa using aD,cg⟩ ?_ ?_
   .rintro j dl a2 dm dn ⟨S,bF,Z,aE⟩ dp;have⟨u,hu⟩:=aH (l:=(br x.scope)) dn;have dq:=cc.ext S;apply bz Ω;refine aV (λH bG=>Ext z bG/\∃go,av .i64 aq bG go H (A++if v∈(br x.scope).take (j+1)then[t.getD ((br x.scope).idxOf v) 0]else[])/\∀r,leads H r->z.heap.size<=r) ?_ ?_
    .rintro eu bG dr;rw[aN];exact dp _ _ dr
    intro aA cj;have bH:v∈(br x.scope).take (j+1)↔v∈(br x.scope).take j\/v=u:=by
     rw[u9,hu,n9,o5,o9]
    rw[bc an.u ah.i Ψ dq.ls hu,be,al];refine⟨λhe=>?_,λbI=>?_⟩
    .have ds:v∉(br x.scope).take j:=λhm=>by
      have⟨du,bJ⟩:=X3.1 hm;have dv:du<j:=by have:=(x4.1 bJ).1;rw[l9]at this;omega
      rw[Z7 dv,<-he]at bJ;have:=kN bO bJ hu;omega
     rw[if_neg ds,W6]at Z;have dw:t[j]?=σ (t.getD ((br x.scope).idxOf v) 0):=by
      have:(br x.scope).idxOf v=j:=rk bO (by rw[hu,he]);rw[this,u4,x6 (show j<t.length by omega)];rfl
     rw[bc an.u ah.i Ψ (dc.ext S) dw];refine eD ay.u aq.i T λev ew ey ez bK dx=>?_;refine hY ay.u aq.i T (Z.ext bK) dx.ls Θ Θ λeA dy eB dz dA dC=>?_;have eC:=S.size;have eE:=bK.size;refine cj _ _ ⟨(S.trans bK).then dC λr s he=>by have:=aE r he;omega,dy,?_,λr s=>(dA r s).elim (aE r) λh=>Ω⟩;rw[if_pos (bH.2 (.inr he.symm))];exact dz
    .refine cj _ _ ⟨S,bF,?_,aE⟩;have:(v∈(br x.scope).take (j+1))=(v∈(br x.scope).take j):=propext ⟨λaB=>(bH.1 aB).resolve_right λhe=>bI he.symm,λaB=>bH.2 (.inl aB)⟩;simp only[this];exact Z
   .rintro dl a2 dm ⟨S,bF,Z,aE⟩;rw[o6,if_pos dh]at Z;apply b4 Ω;rw[aN];refine dg _ _ ⟨S,bF,?_,aE⟩;rw[u9,bD,n9,Z4,ci];exact Z
  .rintro H a1 dd ⟨Y,go,aD,cg⟩;rw[o6]at aD;apply b4 Ω;intro eF ck _ _;have a8:=Y.trans ck;have dD:=ax.ext a8;have dE:=ce.ext a8;rw[aL aZ.p 2 dD T,bR ba.p ba.i T dE.range];apply(Pu (h.ext (bC.trans a8)) ae.lines.1 (aD.ls.ext ck)).mono;rintro _ eH _ ⟨rfl,bL⟩;refine⟨.inl bL,?_⟩;refine eD ay.u aq.i T λeI eJ dF eK cl dG=>?_;refine⟨.inl (bL.trans cl),?_⟩;have bb:=(a8.trans bL).trans cl;have cm:=aC.ext bb;refine hY ay.u aq.i T cm dG.ls Θ Θ λdH dI eL bf dJ cq=>?_;have cr:=ax.ext bb;have ct:=cr.ab cq λhe=>ch cm cr Φ he T;rw[aU aZ.p T];refine bq (g:=B) (o:=2) ay.i bf.ls.cells.1 bf.ls.cells.2 ct Ξ λdK cu eM dL=>?_;rw[aN];have dM:ai (λr=>leads a7 r\/r=B) dF dK:=(cq.mono λr _ h=>.inl h).trans (cu.mono λr _ h=>.inr h);have eO:=bb.size;refine c7 _ ⟨(G.trans (bb.ab _)).trans (dM.mono λr _ h=>h.elim (λh=>.inr (aX r h)) .inl),dH,dI,dL,?_,λr s=>(dJ r s).elim (aX r) λh=>Ω⟩;rw[u9,aY,n9,Z4];exact bw bf cu λr s he=>by
    have he:r=B:=he;subst he;exact ch bf ct Φ s T
 .rintro z c5 ⟨G,a7,aw,ax,aC,aX⟩;rw[o6]at aC;apply b4 Ω;have X:∀{O:Nat}{P:x1}{Q:Λ},av .i64 ah C O P Q->av .i64 ah z O P Q:=λhm=>bw hm G λr s U=>by
   rcases U with rfl|U
   .exact ch hm ap Φ s T
   .obtain⟨E,I⟩:=bS hm s;omega
  let c:fA:=⟨aK,szv,a7,br x.scope,(ic f.sizes f.k x).2⟩;have dN:gd z f.sizes c:=⟨⟨gr,X bA⟩,⟨gs,X b8⟩,aw,aC⟩;rw[bR aZ.p aZ.i T (show z.rangeAt B 0 (dt c)from ax.range)];have cw:=b9.ab G λU=>U.elim (λhe=>by have:=bi.lt;omega) λh=>by have:=b9.lt;omega
  refine cd (vs:=dt c) aZ.i T rfl dN.one cw λdO cz eP dP=>?_;rw[fQ aZ.p aZ.i T dP.range];have a6:∀{O:Nat}{P:x1}{Q:Λ}{e:p9},e≠aZ->av .i64 e z O P Q->av .i64 e dO O P Q:=λbI hm=>bw hm cz λr s he=>by
   have he:r=bQ:=he;exact ch hm cw bI s he
  refine⟨(ca G).then cz λr s he=>by have he:r=bQ:=he;have:=bP.size;omega,c,T,T,T,⟨⟨gr,a6 Φ (X bA)⟩,⟨gs,a6 Φ (X b8)⟩,aw,a6 Φ aC⟩,λr s=>?_⟩;rcases s with s|s|s
  .have:=aX r s;omega
  .have:=cI r s;omega
  .have:=aO r s;omega
def D5{h:fA}{g:Nat}(e:gd w sizes h)(a:ag w' g aZ (x1.agg (dt h).toArray).cells.toList):ag w' g aZ (dt h):=by
 have⟨⟨g1,h1⟩,⟨x,f⟩,y,p⟩:=e;have⟨_,_,_,q⟩:=da h1.ls;have⟨_,_,_,r⟩:=da f.ls;have⟨_,_,_,s⟩:=da p.ls;simp only[dt,q,r,s]at a ⊢;exact a
def Pw{a b:fA}(Q:gd w sizes a)(R:gd w sizes b)(W:jI a.sc)(X:jI b.sc):am x7 Ae [.agg (dt a).toArray,.agg (dt b).toArray] w λv w'=>v= .bool (decide (dg a.sc<dg b.sc))/\Ext w w':=by
 have⟨⟨ga,S⟩,_⟩:=id Q;have⟨⟨av,Y⟩,_⟩:=id R;have H:=(wS W X).1;apply az func213;refine bd λg1 V aw Z I=>?_;refine bd λab aa ax U L=>?_;have I:=(D5 Q I).ext U;have L:=D5 R L;have q:=Z.trans U;have r:=S.ls.ext q;have A:=Y.ls.ext q;have s:∀{w':x3},Ext aa w'->∀{K:x1->Prop},ac x7 (u6 aZ (Γ g1) 0) w' (λt=>ac x7 (u5 an t) w' K)=K a.aK:=λJ K=>by
  rw[aL aZ.p 0 (I.ext J) T]
 have B:∀{w':x3},Ext aa w'->∀{K:x1->Prop},ac x7 (u6 aZ (Γ ab) 0) w' (λt=>ac x7 (u5 an t) w' K)=K b.aK:=λJ K=>by
  rw[aL aZ.p 0 (L.ext J) T]
 rw[s (Ext.refl _),aW an.u r,B (Ext.refl _),aW an.u A,bB,al];refine⟨λad=>?_,λae=>?_⟩
 .rw[s (Ext.refl _),aW an.u r,B (Ext.refl _),aW an.u A,aP];refine⟨?_,q⟩;congr 1;rw[U1,decide_eq_true_eq,decide_eq_true_eq,H];exact⟨λh=>.inl Ω,λh=>by rcases h with h|h<;>omega⟩
 have af:a.sc.length=b.sc.length:=by have:=Z9.1 ae;omega
 rw[s (Ext.refl _),aW an.u r];refine bT.range a.sc.length (λi _ M=>Ext aa M/\∀(j:Nat)(x y:Int),j<i->a.sc[j]?=σ x->b.sc[j]?=σ y->x=y) S.ls.le ⟨Ext.refl _,λj x y ag=>Ω⟩ ?_ ?_
 .rintro i _ M k hi ⟨N,C⟩ hk;have⟨x,J⟩:=aH (l:=a.sc) hi;have⟨y,E⟩:=aH (l:=b.sc) (i:=i) Ω;have e:gl a.sc b.sc=gl (a.sc.drop i) (b.sc.drop i):=tU C Ω Ω;have ai:a.sc.drop i=x::a.sc.drop (i+1):=by rw[X4 hi,(x4.1 J).2]
  have aj:b.sc.drop i=y::b.sc.drop (i+1):=by rw[X4 (show i<b.sc.length by omega),(x4.1 E).2]
  rw[ai,aj]at e;simp only[gl]at e;apply bz Ω;intro ay ak _ _;have f:=N.trans ak;rw[s f,bc an.u ah.i Ψ (r.ext f) J,B f,bc an.u ah.i Ψ (A.ext f) E,bB,al];refine⟨λad=>?_,λhe=>?_⟩
  .intro aA ao _ _;have z:=f.trans ao;rw[s z,bc an.u ah.i Ψ (r.ext z) J,B z,bc an.u ah.i Ψ (A.ext z) E,aP];refine⟨?_,q.trans z⟩;congr 1;rw[U1,decide_eq_true_eq,decide_eq_true_eq,H,e];by_cases G:x<y
   .rw[if_pos G];exact⟨λ_=>.inr ⟨af,Ω⟩,λ_=>G⟩
   .rw[if_neg G,if_pos (show y<x by omega)];exact⟨λh=>absurd h G,λh=>by rcases h with h|h<;>omega⟩
  .rw[aN];refine hk _ _ ⟨f,λj ap aq ag O P=>?_⟩;by_cases au:j=i
   .subst au;rw[J]at O;rw[E]at P;cases O;cases P;exact Z9.1 he
   .exact C j ap aq Ω O P
 .rintro _ M k ⟨N,C⟩;rw[aP,al];refine⟨λh=>Ω,λ_=>⟨?_,q.trans N⟩⟩;congr 1;symm;rw[decide_eq_false_iff_not,H];have e:gl a.sc b.sc=gl (a.sc.drop a.sc.length) (b.sc.drop a.sc.length):=tU C (o4 _) Ω;rw[List.drop_length,show b.sc.drop a.sc.length=[]from List.drop_eq_nil_of_le Ω]at e;rw[e];simp only[gl];omega
def dA(h:fA):cL:=(h.sc,h.cs)
def kW(w:x3)(B g:Nat)(v:x1)(sizes:Λ)(L:List fA):Prop:=bk dt 3 aZ w g v L/\(∀h∈L,gd w sizes h/\∀r,p0 h r->B<=r)/\(∀(i j:Nat)x y,L[i]?=σ x->L[j]?=σ y->i≠j->∀r,leads x.a7 r->¬leads y.a7 r)/\∀r,leadsTo v r->B<=r
def nq{h:fA}(z:gd w sizes h)(s:ai S w w')(x:∀r,S r->(∃e c,ag w r e c/\e≠ah/\e≠aq)\/w.heap.size<=r\/((∃c,ag w r aq c)/\¬leads h.a7 r)):gd w' sizes h:=by
 have⟨⟨g1,h1⟩,⟨A,B⟩,C,p⟩:=z;have y:∀{g:Nat}{v:x1}{l:Λ},av .i64 ah w g v l->av .i64 ah w' g v l:=λhm=>bw hm s λr a U=>by
  rcases x r U with⟨e,c,f,q,_⟩|E|⟨⟨c,f⟩,_⟩
  .exact ch hm f (λhe=>q he.symm) a T
  .obtain⟨F,G⟩:=bS hm a;omega
  .exact ch hm f Φ a T
 refine⟨⟨g1,y h1⟩,⟨A,y B⟩,C,bw p s λr a U=>?_⟩;rcases x r U with⟨e,c,f,_,q⟩|E|⟨_,H⟩
 .exact ch p f (λhe=>q he.symm) a T
 .obtain⟨F,G⟩:=bS p a;omega
 .exact H a
def kW.ext{g:Nat}{L:List fA}(h:kW w B g v sizes L)(J:Ext w w'):kW w' B g v sizes L:=⟨h.1.ext J,λx a=>⟨(h.2.1 x a).1.ext J,(h.2.1 x a).2⟩,h.2.2⟩
section
variable{α:Type}{f:α->List x1}{k:Nat}{P:W8}{w:x3}{e:p9}{g:Nat}{v:x1}{L:List α}
def Px{M:List α}(h:bk f k e w g v L)(ae:L.map f=M.map f):bk f k e w g v M:=by
 have p:L.length=M.length:=by have:=congrArg S5 ae;simpa using this
 have hm:L.flatMap f=M.flatMap f:=by rw[List.flatMap_def,List.flatMap_def,ae]
 refine⟨by rw[<-p,<-hm];exact h.1,λa q=>?_⟩;have⟨b,r,he⟩:=j5.1 (show f a∈L.map f by rw[ae];exact j5.2 ⟨a,q,T⟩);rw[<-he];exact h.2 b r
def D6{t:p9}{b l h':Nat}{low high:Option x1}(s:P.underlying t=σ (.slice e))(hi:aS P e k b z)(h:bk f k e w g v L)(h1:mh low l)(x:mi high L.length h')(q:l<=h')(aB:h'<=L.length)(y:∀r,(∀w',bk f k e w' g v L->ck w' k r ((L.drop l).take (h'-l)).length (((L.drop l).take (h'-l)).flatMap f))->K r):ac P (V9 t v low high ν) w K:=by
 have A:=h.sl;obtain⟨_,C,o,base,cap,rfl,E,_⟩:=A;rw[hj s hi h1 x fh q Ω (o4 _)];refine y _ λw' p=>?_;have:=ck.part (l:=l) (h:=h') (m:=cap) p.sl q aB Ω (o4 _);rw[tx l p.2,pK (h'-l) (λa B=>p.2 a (List.mem_of_mem_drop B))]at this;have el:((L.drop l).take (h'-l)).length=h'-l:=by rw[l9,List.length_drop];omega
 rw[el];exact this
def uk{t O:p9}{b:Nat}{x:x1}{M:List α}{K:x1->x3->Prop}(A:P.underlying t=σ (.slice e))(hi:aS P e k b z)(G:z.cells.size=k)(h:bk f k e w g v L)(J:ck w k x M.length (M.flatMap f))(Q:∀a∈M,(f a).length=k)(h1:∀a∈M,∀u∈f a,u.oneCell'=true)(B:(L.length+M.length)*b<=140737488355328)(H:L.length+M.length<=9223372036854775807)(I:∀p q w',bk f k e w' q p (L++M)->(∀r,leadsTo p r->leadsTo v r\/w.heap.size<=r)->ai (λr=>leadsTo v r) w w'->K p w'):aE P (Z0 #[t,t] O #[v,x]) w K:=by
 have N:∀u∈M.flatMap f,u.oneCell'=true:=λu hu=>by
  have⟨a,R,hu⟩:=R2.1 hu;exact h1 a R u hu
 have C:∀p q w',b1 w' q e k p (L.length+M.length) (L.flatMap f++M.flatMap f)->bk f k e w' q p (L++M):=λp q w' hm=>⟨by simpa using hm,λb B=>by
  rcases o5.1 B with h'|h'
  .exact h.2 b h'
  .exact Q b h'⟩
 rcases h.1.2 with⟨ad,S⟩|⟨cap,cs,ad,T,_⟩
 .have hm:b1 w w.heap.size e k v L.length (L.flatMap f):=⟨h.1.1,.inl ⟨ad,S⟩⟩;subst ad;refine n3 A A hi G hm J N (by simpa using B) (by simpa[maxLen]using H) λp q w' E s F=>I p q w' (C _ _ _ s) (λr y=>.inr ?_) (F.mono λr y h=>Ω);have:=((C _ _ _ s).leads y).1;omega
 .refine n3 A A hi G h.1 J N (by simpa using B) (by simpa[maxLen]using H) λp q w' E s F=>I p q w' (C _ _ _ s) (λr y=>?_) (F.mono λr y h=>⟨_,_,_,ad,h.symm⟩);have:=((C _ _ _ s).leads y).1;rcases E with E|E
  .exact .inl ⟨_,_,_,ad,by show g=r;omega⟩
  .exact .inr Ω
def Py{t:p9}{b:Nat}{K:x1->x3->Prop}(a:P.underlying t=σ (.slice e))(hi:aS P e k b z)(h:∀v g w',g=w.heap.size->Ext w w'->bk f k e w' g v []->K v w'):aE P (Y5 t 0 #[]) w K:=
 kD a hi Ω (cs:=#[]) (by simp[Instr.fill]) λg w' p q r=>by
  exact h _ g w' p q ⟨by simpa using b1.full (k:=k) (n:=0) r Ξ (by simp[maxLen]),λc s=>by cases s⟩
end
def xx{α:Type}{A B:List α}{s:Nat}{a:α}(U:s<B.length)(e:A[s]?=σ a):(A.take s++B.drop s).set s a=A.take (s+1)++B.drop (s+1):=by
 have:=(x4.1 e).1;have h1:(A.take s).length=s:=by rw[l9];omega
 rw[T7 _ _ Ω,h1,U4,X4 U,List.set_cons_zero,u9,e,n9,V1];rfl
def D7{α:Type}{A B:List α}{s:Nat}(U:s<=A.length):(A.take s++B.drop s)[s]?=B[s]?:=by
 have h1:(A.take s).length=s:=by rw[l9];omega
 rw[Y8 Ω,h1,U4,List.getElem?_drop,Nat.add_zero]
theorem D8{g:cL}:∀{l:List cL}{i:Nat},(∀p<i,∀x,l[p]?=σ x->dg x.1<dg g.1)->i<=l.length->(∀x,l[i]?=σ x->¬dg x.1<dg g.1)->hS g l=l.take i++g::l.drop i
 |[],i,_,a,_=>by
  have:i=0:=by simpa using a
  subst this;rfl
 |x::l,0,_,_,e=>by
  unfold hS;rw[if_neg (e x T)];rfl
 |x::l,i+1,h1,a,e=>by
  unfold hS;rw[if_pos (h1 0 Ω x T),D8 (i:=i) (λp h y f=>h1 (p+1) Ω y f) (by simpa using a) (λy f=>e y f)];rfl
def Pz{g:Nat}{L:List fA}{h:fA}{s:Nat}{K:Unit->x3->Prop}(f:kW w B g v sizes L)(F:L[j]?=σ h)(U:s<h.cs.length)(X:∀w',ai (λr=>leads h.a7 r) w w'->(∀r,leads h.a7 r->∃c,ag w r aq c)->kW w' B g v sizes (L.set j {h with cs:=h.cs.set s n})->K () w'):
  ac x7 (j9 ay h.a7 (Δ (s:Int))) w λt=>aE x7 (o8 aq t (Δ n)) w K:=by
 have⟨h1,O,P,Y⟩:=f;have M:=(x4.1 F).1;have⟨Q,Z⟩:=O h (x5 F);have⟨_,_,R,G⟩:=id Q;have H:∀r,leads h.a7 r->∃c,ag w r aq c:=λr f=>by
  obtain⟨rfl,_⟩:=bS G f;obtain⟨_,⟨ad,_⟩|⟨cap,full,_,A,_⟩⟩:=G
  .obtain⟨a,n,c,e,_⟩:=f;rw[ad]at e;cases e
  .exact⟨_,A⟩
 have aa:∀r,r=R->leads h.a7 r:=λr he=>by
  subst he;obtain⟨_,⟨_,ax⟩|⟨cap,full,e,A,_⟩⟩:=G
  .omega
  .exact⟨_,_,_,e,rfl⟩
 rw[hN rfl ay.u aq.i G U];refine hP aq.i G U λw' C az ae=>?_;have C:=C.mono (T:=λr=>leads h.a7 r) λr _ he=>aa r he;refine X w' C H ⟨?_,λx J=>?_,λp q x y J af ah r aj ak=>?_,Y⟩
 .refine Px (h1.ab C λr f U=>?_) ?_
  .obtain⟨c,A⟩:=H r U;exact cP h1 A Φ f
  .rw[U5];symm;refine Y4 λp=>?_;rw[X0,x8];by_cases z:j=p
   .subst z;rw[if_pos rfl,if_pos (by simpa using M),F];rfl
   .rw[if_neg z]
 .have al:x={h with cs:=h.cs.set s n}\/∃p,p≠j/\L[p]?=σ x:=by
   have⟨p,z⟩:=X3.1 J;rw[X0]at z;by_cases E:j=p
   .subst E;rw[if_pos rfl,if_pos M]at z;exact .inl (b9 z).symm
   .rw[if_neg E]at z;exact .inr ⟨p,λh=>E h.symm,z⟩
  rcases al with rfl|⟨p,am,z⟩
  .obtain⟨⟨g1,S⟩,⟨an,V⟩,_⟩:=Q;refine⟨⟨⟨g1,bw S C λr f U=>?_⟩,⟨an,bw V C λr f U=>?_⟩,R,ae⟩,Z⟩
   .obtain⟨c,A⟩:=H r U;exact ch S A Φ f rfl
   .obtain⟨c,A⟩:=H r U;exact ch V A Φ f rfl
  .obtain⟨ao,ap⟩:=O x (x5 z);refine⟨nq ao C λr f=>.inr (.inr ⟨H r f,λN=>P p j x h z F am r N f⟩),ap⟩
 .have W:∀{p:Nat}{x:fA},(L.set j {h with cs:=h.cs.set s n})[p]?=σ x->∃I,L[p]?=σ I/\I.a7=x.a7:=λ{p x}J=>by
   rw[X0]at J;by_cases E:j=p
   .subst E;rw[if_pos rfl,if_pos M]at J;cases J;exact⟨h,F,rfl⟩
   .rw[if_neg E]at J;exact⟨x,J,rfl⟩
  have⟨I,N,ex⟩:=W J;have⟨au,av,aw⟩:=W af;exact P p q I au N av ah r (by rw[ex];exact aj) (by rw[aw];exact ak)
def lI(f:b3)(j:Nat):List cL:=(((fj f).take j).filter fu).foldl (λl g=>hS g l) []
def D9{f:b3}{x:cL}(h:(fj f)[j]?=σ x):lI f (j+1)=if fu x then hS x (lI f j)else lI f j:=by
 unfold lI;rw[u9,h,n9,List.filter_append,S6];cases U:fu x with
 |true=>rw[List.filter_cons_of_pos U];rfl
 |false=>rw[List.filter_cons_of_neg (by simp[U])];rfl
def PA(f:b3):lI f (fj f).length=fv f:=by unfold lI fv;rw[o6]
theorem Ea(g:cL):∀l,(hS g l).length=l.length+1
 |[]=>rfl
 |h::l=>by
  unfold hS;split
  .rw[b6,Ea g l,b6]
  .rfl
def PB{f:b3}(e:j<=(fj f).length):(lI f j).length<=j:=by
 induction j with
 |zero=>simp[lI]
 |succ j a=>
  have:=a Ω;rw[D9 (x:=(fj f)[j]) (x6 Ω)];split
  .rw[Ea];omega
  .omega
def PC{g:Nat}{l:x1}{f:b3}{L:List fA}{Q:x1->x3->Prop}(az:e8 N f)(z:kW w B g l f.sizes L)(aC:L.map dA=fj f)(bO:∀out w' go s,Ext w w'->bk dt 3 aZ w' go out s->(∀h∈s,h∈L)->(∀h∈s,gd w' f.sizes h)->s.map dA=fv f->(∀r,leadsTo out r->w.heap.size<=r)->Q out w'):
  ac x7 (V0 #[cV] ah #[l]) w λbP=>
 bT (.slice ν 0 0) (Δ 0) w λout aD P bQ=>
  ac x7 (aO .lss ah false false aD bP) P λbS=>
  Split bS (cz (α:=x1->x3->Prop) (λ(bU:x1)(R:x3)=>
   ac x7 (aO .add ah false true aD (Δ 1)) R λbX=>
   bQ bU bX R) λbf=>
  ac x7 (j9 cV l aD) P λbY=>
  ac x7 (u5 aZ bY) P λbZ=>
  aE x7 (Q1 aZ true (.tuple #[])) P λak bg=>
  aE x7 (o8 aZ ak bZ) bg λ(_:Unit)I=>
  ac x7 (u6 aZ ak 2) I λb0=>
  ac x7 (u5 ay b0) I λbh=>
  ac x7 (V0 #[ay] ah #[bh]) I λb1=>
  bT (.bool false) (Δ 0) I λbi aF A b2=>
   ac x7 (aO .lss ah false false aF b1) A λb5=>
   Split b5 (cz (α:=x1->x3->Prop) (λ(b6:x1)(Y:x3)=>
    ac x7 (aO .add ah false true aF (Δ 1)) Y λb7=>
    b2 b6 b7 Y) λbj=>
   ac x7 (j9 ay bh aF) A λb9=>
   ac x7 (u5 aq b9) A λcb=>
   Split bi (bj (.bool true) A)
    (ac x7 (aO .gtr aq false true cb (Δ 0)) A λcc=>
   bj cc A))
    (ac x7 (Op.unary .not bi) A λce=>
  Split ce (bf out A)
   (cp (Δ 0) A λi an cg=>
   cz (α:=x1->x3->Prop) (λ(ch:x1)(S:x3)=>
    Split ch (ac x7 (aO .add ah false true i (Δ 1)) S λci=>
   cg ci S)
     (ev S λE=>
  ac x7 (u5 aZ ak) E λcj=>
  ac x7 (V9 cV out (σ i) ν ν) E λbl=>
  aE x7 (Y5 cV 1 #[(0,cj)]) E λck Z=>
   (Ext E Z\/cD x7 (V9 cV out (σ i) ν ν) bl Z/\True)/\
  aE x7 (Z0 #[cV,cV] cV #[ck,bl]) Z λcl aG=>
   aE x7 (Y5 cV 0 #[]) aG λcm ao=>
  ac x7 (V9 cV out ν (σ i) ν) ao λcn=>
  aE x7 (Z0 #[cV,cV] cV #[cm,cn]) ao λcq aI=>
  aE x7 (Z0 #[cV,cV] cV #[cq,cl]) aI λcr aJ=>
  bf cr aJ)) λbm=>
   ev an λG=>
   ac x7 (V0 #[cV] ah #[out]) G λct=>
   ac x7 (aO .lss ah false false i ct) G λcu=>
   Split cu (ac x7 (j9 cV out i) G λcw=>
   ac x7 (u5 aZ cw) G λcA=>
   ac x7 (u5 aZ ak) G λcB=>
   am x7 Ae [cA,cB] G λcC bn=>
    bm cC bn)
    (bm (.bool false) G))))
   (Q out P):=by
 have cE:L.length=(fj f).length:=by rw[<-aC,r8]
 have di:L.length<=256:=by have:=(kQ az).2.2;have:=az.lr;omega
 have bo:=(kQ az).1;rw[eF cV.u z.1];refine bT.range L.length (λj out V=>∃go s,Ext w V/\bk dt 3 aZ V go out s/\(∀h∈s,h∈L)/\s.map dA=lI f j/\∀r,leadsTo out r->w.heap.size<=r) z.1.le
  ⟨0,[],Ext.refl _,bk.nil _ _ _ _ _,λh aB=>(by cases aB),T,λr z=>(e9 z).elim⟩ ?_ ?_
 rotate_left
 .rintro out V cF ⟨go,s,bp,aa,K,ad,aK⟩;rw[aP,al];refine⟨λh=>Ω,λ_=>bO _ _ go s bp aa K (λh aB=>((z.ext bp).2.1 h (K h aB)).1) ?_ aK⟩;rw[ad,cE,PA]
 rintro j out P cF bq ⟨go,s,ap,aa,K,ad,aK⟩ cG;have⟨h,aB⟩:=aH (l:=L) bq;have hm:(fj f)[j]?=σ (dA h):=by rw[<-aC,x8,aB];rfl
 have cH:=bo _ (x5 hm);have dj:s.length<=256:=by
  have:=PB (f:=f) (j:=j) Ω;rw[<-ad,r8]at this;omega
 have af:=z.ext ap;have⟨aQ,_⟩:=af.2.1 h (x5 aB);have⟨_,_,dk,cI⟩:=id aQ;apply bz Ω;refine aV (λaR R=>∃aS ag,Ext w R/\bk dt 3 aZ R aS aR ag/\(∀h∈ag,h∈L)/\ag.map dA=lI f (j+1)/\∀r,leadsTo aR r->w.heap.size<=r) ?_ ?_
 .rintro aR R ⟨aS,ag,h1,cJ,cK,cL,cM⟩;rw[aN];exact cG _ _ ⟨aS,ag,h1,cJ,cK,cL,cM⟩
 intro aA ai;rw[dw T cV.u aZ.i af.1 bq,bR aZ.p aZ.i T (af.1.range aB)];refine bu aZ.i λbr bg dl cN cO=>?_;refine cd (vs:=dt h) aZ.i T rfl aQ.one cO λI cP dm bt=>?_;have bw:Ext P I:=cN.put cP Ω;have aT:=cI.ext bw;rw[aL aZ.p 2 bt T,aW ay.u aT.ls];refine bT.range h.cs.length (λq sv A=>Ext I A/\sv= .bool ((h.cs.take q).any λc=>decide (0<c))) aT.ls.le ⟨Ext.refl _,T⟩ ?_ ?_
 .rintro q _ A cQ cR ⟨W,rfl⟩ cS;have⟨c,bx⟩:=aH (l:=h.cs) cR;have e:(h.cs.take (q+1)).any (λc=>decide (0<c))=((h.cs.take q).any (λc=>decide (0<c))||decide (0<c)):=by
   rw[u9,bx,n9,List.any_append];simp
  apply bz Ω;refine aV (λsv Y=>Ext I Y/\sv= .bool ((h.cs.take (q+1)).any λc=>decide (0<c))) ?_ ?_
  .rintro _ Y ⟨cT,rfl⟩;rw[aN];exact cS _ _ ⟨cT,T⟩
  intro aA ai;rw[bc ay.u aq.i Ψ (aT.ext W).ls bx,ca];refine⟨λcU=>ai _ _ ⟨W,by rw[e,cU];rfl⟩,λae=>?_⟩;rw[bJ];exact ai _ _ ⟨W,by rw[e,ae];rfl⟩
 rintro _ A cQ ⟨W,rfl⟩;have bA:=bt.ext W;have O:=bw.trans W;rw[o6];apply b4 Ω;rw[bK,ca];have au:=D9 hm;have cW:(h.cs.any λc=>decide (0<c))=fu (dA h):=rfl;rw[cW];refine⟨λaU=>?_,λU=>?_⟩
 .have aU:fu (dA h)=false:=by simpa using aU
  rw[aU]at au;exact ai _ _ ⟨go,s,ap.trans O,aa.ext O,K,by rw[ad,au];rfl,aK⟩
 have U:fu (dA h)=true:=by simpa using U
 rw[U,if_pos T]at au;refine⟨λaX an=>∃i:Nat,aX=Δ (i:Int)/\i<=s.length/\Ext A an/\∀p<i,∀x,s[p]?=σ x->dg x.sc<dg h.sc,λaX _=>s.length-(bW aX).toNat,⟨0,T,X5 _,Ext.refl _,λp aY=>Ω⟩,?_⟩;rintro _ an ⟨i,rfl,hi,cX,a1⟩;refine aV (λaM S=>Ext A S/\((aM= .bool true/\i<s.length/\∀x,s[i]?=σ x->dg x.sc<dg h.sc)\/(aM= .bool false/\∀x,s[i]?=σ x->¬dg x.sc<dg h.sc))) ?_ ?_
 rotate_left
 .intro dn a2;intro G cY _ _;have X:=cX.trans cY;have a6:=aa.ext (O.trans X);rw[eF cV.u a6,aP,al];refine⟨λa1=>?_,λdp=>a2 _ _ ⟨X,.inr ⟨T,λx J=>absurd (x4.1 J).1 Ω⟩⟩⟩;have⟨x,J⟩:=aH (l:=s) (i:=i) Ω;have bB:=K x (x5 J);have cZ:jI x.sc:=(bo (dA x) (by rw[<-aC];exact j5.2 ⟨x,bB,T⟩)).scope;have bC:=af.ext (O.trans X);rw[dw T cV.u aZ.i a6 Ω,bR aZ.p aZ.i T (a6.range J),bR aZ.p aZ.i T (show G.rangeAt br 0 (dt h)from(bA.ext X).range)];apply(Pw (bC.2.1 x bB).1 (bC.2.1 h (x5 aB)).1 cZ cH.scope).mono;rintro _ bn _ ⟨rfl,bD⟩;by_cases av:dg x.sc<dg h.sc
  .rw[decide_eq_true av];exact a2 _ _ ⟨X.trans bD,.inl ⟨T,Ω,λy C=>by rw[J]at C;cases C;exact av⟩⟩
  .rw[decide_eq_false av];exact a2 _ _ ⟨X.trans bD,.inr ⟨T,λy C=>by rw[J]at C;cases C;exact av⟩⟩
 rintro _ S ⟨bE,⟨rfl,dq,c0⟩|⟨rfl,c1⟩⟩
 .rw[bV,aN,wrap_i64 Ω Ω];refine⟨⟨i+1,T,Ω,bE,λp aY x J=>?_⟩,by simp only[bW];omega⟩;by_cases c2:p=i
  .subst c2;exact c0 x J
  .exact a1 p Ω x J
 .rw[a8];intro E c3 _ _;have aj:=bE.trans c3;have aw:=aa.ext (O.trans aj);have c4:=af.ext (O.trans aj);have a7:∀x∈s,∀u∈dt x,u.oneCell'=true:=λx J=>(c4.2.1 x (K x J)).1.one;have c5:∀u∈dt h,u.oneCell'=true:=aQ.one;rw[bR aZ.p aZ.i T (show E.rangeAt br 0 (dt h)from(bA.ext aj).range)];refine D6 (h':=s.length) cV.u aZ.i aw (nZ i _ T) jy hi (o4 _) λdr bF=>?_;refine hU (f:=dt) (k:=3) (a:=h) cV.u aZ.i Ω T rfl λds du Z dv ba bG=>?_;refine⟨.inl ba,?_⟩;have c6:(s.drop i).take (s.length-i)=s.drop i:=b8 (by rw[List.length_drop];omega);rw[c6]at bF;refine uk (M:=s.drop i) cV.u aZ.i T bG (bF Z (aw.ext ba)) (λ_ _=>rfl) (λa H=>a7 a (List.mem_of_mem_drop H)) Θ Θ λdx dy aG bb dz c7=>?_;have bH:Ext E aG:=ba.then c7 λr z he=>by have:=(bG.leads he).1;omega
  refine Py (f:=dt) (k:=3) cV.u aZ.i λdC dD ao dE bd ax=>?_;have be:=bH.trans bd;refine D6 (h':=i) cV.u aZ.i (aw.ext be) jx (n0 i _ T) (X5 _) hi λdF bI=>?_;rw[List.drop_zero,Nat.sub_zero]at bI;refine uk (M:=s.take i) cV.u aZ.i T ax (bI ao (aw.ext be)) (λ_ _=>rfl) (λa H=>a7 a (T9 H)) Θ Θ λc8 dG aI c9 da bL=>?_;have dH:=bH.size;have dI:=bd.size;have db:=(bb.ext bd).ab bL λr z U=>by have:=(bb.leads z).1;have:=(bb.leads z).2;have:=(ax.leads U).1;omega
  refine uk (M:=[h]++s.drop i) cV.u aZ.i T c9 db.sl (λ_ _=>rfl) (λa H=>?_) Θ Θ λdJ dc aJ dd de df=>?_
  .rcases o5.1 H with H|H
   .rw[o9.1 H];exact c5
   .exact a7 a (List.mem_of_mem_drop H)
  have bM:Ext E aI:=be.then bL λr z he=>by have:=(ax.leads he).1;omega
  have bN:∀r,leadsTo c8 r->E.heap.size<=r:=λr z=>(da r z).elim (λh=>by have:=(ax.leads h).1;omega) λh=>Ω
  have dh:Ext E aJ:=bM.then df λr z he=>by have:=bN r he;omega
  have dK:=(ap.trans (O.trans aj)).size;have dL:=bM.size;refine ai _ _ ⟨dc,_,(ap.trans (O.trans aj)).trans dh,dd,λx J=>?_,?_,λr z=>(de r z).elim (λh=>by have:=bN r h;omega) λh=>Ω⟩
  .rcases o5.1 J with J|J
   .exact K x (T9 (by simpa using J))
   .rcases o5.1 J with J|J
    .rw[o9.1 J];exact x5 aB
    .exact K x (List.mem_of_mem_drop J)
  .rw[au,<-ad,D8 (i:=i) (λp aY x J=>?_) (by simpa using hi) (λx J=>?_)]
   .simp
   .rw[x8]at J;cases C:s[p]? with
    |none=>rw[C]at J;cases J
    |some y=>rw[C]at J;cases J;exact a1 p aY y C
   .rw[x8]at J;cases C:s[i]? with
    |none=>rw[C]at J;cases J
    |some y=>rw[C]at J;cases J;exact c1 y C
def PD(w:x3)(f:b3)(v:x1)(w':x3):Prop:=Ext w w'/\∃go a,bk dt 3 aZ w' go v a/\(∀h∈a,gd w' f.sizes h/\∀r,p0 h r->w.heap.size<=r)/\a.map dA=fv f/\∀r,leadsTo v r->w.heap.size<=r
def lJ(k:Int)(sc cs:Λ)(h:cL):cL:=if h.1=sc then(h.1,ea k h.2 cs)else h
def PE{bI:Nat}{f:b3}(cI:oJ w bI f)(Q:e8 N f):am x7 Ie [Γ bI] w (PD w f):=by
 have hk:=Q.k;have⟨szv,gz,av,gr,a6,bJ,cJ⟩:=id cI;have⟨bL,a8,cK,cL⟩:=id cJ;apply az func132;rw[aT dJ.p 3 a6 T,eF dE.u a8];refine bT.range bL.length (λi l V=>∃g L,Ext w V/\kW V w.heap.size g l f.sizes L/\L.map dA=eP f i) a8.le
  ⟨0,[],Ext.refl _,⟨bk.nil _ _ _ _ _,λh aB=>(by cases aB),λi j x y J=>(by simp at J),λr C=>(e9 C).elim⟩,T⟩ ?_ ?_
 rotate_left
 .rintro l V cM ⟨g,L,R,C,S⟩;rw[<-cK,Dr]at S;rw[aP,al];refine⟨λh=>Ω,λ_=>PC Q C S λout w' go cN J bb cO W cP cQ=>?_⟩;have cR:=R.size;exact⟨R.trans J,go,cN,bb,λh aB=>⟨W h aB,(C.2.1 h (cO h aB)).2⟩,cP,λr C=>by have:=cQ r C;omega⟩
 rintro i l V cM hi ⟨g,L,R,C,S⟩ cS;have⟨bd,bM⟩:=aH (l:=bL) hi;have⟨x,be⟩:=aH (l:=f.funs) (i:=i) Ω;have bf:=x5 be;have bg:=cL i bd x bM be;have bN:=pS Q bf;have⟨cT,dM,dN⟩:=Dq Q i;have bO:L.length=(eP f i).length:=by rw[<-S,r8]
 have dO:=Q.lr;have bP:=a8.ext R;apply bz Ω;refine aV (λl' aa=>∃g L,Ext w aa/\kW aa w.heap.size g l' f.sizes L/\L.map dA=eP f (i+1)) ?_ ?_
 .rintro l' aa bh;rw[aN];exact cS _ _ bh
 intro aA bQ;rw[dw T dE.u ba.i bP hi,bR ba.p ba.i T (bP.range bM)];refine bu ba.i λao dP dQ cU cW=>?_;refine cd (vs:=e1 bd) ba.i T rfl bg.one cW λcX cY dR cZ=>?_;have bU:Ext V cX:=cU.put cY Ω;have dS:=bU.size;refine aV (λa1 aw=>∃G c,a1=Γ G/\Ext V aw/\ag aw G aZ (dt c)/\c.sc=br x.scope/\c.cs=(ic f.sizes f.k x).2/\gd aw f.sizes c/\V.heap.size<=G/\∀r,p0 c r->V.heap.size<=r) ?_ ?_
 rotate_left
 .intro dT bV;intro c0 bW _ _;have aC:=bU.trans bW;have aD:=R.trans aC;have c1:=cZ.ext bW;have bY:=a6.ext aD;have dU:=aC.size;rw[bR ba.p ba.i T (show c0.rangeAt ao 0 (e1 bd)from c1.range),aT dJ.p 2 bY T,aT dJ.p 1 bY T];refine⟨?_,?_⟩
  .refine (D4 (bg.ext aD) Q bf (bJ.ext aD)).mono ?_;rintro _ dV _ ⟨bi,c,rfl,h1,bj,W,M⟩;refine bu aZ.i λG dX bZ bl aE=>?_;refine⟨.inl (bi.trans bl),?_⟩;refine cd (vs:=dt c) aZ.i T rfl W.one aE λdY b0 dZ c2=>?_;have eb:=bi.size;refine bV _ _ ⟨G,c,T,(aC.trans bi).trans (bl.then b0 λr C he=>by have he:r=G:=he;omega),c2,h1,bj,?_,Ω,λr C=>by have:=M r C;omega⟩;exact nq (W.ext bl) b0 λr C=>.inl ⟨_,_,by have C:r=G:=C;subst C;exact aE,Φ,Φ⟩
  .refine bu aZ.i λG ec bZ aF aE=>?_;refine⟨.inl aF,?_⟩;have b1:=aD.trans aF;apply(D4 (bg.ext b1) Q bf (bJ.ext b1)).mono;rintro _ ed _ ⟨b2,c,rfl,h1,bj,W,M⟩;have b5:=aE.ext b2;have ee:=aF.size;refine cd (vs:=dt c) aZ.i T rfl W.one b5 λef b6 eg c3=>?_;refine bV _ _ ⟨G,c,T,aC.trans ((aF.trans b2).then b6 λr C he=>by have he:r=G:=he;omega),c3,h1,bj,?_,Ω,λr C=>by have:=M r C;omega⟩;exact nq W b6 λr C=>.inl ⟨_,_,by have C:r=G:=C;subst C;exact b5,Φ,Φ⟩
 rintro _ aw ⟨G,c,rfl,bm,c4,ai,aG,c5,bZ,M⟩;have b7:=C.ext bm;have c6:∀h∈L,∀r,leads h.a7 r->r<V.heap.size:=λh aB r c8=>by
  have⟨⟨_,_,da,cb⟩,_⟩:=C.2.1 h aB;have:=bS cb c8;omega
 have db:∀{j:Nat},decide (c.sc∈(L.take j).map (·.sc))=decide (br x.scope∈((eP f i).take j).map (·.1)):=λ{j}=>by
  rw[ai,<-S,<-List.map_take,S1];rfl
 have cR:=R.size;rw[eF cV.u b7.1];refine bT.range L.length (λj av O=>∃E,av= .bool (decide (c.sc∈(L.take j).map (·.sc)))/\Ext w O/\V.heap.size<=O.heap.size/\kW O w.heap.size g l f.sizes E/\E.map dA=((eP f i).map (lJ f.k c.sc c.cs)).take j++(eP f i).drop j/\ag O G aZ (dt c)/\gd O f.sizes c/\∀h∈E,∀r,leads h.a7 r->r<V.heap.size) C.1.le
  ⟨L,Ξ,R.trans bm,bm.size,b7,by simpa using S,c4,c5,c6⟩ ?_ ?_
 .rintro j _ O dc cc ⟨E,rfl,aj,dd,aI,K,bn,bo,X⟩ de;have df:E.length=L.length:=by
   have:=congrArg S5 K;simp only[r8,r9,l9,List.length_drop]at this;omega
  have⟨h,aB⟩:=aH (l:=E) (i:=j) Ω;have aJ:(eP f i)[j]?=σ (dA h):=by
   have ce:(E.map dA)[j]?=σ (dA h):=by rw[x8,aB];rfl
   rw[K,D7 (by rw[r8];omega)]at ce;exact ce
  have aM:((eP f i).map (lJ f.k c.sc c.cs))[j]?=σ (lJ f.k c.sc c.cs (dA h)):=by rw[x8,aJ];rfl
  have dg:∃y,L[j]?=σ y/\y.sc=h.sc:=by
   refine⟨_,x6 cc,?_⟩;rw[<-S,x8,x6 cc]at aJ;exact congrArg Prod.fst (b9 aJ)
  have⟨y,I,dh⟩:=dg;have bp:(c.sc∈(L.take (j+1)).map (·.sc))↔c.sc∈(L.take j).map (·.sc)\/h.sc=c.sc:=by
   rw[u9,I,n9,Z4,o5,List.map_singleton,o9,dh];exact or_congr Iff.rfl ⟨λe=>e.symm,λe=>e.symm⟩
  have cg:fW f.sizes f.k (dA h):=cT _ (x5 aJ);apply bz Ω;refine aV (λav P=>∃E,av= .bool (decide (c.sc∈(L.take (j+1)).map (·.sc)))/\Ext w P/\V.heap.size<=P.heap.size/\kW P w.heap.size g l f.sizes E/\E.map dA=((eP f i).map (lJ f.k c.sc c.cs)).take (j+1)++(eP f i).drop (j+1)/\ag P G aZ (dt c)/\gd P f.sizes c/\∀h∈E,∀r,leads h.a7 r->r<V.heap.size) ?_ ?_
  .rintro eh P bh;rw[aN];exact de _ _ bh
  intro ei ch;intro di ak _ _;have aO:=aI.ext ak;have ci:=bn.ext ak;have cj:=bo.ext ak;have⟨dj,ej⟩:=aO.2.1 h (x5 aB);have⟨⟨g1,h1⟩,_,da,cb⟩:=id dj;have⟨⟨ek,dk⟩,_,em,ck⟩:=id cj;rw[dw T cV.u aZ.i aO.1 Ω,aU aZ.p T,ax (v:=h.aK) Ψ (aO.1.range aB 0 _ T),aL aZ.p 0 ci T];apply(Bh h1.ls dk.ls).mono;rintro _ en _ ⟨rfl,ac⟩;have cl:=aO.ext ac;have bq:=ci.ext ac;have cm:=cj.ext ac;have cn:=(aj.trans ak).trans ac;have z9:=(ak.trans ac).size;rw[al];refine⟨λbt=>?_,λcq=>?_⟩
  rotate_left
  .refine ch _ _ ⟨E,?_,cn,Ω,cl,?_,bq,cm,X⟩
   .congr 1;exact decide_eq_decide.2 ⟨λh=>bp.2 (.inl h),λh=>(bp.1 h).resolve_right cq⟩
   .have e:lJ f.k c.sc c.cs (dA h)=dA h:=if_neg cq;rw[e]at aM;rw[<-xx Ω aM,<-K];symm;refine Y4 λp=>?_;rw[X0];by_cases an:j=p
    .subst an;rw[if_pos T,if_pos Θ,x8,aB];rfl
    .rw[if_neg an]
  have dl:h.cs.length=c.cs.length:=by
   have dm:h.cs.length=_:=cg.len;have dn:c.cs.length=(aQ (bX f.sizes (ic f.sizes f.k x).1)).toNat:=by rw[aG];exact bN.len
   rw[dm,dn,show(dA h).1=h.sc from T,bt,ai];rfl
  have eo:(ea f.k h.cs c.cs).length=h.cs.length:=by unfold ea;rw[List.length_zipWith];omega
  rw[aL aZ.p 2 bq T,aW ay.u (ck.ext ac).ls];refine cp.range c.cs.length (λs Y=>Ext w Y/\V.heap.size<=Y.heap.size/\kW Y w.heap.size g l f.sizes (E.set j {h with cs:=(ea f.k h.cs c.cs).take s++h.cs.drop s})/\ag Y G aZ (dt c)/\gd Y f.sizes c) ck.ls.le
   ⟨cn,Ω,?_,bq,cm⟩ ?_ ?_
  .have e:E.set j {h with cs:=(ea f.k h.cs c.cs).take 0++h.cs.drop 0}=E:=by
    refine Y4 λp=>?_;rw[X0];by_cases an:j=p
    .subst an;rw[if_pos T,if_pos Ω,aB];rfl
    .rw[if_neg an]
   rw[e];exact cl
  .rintro s Y dp U ⟨bw,cr,aR,bx,bA⟩ dq;apply bz Ω;intro ep ap _ _;have ad:=aR.ext ap;have ct:=bx.ext ap;have cu:=bA.ext ap;have cw:=bw.trans ap;have aS:(E.set j {h with cs:=(ea f.k h.cs c.cs).take s++h.cs.drop s})[j]?=σ {h with cs:=(ea f.k h.cs c.cs).take s++h.cs.drop s}:=by
    rw[X0,if_pos T,if_pos Ω]
   have cz:j<(E.set j {h with cs:=(ea f.k h.cs c.cs).take s++h.cs.drop s}).length:=by rw[c9];omega
   have⟨⟨_,_,dr,bB⟩,ds⟩:=ad.2.1 _ (x5 aS);have⟨_,_,er,du⟩:=id cu;have⟨a,bC⟩:=aH (l:=h.cs) (i:=s) Ω;have⟨b,au⟩:=aH (l:=c.cs) U;have dv:s<({h with cs:=(ea f.k h.cs c.cs).take s++h.cs.drop s}:fA).cs.length:=by show s<((ea f.k h.cs c.cs).take s++h.cs.drop s).length;rw[r9,l9,List.length_drop];omega
   have dx:((ea f.k h.cs c.cs).take s++h.cs.drop s)[s]?=σ a:=by rw[D7 Ω];exact bC
   have bD:(ea f.k h.cs c.cs)[s]?=σ (min (a+b) f.k):=by
    unfold ea;rw[List.getElem?_zipWith,bC,au]
   have es:=cg.ih a (x5 bC);have et:=bN.ih b (by rw[<-aG];exact x5 au);have dy:=a6.ext cw;rw[dw T cV.u aZ.i ad.1 cz,aU aZ.p T,ax (v:=h.a7) Ψ (ad.1.range aS 2 _ T),dw T cV.u aZ.i ad.1 cz,aU aZ.p T,ax (v:=h.a7) Ψ (ad.1.range aS 2 _ T),bc ay.u aq.i Ψ bB.ls dx,aL aZ.p 2 ct T,bc ay.u aq.i Ψ du.ls au,aT dJ.p 1 dy T];apply(mp Ω Ω).mono;rintro _ eu _ ⟨rfl,af⟩;refine⟨.inl af,?_⟩;have z12:=(ap.trans af).size;refine Pz (h:={h with cs:=(ea f.k h.cs c.cs).take s++h.cs.drop s}) (ad.ext af) aS dv λev aX cA bE=>?_;rw[aN];have dz:=cu.ext af;have cB:=ct.ext af;have ew:=aX.size;refine dq _ ⟨(cw.trans af).then aX λr C he=>by have:=ds r (.inl he);omega,Ω,?_,?_,?_⟩
   .rw[List.set_set]at bE;have e:=xx (A:=ea f.k h.cs c.cs) (B:=h.cs) (s:=s) Ω bD;simp only[e]at bE;exact bE
   .exact cB.ab aX λU=>by
     have⟨ey,dC⟩:=cA _ U;exact absurd (eQ cB dC) Φ
   .refine nq dz aX λr C=>.inr (.inr ⟨cA r C,λdD=>?_⟩);have:=M r (.inl dD);have:=X h (x5 aB) r C;omega
  .rintro Y dp ⟨bw,cr,aR,bx,bA⟩;apply b4 Ω;have e:(ea f.k h.cs c.cs).take c.cs.length++h.cs.drop c.cs.length=ea f.k h.cs c.cs:=by
    rw[<-dl,List.drop_length,W6,b8 Ω]
   simp only[e]at aR;refine ch _ _ ⟨_,?_,bw,cr,aR,?_,bx,bA,λz H r C=>?_⟩
   .congr 1;symm;exact decide_eq_true (bp.2 (.inr bt))
   .have dF:lJ f.k c.sc c.cs (dA h)=dA {h with cs:=ea f.k h.cs c.cs}:=if_pos bt;rw[dF]at aM;rw[U5,K,xx Ω aM]
   .rcases W0 H with H|rfl
    .exact X z H r C
    .exact X h (x5 aB) r C
 rintro _ O dc ⟨E,rfl,aj,dd,aI,K,bn,bo,X⟩;apply b4 Ω;rw[db,bO,o6,bK,ca];have cC:=w9 be;have bD:((eP f i).map (lJ f.k c.sc c.cs)).take L.length++(eP f i).drop L.length=(eP f i).map (lJ f.k c.sc c.cs):=by
  rw[bO,List.drop_length,W6,b8 (by rw[r8];exact o4 _)]
 rw[bD]at K;have df:E.length=L.length:=by
  have:=congrArg S5 K;rw[r8,r8]at this;omega
 refine⟨λaY=>?_,λae=>?_⟩
 .have aY:br x.scope∉(eP f i).map (·.1):=by simpa using aY
  have dG:(eP f i).map (lJ f.k c.sc c.cs)=eP f i:=by
   refine(List.map_congr_left λz H=>?_).trans (List.map_id _);exact if_neg λhe=>aY (j5.2 ⟨z,H,by rw[he,ai]⟩)
  rw[dG]at K;rw[bR aZ.p aZ.i T (show O.rangeAt G 0 (dt c)from bn.range)];refine hU (f:=dt) (k:=3) (a:=c) cV.u aZ.i Ω T rfl λez dr P eA a2 bB=>?_;have Z:=aI.ext a2;have cD:=bo.ext a2;refine iG (f:=dt) (a:=c) cV.u aZ.i T Z.1 (by simpa using bB.sl) cD.one Ω Ω λeB dH di bb dI bF=>?_;have cE:∀r,leadsTo l r->∃e c,ag P r e c/\e≠ah/\e≠aq:=λr C=>by
   obtain⟨rfl,c,au⟩:=dW Z.1 C;exact⟨_,c,au,Φ,Φ⟩
  have eC:=a2.size;have eD:=aj.size;refine bQ _ _ ⟨dH,E++[c],(aj.trans a2).then bF λr C he=>by have:=Z.2.2.2 r he;omega,⟨bb,λz H=>?_,λp q y z I H dK r bG bH=>?_,λr C=>(dI r C).elim (Z.2.2.2 r) λh=>Ω⟩,?_⟩
  .rcases o5.1 H with H|H
   .exact⟨nq (Z.2.1 z H).1 bF λr C=>.inl (cE r C),(Z.2.1 z H).2⟩
   .rw[o9.1 H];exact⟨nq cD bF λr C=>.inl (cE r C),λr C=>by have:=M r C;omega⟩
  .have cF:∀{p:Nat}{y:fA},(E++[c])[p]?=σ y->E[p]?=σ y\/(p=E.length/\y=c):=λ{p y}I=>by
    rw[List.getElem?_append]at I;split at I
    .exact .inl I
    .by_cases dL:p-E.length=0
     .rw[dL]at I;cases I;exact .inr ⟨Ω,T⟩
     .rw[Z2 Θ]at I;cases I
   rcases cF I with cG|⟨eE,rfl⟩<;>rcases cF H with cH|⟨eq,rfl⟩
   .exact Z.2.2.1 p q y z cG cH dK r bG bH
   .have:=X y (x5 cG) r bG;have:=M r (.inl bH);omega
   .have:=X z (x5 cH) r bH;have:=M r (.inl bG);omega
   .omega
  .rw[Z4,K,cC,Dp λz H he=>aY (j5.2 ⟨z,H,he⟩)];show _++[(c.sc,c.cs)]=_;rw[ai,aG];rfl
 .have ae:br x.scope∈(eP f i).map (·.1):=by simpa using ae
  refine bQ _ _ ⟨g,E,aj,aI,?_⟩;rw[K,cC];unfold iE;rw[if_pos (show(ic f.sizes f.k x).1∈_ from ae)];refine List.map_congr_left λz _=>?_;unfold lJ;rw[ai,aG];rfl
def xy(w:x3)(B:Nat)(v:x1)(n:aG):Prop:=∃szv gz a f aY e gr L,v= .agg #[Δ n.k,szv,Δ n.zero,a,e]/\av .i64 ah w gz szv n.sizes/\hW w f a aY/\aY.map (·.l)=n.unary/\bk dt 3 aZ w gr e L/\(∀h∈L,gd w n.sizes h)/\L.map dA=n.funs/\(∀r,leads szv r->B<=r)/\∀h∈L,∀r,p0 h r->B<=r
def z9:List x1:=[Δ 0,.slice ν 0 0,Δ 0,.slice ν 0 0,.slice ν 0 0]
def nr(w:x3)(C gt gs go:Nat)(szv a7:x1)(f:b3)(a:List fA)(w':x3):Prop:=Ext w w'/\C<=w'.heap.size/\ag w' gt dI z9/\av .i64 ah w' gs szv f.sizes/\bk dt 3 aZ w' go a7 a/\(∀r,leadsTo a7 r->r<C)/\∀h∈a,gd w' f.sizes h
def nr.ext{C gt go:Nat}{a7:x1}{f:b3}{a:List fA}(h:nr w C gt gs go szv a7 f a w')(J:Ext w' aa):nr w C gt gs go szv a7 f a aa:=by
 have⟨h1,z,e,p,q,r,s⟩:=h;have:=J.size;exact⟨h1.trans J,Ω,e.ext J,p.ext J,q.ext J,r,λx y=>(s x y).ext J⟩
def PF(w w':x3)(C gt:Nat)(r:Nat):Prop:=w.heap.size<=r/\r≠gt/\((∃c,ag w' r dI c)\/(∃c,ag w' r ay c)\/((∃c,ag w' r aZ c)/\C<=r))
def nr.ab{C gt go:Nat}{a7:x1}{f:b3}{z:List fA}(h:nr w C gt gs go szv a7 f z w')(q:ai S w' aa)(s:∀r,S r->PF w w' C gt r):nr w C gt gs go szv a7 f z aa:=by
 have⟨h1,I,F,A,y,B,G⟩:=h;have:=q.size;have E:∀r,S r->∃e c,ag w' r e c/\e≠ah/\e≠aq:=λr p=>by
  obtain⟨_,_,⟨c,a⟩|⟨c,a⟩|⟨⟨c,a⟩,_⟩⟩:=s r p
  .exact⟨_,c,a,Φ,Φ⟩
  .exact⟨_,c,a,Φ,Φ⟩
  .exact⟨_,c,a,Φ,Φ⟩
 refine⟨h1.then q λr p U=>by have:=(s r U).1;omega,Ω,F.ab q λU=>(s _ U).2.1 T,bw A q λr p U=>?_,y.ab q λr p U=>?_,B,λx J=>nq (G x J) q λr p=>.inl (E r p)⟩
 .obtain⟨e,c,a,H,_⟩:=E r U;exact ch A a (λhe=>H he.symm) p T
 .obtain⟨_,_,⟨c,a⟩|⟨c,a⟩|⟨_,K⟩⟩:=s r U
  .exact cP y a Φ p
  .exact cP y a Φ p
  .have:=B r p;omega
def Eb(w:x3)(C f:Nat)(szv:x1)(k:Int)(n:aG)(p:List fA)(w':x3):Prop:=∃a q aY e gr L,ag w' f dI [Δ k,szv,Δ n.zero,a,e]/\hW w' q a aY/\aY.map (·.l)=n.unary/\(∀r,leadsTo a r->w.heap.size<=r)/\bk dt 3 aZ w' gr e L/\(∀h∈L,h∈p)/\L.map dA=n.funs/\∀r,leadsTo e r->C<=r
def Ec{bY:Nat}{f:b3}(bZ:oJ w bY f)(P:e8 N f):am x7 Ht [Γ bY] w λv w'=>Ext w w'/\xy w' w.heap.size v (cS f):=by
 have hk:=P.k;have dz:=P.sizes.2.1;have⟨dC,dD,dE,dF,b0,b2,dG⟩:=id bZ;apply az func60;refine bu dI.i λgt V dH aS aV=>?_;have aV:ag V gt dI z9:=aV;rw[aT dJ.p 1 (b0.ext aS) T,cY (cs:=#[Δ f.k,.slice ν 0 0,Δ 0,.slice ν 0 0,.slice ν 0 0]) Ψ];refine bu dI.i λA aa dL b5 cK=>?_;refine cd (vs:=[Δ f.k,.slice ν 0 0,Δ 0,.slice ν 0 0,.slice ν 0 0]) dI.i T rfl (by intro u hu;simp at hu;rcases hu with rfl|rfl|rfl|rfl<;>rfl) cK λcL b6 dM cM=>?_;have bA:Ext w cL:=(aS.trans b5).then b6 λr q he=>by have he:r=A:=he;have:=aS.size;omega
 have dN:=aV.lt;have E:A≠gt:=Ω
 have cN:=(aV.ext b5).ab b6 λhe=>by have he:gt=A:=he;omega
 rw[aT dJ.p 2 (b0.ext bA) T,aW ay.u (b2.ext bA).ls];have dO:=aS.size;refine cp.range f.sizes.length (λi S=>Ext w S/\ag S gt dI z9/\∃szv gs B H aY,ag S A dI [Δ f.k,szv,Δ 0,B,.slice ν 0 0]/\av .i64 ah S gs szv (f.sizes.take i)/\(∀r,leads szv r->w.heap.size<=r)/\hW S H B aY/\aY.map (·.l)=(f.sizes.take i).map (λz=>p8 z.toNat 0)/\∀r,leadsTo B r->w.heap.size<=r) Ω
  ⟨bA,cN,_,0,_,0,[],cM,av.nil _ _ _ _,(λr q=>by have⟨a,n,c,cO,dP⟩:=q;cases cO),⟨bk.nil _ _ _ _ _,λx J=>(by cases J)⟩,T,λr q=>(e9 q).elim⟩ ?_ ?_
 .rintro i S cQ hi ⟨W,bB,szv,gs,B,H,aY,aF,aX,a1,bC,aG,a2⟩ cR;have⟨z,C⟩:=aH (l:=f.sizes) hi;have dQ:=P.sizes.2.2 z (x5 C);have dR:aY.length=i:=by have:=congrArg S5 aG;simp only[r8,l9]at this;omega
  apply bz Ω;rw[bc ay.u aq.i Ψ (b2.ext W).ls C,aL dI.p 1 aF T];refine eD (k:=.i64) an.u ah.i T λa5 dS b7 dT ak cT=>?_;have aI:=aX.ext ak;refine hY an.u ah.i T aI cT.ls Θ Θ λbD b8 dU a6 cU b9=>?_;have bE:=aF.ext ak;have ca:=bB.ext ak;have cb:=bE.ab b9 λhe=>ch aI bE Φ he T;rw[aU dI.p T];refine bq (g:=A) (o:=1) an.i a6.ls.cells.1 a6.ls.cells.2 cb Ξ λa8 cc dV ba=>?_;have ba:ag a8 A dI [Δ f.k,bD,Δ 0,B,.slice ν 0 0]:=ba;have bF:ai (λr=>leads szv r\/r=A) b7 a8:=(b9.mono λr _ h=>.inl h).trans (cc.mono λr _ h=>.inr h);have cW:av .i64 ah a8 b8 bD (f.sizes.take (i+1)):=by
   rw[u9,C];exact bw a6 cc λr q he=>by
    have he:r=A:=he;subst he;exact ch a6 cb Φ q T
  have ao:∀r,(leads szv r\/r=A)->∃e c,ag b7 r e c/\e≠aq/\e≠ay:=λr q=>by
   rcases q with q|rfl
   .obtain⟨rfl,_⟩:=bS aI q;obtain⟨_,⟨ad,_⟩|⟨cap,full,_,s,_⟩⟩:=aI
    .obtain⟨a,n,c,e,_⟩:=q;rw[ad]at e;cases e
    .exact⟨_,_,s,Φ,Φ⟩
   .exact⟨_,_,bE,Φ,Φ⟩
  have cX:=(bC.ext ak).ab bF ao;have z4:=W.size;have z5:=ak.size;have ce:Ext w a8:=(W.trans ak).then bF λr q he=>by
   rcases he with he|he
   .have:=a1 r he;omega
   .omega
  have cZ:=ca.ab bF λU=>by
   rcases U with U|U
   .exact ch aI ca Φ U T
   .omega
  intro dX cg _ _;have c0:=ba.ext cg;rw[aL dI.p 3 c0 T];obtain⟨X,rfl⟩:∃n:Nat,z=n:=⟨z.toNat,Ω⟩;refine j0 (k:=.i64) ay.u aq.i Ω Ω λbb c1 dY bG c2=>?_;refine⟨.inl bG,?_⟩;have c3:av .i64 aq c1 bb (.slice (σ ⟨bb,0,ν⟩) X X) (p8 X 0):=av.of (b1.full (k:=1) (n:=X) c2 Ξ (by simp[maxLen];omega));let a:lD:=⟨.slice (σ ⟨bb,0,ν⟩) X X,p8 X 0⟩;refine hU (f:=ox) (a:=a) dZ.u ay.i Ω T rfl λea eb bH ec bI c4=>?_;refine⟨.inl (bG.trans bI),?_⟩;have ap:=(cg.trans bG).trans bI;have aJ:=cX.ext ap;refine iG (f:=ox) (a:=a) dZ.u ay.i T aJ.1 (by simpa using c4.sl) (λu hu=>by rw[o9.1 (show u∈[a.v]from hu)];rfl) Ω Ω λbJ bK ed I bL ci=>?_;have au:∀{r:Nat},leadsTo B r->∃c,ag bH r ay c:=λq=>by
   obtain⟨rfl,c,s⟩:=dW aJ.1 q;exact⟨c,s⟩
  have bM:=ba.ext ap;have cj:=bM.ab ci λhe=>cP aJ.1 bM Φ he;rw[aU dI.p T];refine bq dZ.i (eR I.sl).1 (eR I.sl).2 cj Ξ λc5 ck ee c6=>?_;rw[aN];have Q:ai (λr=>leadsTo B r\/r=A) bH c5:=(ci.mono λr _ h=>.inl h).trans (ck.mono λr _ h=>.inr h);have bN:∀r,(leadsTo B r\/r=A)->∃e c,ag bH r e c/\e≠aq/\e≠ah:=λr q=>by
   rcases q with q|rfl
   .obtain⟨c,s⟩:=au q;exact⟨_,c,s,Φ,Φ⟩
   .exact⟨_,_,bM,Φ,Φ⟩
  have cl:=cW.ext ap;have ef:=ce.size;have eg:=ap.size;have cm:=cZ.ext ap;refine cR _ ⟨(ce.trans ap).then Q (λr q he=>?_),cm.ab Q (λU=>?_),bD,b8,bJ,bK,aY++[a],c6,bw cl Q (λr q U=>?_),λr q=>?_,⟨I.ab ck λr q he=>?_,λy K=>?_⟩,?_,λr q=>?_⟩
  .rcases he with he|rfl
   .have:=a2 r he;omega
   .omega
  .rcases U with U|U
   .exact cP aJ.1 cm Φ U
   .omega
  .obtain⟨e,c,s,_,E⟩:=bN r U;exact ch cl s (λhe=>E he.symm) q T
  .rcases cU r q with h|h
   .exact a1 r h
   .omega
  .have he:r=A:=he;subst he;exact cP I cj Φ q
  .rcases o5.1 K with K|K
   .exact aJ.rv Q (λr q=>by have⟨e,c,s,E,_⟩:=bN r q;exact⟨e,c,s,E⟩) y K
   .rw[o9.1 K];have cn:=c3.ext bI;exact⟨bb,bw cn Q λr q U=>by
     have⟨e,c,s,E,_⟩:=bN r U;exact ch cn s (λhe=>E he.symm) q T⟩
  .rw[Z4,aG,u9,C,n9,Z4];rfl
  .rcases bL r q with h|h
   .exact a2 r h
   .omega
 rintro S cQ ⟨W,bB,szv,gs,B,H,aY,aF,aX,a1,bC,aG,a2⟩;apply b4 Ω;rw[o6]at aX aG;apply(PE (bZ.ext W) P).mono;rintro a7 bd _ ⟨aw,go,M,I,cq,cr,eh⟩;have ct:M.length=(fv f).length:=by rw[<-cr,r8]
 have ei:M.length<=256:=by
  have h1:=(pT P).2.length_eq;have bf:=(kQ P).2.2;have ej:=R5 fu (fj f);have ek:=P.lr;omega
 have z4:=W.size;have em:=aw.size;have en:=aF.lt;rw[eF cV.u I];refine cp.range M.length (λi Y=>nr w bd.heap.size gt gs go szv a7 f M Y/\Eb w bd.heap.size A szv f.k (dK f i) M Y) I.le
  ⟨⟨W.trans aw,o4 _,bB.ext aw,aX.ext aw,I,λr q=>by have:=I.leads q;omega,λh aB=>(cq h aB).1⟩,B,H,aY,_,0,[],aF.ext aw,bC.ext aw,aG,a2,bk.nil _ _ _ _ _,λx J=>(by cases J),T,λr q=>(e9 q).elim⟩ ?_ ?_
 rotate_left
 .rintro Y c7 ⟨aC,B,H,aY,Z,gr,L,bg,bh,ac,aK,aM,aD,ae,aO⟩;have⟨c8,eo,cu,bO,ep,er,c9⟩:=id aC;have bi:=oA f M.length;rw[ct,ry]at bi;rw[ct,ry]at bg ac ae;apply b4 Ω;rw[bR dI.p dI.i T (show Y.rangeAt A 0 [Δ f.k,szv,Δ (cS f).zero,B,Z]from bg.range)];refine cd (vs:=[Δ f.k,szv,Δ (cS f).zero,B,Z]) dI.i T rfl (λu hu=>?_) cu λes aP et da=>?_
  .simp at hu;rcases hu with rfl|rfl|rfl|rfl|rfl
   .rfl
   .exact bO.ls.cells.2
   .rfl
   .exact (eR bh.1.sl).2
   .exact (eR aM.sl).2
  rw[fQ dI.p dI.i T da.range];have ao:∀r,r=gt->∃e c,ag Y r e c/\e≠aq/\e≠ay/\e≠ah/\e≠aZ:=λr q=>by
   subst q;exact⟨_,_,cu,Φ,Φ,Φ,Φ⟩
  refine⟨c8.then aP λr q he=>by have he:r=gt:=he;omega,szv,gs,B,H,aY,Z,gr,L,?_,?_,bh.ab aP (λr q=>?_),ac,aM.ab aP (λr q U=>?_),λh aB=>?_,ae,a1,λh aB r q=>by have:=(cq h (aD h aB)).2 r q;omega⟩
  .rw[bi.1]
  .rw[bi.2.1];refine bw bO aP λr q U=>?_;have⟨e,c,s,_,_,E,_⟩:=ao r U;exact ch bO s (λhe=>E he.symm) q T
  .obtain⟨e,c,s,h1,bf,_⟩:=ao r q;exact⟨e,c,s,h1,bf⟩
  .obtain⟨e,c,s,_,_,_,E⟩:=ao r U;exact cP aM s (λhe=>E he.symm) q
  .rw[bi.2.1];exact nq (c9 h (aD h aB)) aP λr q=>by
    have⟨e,c,s,h1,_,bf,_⟩:=ao r q;exact .inl ⟨e,c,s,bf,h1⟩
 rintro i Y c7 hi ⟨aC,B,H,aY,Z,gr,L,bg,bh,ac,aK,aM,aD,ae,aO⟩ db;have⟨y,K⟩:=aH (l:=M) hi;have bj:=x5 K;have cw:(fv f)[i]?=σ (dA y):=by rw[<-cr,x8,K];rfl
 have bP:fW f.sizes f.k (dA y):=tJ P _ (x5 cw);have bQ:=xb cw;have⟨eu,ev,ew,ey⟩:=oA f i;apply bz Ω;refine dc (λbT=>nr w bd.heap.size gt gs go szv a7 f M bT/\Eb w bd.heap.size A szv f.k (dK f (i+1)) M bT) ?_ ?_
 .rintro bT h;rw[aN];exact db _ h
 intro aA bU;rw[dw T cV.u aZ.i aC.2.2.2.2.1 hi,bR aZ.p aZ.i T (aC.2.2.2.2.1.range K)];refine bu aZ.i λdd ez eA de df=>?_;refine cd (vs:=dt y) aZ.i T rfl (aC.2.2.2.2.2.2 y bj).one df λcz dg eB bl=>?_;have bm:Ext Y cz:=de.put dg Ω;have bn:=aC.ext bm;have af:=bg.ext bm;have bV:=bh.ext bm;have bo:=aM.ext bm;have⟨eC,eE,cA,eH,eI,eJ,cB⟩:=id bn;have⟨⟨eK,cC⟩,_,dh,cD⟩:=cB y bj;rw[aL aZ.p 0 bl T,aW an.u cC.ls];have eL:aY.length=f.sizes.length:=by have:=congrArg S5 ac;rw[r8]at this;omega
 have eM:L.length<=256:=by have:=congrArg S5 ae;rw[r8]at this;omega
 rw[be,al];refine⟨λeN=>?_,λeO=>?_⟩
 .
  have aj:y.sc=[]:=j6 Ω;have G:dK f (i+1)={dK f i with zero:=y.cs.getD 0 0}:=by rw[bQ];unfold jf;simp only[dA,aj]
  have eP:y.cs.length=1:=by have:=bP.len;simpa[dA,aj,bX,aQ]using this
  have di:y.cs[0]?=σ (y.cs.getD 0 0):=by rw[u4,x6 Ω];rfl
  rw[aL aZ.p 2 bl T,fP (y:=0) (i:=0) T ay.u aq.i Ψ cD.ls di,aU dI.p T];refine bq aq.i T rfl af Ξ λdj O dk dl=>?_;refine bU _ ⟨bn.ab O λr q=>?_,B,H,aY,Z,gr,L,?_,bV.ab O (λr q=>?_),by rw[G];exact ac,aK,bo.ab O (λr q U=>?_),aD,by rw[G];exact ae,aO⟩
  .have q:r=A:=q;subst q;exact⟨Ω,E,.inl ⟨_,af⟩⟩
  .rw[G];exact dl
  .have q:r=A:=q;subst q;exact⟨_,_,af,Φ,Φ⟩
  .have U:r=A:=U;subst U;exact cP bo af Φ q
 rw[be,al];refine⟨λh1=>?_,λeS=>?_⟩
 .
  obtain⟨v,aj⟩:∃v,y.sc=[v]:=W9.1 Ω;have eU:=bP.scope.1 v (by show v∈y.sc;rw[aj];exact .head _);have eV:=bP.vars v (by show v∈y.sc;rw[aj];exact .head _);have G:dK f (i+1)={dK f i with unary:=(dK f i).unary.set v.toNat y.cs}:=by rw[bQ];unfold jf;simp only[dA,aj]
  intro dm R _ _;have bW:=af.ext R;have cE:=bl.ext R;have aR:=bV.ext R;have dn:=bn.ext R;have cF:=bo.ext R;rw[aL dI.p 3 bW T,aL aZ.p 0 cE T];refine px (y:=0) (i:=0) T an.u ah.i (cC.ls.ext R) (show y.sc[0]?=σ v by rw[aj];rfl) λb o dp=>?_;rw[ax Ψ dp,aL aZ.p 2 cE T];have⟨u,hu⟩:=aH (l:=aY) (i:=v.toNat) Ω;rw[dw (i:=v.toNat) Ω dZ.u ay.i aR.1 Ω];let a:lD:=⟨y.a7,y.cs⟩;have bp:=cD.ext R;refine pM (f:=ox) (j:=0) (a:=u) (a':=a) ay.i bp.ls.cells.1 bp.ls.cells.2 aR.1 hu T Ω λdj O dk dq=>?_;have au:∀{r:Nat},leadsTo B r->∃c,ag dm r ay c:=λq=>by
   obtain⟨rfl,c,s⟩:=dW aR.1 q;exact⟨c,s⟩
  refine bU _ ⟨dn.ab O λr q=>?_,B,H,aY.set v.toNat a,Z,gr,L,?_,⟨dq,λz C=>?_⟩,?_,aK,cF.ab O (λr q U=>?_),aD,by rw[G];exact ae,aO⟩
  .obtain⟨c,s⟩:=au q;exact⟨aK r q,λhe=>(by subst he;exact absurd (eQ s (cA.ext R)) Φ),.inr (.inl ⟨c,s⟩)⟩
  .rw[G];exact bW.ab O λhe=>cP aR.1 bW Φ he
  .rcases W0 C with C|rfl
   .exact aR.rv O (λr q=>by have⟨c,s⟩:=au q;exact⟨_,c,s,Φ⟩) z C
   .exact⟨dh,bw bp O λr q U=>by
     have⟨c,s⟩:=au U;exact ch bp s Φ q T⟩
  .rw[G,U5,ac]
  .obtain⟨c,s⟩:=au U;exact cP cF s Φ q
 .
  have G:dK f (i+1)={dK f i with funs:=(dK f i).funs++[dA y]}:=by
   rw[bQ];unfold jf;have cG:2<=(dA y).1.length:=by show 2<=y.sc.length;omega
   generalize dA y=g at cG ⊢;have⟨sc,cs⟩:=g
   match sc,cG with
   |_::_::_,_=>rfl
  rw[aL dI.p 4 af T,bR aZ.p aZ.i T (show cz.rangeAt dd 0 (dt y)from bl.range)];refine hU (f:=dt) (k:=3) (a:=y) cV.u aZ.i Ω T rfl λeW eX dr eY aE ds=>?_;have br:=bo.ext aE;have du:=bV.ext aE;have bt:=af.ext aE;have dv:=bn.ext aE;refine iG (f:=dt) (a:=y) cV.u aZ.i T br (by simpa using ds.sl) (cB y bj).one Ω Ω λbJ bK eZ bx bL cH=>?_;have cI:=bt.ab cH λhe=>cP br bt Φ he;rw[aU dI.p T];refine bq cV.i (eR bx.sl).1 (eR bx.sl).2 cI Ξ λdx cJ e0 dy=>?_;have Q:ai (λr=>leadsTo Z r\/r=A) dr dx:=(cH.mono λr _ h=>.inl h).trans (cJ.mono λr _ h=>.inr h);have e1:=aE.size;refine bU _ ⟨dv.ab Q λr q=>?_,B,H,aY,bJ,bK,L++[y],?_,du.ab Q (λr q=>?_),by rw[G];exact ac,aK,bx.ab cJ (λr q U=>?_),λz C=>?_,?_,λr q=>?_⟩
  .rcases q with q|rfl
   .obtain⟨rfl,c,s⟩:=dW br q;have:=aO _ q;refine⟨Ω,λhe=>?_,.inr (.inr ⟨⟨c,s⟩,this⟩)⟩;subst he;exact absurd (eQ s (cA.ext aE)) Φ
   .exact⟨Ω,E,.inl ⟨_,bt⟩⟩
  .rw[G];exact dy
  .rcases q with q|rfl
   .obtain⟨rfl,c,s⟩:=dW br q;exact⟨_,c,s,Φ,Φ⟩
   .exact⟨_,_,bt,Φ,Φ⟩
  .have U:r=A:=U;subst U;exact cP bx cI Φ q
  .rcases o5.1 C with C|C
   .exact aD z C
   .rw[o9.1 C];exact bj
  .rw[G,Z4,ae];rfl
  .rcases bL r q with h|h
   .exact aO r h
   .omega
def rI(w:x3)(S:Nat->Prop)(e:p9):Prop:=∀r,S r->∃c,ag w r e c
def xz{k:o7}{g:Nat}(h:av k a w g v l)(f:ai S w w')(p:rI w S e)(q:a≠e):av k a w' g v l:=bw h f λr s U=>by
 have⟨c,x⟩:=p r U;exact ch h x q s T
def Ed{α:Type}{f:α->List x1}{k:Nat}{g:Nat}{L:List α}(h:bk f k a w g v L)(p:ai S w w')(q:rI w S e)(s:a≠e):bk f k a w' g v L:=h.ab p λr x U=>by
 have⟨c,y⟩:=q r U;exact cP h y s x
def xA{r:Nat}{c:List x1}(h:ag w r a c)(f:ai S w w')(p:rI w S e)(q:a≠e):ag w' r a c:=h.ab f λU=>by
 have⟨c,s⟩:=p r U;exact q (eQ h s)
def Ee{g:Nat}{c:List x1}(h:ag w g e c):rI w (λr=>r=g) e:=λr a=>by
 have a:r=g:=a;subst a;exact⟨c,h⟩
def PG{k:o7}{g:Nat}(h:av k e w g v l):rI w (λr=>leads v r) e:=λr f=>by
 have f:leads v r:=f;obtain⟨rfl,_⟩:=bS h f;obtain⟨_,⟨ad,_⟩|⟨cap,full,_,q,_⟩⟩:=h
 .obtain⟨a,n,c,p,_⟩:=f;rw[ad]at p;cases p
 .exact⟨_,q⟩
def aC(x:bC):Λ:=((Y1 x.un.length).map λv:Nat=>(v:Int)).filter λv=>!dropped x.mask v
def xB{P:W8}{k:o7}{t:p9}{b:Nat}{K:x1->x3->Prop}(a:P.underlying t=σ (.slice e))(hi:aS P e 1 b z)(f:∀v g w',g=w.heap.size->Ext w w'->av k e w' g v []->K v w'):aE P (Y5 t 0 #[]) w K:=
 kD a hi Ω (cs:=#[]) (by simp[Instr.fill]) λg w' h p q=>f _ g w' h p (av.of (n:=0) (b1.full (by simpa using q) Ξ (by simp[maxLen])))
def PH{n:aG}(h:xy w B v n){g:Nat}(p:ag w' g dI v.cells.toList):∃szv gz a f aY e gr L,ag w' g dI [Δ n.k,szv,Δ n.zero,a,e]/\av .i64 ah w gz szv n.sizes/\hW w f a aY/\aY.map (·.l)=n.unary/\bk dt 3 aZ w gr e L/\(∀h∈L,gd w n.sizes h)/\L.map dA=n.funs/\(∀r,leads szv r->B<=r)/\∀h∈L,∀r,p0 h r->B<=r:=by
 obtain⟨szv,gz,a,f,aY,e,gr,L,rfl,q,s,y,x,z,A⟩:=h;have⟨_,_,_,C⟩:=da q.ls;have⟨_,_,_,_,_,E,_⟩:=s.1.sl;have⟨_,_,_,_,_,F,_⟩:=x.sl;refine⟨szv,gz,a,f,aY,e,gr,L,?_,q,s,y,x,z,A⟩;rw[C,E,F]at p ⊢;exact p
def z12:List x1:=[Δ 0,.slice ν 0 0,Δ 0,.slice ν 0 0,.slice ν 0 0,.slice ν 0 0,.slice ν 0 0,.slice ν 0 0]
def PI(u:Λ):aC (newVar u)=(Y1 u.length).map λv:Nat=>(v:Int):=by
 unfold aC newVar dropped;rw[List.filter_eq_self.2];intro a _;simp
section
variable{P:W8}{w:x3}{t:p9}{cx cy:Bool}{a b:Nat}{K:x1->Prop}
def PJ(f:a<2 ^ 62)(h:b<2 ^ 62):ac P (aO .or t cx cy (Δ a) (Δ b)) w K=K (Δ ((a ||| b:Nat):Int)):=ac.of λw' _=>by
 have e:(T0 64 (a:Int) ||| T0 64 (b:Int)).toNat=a ||| b:=by
  rw[nb,nb,BitVec.toNat_or,BitVec.toNat_ofNat,BitVec.toNat_ofNat,Nat.mod_eq_of_lt Ω,Nat.mod_eq_of_lt Ω]
 have:a ||| b<2 ^ 62:=Nat.or_lt_two_pow f h;have hw:X6.wrap ((a ||| b:Nat):Int)=((a ||| b:Nat):Int):=wrap_i64 Ω Ω;have p:(T0 X6.bits (a:Int) ||| T0 X6.bits (b:Int)).toNat=a ||| b:=e;simp only[aO,eqGuard,binOp,Op.intBits,p,hw];rfl
def Ef(p:a<2 ^ 62)(f:b<2 ^ 62):ac P (aO .and t cx cy (Δ a) (Δ b)) w K=K (Δ ((a &&& b:Nat):Int)):=ac.of λw' _=>by
 have e:(T0 64 (a:Int) &&& T0 64 (b:Int)).toNat=a &&& b:=by
  rw[nb,nb,BitVec.toNat_and,BitVec.toNat_ofNat,BitVec.toNat_ofNat,Nat.mod_eq_of_lt Ω,Nat.mod_eq_of_lt Ω]
 have:a &&& b<2 ^ 62:=Nat.and_lt_two_pow _ f;have hw:X6.wrap ((a &&& b:Nat):Int)=((a &&& b:Nat):Int):=wrap_i64 Ω Ω;have h:(T0 X6.bits (a:Int) &&& T0 X6.bits (b:Int)).toNat=a &&& b:=e;simp only[aO,eqGuard,binOp,Op.intBits,h,hw];rfl
def PK{k:o7}{n:Nat}(a:n<62):ac P (aO .shl t cx cy (Δ 1) (.int k (n:Int))) w K=K (Δ ((2 ^ n:Nat):Int)):=by
 rw[Ap Ω];have e:min ((n:Int).toNat) X6.bits=n:=Nat.min_eq_left (by show n<=64;omega);have f:2 ^ n<2 ^ 62:=Nat.pow_lt_pow_right Ω a;rw[e,Int.one_mul,show((2:Int) ^ n)=((2 ^ n:Nat):Int) by simp];generalize 2 ^ n=q at f ⊢;rw[wrap_i64 Ω Ω]
end
def Eg(a n:Nat):(a / 2 ^ n &&& 1=1)↔a.testBit n=true:=by
 rw[Nat.and_one_is_mod,Nat.testBit_eq_decide_div_mod_eq,decide_eq_true_eq]
def Eh{b n:Nat}{v:Int}(x:mm b n):am x7 H1 [jF b n,Δ v] w λr w'=>r= .bool (decide (0<=v/\v<n)&&b.testBit v.toNat)/\Ext w w':=by
 apply az func103;refine bd λg V B e f=>?_;refine aV (λr aa=>r= .bool (decide (0<=v/\v<n)&&b.testBit v.toNat)/\Ext w aa) (λ_ _ h=>h) λaA q=>?_;rw[bR b5.p b5.i T f.range];apply Bt.mono;rintro _ C _ ⟨rfl,a⟩;rw[al];refine⟨λh=>?_,λh=>q _ _ ⟨by rw[decide_eq_false h];rfl,e.trans a⟩⟩;have⟨y,E⟩:=x;obtain⟨s,rfl⟩:∃s:Nat,v=s:=⟨v.toNat,Ω⟩;have z:=f.ext a;have G:(2:Nat) ^ n<=2 ^ 32:=S2 Ω y;have A:b / 2 ^ s<2 ^ 64:=Nat.lt_of_le_of_lt (Nat.div_le_self _ _) Ω;rw[aL b5.p 0 z T,lq Ω,show(1:Int)=((1:Nat):Int)from T,u64_and A Ω,be];refine q _ _ ⟨?_,e.trans a⟩;congr 1;rw[decide_eq_true h,U8,U1,decide_eq_true_eq,u7,<-Eg];omega
def PL(m v:Nat):dropped (m:Int) (v:Int)=m.testBit v:=by unfold dropped;rw[u7,u7]
def bx(w:x3)(af gT:Nat)(A R:ak)(n:aG)(s:ap)(t:aD):Prop:=StateM w af gT A R n s t/\t.bY=s.cells/\nk t/\bi n.k n.sizes s/\kd n
def bx.ext{A R:ak}{n:aG}{s:ap}{t:aD}(h:bx w af gT A R n s t)(J:Ext w w'):bx w' af gT A R n s t:=⟨h.1.ext J,h.2⟩
def StateM.parts{A R:ak}{n:aG}{s:ap}{t:aD}(h:StateM w af gT A R n s t):∃a e f p a1 q L r,ag w af cI [Γ a,Γ gT,e,f,p]/\gp w a n/\dz w gT r t/\av .i64 ah w a1 e (iM s)/\bk oE 3 fo w q f L/\lF R w L s:=by
 have⟨a,e,f,p,_,a1,q,ge,L,E,r,w0,x,⟨y,z,H⟩,⟨B,I,J,K⟩,C,⟨F,G⟩,M,N⟩:=h;exact⟨a,e,f,p,a1,q,L,r,x,y.ext z,B,C,F,G⟩
def ul{s:ap}{i:Nat}(h:i<s.vars.length):(iM s)[i]?=σ (fY s i:Int):=by
 unfold iM;rw[x8,List.getElem?_range h];rfl
def p1{s:ap}{t:aD}(ad:t.bY=s.cells)(U:nk t):s.cells.length<=100000000:=by
 rw[<-ad];unfold aD.bY;rw[r8];exact U.1
def um{s:ap}{i:Nat}{x:bC}(h:s.vars[i]?=σ x):fY s i+x.un.length+2<=s.cells.length:=by
 have h1:=rz h (j:=x.un.length+1) Ω;have a:(hX x)[x.un.length+1]? ≠ν:=by
  rw[Ne,List.getElem?_eq_none_iff];show¬(x.un.length+1+1<=x.un.length+1);omega
 rw[<-h1]at a;have:=(x4.1 (Option.ne_none_iff_exists'.1 a).choose_spec).1;omega
def xC{s:ap}{f:bU}(h:s.funs[j]?=σ f):eZ s j+f.cs.length+1<=s.cells.length:=by
 have h1:=xf h (j:=f.cs.length) Ω;have a:(fy f)[f.cs.length]? ≠ν:=by
  rw[Ne,List.getElem?_eq_none_iff];show¬(f.cs.length+1<=f.cs.length);omega
 rw[<-h1]at a;have:=(x4.1 (Option.ne_none_iff_exists'.1 a).choose_spec).1;omega
section
variable{w:x3}{af gT:Nat}{A R:ak}{n:aG}{s:ap}{t:aD}
def Ei(h:bx w af gT A R n s t):am x7 HM [Γ af] w λv w'=>(∃a,v=Γ a/\gp w' a n)/\Ext w w':=by
 have⟨a,q,r,x,a1,y,L,z,e,f,B,C,E,G⟩:=h.1.parts;apply az func86;rw[di dd.u];simp only[Z5,a8];rw[aT cI.p 0 e T];exact⟨⟨a,T,f⟩,Ext.refl _⟩
def Ej(h:bx w af gT A R n s t):am x7 Hh [Γ af] w λv w'=>v=Δ (n.sizes.length:Int)/\Ext w w':=by
 apply az func41;apply(Ei h).mono;rintro _ V _ ⟨⟨p,rfl,a⟩,e⟩;apply(xg a).mono;rintro _ aa _ ⟨rfl,f⟩;exact⟨T,e.trans f⟩
def ki(h:bx w af gT A R n s t):am x7 HD [Γ af] w λv w'=>v=Δ n.k/\Ext w w':=by
 apply az func73;apply(Ei h).mono;rintro _ V _ ⟨⟨p,rfl,a⟩,e⟩;apply(OS a).mono;rintro _ aa _ ⟨rfl,f⟩;exact⟨T,e.trans f⟩
def xD{i:Int}(h:bx w af gT A R n s t):am x7 HQ [Γ af,Δ i] w λv w'=>v= .bool (decide (0<=i/\i<n.sizes.length))/\Ext w w':=by
 apply az func90;refine aV (λv V=>v= .bool (decide (0<=i/\i<n.sizes.length))/\Ext w V) (λ_ _ h=>h) λaA a=>?_;rw[cO,al];refine⟨λe=>?_,λe=>a _ _ ⟨by rw[decide_eq_false Ω],Ext.refl _⟩⟩;apply(Ej h).mono;rintro _ V _ ⟨rfl,f⟩;rw[aP];refine a _ _ ⟨?_,f⟩;congr 1;exact decide_eq_decide.2 ⟨λh=>⟨e,h⟩,λh=>h.2⟩
def uo(h:bx w af gT A R n s t):am x7 Hg [Γ af] w λv w'=>v=Δ s.zero/\Ext w w':=by
 have⟨q,r,x,y,a1,z,L,B,a,C,e,E,G,H⟩:=h.1.parts;apply az func40;rw[di dd.u];simp only[Z5,a8];rw[aT cI.p 1 a T];refine(oD (i:=0) e T (show t.bY[0]?=σ s.zero by rw[h.2.1];exact ON s)).mono ?_;rintro _ V _ ⟨rfl,f⟩;exact⟨T,f⟩
def rJ(h:bx w af gT A R n s t):am x7 HF [Γ af] w λv w'=>v=Δ (s.funs.length:Int)/\Ext w w':=by
 have⟨q,r,x,y,a1,z,L,B,a,C,E,G,e,f⟩:=h.1.parts;apply az func75;rw[di dd.u];simp only[Z5,a8];rw[aT cI.p 3 a T,eF fK.u e];exact⟨by rw[f.1],Ext.refl _⟩
def hy(s:ap)(i:Nat):Bool:=match s.vars[i]? with
 |some x=>decide (x.gone≠0)
 |none=>false
def xE{i:Int}(h:bx w af gT A R n s t):am x7 Hl [Γ af,Δ i] w λv w'=>v= .bool (decide (0<=i)&&hy s i.toNat)/\Ext w w':=by
 apply az func48;refine aV (λv V=>v= .bool (decide (0<=i)&&hy s i.toNat)/\Ext w V) (λ_ _ h=>h) λaA a=>?_;intro aa e _ _;apply(xD (h.ext e)).mono;rintro _ I _ ⟨rfl,r⟩;have J:=e.trans r;have:=h.2.2.2.1.vars;rw[al];refine⟨λz=>?_,λM=>a _ _ ⟨?_,J⟩⟩
 .obtain⟨N,O,P,Q,a1,S,L,U,f,W,B,C,X,Y⟩:=(h.ext J).1.parts;have⟨x,q⟩:=aH (l:=s.vars) (i:=i.toNat) Ω;rw[aT cI.p 1 f T,aT cI.p 2 f T,fP (y:=i) (i:=i.toNat) Ω an.u ah.i Ψ C.ls (ul Ω)];have E:t.bY[fY s i.toNat+0]?=σ x.gone:=by rw[h.2.1,rz q Ω];rfl
  apply(oD (i:=fY s i.toNat) B T E).mono;rintro _ Z _ ⟨rfl,G⟩;rw[bB];refine a _ _ ⟨?_,J.trans G⟩;rw[decide_eq_true z.1,U8];unfold hy;rw[q]
 .by_cases H:0<=i
  .unfold hy;rw[Z2 Ω,Bool.and_false]
  .rw[decide_eq_false H];rfl
def fB(n:aG)(i v:Int):Prop:=0<=i/\i<n.sizes.length/\0<=v/\v<n.sizes.getD i.toNat 0
instance (n:aG) (i v:Int):Decidable (fB n i v):=inferInstanceAs (Decidable (_/\_))
def fB.var{i v:Int}(ad:fB n i v)(a:bi n.k n.sizes s):∃x,s.vars[i.toNat]?=σ x/\v.toNat<x.un.length/\x.un.length<=32/\n.sizes.getD i.toNat 0=x.un.length:=by
 have⟨h1,h,p,f⟩:=ad;have:=a.vars;have⟨x,J⟩:=aH (l:=s.vars) (i:=i.toNat) Ω;have⟨z,e⟩:=aH (l:=n.sizes) (i:=i.toNat) Ω;have:=a.fz.2.2 z (x5 e);have:=(a.var i.toNat x z J e).1;rw[u4,e,V4]at f ⊢;exact⟨x,J,Ω,Ω,Ω⟩
def xF{i v:Int}(h:bx w af gT A R n s t):am x7 HX [Γ af,Δ i,Δ v] w λr w'=>r=Δ (if fB n i v then((fY s i.toNat+2+v.toNat:Nat):Int)else-1)/\Ext w w':=by
 have:=h.2.2.2.1.vars;apply az func98;refine aV (λr V=>r= .bool (decide (¬fB n i v))/\Ext w V) ?_ ?_
 .rintro _ V ⟨rfl,z⟩;rw[al];refine⟨λH=>⟨by rw[if_neg H],z⟩,λf=>?_⟩;have f:=Z9.1 f;have⟨x,I,ab,ac,_⟩:=f.var h.2.2.2.1;have⟨J,K,M,N,a1,O,L,P,a,C,Q,E,S,U⟩:=(h.ext z).1.parts;have G:=um I;have:=p1 h.2.1 h.2.2.1;have⟨h1,ag,ai,aj⟩:=id f;rw[aT cI.p 2 a T,fP (y:=i) (i:=i.toNat) Ω an.u ah.i Ψ E.ls (ul Ω),aN,wrap_i64 Ω Ω,aN,wrap_i64 Ω Ω,if_pos f];refine⟨?_,z⟩;congr 1;omega
 .intro aA B;apply(xD h).mono;rintro _ aa _ ⟨rfl,q⟩;rw[bK,ca];refine⟨λa=>?_,λa=>?_⟩
  .have a:¬(0<=i/\i<n.sizes.length):=λW=>by rw[decide_eq_true W]at a;cases a
   exact B _ _ ⟨by rw[decide_eq_true];exact λe=>a ⟨e.1,e.2.1⟩,q⟩
  have a:0<=i/\i<n.sizes.length:=by simpa using a
  rw[aP,al];refine⟨λad=>B _ _ ⟨by rw[decide_eq_true];exact λe=>by have:=e.2.2.1;omega,q⟩,λad=>?_⟩;have⟨J,K,M,N,a1,O,L,P,X,C,Q,E,S,U⟩:=(h.ext q).1.parts;rw[aT cI.p 0 X T];apply(DD C h.2.2.2.2).mono;rintro _ ak _ ⟨Y,rfl⟩;rw[if_pos a.1,cO];refine B _ _ ⟨?_,q.trans Y⟩;congr 1;refine decide_eq_decide.2 ⟨λh e=>?_,λh=>?_⟩
  .have:=e.2.2.2;omega
  .refine Int.not_lt.1 λG=>h ⟨a.1,a.2,Ω,G⟩
def iN(s:ap)(i v:Nat):Int:=match s.vars[i]? with
 |some x=>x.un.getD v 0
 |none=>0
def p2{i v:Int}(h:bx w af gT A R n s t):am x7 zO [Γ af,Δ i,Δ v] w λr w'=>r=(if fB n i v then .tuple #[Δ (iN s i.toNat v.toNat),Δ 0]else .tuple #[Δ 0,Δ 1])/\Ext w w':=by
 apply az func47;rw[di dd.u];simp only[Z5,a8];apply(xF h).mono;rintro _ V _ ⟨rfl,e⟩;by_cases a:fB n i v
 .rw[if_pos a,if_pos a];apply b4 Ω;have⟨x,f,q,E,_⟩:=a.var h.2.2.2.1;have⟨G,H,I,J,a1,K,L,M,y,N,z,O,P,Q⟩:=(h.ext e).1.parts;rw[aT cI.p 1 y T];have B:t.bY[fY s i.toNat+2+v.toNat]?=σ (x.un.getD v.toNat 0):=by
   rw[h.2.1,R4,rz f Ω,show 2+v.toNat=v.toNat+1+1 by omega];show x.un[v.toNat]?=_;rw[u4,x6 q];rfl
  apply(oD (i:=fY s i.toNat+2+v.toNat) z T B).mono;rintro _ aa _ ⟨rfl,C⟩;refine⟨?_,e.trans C⟩;unfold iN;rw[f]
 .rw[if_neg a,if_neg a,aP,al];exact⟨λ_=>⟨T,e⟩,λh=>Ω⟩
def ff(s:ap)(j:Nat):Bool:=match s.funs[j]? with
 |some f=>decide (f.live≠0)
 |none=>false
def rK{j:Int}(h:bx w af gT A R n s t):am x7 Hm [Γ af,Δ j] w λv w'=>v= .bool (decide (0<=j)&&ff s j.toNat)/\Ext w w':=by
 apply az func49;refine aV (λv V=>v= .bool (decide (0<=j)&&ff s j.toNat)/\Ext w V) (λ_ _ h=>h) λaA a=>?_;intro aa e _ _;rw[cO,al];refine⟨λq=>?_,λq=>a _ _ ⟨by rw[decide_eq_false q];rfl,e⟩⟩;apply(rJ (h.ext e)).mono;rintro _ K _ ⟨rfl,C⟩;have J:=e.trans C;rw[aP,al];refine⟨λM=>?_,λN=>a _ _ ⟨?_,J⟩⟩
 .obtain⟨O,P,Q,S,a1,U,L,W,x,X,E,Y,z,r⟩:=(h.ext J).1.parts;have⟨f,ae⟩:=aH (l:=s.funs) (i:=j.toNat) Ω;obtain⟨y,B⟩:∃y,L[j.toNat]?=σ y:=⟨_,x6 (by rw[r.1];omega)⟩;have⟨_,_,G⟩:=r.2 j.toNat y f B ae;rw[aT cI.p 1 x T,aT cI.p 3 x T,dw (i:=j.toNat) Ω fK.u fo.i z (by rw[r.1];omega),aU fo.p T,ax (v:=Δ (y.at_:Int)) Ψ (z.range B 2 _ T)];have H:t.bY[eZ s j.toNat+0]?=σ f.live:=by rw[h.2.1,xf ae Ω];rfl
  apply(oD (i:=eZ s j.toNat) E (by rw[G]) H).mono;rintro _ Z _ ⟨rfl,I⟩;rw[bB];refine a _ _ ⟨?_,J.trans I⟩;rw[decide_eq_true q,U8];unfold ff;rw[ae]
 .unfold ff;rw[Z2 Ω,Bool.and_false]
end
def uq(s:ap)(n:aG)(i:Int)(b m:Nat):Prop:=mm b m/\(¬(0<=i/\i<n.sizes.length)->b=0/\m=0)/\∀x,0<=i->s.vars[i.toNat]?=σ x->m=x.un.length/\∀j:Nat,b.testBit j=(decide (j<x.un.length)&& !dropped x.mask (j:Int))
section
variable{w:x3}{af gT:Nat}{A R:ak}{n:aG}{s:ap}{t:aD}
def jK{i:Int}(h:bx w af gT A R n s t):am x7 Hj [Γ af,Δ i] w λv w'=>(∃b m,v=jF b m/\uq s n i b m)/\Ext w w':=by
 have:=h.2.2.2.1.vars;apply az func45;refine bu b5.i λf V bn ak P=>?_;have P:ag V f b5 [.int .u64 0,Δ 0]:=P;apply(xD (h.ext ak)).mono;rintro _ aa _ ⟨rfl,ao⟩;have Q:=P.ext ao;have S:=ak.trans ao;rw[bK,ca];refine⟨λa=>?_,λa=>?_⟩
 .have a:¬(0<=i/\i<n.sizes.length):=λaM=>by rw[decide_eq_true aM]at a;cases a
  rw[cY (cs:=#[.int .u64 0,Δ 0]) Ψ];refine cd (vs:=[.int .u64 0,Δ 0]) b5.i T rfl (by intro u hu;simp at hu;rcases hu with rfl|rfl<;>rfl) Q λbq aO br aP=>?_;rw[fQ b5.p b5.i T aP.range];refine⟨⟨0,0,T,⟨Ω,Ξ⟩,λ_=>⟨T,T⟩,λx ap J=>?_⟩,S.put aO Ω⟩;have:=(x4.1 J).1;exact absurd ⟨ap,Ω⟩ a
 have a:0<=i/\i<n.sizes.length:=by simpa using a
 have⟨x,E⟩:=aH (l:=s.vars) (i:=i.toNat) Ω;have⟨z,U⟩:=aH (l:=n.sizes) (i:=i.toNat) Ω;have aQ:=h.2.2.2.1.fz.2.2 z (x5 U);have⟨bt,_,bw,bA⟩:=h.2.2.2.1.var i.toNat x z E U;have⟨aR,aS,aU,aV,a1,aW,L,aX,G,aq,_⟩:=(h.ext S).1.parts;rw[aT cI.p 0 G T];apply(DD aq h.2.2.2.2).mono;rintro _ bB _ ⟨W,rfl⟩;rw[if_pos a.1,u4,U,V4];apply Lc.mono;rintro _ bC _ ⟨X,rfl⟩;rw[if_pos aQ];obtain⟨m,rfl⟩:∃m:Nat,z=m:=⟨z.toNat,Ω⟩;rw[bo,bp,u7];have au:=(S.trans W).trans X;refine bu b5.i λe bD bE av aY=>?_;refine cd (vs:=[.int .u64 ((2 ^ m-1:Nat):Int),Δ (m:Int)]) b5.i T rfl (by intro u hu;simp at hu;rcases hu with rfl|rfl<;>rfl) aY λaw ax bF aZ=>?_;have:=au.size;have ay:Ext w aw:=(au.trans av).put ax Ω;have:=(((Q.ext W).ext X)).lt;have a2:ag aw f b5 [.int .u64 0,Δ 0]:=(((Q.ext W).ext X).ext av).ab ax λhe=>by have he:f=e:=he;omega
 intro bH Y _ _;have aB:=ay.trans Y;have⟨aR,aS,aU,aV,a1,aW,L,aX,G,aq,a6,a7,_⟩:=(h.ext aB).1.parts;have:=um E;have:=p1 h.2.1 h.2.2.1;rw[aT cI.p 1 G T,aT cI.p 2 G T,fP (y:=i) (i:=i.toNat) Ω an.u ah.i Ψ a7.ls (ul Ω),aN,wrap_i64 Ω Ω];have a8:t.bY[fY s i.toNat+1]?=σ x.mask:=by rw[h.2.1,rz E Ω];rfl
 apply(oD (i:=fY s i.toNat+1) a6 Ω a8).mono;rintro _ ba _ ⟨rfl,Z⟩;have aC:=(aZ.ext Y).ext Z;have bb:=(a2.ext Y).ext Z;obtain⟨mk,aD⟩:∃mk:Nat,x.mask=mk:=⟨x.mask.toNat,Ω⟩;rw[bR b5.p b5.i T (show ba.rangeAt e 0 [.int .u64 ((2 ^ m-1:Nat):Int),Δ (m:Int)]from aC.range)];apply(wm (b:=2 ^ m-1) (n:=m)).mono;rintro _ bL _ ⟨rfl,ac⟩;have bc:=aB.trans Z;have bd:f≠e:=Ω
 have:=ay.size;have bN:w.heap.size<=e:=Ω
 have bO:w.heap.size<=f:=Ω
 refine cp.range m (λq B=>Ext w B/\ag B f b5 [.int .u64 0,Δ 0]/\∃b:Nat,ag B e b5 [.int .u64 (b:Int),Δ (m:Int)]/\mm b m/\∀j:Nat,b.testBit j=(decide (j<m)&& !(decide (j<q)&&mk.testBit j))) Ω
  ⟨bc.trans ac,bb.ext ac,_,aC.ext ac,⟨Ω,by have:=Nat.two_pow_pos m;omega⟩,λj=>by rw[Bs];simp⟩ ?_ ?_
 .rintro q B bf bP ⟨H,I,b,C,K,M⟩ bg;apply bz Ω;refine dc (λN=>Ext w N/\ag N f b5 [.int .u64 0,Δ 0]/\∃b:Nat,ag N e b5 [.int .u64 (b:Int),Δ (m:Int)]/\mm b m/\∀j:Nat,b.testBit j=(decide (j<m)&& !(decide (j<q+1)&&mk.testBit j))) ?_ ?_
  .rintro N bh;rw[aN];exact bg _ bh
  intro aA aE;have bi:mk / 2 ^ q<2 ^ 62:=Nat.lt_of_le_of_lt (Nat.div_le_self _ _) Ω;rw[aD,Ct Ω,show(1:Int)=((1:Nat):Int)from T,Ef bi Ω,be,al];have aF:(((mk / 2 ^ q &&& 1:Nat):Int)=((1:Nat):Int))↔mk.testBit q=true:=by rw[<-Eg];omega
  refine⟨λad=>?_,λae=>?_⟩
  .have ad:=aF.1 ad;rw[bR b5.p b5.i T (show B.rangeAt e 0 [.int .u64 (b:Int),Δ (m:Int)]from C.range)];apply(Le (v:=(q:Int)) K).mono;rintro _ bQ _ ⟨rfl,ai⟩;rw[if_pos ⟨Ω,Ω⟩,u7];refine cd (vs:=[.int .u64 ((j2 b (2 ^ q):Nat):Int),Δ (m:Int)]) b5.i T rfl (by intro u hu;simp at hu;rcases hu with rfl|rfl<;>rfl) (C.ext ai) λbS aG bT bj=>?_;have aI:∀j:Nat,(j2 b (2 ^ q)).testBit j=(decide (j<m)&& !(decide (j<q+1)&&mk.testBit j)):=λj=>by
    rw[Bk,M,Nat.testBit_two_pow];by_cases aJ:j<m
    .by_cases O:j=q
     .subst O;simp[ad]
     .have aj:decide (j<q+1)=decide (j<q):=decide_eq_decide.2 ⟨λh=>Ω,λh=>Ω⟩;rw[aj,decide_eq_true aJ,decide_eq_true (show j<64 by omega),decide_eq_false (show¬q=j from λh=>O h.symm)];simp
    .simp[aJ]
   refine aE _ ⟨(H.trans ai).then aG λr bU he=>by have he:r=e:=he;omega,(I.ext ai).ab aG λhe=>bd he,_,bj,⟨Ω,K5 λj aK=>by rw[aI,decide_eq_false Ω];rfl⟩,aI⟩
  .have ae:mk.testBit q=false:=by simpa using λh=>ae (aF.2 h)
   refine aE _ ⟨H,I,b,C,K,λj=>?_⟩;rw[M];by_cases O:j=q
   .subst O;simp[ae]
   .have aj:decide (j<q+1)=decide (j<q):=decide_eq_decide.2 ⟨λh=>Ω,λh=>Ω⟩;rw[aj]
 .rintro B bf ⟨H,I,b,C,K,M⟩;apply b4 Ω;rw[bR b5.p b5.i T (show B.rangeAt e 0 [.int .u64 (b:Int),Δ (m:Int)]from C.range)];refine cd (vs:=[.int .u64 (b:Int),Δ (m:Int)]) b5.i T rfl (by intro u hu;simp at hu;rcases hu with rfl|rfl<;>rfl) I λbV bk bW bl=>?_;rw[fQ b5.p b5.i T bl.range];refine⟨⟨b,m,T,K,λh=>absurd a h,λy ap aL=>?_⟩,H.put bk Ω⟩;rw[E]at aL;cases aL;refine⟨Ω,λj=>?_⟩;rw[M,aD,PL,show x.un.length=m by omega];by_cases aK:j<m<;>simp[aK]
def Ek{f:bU}(e:bi k sizes s)(ae:f∈s.funs):cb f.aj/\f.cs.length=(aQ f.aj).toNat/\aQ f.aj<=4096:=by
 have⟨a,U,_⟩:=e.funs f ae;rw[U];refine⟨⟨?_,pR e.fz.2.2 λv ad=>⟨(a.scope.1 v ad).1,a.vars v ad⟩⟩,a.len,a.small⟩;have:=a.scope.2;simp[bX];exact this
def ha(s:ap)(j:Nat)(tl:Λ):Option Nat:=match s.funs[j]? with
 |some f=>if f.live≠0 then(cq f.aj tl 0).map λm=>eZ s j+1+m.toNat else ν
 |none=>ν
def my(s:ap)(j:Nat)(tl:Λ):Int:=match s.funs[j]? with
 |some f=>bl f.aj f.cs tl
 |none=>0
def El(h:bx w af gT A R n s t)(J:aI .i64 w aM tl):am x7 H0 [Γ af,Δ (j:Int),aM] w λv w'=>v=Δ (match ha s j tl with|some p=>(p:Int)|none=>-1)/\Ext w w':=by
 apply az func102;apply(rK h).mono;rintro _ V _ ⟨rfl,z⟩;rw[decide_eq_true Ω,U8,u7,bK,ca];refine⟨λa=>⟨?_,z⟩,λa=>?_⟩
 .have a:ff s j=false:=by simpa using a
  have:ha s j tl=ν:=by
   unfold ha;unfold ff at a;cases ae:s.funs[j]? with
   |none=>rfl
   |some f=>
    rw[ae]at a;have a:f.live=0:=by simpa using a
    simp[a]
  rw[this]
 have a:ff s j=true:=by simpa using a
 obtain⟨f,ae,K⟩:∃f,s.funs[j]?=σ f/\f.live≠0:=by
  unfold ff at a;cases ae:s.funs[j]? with
  |none=>rw[ae]at a;cases a
  |some f=>rw[ae]at a;exact⟨f,T,by simpa using a⟩
 have⟨G,ab,ac⟩:=Ek h.2.2.2.1 (x5 ae);have⟨M,N,O,P,a1,H,L,Q,B,S,U,W,r,x⟩:=(h.ext z).1.parts;obtain⟨y,e⟩:∃y,L[j]?=σ y:=⟨_,x6 (by rw[x.1];exact(x4.1 ae).1)⟩;have C:=(x4.1 e).1;have⟨_,X,I⟩:=x.2 j y f e ae;have Y:V.rangeAt H (j*3+1) [y.szv]:=λq v ad=>by
  match q,ad with
  |0,ad=>cases ad;exact r.range e 1 _ T
 rw[aT cI.p 3 B T,dw T fK.u fo.i r C,aU fo.p T,bR (cs:=[y.szv]) bF.p bF.i T Y];apply(AM X.ls (J.ext z) G).mono;rintro _ aa _ ⟨rfl,Z⟩;have E:=z.trans Z;unfold ln ha;rw[ae];simp only[if_pos K];cases hi:cq f.aj tl 0 with
 |none=>
  simp only[Option.map_none];rw[bo,bp,bB,al];exact⟨λ_=>⟨trivial,E⟩,λh=>absurd (show(3:Int)≠0 by decide) h⟩
 |some m=>
  simp only[Z6];rw[bo,bp,bB,al];refine⟨λh=>absurd T h,λ_=>?_⟩;have ag:=n8 G.2 hi;have ah:=xC ae;have ai:=p1 h.2.1 h.2.2.1;have⟨M,N,O,P,a1,H,L,Q,B,S,U,W,r,x⟩:=(h.ext E).1.parts;obtain⟨y,e⟩:∃y,L[j]?=σ y:=⟨_,x6 (by rw[x.1];exact(x4.1 ae).1)⟩;have C:=(x4.1 e).1;have⟨_,_,I⟩:=x.2 j y f e ae;rw[aT cI.p 3 B T,dw T fK.u fo.i r C,aU fo.p T,ax (v:=Δ (y.at_:Int)) Ψ (r.range e 2 _ T),I,aN,wrap_i64 Ω Ω,aN,wrap_i64 Ω Ω];refine⟨?_,E⟩;congr 1;omega
def xG{p:Nat}(a:bi k sizes s)(h:ha s j tl=σ p):s.cells[p]?=σ (my s j tl)/\∃f,s.funs[j]?=σ f/\f.live≠0/\∃m:Nat,cq f.aj tl 0=σ (m:Int)/\m<f.cs.length/\p=eZ s j+(m+1):=by
 unfold ha at h;cases ae:s.funs[j]? with
 |none=>rw[ae]at h;cases h
 |some f=>
  rw[ae]at h;simp only at h;split at h
  .rename_i e;obtain⟨m,hm,rfl⟩:=X1.1 h;have⟨r,w,x⟩:=Ek a (x5 ae);have:=n8 r.2 hm;obtain⟨q,rfl⟩:∃q:Nat,m=q:=⟨m.toNat,Ω⟩;refine⟨?_,f,T,e,q,hm,Ω,Ω⟩;rw[show eZ s j+1+(q:Int).toNat=eZ s j+(q+1) by omega,xf ae Ω];unfold my bl;rw[ae];simp only[hm];show f.cs[q]?=_;rw[u7,u4,x6 Ω];rfl
  .cases h
def xH(h:bx w af gT A R n s t)(e:aI .i64 w aM tl):am x7 zP [Γ af,Δ (j:Int),aM] w λv w'=>v=(if(ha s j tl).isSome then .tuple #[Δ (my s j tl),Δ 0]else .tuple #[Δ 0,Δ 1])/\Ext w w':=by
 apply az func51;rw[di dd.u];simp only[Z5,a8];apply(El h e).mono;rintro _ V _ ⟨rfl,a⟩;cases f:ha s j tl with
 |none=>
  simp only;rw[aP,al];exact⟨λ_=>⟨T,a⟩,λh=>Ω⟩
 |some p=>
  simp only;apply b4 Ω;have⟨y,z,B,C,a1,E,L,G,q,H,r,I,J,K⟩:=(h.ext a).1.parts;rw[aT cI.p 1 q T];refine(oD (i:=p) r T (by rw[h.2.1];exact(xG h.2.2.2.1 f).1)).mono ?_;rintro _ aa _ ⟨rfl,x⟩;exact⟨T,a.trans x⟩
end
def eS.parts{a:Nat}{e f r:x1}{A R:ak}{n:aG}{s:ap}{t:aD}(h:eS w af gT a e f r A R n s t):∃a1 p L q,ag w af cI [Γ a,Γ gT,e,f,r]/\gp w a n/\dz w gT q t/\av .i64 ah w a1 e (iM s)/\bk oE 3 fo w p f L/\lF R w L s:=by
 have⟨_,a1,p,ge,L,E,q,w0,x,⟨y,z,H⟩,⟨B,I,J,K⟩,C,⟨F,G⟩,M,N⟩:=h;exact⟨a1,p,L,q,x,y.ext z,B,C,F,G⟩
def Em{a b:Int}(e:0<=a/\a<=k)(f:0<=b/\b<=k)(hk:1<=k/\k<=2147483648):am x7 zR [Δ a,Δ b,Δ k] w λv w'=>v= .tuple #[Δ (min (a+b) k),Δ 0]/\Ext w w':=by
 apply wz.mono;rintro _ V _ ⟨rfl,J⟩;refine⟨?_,J⟩;unfold om;rw[if_pos ⟨⟨hk,e.1,e.2⟩,hk,f.1,f.2⟩]
def Room(t:aD):Prop:=t.marks=[]\/t.olds.length<100000000
def eo(s:ap)(i v:Nat):ap:=match s.vars[i]? with
 |some x=>{s with vars:=s.vars.set i {x with mask:=((x.mask.toNat ||| 2 ^ v:Nat):Int)}}
 |none=>s
def bi.ur{s:ap}{i:Nat}{x y:bC}(h:bi k sizes s)(J:s.vars[i]?=σ x)(r:y.un.length=x.un.length)(w:∀c∈y.un,0<=c/\c<=k)(hm:0<=y.mask/\y.mask<4294967296):bi k sizes {s with vars:=s.vars.set i y}:=
 ⟨h.eg,h.fz,h.zero,by show(s.vars.set i y).length=_;rw[c9];exact h.vars,λp z q a e=>by
  have a:(s.vars.set i y)[p]?=σ z:=a;rw[X0]at a;by_cases f:i=p
  .subst f;rw[if_pos T,if_pos (x4.1 J).1]at a;cases a;exact⟨r.trans (h.var i x q J e).1,w,hm⟩
  .rw[if_neg f]at a;exact h.var p z q a e,h.funs⟩
def bi.En{s:ap}{f g:bU}(h:bi k sizes s)(ae:s.funs[j]?=σ f)(h1:g.sc=f.sc)(a:g.aj=f.aj)(e:g.cs.length=f.cs.length)(p:∀c∈g.cs,0<=c/\c<=k):bi k sizes {s with funs:=s.funs.set j g}:=
 ⟨h.eg,h.fz,h.zero,h.vars,h.var,λx J=>by
  rcases W0 J with J|rfl
  .exact h.funs x J
  .obtain⟨⟨q,r,w,y,z,C⟩,A,B⟩:=h.funs f (x5 ae);refine⟨⟨?_,?_,?_,?_,?_,p⟩,?_,?_⟩
   .show jI x.sc;rw[h1];exact q
   .show x.sc.Pairwise _;rw[h1];exact r
   .show ∀v∈x.sc,_;rw[h1];exact w
   .show x.cs.length=(aQ (bX sizes x.sc)).toNat;rw[h1,e];exact y
   .show aQ (bX sizes x.sc)<=_;rw[h1];exact z
   .rw[h1,a];exact A
   .rw[h1];exact B⟩
def PM{r:Nat}{c:List x1}(a:ag w r e c)(he:¬(e=fM\/e=eL\/e=lg\/e=gD\/e=cI\/e=fo\/e=vN)):¬ew w r:=by
 rintro (⟨q,s,f,h⟩|p)
 .rw[eQ a f]at he;exact he h
 .exact p _ a T
section
variable{w:x3}{af gT:Nat}{A R:ak}{n:aG}{s:ap}{t:aD}
def nk.set(h:nk t)(a:Room t)(p:Nat)(x:Int):nk (t.set p x):=by
 refine⟨by rw[aD.DI];exact h.1,?_,by rw[aD.xh];exact h.2.2⟩;rcases a with a|a
 .rw[aD.xi a];exact h.2.1
 .have:=aD.DJ t p x;omega
def Eo{s':ap}{p:Nat}{x:Int}(h:bx w af gT A R n s t)(z:y=(p:Int))(a:p<s.cells.length)(B:s.cells.set p x=s'.cells)(U:oF s s')(C:bi n.k n.sizes s')(E:Room t):
  am x7 zY [Γ gT,Δ y,Δ x] w λr w'=>r=Δ 0/\ai (ew w) w w'/\∃aR,Grow A w aR w'/\bx w' af gT aR R n s' (t.set p x):=by
 have⟨G,ad,q,_,H⟩:=id h;have⟨I,J,K⟩:=G.rF;have L:p<t.cells.length:=by rw[<-ad]at a;unfold aD.bY at a;rw[r8]at a;exact a
 apply(ue J.min z L q).mono;rintro _ V _ ⟨rfl,M,e,N⟩;have⟨aR,O,P⟩:=K (λr=>I r\/M r) V _ ⟨e.1.mono λr _ h=>h.1,λr f=>f.elim .inl λh=>(e.2.1 r h).imp (λh=>h.1) id,λr f=>.inl f⟩ (N.mono λr h=>.inr h);exact⟨T,e.1.mono λr _ h=>.inl h.2,aR,O,P.same U,by rw[aD.qN,ad,B],q.set E p x,C,H⟩
def xI{i v:Int}(h:bx w af gT A R n s t)(K:Room t):am x7 Hu [Γ af,Δ i,Δ v] w λr w'=>(¬fB n i v->r=Δ 1/\Ext w w')/\
  (fB n i v->r=Δ 0/\ai (ew w) w w'/\∃aR x,Grow A w aR w'/\bx w' af gT aR R n (eo s i.toNat v.toNat) (t.set (fY s i.toNat+1) x)):=by
 apply az func61;rw[di dd.u];simp only[Z5,a8];apply(xF h).mono;rintro _ V _ ⟨rfl,f⟩;by_cases e:fB n i v
 rotate_left
 .rw[if_neg e,aP,al];exact⟨λ_=>⟨λ_=>⟨by trivial,f⟩,λh=>absurd h e⟩,λh=>Ω⟩
 rw[if_pos e];apply b4 Ω;have⟨x,a,M,ac,ad⟩:=e.var h.2.2.2.1;have⟨h1,ae,ag,aj⟩:=id e;have:=h.2.2.2.1.vars;have⟨z,N⟩:=aH (l:=n.sizes) (i:=i.toNat) Ω;have⟨_,O,ao,ap⟩:=h.2.2.2.1.var i.toNat x z a N;have:=um a;have:=p1 h.2.1 h.2.2.1;have⟨av,aw,ax,ay,P⟩:=(h.ext f).1;have⟨a1,aA,L,aB,G,aC,Q,S,aD,aE⟩:=P.parts;rw[aT cI.p 2 G T,fP (y:=i) (i:=i.toNat) Ω an.u ah.i Ψ S.ls (ul Ω),aN,wrap_i64 Ω Ω];intro aa B _ _;have U:=f.trans B;have H:=G.ext B;have W:=Q.ext B;obtain⟨q,rfl⟩:∃q:Nat,v=q:=⟨v.toNat,Ω⟩;obtain⟨mk,I⟩:∃mk:Nat,x.mask=mk:=⟨x.mask.toNat,Ω⟩;rw[u7]at M;rw[aT cI.p 1 H T,aT cI.p 1 H T,PK Ω];have X:t.bY[fY s i.toNat+1]?=σ x.mask:=by rw[h.2.1,rz a Ω];rfl
 apply(oD (i:=fY s i.toNat+1) W Ω X).mono;rintro _ aF _ ⟨rfl,J⟩;refine⟨.inl J,?_⟩;have aG:(2:Nat) ^ q<=2 ^ 31:=S2 Ω Ω;rw[I,PJ Ω Ω];have C:=U.trans J;have:mk ||| 2 ^ q<2 ^ 32:=Nat.or_lt_two_pow Ω Ω;have E:eo s i.toNat (q:Int).toNat={s with vars:=s.vars.set i.toNat {x with mask:=((mk ||| 2 ^ q:Nat):Int)}}:=by
  unfold eo;rw[a];simp only[I,u7]
 refine(Eo (p:=fY s i.toNat+1) (s':=eo s i.toNat (q:Int).toNat) (h.ext C) Ω Ω ?_ ?_ ?_ K).mono ?_
 .rw[E,DA a Ω];rfl
 .rw[E];exact DG a T
 .rw[E];exact h.2.2.2.1.ur a T O ⟨by simp only;omega,by simp only;omega⟩
 rintro _ aJ _ ⟨rfl,Y,aR,Z,ab⟩;exact⟨λh=>absurd e h,λ_=>⟨T,kf C Y,aR,_,(Grow.ext C).trans Z,ab⟩⟩
end
def xJ{dn:x1}{v:Int}(h:aI .i64 w dn l):am x7 Ii [dn,Δ v] w λr w'=>r= .bool (decide (v∈l))/\Ext w w':=by
 apply az func137;rw[aW an.u h];refine bT.range l.length (λi _ V=>Ext w V/\v∉l.take i) h.le ⟨Ext.refl _,Ξ⟩ ?_ ?_
 .rintro i _ V k hi ⟨J,a⟩ hk;have⟨x,e⟩:=aH (l:=l) hi;apply bz Ω;rw[bc an.u ah.i Ψ (h.ext J) e,be,al];refine⟨λhe=>⟨by rw[decide_eq_true];rw[<-he];exact x5 e,J⟩,λf=>?_⟩;rw[aN];refine hk _ _ ⟨J,λhm=>?_⟩;rw[u9,e,n9,o5,o9]at hm;rcases hm with hm|hm
  .exact a hm
  .exact f hm.symm
 .rintro _ V k ⟨J,a⟩;rw[o6]at a;rw[aP,al];exact⟨λh=>Ω,λ_=>⟨by rw[decide_eq_false a],J⟩⟩
def PN{x:bC}{v:Int}(h:0<=v/\v<x.un.length):v∈aC x↔dropped x.mask v=false:=by
 unfold aC;rw[T4,j5];constructor
 .rintro⟨_,a⟩;simpa using a
 .intro a;exact⟨⟨v.toNat,T8.2 Ω,Ω⟩,by simp[a]⟩
def du(s:ap):Prop:=∀f∈s.funs,f.live≠0->∀v∈f.sc,∀x,s.vars[v.toNat]?=σ x->x.gone=0
def gp.put{g y:Nat}{c:List x1}{n:aG}(h:gp w y n)(a:ag w g aX c)(f:ai (λr=>r=g) w w'):gp w' y n:=by
 have q:=Ee a;have z:∀r,r=g->∃e c,ag w r e c/\e≠hF/\e≠cX/\e≠ah/\e≠aq/\e≠ay:=λr p=>by
  subst p;exact⟨_,c,a,Φ,Φ,Φ,Φ,Φ⟩
 have⟨A,B,C,E,gr,aY,L,nm,szv,gz,fv2,h1,F,G,H,I,J,K⟩:=h;refine⟨A,B,C,E,gr,aY,L,nm,szv,gz,fv2,xA h1 f q Φ,xA F f q Φ,xz G f q Φ,H.ab f λr p=>?_,I,J.ab f λr p=>?_,K⟩
 .obtain⟨e,c,a,_,_,_,s,x⟩:=z r p;exact⟨e,c,a,s,x⟩
 .obtain⟨e,c,a,s,x,M,N,_⟩:=z r p;exact⟨e,c,a,s,x,M,N⟩
def StateM.put{g:Nat}{A R:ak}{n:aG}{s:ap}{t:aD}{c:List x1}(h:StateM w af gT A R n s t)(y:ag w g aX c)(p:ai (λr=>r=g) w w')(Q:¬A g):∃R',(∀r,R' r->R r/\r≠g)/\StateM w' af gT A R' n s t:=by
 have⟨S,V,W,X,⟨h1,Y,Z,aa⟩,a1,ac,ge,L,E,ad,w0,ah,⟨I,C,aj⟩,⟨al,K,am,an⟩,ao,⟨aq,M⟩,au,N⟩:=h;have⟨cw,O⟩:=Dt;have z:=p.size;have q:=Ee y;have B:∀r,(w0.heap.setIfInBounds g cw)[r]?=if g=r then(if g<w0.heap.size then σ cw else ν)else w0.heap[r]?:=λr=>Array.getElem?_setIfInBounds;have av:∀r,A r->r≠g:=λr a he=>Q (he▸a);have int:∀{v:x1}{l:Λ},jh R w v l->jh (λr=>R r/\r≠g) w' v l:=λ⟨⟨aw,hm⟩,ax⟩=>⟨⟨aw,xz hm p q Φ⟩,λr a=>⟨ax r a,ch hm y Φ a⟩⟩;refine⟨λr=>R r/\r≠g,λr h=>h,S,V,W,X,⟨h1,λr a ay=>Y r a ay.1,λr a=>by have:=Z r a.1;omega,λr a=>by have:=aa r a;omega⟩,a1,ac,ge,L,E,ad,{w0 with heap:=w0.heap.setIfInBounds g cw},xA ah p q Φ,⟨?_,?_,?_⟩,
  ⟨al.ab p λr a=>av r (K r a),K,am,an⟩,xz ao p q Φ,⟨Ed aq p q Φ,M.1,λj x f J ae=>?_⟩,Ed au p q Φ,N.1,λj x e J he=>?_⟩
 .by_cases U:∃o,w0.heap[g]?=σ o/\fH o=true
  .obtain⟨o,P,az⟩:=U;have aA:ag w0 g aX c:=by
    unfold ag at y ⊢;have:=C.a6 g o P az;rw[y]at this;rw[P,this]
   refine I.put aA ⟨Ξ,λr o a U aB=>?_⟩;show(w0.heap.setIfInBounds g cw)[r]?=σ o;rw[B,if_neg λhe=>aB he.symm];exact a
  .refine I.ext ⟨Ξ,λr o a aC=>?_⟩;show(w0.heap.setIfInBounds g cw)[r]?=σ o;rw[B,if_neg λhe=>U ⟨o,by rw[he];exact a,aC⟩];exact a
 .refine⟨by show(w0.heap.setIfInBounds g cw).size<=_;rw[Array.size_setIfInBounds];exact Y9 C.size z,λr o a U=>?_⟩;have a:(w0.heap.setIfInBounds g cw)[r]?=σ o:=a;rw[B]at a;by_cases he:g=r
  .rw[if_pos he]at a;split at a
   .cases a;rw[O]at U;cases U
   .cases a
  .rw[if_neg he]at a;exact p.a6 r o (C.a6 r o a U) U λh=>he h.symm
 .intro r o a U;have a:(w0.heap.setIfInBounds g cw)[r]?=σ o:=a;rw[B]at a;by_cases he:g=r
  .rw[if_pos he]at a;split at a
   .cases a;rw[O]at U;cases U
   .cases a
  .rw[if_neg he]at a;exact⟨aj r o a U,λh=>he h.symm⟩
 .obtain⟨F,G,H⟩:=M.2 j x f J ae;exact⟨int F,int G,H⟩
 .obtain⟨F,G,H⟩:=N.2 j x e J he;exact⟨F,int G,int H⟩
def PO{f:b3}(p:pl.length<=60000)(h:fs pl=σ f):∃N,N<=60000/\e8 N f/\f.name≠[]/\∀b∈f.name,bO b=true:=by
 unfold fs at h;rw[if_neg Ω]at h;cases a:hn ⟨(lex pl).1,0,false,[]⟩with
 |none=>rw[a]at h;cases h
 |some q=>
  have⟨r,s⟩:=q;rw[a]at h;simp only at h;split at h
  .rename_i aB;cases h;have⟨h1,e⟩:=BS T a aB.2.2;have:=pw pl.length pl (o4 _);have⟨V,aa,_⟩:=s4 pl.length pl (o4 _) f.name e;exact⟨_,by show(lex pl).1.length<=60000;omega,h1,V,aa⟩
  .cases h
def PP:am x7 zQ [.pointer ν] w λv w'=>v= .pointer ν/\Ext w w':=by
 apply az func58;rw[di mS.u];simp only[Option.isNone_none,bV];exact⟨by trivial,Ext.refl _⟩
def PQ(h:aI .u8 w v l)(C:l.length<=100000):am x7 Ho [v] w λf w'=>Ext w w'/\∃g,av .u8 cJ w' g f l:=by
 have e:=h;obtain⟨E,b,o,base,cap,rfl,G,hm,s,x⟩:=h;apply az func54;rw[mW cN.u,ca];refine⟨λy=>⟨Ext.refl _,0,?_⟩,λ_=>?_⟩
 .have:l=[]:=by
   cases base with
   |none=>
        by_cases e:0<l.length
        .have:=s e;cases this
        .exact j6 Ω
   |some a=>cases y
  subst this;exact av.nil _ _ _ _
 .refine xB (k:=.u8) cN.u cJ.i λH g1 V I p q=>?_;refine hY cN.u cJ.i T q (e.ext p) Θ Θ λf z aa A J B=>?_;exact⟨p.then B (λr x he=>by have:=(bS q he).1;omega),z,by simpa using A⟩
def PR(sv:x1):Prop:=∃cs:List x1,sv= .agg cs.toArray/\cs.length=8/\∀u∈cs,u.oneCell'=true
def Ep:PR (.agg z12.toArray):=⟨z12,T,T,by intro u hu;simp[z12]at hu;rcases hu with rfl|rfl|rfl|rfl<;>rfl⟩
def xK{f:b3}(a:e8 N f):(cS f).funs.length<=256:=by
 have:=(pT a).2.length_eq;have:=(kQ a).2.2;have:=R5 fu (fj f);have:=a.lr;have e:=(oA f (fv f).length).2.2.2;rw[ry]at e;omega
def PS{n:aG}{t:aD}(e:kd n)(ae:n.funs.length<=256)(ad:t.bY=(dh n).cells)(a:Plain t):nk t:=by
 have h1:=ui e ae n.unary.length n.funs.length;rw[xn,<-ad]at h1;unfold aD.bY at h1;rw[r8]at h1;refine⟨Ω,?_,?_⟩
 .rw[a.2.1];exact X5 _
 .rw[a.1];exact X5 _
section
variable{w:x3}{af gT:Nat}{A R:ak}{n:aG}{s:ap}{t:aD}
def Er{j:Int}(h:bx w af gT A R n s t)(p:¬(0<=j/\j<s.funs.length)):am x7 qA [Γ af,Δ j] w λr w'=>r= .slice ν 0 0/\Ext w w':=by
 apply az func76;refine aV (λv V=>v= .bool true/\Ext w V) ?_ ?_
 .rintro _ V ⟨rfl,e⟩;rw[bV];exact⟨T,e⟩
 intro aA a;rw[aP,al];refine⟨λ_=>a _ _ ⟨T,Ext.refl _⟩,λq=>?_⟩;apply(rJ h).mono;rintro _ x _ ⟨rfl,f⟩;rw[cO];exact a _ _ ⟨by rw[decide_eq_true Ω],f⟩
end
section
variable{w:x3}{B:Nat}{sv:x1}{k:Int}{sizes:Λ}{s:ap}
end
def gK:List (Λ)->List (Λ)
 |[]=>[[]]
 |d::a=>d.flatMap λv=>(gK a).map (v:: ·)
theorem ut:∀{e:List (Λ)}{t:Λ},t∈gK e↔t.length=e.length/\∀(p:Nat)d v,e[p]?=σ d->t[p]?=σ v->v∈d
 |[],t=>by
  simp only[gK,o9];exact⟨λh=>by subst h;exact⟨T,λp d v h=>by simp at h⟩,λh=>j6 h.1⟩
 |d::e,t=>by
  simp only[gK,R2,j5];constructor
  .rintro⟨v,ad,bt,r,rfl⟩;have⟨h1,f⟩:=ut.1 r;refine⟨by simp[h1],λp q u a hu=>?_⟩;cases p with
   |zero=>simp at a hu;subst a hu;exact ad
   |succ p=>exact f p q u (by simpa using a) (by simpa using hu)
  .rintro⟨h1,f⟩;cases t with
   |nil=>simp at h1
   |cons v bt=>exact⟨v,f 0 d v T rfl,bt,ut.2 ⟨by simpa using h1,λp q u a hu=>f (p+1) q u (by simpa using a) (by simpa using hu)⟩,T⟩
def ns:List (Int->Bool)->Λ->Bool
 |q::a,v::t=>q v&&ns a t
 |_,_=>true
theorem Es:∀(r:List (Λ))(a:List (Int->Bool)),a.length=r.length->gK ((r.zip a).map λp=>p.1.filter p.2)=(gK r).filter (ns a)
 |[],[],_=>rfl
 |d::r,q::a,h=>by
  have s:=Es r a (by simpa using h);simp only[List.zip_cons_cons,U7,gK];rw[s];clear s h;induction d with
  |nil=>rfl
  |cons v d w=>
   rw[X8,List.filter_append,<-w];have e:((gK r).map (v:: ·)).filter (ns (q::a))=if q v then((gK r).filter (ns a)).map (v:: ·)else[]:=by
    rw[List.filter_map];by_cases f:q v=true
    .rw[if_pos f];congr 1;apply List.filter_congr;intro t _;show(q v&&ns a t)=_;rw[f,U8]
    .rw[if_neg f];rw[List.filter_eq_nil_iff.2 λt _=>by show¬(q v&&ns a t)=true;simp[f]];rfl
   rw[e];by_cases f:q v=true
   .rw[if_pos f,List.filter_cons_of_pos f,X8]
   .rw[if_neg f,List.filter_cons_of_neg f];rfl
def hZ(k:Int):Λ:=(Y1 k.toNat).map λv:Nat=>(v:Int)
theorem xL:∀(s:Λ),bm s=gK (s.map hZ)
 |[]=>rfl
 |k::s=>by
  simp only[bm,U7,gK,hZ,List.flatMap_map,<-xL s]
def uu{v:Int}:v∈hZ k↔0<=v/\v<k:=by
 unfold hZ;rw[j5];constructor
 .rintro⟨n,a,rfl⟩;have:=T8.1 a;omega
 .intro h;exact⟨v.toNat,T8.2 Ω,Ω⟩
def dH(f:Int->Int)(L:List (Λ))(aj cs:Λ):Λ:=((bm aj).zip cs).map λp=>if p.1∈L then f p.2 else p.2
def oK(f:Int->Int)(L:List (Λ))(aj cs:Λ)(h:cs.length<=(bm aj).length):(dH f L aj cs).length=cs.length:=by
 unfold dH;rw[r8,List.length_zip];omega
def p3{f:Int->Int}{L:List (Λ)}{i:Nat}(a:(bm aj)[i]?=σ t)(e:cs[i]?=σ c):(dH f L aj cs)[i]?=σ (if t∈L then f c else c):=by
 unfold dH;have h:((bm aj).zip cs)[i]?=σ (t,c):=List.getElem?_zip_eq_some.2 ⟨a,e⟩;rw[x8,h];rfl
def PT{f:Int->Int}{L:List (Λ)}{i:Nat}(U:dP aj)(q:cs.length<=(bm aj).length)(p:(bm aj)[i]?=σ t)(r:cs[i]?=σ c)(x:t∉L):(dH f L aj cs)[i]?=σ c/\(dH f L aj cs).set i (f c)=dH f (L++[t]) aj cs:=by
 have h1:=p3 (f:=f) (L:=L) p r;rw[if_neg x]at h1;refine⟨h1,?_⟩;apply Y4;intro j;rw[X0];by_cases s:i=j
 .subst s;rw[if_pos T,if_pos (x4.1 h1).1,p3 p r,if_pos Ξ]
 .rw[if_neg s];cases a:cs[j]? with
  |none=>
   have:=List.getElem?_eq_none_iff.1 a;rw[Z2 (by rw[oK _ _ _ _ q];exact this),Z2 (by rw[oK _ _ _ _ q];exact this)]
  |some A=>
   obtain⟨u,hu⟩:∃u,(bm aj)[j]?=σ u:=⟨_,x6 (by have:=(x4.1 a).1;omega)⟩;rw[p3 hu a,p3 hu a];have y:u≠t:=λhe=>by
    subst he;have z:=jG U p;have w:=jG U hu;rw[z]at w;have:=b9 w;omega
   have:u∈L++[t]↔u∈L:=by simp[y]
   by_cases e:u∈L
   .rw[if_pos e,if_pos (this.2 e)]
   .rw[if_neg e,if_neg λh=>e (this.1 h)]
def kX(s:ap)(i v:Nat)(c:Int):ap:=match s.vars[i]? with
 |some x=>{s with vars:=s.vars.set i {x with un:=x.un.set v c}}
 |none=>s
def kY(s:ap)(j m:Nat)(c:Int):ap:=match s.funs[j]? with
 |some f=>{s with funs:=s.funs.set j {f with cs:=f.cs.set m c}}
 |none=>s
def rL{i:Nat}(h:∀x∈l,0<=x/\x<=k)(a:0<=c/\c<=k):∀x∈l.set i c,0<=x/\x<=k:=λx J=>by
 rcases W0 J with J|rfl
 .exact h x J
 .exact a
def nt(w:x3)(af gT:Nat)(A R:ak)(n:aG)(s':ap)(t:aD)(v:x1)(w':x3):Prop:=v=Δ 0/\ai (ew w) w w'/\∃aR p x,Grow A w aR w'/\bx w' af gT aR R n s' (t.set p x)
def nt.ext{A R:ak}{n:aG}{s':ap}{t:aD}(J:Ext w V)(h:nt V af gT A R n s' t v w'):nt w af gT A R n s' t v w':=by
 have⟨h1,a,aR,p,x,e,f⟩:=h;exact⟨h1,kf J a,aR,p,x,(Grow.ext J).trans e,f⟩
section
variable{w:x3}{af gT:Nat}{A R:ak}{n:aG}{s:ap}{t:aD}
def rM(h:bx w af gT A R n s t)(f:y<0\/¬(0<=c/\c<=n.k)):am x7 Ak [Γ af,Δ y,Δ c] w λv w'=>v=Δ (if y<0 then 1 else 3)/\Ext w w':=by
 apply az func269;rw[di dd.u];simp only[Z5,a8];rw[aP,al];refine⟨λe=>⟨by rw[if_pos e],Ext.refl _⟩,λe=>?_⟩;apply(ki h).mono;rintro _ V _ ⟨rfl,p⟩;apply(j1 (a:=c) (k:=n.k)).mono;rintro _ aa _ ⟨rfl,q⟩;have r:=f.resolve_left e;rw[decide_eq_false (λh=>r h.2),bK,W3,bV,if_neg e];exact⟨T,p.trans q⟩
def xM{s':ap}{p:Nat}(h:bx w af gT A R n s t)(f:Room t)(q:y=(p:Int))(r:p<s.cells.length)(x:s.cells.set p c=s'.cells)(U:oF s s')(z:bi n.k n.sizes s')(B:0<=c/\c<=n.k):
  am x7 Ak [Γ af,Δ y,Δ c] w (nt w af gT A R n s' t):=by
 apply az func269;rw[di dd.u];simp only[Z5,a8];apply b4 Ω;apply(ki h).mono;rintro _ V _ ⟨rfl,C⟩;apply(j1 (a:=c) (k:=n.k)).mono;rintro _ aa _ ⟨rfl,E⟩;have e:=C.trans E;rw[decide_eq_true (show cu c n.k from⟨h.2.2.2.1.eg,B⟩),bK,Y7,a8];have⟨K,M,N,O,a1,P,L,Q,G,S,W,X,Y,Z⟩:=(h.ext e).1.parts;rw[aT cI.p 1 G T];apply(Eo (h.ext e) q r x U z f).mono;rintro _ ab _ ⟨rfl,H,aR,I,J⟩;exact nt.ext e ⟨T,H,aR,_,_,I,J⟩
def PU(h:bx w af gT A R n s t)(e:Room t):am x7 Jg [Γ af,Δ c] w λv w'=>(¬(0<=c/\c<=n.k)->v=Δ 3/\Ext w w')/\((0<=c/\c<=n.k)->nt w af gT A R n {s with zero:=c} t v w'):=by
 apply az func222;by_cases a:0<=c/\c<=n.k
 .refine (xM (p:=0) h e T (by unfold ap.cells jg;simp) (OO s c) (DF s c) ⟨h.2.2.2.1.eg,h.2.2.2.1.fz,a,h.2.2.2.1.vars,h.2.2.2.1.var,h.2.2.2.1.funs⟩ a).mono ?_;rintro v V _ f;exact⟨λh=>absurd a h,λ_=>f⟩
 .refine (rM h (.inr a)).mono ?_;rintro v V _ ⟨rfl,q⟩;exact⟨λ_=>⟨T,q⟩,λh=>absurd h a⟩
def Et{i v:Int}(h:bx w af gT A R n s t)(C:Room t):am x7 Jf [Γ af,Δ i,Δ v,Δ c] w λr w'=>
  (¬fB n i v->r=Δ 1/\Ext w w')/\(fB n i v->¬(0<=c/\c<=n.k)->r=Δ 3/\Ext w w')/\(fB n i v->(0<=c/\c<=n.k)->nt w af gT A R n (kX s i.toNat v.toNat c) t r w'):=by
 apply az func221;apply(xF h).mono;rintro _ V _ ⟨rfl,e⟩;by_cases a:fB n i v
 .rw[if_pos a];by_cases q:0<=c/\c<=n.k
  .obtain⟨x,f,I,J,_⟩:=a.var h.2.2.2.1;have:=h.2.2.2.1.vars;obtain⟨z,E⟩:∃z,n.sizes[i.toNat]?=σ z:=⟨_,x6 (by have:=a.1;have:=a.2.1;omega)⟩;have⟨_,G,hm⟩:=h.2.2.2.1.var i.toNat x z f E;have:=um f;have y:kX s i.toNat v.toNat c={s with vars:=s.vars.set i.toNat {x with un:=x.un.set v.toNat c}}:=by unfold kX;rw[f]
   refine(xM (p:=fY s i.toNat+(2+v.toNat)) (s':=kX s i.toNat v.toNat c) (h.ext e) C Ω Ω ?_ ?_ ?_ q).mono ?_
   .rw[y];apply DA f Ω;rw[show 2+v.toNat=v.toNat+1+1 by omega];rfl
   .rw[y];exact DG f Ξ
   .rw[y];exact h.2.2.2.1.ur f Ξ (rL G q) hm
   .rintro r aa _ H;exact⟨λh=>absurd a h,λ_ h=>absurd q h,λ_ _=>H.ext e⟩
  .refine (rM (h.ext e) (.inr q)).mono ?_;rintro r aa _ ⟨rfl,B⟩;rw[if_neg Ω];exact⟨λh=>absurd a h,λ_ _=>⟨T,e.trans B⟩,λ_ h=>absurd h q⟩
 .rw[if_neg a];apply(rM (h.ext e) (.inl Ω)).mono;rintro r aa _ ⟨rfl,B⟩;rw[if_pos Ω];exact⟨λ_=>⟨T,e.trans B⟩,λh=>absurd h a,λh=>absurd h a⟩
def PV(h:bx w af gT A R n s t)(B:Room t)(C:aI .i64 w aM tl):am x7 Je [Γ af,Δ (j:Int),aM,Δ c] w λr w'=>
  (ha s j tl=ν->r=Δ 1/\Ext w w')/\((ha s j tl).isSome=true->¬(0<=c/\c<=n.k)->r=Δ 3/\Ext w w')/\
  ((ha s j tl).isSome=true->(0<=c/\c<=n.k)->∀f (m:Nat),s.funs[j]?=σ f->cq f.aj tl 0=σ (m:Int)->nt w af gT A R n (kY s j m c) t r w'):=by
 apply az func220;apply(El h C).mono;rintro _ V _ ⟨rfl,a⟩;cases E:ha s j tl with
 |none=>
  simp only;apply(rM (h.ext a) (.inl Ω)).mono;rintro r aa _ ⟨rfl,q⟩;rw[if_pos Ω];exact⟨λ_=>⟨T,a.trans q⟩,λh=>by simp at h,λh=>by simp at h⟩
 |some p=>
  simp only;by_cases e:0<=c/\c<=n.k
  .obtain⟨I,f,ae,J,m,hm,K,rfl⟩:=xG h.2.2.2.1 E;have L:=xC ae;have x:kY s j m c={s with funs:=s.funs.set j {f with cs:=f.cs.set m c}}:=by unfold kY;rw[ae]
   have⟨G,_⟩:=h.2.2.2.1.funs f (x5 ae);refine(xM (p:=eZ s j+(m+1)) (s':=kY s j m c) (h.ext a) B T Ω ?_ ?_ ?_ e).mono ?_
   .rw[x];exact OP ae Ω T
   .rw[x];exact OY ae Ξ T rfl
   .rw[x];exact h.2.2.2.1.En ae T rfl Ξ (rL G.ih e)
   .rintro r aa _ H;refine⟨(λh=>by cases h),λ_ h=>absurd e h,λ_ _ M b2 y z=>?_⟩;rw[ae]at y;cases y;rw[hm]at z;have:b2=m:=by have:=b9 z;omega
    subst this;exact H.ext a
  .refine (rM (h.ext a) (.inr e)).mono ?_;rintro r aa _ ⟨rfl,q⟩;rw[if_neg Ω];exact⟨(λh=>by cases h),λ_ _=>⟨T,a.trans q⟩,λ_ h=>absurd h e⟩
end
end Go.Proofs.YtikkpokkcdocoabGreatDoor
