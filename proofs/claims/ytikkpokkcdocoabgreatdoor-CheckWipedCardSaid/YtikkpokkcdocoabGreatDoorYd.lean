/- own texts, made small by a tool (wip/ holds them as they were written): no statement of the seat. -/
import Derived.Test.YtikkpokkcdocoabGreatDoorYc
set_option linter.unusedVariables false
set_option linter.unusedSimpArgs false
set_option linter.unnecessarySimpa false
open Array renaming getElem?_eq_some_iff→l9
open BitVec renaming ofInt→U9
open Bool renaming not_true→X1,not_false→W7,and_eq_true→V7,eq_iff_iff→V9,true_and→T5,or_eq_false_iff→S5
open Decidable renaming not_not→Z9
open Go renaming Value→x1,World→x3,TypeId→p9,IntKind→o6,Program→W5
open Go.Builtin renaming append_→Z0,len_→W9
open Go.Instr renaming loadAt→u5,fieldAt→u6,storeAt→o8,indexAt→c7,extract→Y0,buildSlice→Y4,sliceAt→V8
open Go.IntKind renaming i64→X5
open Go.Proofs.Tryz renaming prog→x7
open Int renaming toNat_natCast→u7
open List renaming getElem?_eq_some_iff→x4,mem_of_getElem?→x5,getElem?_eq_getElem→x6,getElem?_map→x8,getD_eq_getElem?_getD→u4,take_add_one→u9,length_map→r8,length_append→r9,replicate→p8,mem_append→o5,take_length→o7,mem_singleton→o9,length_take→n9,mem_map→j4,eq_nil_of_length_eq_zero→j6,length_cons→c8,length_set→c9,take_of_length_le→b6,getElem?_set_self→b8,getElem?_eq_none→Z2,map_append→Z4,getElem?_take_of_lt→Z7,ext_getElem?→Y3,getElem?_append_left→Y5,getElem?_append_right→Y6,getElem?_set→Y9,range→X0,mem_iff_getElem?→X3,drop_eq_getElem_cons→X6,flatMap_cons→X7,mem_or_eq_of_mem_set→X9,length_eq_one_iff→W6,append_nil→W8,append_assoc→V0,map_set→U4,map_cons→U6,length_singleton→T1,mem_filter→T3,set_append_right→T4,mem_range→T6,getElem_mem→S0,length→S3,mem_flatMap→S7,map_map→S9,length_filter_le→R3
open Nat renaming le_refl→o4,le_trans→Y8,zero_le→X4,mul_le_mul_right→X8,mul_one→U1,add_mul→U2,sub_self→U3,pow_le_pow_right→T8,add_assoc→R2,add_sub_cancel_left→R4,eq_zero_or_pos→Q0
open Option renaming toList_some→j5,isNone_some→Z5,map_some→Z6,map_eq_some_iff→Y7,getD_some→V2,map→V5,isSome_some→T9,isSome_none→S8
open Option.some renaming inj→b9,injEq→Y1
open Prod renaming mk→Q1
open Prod.mk renaming injEq→T0
set_option maxHeartbeats 16000000
open Option renaming some→σ,none→ν
variable{V aa w w':x3}{B N ae gT gs gz j:Nat}{a e:p9}{ak all cs l pl sizes t tl:Λ}{c k n y:Int}{aK sv szv v z:x1}{K:x1->Prop}{S:Nat->Prop}
namespace Go.Proofs.YtikkpokkcdocoabGreatDoor
open Go Go.Vc Go.RowKit Go.Proofs Go.Proofs.Tryz
set_option maxRecDepth 100000
theorem aC.wW(t:aC)(i:Nat)(x:Int):(t.set i x).marks=t.marks:=by
 unfold aC.set;cases t.cells[i]? with
 |none=>rfl
 |some c=>
  simp only;cases t.marks.getLast? with
  |none=>rfl
  |some m=>simp only;split<;>rfl
theorem aC.Di(t:aC)(i:Nat)(x:Int):(t.set i x).ii=t.ii:=by
 unfold aC.set;cases t.cells[i]? with
 |none=>rfl
 |some c=>
  simp only;cases t.marks.getLast? with
  |none=>rfl
  |some m=>simp only;split<;>rfl
theorem aC.Dj(t:aC)(i:Nat)(x:Int):(t.set i x).cells.length=t.cells.length:=by
 have h:=congrArg S3 (aC.qo (t:=t) (i:=i) (x:=x));rw[c9]at h;unfold aC.bT at h;rwa [r8,r8]at h
theorem aC.Dk(t:aC)(i:Nat)(x:Int):(t.set i x).olds.length<=t.olds.length+1:=by
 unfold aC.set;cases t.cells[i]? with
 |none=>exact Nat.le_succ _
 |some c=>
  simp only;cases t.marks.getLast? with
  |none=>exact Nat.le_succ _
  |some m=>simp only;split<;>simp
theorem aC.wX{t:aC}(h:t.marks=[])(i:Nat)(x:Int):(t.set i x).olds=t.olds:=by
 unfold aC.set;cases t.cells[i]? with
 |none=>rfl
 |some c=>simp only[h,List.getLast?_nil]
def fS(t:aC)(l:Λ):Nat->aC
 |0=>t.grow l.length
 |i+1=>(fS t l i).set (t.cells.length+i) (l.getD i 0)
def mW(t:aC)(l:Λ):aC:=fS t l l.length
theorem rg(t:aC)(l:Λ):∀i,(fS t l i).marks=t.marks
 |0=>rfl
 |i+1=>(aC.wW _ _ _).trans (rg t l i)
theorem Dl(t:aC)(l:Λ):∀i,(fS t l i).ii=t.ii
 |0=>rfl
 |i+1=>(aC.Di _ _ _).trans (Dl t l i)
theorem wY(t:aC)(l:Λ):∀i,(fS t l i).cells.length=t.cells.length+l.length
 |0=>by simp[fS,aC.grow]
 |i+1=>(aC.Dj _ _ _).trans (wY t l i)
theorem wZ(t:aC)(l:Λ):∀i,(fS t l i).olds.length<=t.olds.length+i
 |0=>o4 _
 |i+1=>by have:=aC.Dk (fS t l i) (t.cells.length+i) (l.getD i 0);have:=wZ t l i;show(aC.set _ _ _).olds.length<=_;omega
theorem Dm{t:aC}(h:t.marks=[])(l:Λ):∀i,(fS t l i).olds=t.olds
 |0=>rfl
 |i+1=>(aC.wX ((rg t l i).trans h) _ _).trans (Dm h l i)
theorem Dn(t:aC)(l:Λ):∀i,i<=l.length->(fS t l i).bT=t.bT++(l.take i++p8 (l.length-i) 0)
 |0,_=>by rw[List.take_zero,List.nil_append];exact aC.JS
 |i+1,h=>by
  have a:=Dn t l i Ω;show(aC.set _ _ _).bT=_;have e:t.bT.length=t.cells.length:=by simp[aC.bT]
  rw[aC.qo,a,T4 _ _ Ω,e,R4,T4 _ _ (by rw[n9];omega),n9,Nat.min_eq_left Ω,U3,show l.length-i=(l.length-(i+1))+1 by omega,List.replicate_succ,List.set_cons_zero,u9,u4,x6 (show i<l.length by omega)];simp only[j5,V2,V0,List.singleton_append]
theorem Do(t:aC)(l:Λ):(mW t l).bT=t.bT++l:=by
 unfold mW;rw[Dn t l _ (o4 _),o7,U3,List.replicate_zero,W8]
theorem hx.fS{h:List aC}{t:aC}(hk:hx t h)(l:Λ):∀i,hx (fS t l i) h
 |0=>hk.grow
 |i+1=>(hx.fS hk l i).set
theorem lg{s:Go.Sem x1}{x:x1}(h:ac x7 s w (λv=>v=x)):cA x7 s x w:=by
 obtain⟨v,h,rfl⟩:=h;exact h
theorem tM{off:Nat}{z:Nat}{cs:List x1}{x:x1}(f:af w ae e cs)(h:∀(K:x1->Prop),ac x7 (u6 cG (Γ ae) z) w K=K (.pointer (σ ⟨ae,0+off,ν⟩)))(p:jM x7 a=true)(q:cs[0+off]?=σ x):
  cA x7 (u5 a (.pointer (σ ⟨ae,0+off,ν⟩))) x w/\cA x7 (u6 cG (Γ ae) z) (.pointer (σ ⟨ae,0+off,ν⟩)) w/\cA x7 (bO (Γ ae)) (Γ ae) w/\True:=
 ⟨sL p (f.cell q),lg (by rw[h]),lg (by rw[bU]),trivial⟩
def Dp(w:x3)(r:Nat):Prop:=∃e c,af w r e c/\(e=fG\/e=eC\/e=k2\/e=gu\/e=cG\/e=ff\/e=vu)
def en(w:x3)(r:Nat):Prop:=Dp w r\/∀o,w.heap[r]?=σ o->fA o≠true
theorem mX{r:Nat}(hk:∀o,w.heap[r]?=σ o->fA o=true->¬en w r->V.heap[r]?=σ o)(h:en V r):en w r:=by
 by_cases a:en w r
 .exact a
 .refine absurd (.inr λo p U=>?_) a;have h1:=hk o p U a;rcases h with⟨e,c,f,he⟩|q
  .refine a (.inl ⟨e,c,?_,he⟩);unfold af at f ⊢;rw[h1]at f;rw[p];exact f
  .exact q o h1 U
theorem j1(J:Ext w V)(a:ai (en V) V aa):ai (en w) w aa:=(J.ab _).trans (a.mono λr _ h=>mX (λo e U _=>J.aZ r o e U) h)
theorem w1(h:ai (en w) w V)(a:ai (en V) V aa):ai (en w) w aa:=h.trans (a.mono λr _ e=>mX (λo f U p=>h.aZ r o f U p) e)
theorem dv.min{A:aj}{t:aC}(h:dv w gT A t):dv w gT (λr=>A r/\Dp w r) t:=by
 obtain⟨s,x,go,dh,a6,y,dJ,h1,f,p,q,z⟩:=h;refine⟨⟨s,_,_,h1,.inl rfl⟩,x,go,dh,a6,y,dJ,h1,f,p,q,λr a=>⟨z r a,?_⟩⟩;rcases a with a|a|a
 .obtain⟨rfl,c,e⟩:=dS f a;exact⟨_,c,e,.inr (.inl rfl)⟩
 .obtain⟨rfl,c,e⟩:=dS p a;exact⟨_,c,e,.inr (.inr (.inl rfl))⟩
 .obtain⟨rfl,c,e⟩:=dS q a;exact⟨_,c,e,.inr (.inr (.inr (.inl rfl)))⟩
theorem eJ.w2{p:Nat}{q x y:x1}{A R:aj}{n:aF}{s:aq}{t:aC}(h:eJ w ae gT p q x y A R n s t):∃a,dv w gT a t/\∀z w' bq,Grow a w z w'->dv w' gT z bq->ai (en w) w w'/\∃aP,Grow A w aP w'/\eJ w' ae gT p q x y aP R n s bq:=by
 obtain⟨a,B,C⟩:=h.rf;refine⟨_,B.min,λE V bq e F=>⟨e.1.mono λr _ h=>.inl h.2,?_⟩⟩;exact C (λr=>a r\/E r) V _ ⟨e.1.mono λr _ h=>h.1,λr f=>f.elim .inl λh=>(e.2.1 r h).imp (λh=>h.1) id,λr f=>.inl f⟩ (F.mono λr h=>.inr h)
theorem Dq{z:Nat}{B C G:x1}{A R:aj}{n:aF}{s:aq}{t:aC}{ds:x1}(h:eJ w ae gT z B C G A R n s t)(H:aI .i64 w ds l)(Q:∀r,leads ds r->¬A r)(aG:t.cells.length+l.length<=100000000)(aH:t.olds.length+l.length<=100000000)(hm:t.marks.length<=100000000):
  am x7 zA [Γ ae,ds] w λv w'=>v=Δ (t.cells.length:Int)/\ai (en w) w w'/\∃aP,Grow A w aP w'/\eJ w' ae gT z B C G aP R n s (mW t l):=by
 refine az func127 ?_;obtain⟨_,aY,S,ge,L,E,_,w0,I,_⟩:=id h;obtain⟨U,K,M⟩:=h.w2;rw[aS cG.p 1 I rfl,aX ay.u H];refine(N2 (n:=l.length) K ⟨Ω,Ω,hm⟩ Ω).mono ?_;rintro _ V _ ⟨rfl,W,X,Y⟩;obtain⟨Z,ab,O,ac⟩:=M W V _ X Y;have P:∀{aP:aj}{w':x3},Grow A w aP w'->aI .i64 w' ds l:=λaf=>hV H af.1 λr ag a ah c ad ak=>Q r ⟨a,ah,c,ad,ak⟩ ag;rw[aX ay.u (P O)];have an:=H.le;refine ck.range l.length (λi aa=>ai (en w) w aa/\∃f,Grow A w f aa/\eJ aa ae gT z B C G f R n s (fS t l i)) an ⟨Z,ab,O,ac⟩ ?_ ?_
 .rintro i aa k hi ⟨N,f,q,y⟩ hk;refine bM Ω ?_;obtain⟨x,J⟩:=aJ (l:=l) hi;rw[bg ay.u au.i Ψ (P q) J];obtain⟨_,aY,S,ge,L,E,_,w0,I,_⟩:=id y;obtain⟨U,K,M⟩:=y.w2;have aK:=wY t l i;have aL:=wZ t l i;have ao:=rg t l i;rw[aS cG.p 1 I rfl,aN,wrap_i64 Ω Ω];refine(tJ (i:=t.cells.length+i) K Ω Ω ⟨Ω,Ω,by rw[ao];exact hm⟩).mono ?_;rintro _ ap _ ⟨rfl,av,aw,ax⟩;obtain⟨aA,aB,aD,aE⟩:=M av ap _ aw ax;rw[aN];refine hk _ ⟨w1 N aA,aB,q.trans aD,?_⟩;have e:fS t l (i+1)=(fS t l i).set (t.cells.length+i) x:=by
   show(fS t l i).set _ (l.getD i 0)=_;rw[u4,J];rfl
  rw[e];exact aE
 .rintro aa k ⟨N,f,q,y⟩;rw[aR,al];exact⟨λh=>Ω,λ_=>⟨rfl,N,f,q,y⟩⟩
def iX(s:aq)(sc ak cs:Λ):aq:={s with funs:=s.funs++[⟨sc,ak,1,cs⟩]}
def oh(s:aq)(t:aC)(cs:Λ):aC:=(mW t (1::cs)).set 1 ((s.funs.length+1:Nat):Int)
theorem Og{s:aq}{t:aC}{sc:Λ}(h:t.bT=s.cells):(oh s t cs).bT=(iX s sc ak cs).cells:=by
 unfold oh iX;rw[aC.qo,Do,h,<-N7];rfl
theorem Oh{bh:Nat}{bi aR bj:x1}{A R:aj}{n:aF}{s:aq}{t:aC}{aL:x1}{sc:Λ}{g bS:Nat}{S:x1}(h:eJ w ae gT bh bi aR bj A R n s t)(ad:t.bT=s.cells)(cj:aI .i64 w aL sc)(ds:∀r,leads aL r->¬A r)(bk:df w g bS S ak k cs)(bV:¬A g/\¬A bS/\∀r,leads S r->¬A r)(dt:sc.length<=1000)(a1:t.cells.length+cs.length+1<=100000000)(bm:t.olds.length+cs.length+1<=100000000)(hm:t.marks.length<=100000000)(ag:s.funs.length<=1000000):
  am x7 Hv [Γ ae,aL,Γ g] w λv w'=>v=Δ (s.funs.length:Int)/\ai (en w) w w'/\∃aP R' bz,Grow A w aP w'/\eJ w' ae gT bh bi bz bj aP R' n (iX s sc ak cs) (oh s t cs)/\(∀r,R r->R' r)/\∀r,R' r->R r\/leads S r\/w.heap.size<=r:=by
 have du:t.cells.length=s.cells.length:=by rw[<-ad];simp[aC.bT]
 have dv:=q8 s;have ck:eS (iX s sc ak cs) s.funs.length=t.cells.length:=by
  unfold eS iX;simp only[List.take_left];omega
 have cl:∀j,j<s.funs.length->eS (iX s sc ak cs) j=eS s j:=λj bA=>by
  unfold eS iX;simp only[List.take_append_of_le_length (show j<=s.funs.length by omega)]
 have cm:iw (iX s sc ak cs)=iw s:=rfl;refine az func129 ?_;refine da (λV=>ai (en w) w V/\∃aP R' bz,Grow A w aP V/\eJ V ae gT bh bi bz bj aP R' n (iX s sc ak cs) (mW t (1::cs))/\(∀r,R r->R' r)/\∀r,R' r->R r\/leads S r\/w.heap.size<=r) ?_ ?_
 .rintro V ⟨cn,dw,cp,cq,cr,ct,cu,cw⟩;intro aa bB _ _;have bW:=ct.ext bB;obtain⟨_,aY,bC,ge,L,E,_,w0,ap,_,_,_,⟨ba,bn⟩,_⟩:=id bW;have bo:L.length=s.funs.length+1:=by rw[bn.1];simp[iX]
  rw[aS cG.p 1 ap rfl,aS cG.p 3 ap rfl,ee fE.u ba];obtain⟨bX,cz,cB⟩:=bW.w2;have cC:=wY t (1::cs) (1::cs).length;have cD:=wZ t (1::cs) (1::cs).length;have cE:=rg t (1::cs) (1::cs).length;simp only[c8]at cC cD;refine(tJ (i:=1) (y:=1) cz rfl (by show 1<(fS _ _ _).cells.length;simp only[c8];omega) ⟨by show(fS _ _ _).cells.length<=_;simp only[c8];omega,by show(fS _ _ _).olds.length<=_;simp only[c8];omega,by show(fS _ _ _).marks.length<=_;rw[cE];exact hm⟩).mono ?_;rintro _ cF _ ⟨rfl,cH,cI,cJ⟩;obtain⟨cK,cL,cM,bY⟩:=cB cH cF _ cI cJ;obtain⟨_,aY,bC,ge,cN,E,_,w0,ap,_,_,_,⟨ba,cP⟩,_⟩:=id bY;have dx:cN.length=s.funs.length+1:=by rw[cP.1];simp[iX]
  rw[aS cG.p 3 ap rfl,ee fE.u ba,dN,wrap_i64 Ω Ω];refine⟨by congr 1;omega,w1 cn (j1 bB cK),cL,cp,cq,cr.trans ((Grow.ext bB).trans cM),?_,cu,cw⟩;have e:oh s t cs=(mW t (1::cs)).set 1 (L.length:Int):=by unfold oh;rw[bo]
  rw[e];exact bY
 intro aA cQ;intro aM aT _ _;have bZ:=h.ext aT;obtain⟨_,aY,bC,ge,L,E,_,w0,ap,_⟩:=id bZ;rw[aS cG.p 3 ap rfl];have z4:=aT.size;have bp:∀{G:x3}{Z W:x1}{a2 al:Nat},Ext aM G->w.heap.size<=a2->w.heap.size<=al->av .i64 ah G a2 Z sc->av .i64 au G al W (1::cs)->(∀r,leads Z r\/leads W r->¬A r)->
   am x7 zA [Γ ae,W] G λcR aw=>
    (Ext aM aw\/cA x7 (u5 fE (.pointer (σ ⟨ae,0+3,ν⟩))) aR aw/\cA x7 (u6 cG (Γ ae) 3) (.pointer (σ ⟨ae,0+3,ν⟩)) aw/\cA x7 (bO (Γ ae)) (Γ ae) aw/\True)/\
    ac x7 (Instr.build ff #[(0,Z),(1,.agg #[S]),(2,cR)]) aw λt22=>
    aD x7 (Y4 fE 1 #[(0,t22)]) aw λcS ax=>
     (Ext aM ax\/cA x7 (u5 fE (.pointer (σ ⟨ae,0+3,ν⟩))) aR ax/\cA x7 (u6 cG (Γ ae) 3) (.pointer (σ ⟨ae,0+3,ν⟩)) ax/\cA x7 (bO (Γ ae)) (Γ ae) ax/\True)/\
    aD x7 (Z0 #[fE,fE] fE #[aR,cS]) ax λcT bq=>
     ac x7 (bO (Γ ae)) bq λt25=>
     ac x7 (u6 cG t25 3) bq λcU=>
     aD x7 (o8 fE cU cT) bq λ(_:Unit)aV=>
      aA aV:=by
  intro G Z W a2 al H b0 X I N bD;have cV:=bZ.ext H;refine(Dq cV N.ls (λr B=>bD r (.inr B)) (by simp only[c8];omega) (by simp only[c8];omega) hm).mono ?_;rintro _ aw _ ⟨rfl,cX,bb,a6,cY⟩;obtain⟨⟨b1,b2,cZ,b3⟩,aY,bC,ge,L,E,bX,w0,ap,⟨c0,c1,b4⟩,⟨c2,b5,b6,aN⟩,bE,⟨ba,bn⟩,bF,c3⟩:=id cY;have aJ:av .i64 ah aw a2 Z sc:=bu I a6.1 λr B=>bD r (.inl B);have br:av .i64 ah G (Classical.choose (show∃gs,av .i64 ah w gs S ak from by obtain⟨⟨_,gs,_,q,_⟩,_⟩:=bk;exact⟨gs,q⟩)) S ak:=((Classical.choose_spec (show∃gs,av .i64 ah w gs S ak from by obtain⟨⟨_,gs,_,q,_⟩,_⟩:=bk;exact⟨gs,q⟩)).ext aT).ext H;have c4:=bu br a6.1 bV.2.2;refine⟨.inr (tM (off:=3) (z:=3) ap (λK=>by rw[aU cG.p rfl]) Ψ rfl),?_⟩;rw[cW (cs:=#[Z,S,Δ (t.cells.length:Int)]) (by obtain⟨_,_,_,rfl⟩:=c5 I.ls;obtain⟨_,_,_,rfl⟩:=c5 br.ls;kernel_rfl)];let a:pC:=⟨Z,S,t.cells.length⟩;have c6:∀u∈oe a,u.oneCell'=true:=by
   intro u hu;simp[oe]at hu;rcases hu with rfl|rfl|rfl
   .exact I.ls.cells.2
   .exact br.ls.cells.2
   .rfl
  refine hE (f:=oe) (a:=a) fE.u ff.i Ω rfl rfl λdy dz ax dA M c7=>?_;refine⟨.inr (tM (off:=3) (z:=3) (ap.ext M) (λK=>by rw[aU cG.p rfl]) Ψ rfl),?_⟩;have bc:=ba.ext M;have bo:L.length=s.funs.length:=bn.1;refine io (f:=oe) (a:=a) fE.u ff.i rfl bc (by simpa using c7.sl) c6 Ω Ω λb8 c9 bq bd db b9=>?_;have be:=ap.ext M;have ca:=be.ab b9 λhe=>cO bc be Φ he;rw[bU,aU cG.p rfl];refine bl fE.i (eI bd.sl).1 (eI bd.sl).2 ca Ξ λaV bG dC bH=>?_;have bH:af aV ae cG [Γ bh,Γ gT,bi,b8,bj]:=bH;have aB:ai (λr=>leadsTo aR r\/r=ae) ax aV:=(b9.mono λr _ h=>.inl h).trans (bG.mono λr _ h=>.inr h);have z9:=H.size;have dD:=a6.1.size;have dE:=M.size;have dF:=aB.size;have bI:∀r,(leadsTo aR r\/r=ae)->bb r:=λr B=>B.elim (λB=>(aN r (.inr (.inl B))).1) λB=>B▸b1;have bJ:∀r,(leadsTo aR r\/r=ae)->¬R r:=λr B=>b2 r (bI r B);have dc:ai (en w) w aV:=w1 (j1 (aT.trans H) cX) (j1 M (aB.mono λr _ B=>by
   rcases B with B|rfl
   .obtain⟨_,c,a1⟩:=dS bc B;exact .inl ⟨_,c,‹r=_› ▸a1,Φ⟩
   .exact .inl ⟨_,_,be,Φ⟩))
  let dd:aj:=λr=>bb r\/(ax.heap.size<=r/\r<aV.heap.size);let bK:aj:=λr=>R r\/(leads S r/\r<aw.heap.size)\/(leads Z r/\r<aw.heap.size);have dG:∀r,r<w.heap.size->bb r->A r:=λr B h=>(a6.2.1 r h).elim id λh=>Ω
  have bL:∀r,leads Z r->w.heap.size<=r/\r<G.heap.size:=λr B=>by obtain⟨h1,a7⟩:=bQ I B;omega
  have cb:∀r,leads S r->r<G.heap.size:=λr B=>by obtain⟨h1,a7⟩:=bQ br B;omega
  have bt:∀r,leads Z r\/leads S r->¬bb r:=λr B de=>by
   rcases a6.2.1 r de with h|h
   .rcases B with B|B
    .exact bD r (.inl B) h
    .exact bV.2.2 r B h
   .rcases B with B|B
    .have:=bL r B;omega
    .have:=cb r B;omega
  refine cQ _ ⟨dc,dd,bK,b8,(Grow.ext (aT.trans H)).trans (a6.trans ((Grow.ext M).trans ⟨aB.mono λr _ B=>bI r B,λr B=>B.imp id And.left,λr B=>.inl B⟩)),?_,λr B=>.inl B,λr B=>?_⟩
  rotate_left
  .rcases B with B|B|B
   .exact .inl B
   .exact .inr (.inl B.1)
   .exact .inr (.inr (bL r B.1).1)
  have cc:∀{v:x1}{bf:Nat}{l:Λ},av .i64 ah ax bf v l->(∀r,leads v r->¬bb r)->av .i64 ah aV bf v l:=λhm dg=>bu hm aB λr B U=>dg r B (bI r U);have cd:∀r,bK r->r<ax.heap.size:=λr B=>by
   rcases B with B|B|B
   .have:=cZ r B;omega
   .omega
   .omega
  refine⟨⟨.inl b1,λr B aO=>?_,λr B=>by have:=cd r B;omega,λr B=>B.elim (λB=>by have:=b3 r B;omega) And.right⟩,aY,c9,ge,L++[a],E,bX,w0,bH,⟨c0,tK (c1.trans M) aB λr o B bm U=>bJ r U (b4 r o B bm),λr o B bm=>.inl (b4 r o B bm)⟩,⟨(c2.ext M).ab aB λr B U=>?_,λr B=>.inl (b5 r B),b6,λr B=>?_⟩,?_,⟨bd.ab bG λr B he=>?_,?_⟩,(bF.ext M).ab aB λr B U=>?_,?_⟩
  .have:=cd r aO;rcases B with B|B
   .rcases aO with aO|aO|aO
    .exact b2 r B aO
    .exact bt r (.inr aO.1) B
    .exact bt r (.inl aO.1) B
   .omega
  .rcases U with U|rfl
   .exact (aN r (.inr (.inl U))).2 B
   .exact b6 B
  .rcases B with B|B|B
   .exact⟨.inl (aN r (.inl B)).1,(aN r (.inl B)).2⟩
   .obtain⟨h1,a7⟩:=bd.leads B;rcases db r B with h|h
    .exact⟨.inl (aN r (.inr (.inl h))).1,(aN r (.inr (.inl h))).2⟩
    .refine⟨.inr ⟨h,by have:=bG.size;omega⟩,λdh=>?_⟩;have:=b3 r (b5 r dh);omega
   .exact⟨.inl (aN r (.inr (.inr B))).1,(aN r (.inr (.inr B))).2⟩
  .rw[cm];exact bu (bE.ext M) aB λr B U=>by
    rcases U with U|rfl
    .obtain⟨rfl,c,a1⟩:=dS bc U;exact b7 (bE.ext M) a1 Φ B rfl
    .exact b7 (bE.ext M) be Φ B rfl
  .have he:r=ae:=he;subst he;exact cO bd ca Φ B
  .refine⟨by rw[r9,bo];simp[iX],λj x f J aW=>?_⟩;have aW:(s.funs++[⟨sc,ak,1,cs⟩])[j]?=σ f:=aW;by_cases bA:j<s.funs.length
   .rw[Y5 Ω]at J;rw[Y5 bA]at aW;obtain⟨di,dj,dk⟩:=((((lq.ab bn (M.ab λ_=>False) λ_ _ _ h=>h).ab aB λr _ B U=>bJ r U B).mono (R':=bK) λr B=>.inl B)).2 j x f J aW;exact⟨di,dj,by rw[cl j bA];exact dk⟩
   .have bM:j=s.funs.length:=by have:=(x4.1 aW).1;simp at this;omega
    rw[Y6 Ω,bo,bM,U3]at J;rw[Y6 Ω,bM,U3]at aW;cases J;cases aW;refine⟨⟨⟨_,cc (aJ.ext M) λr B=>bt r (.inl B)⟩,λr B=>.inr (.inr ⟨B,?_⟩)⟩,⟨⟨_,cc (c4.ext M) λr B=>bt r (.inr B)⟩,λr B=>.inr (.inl ⟨B,?_⟩)⟩,?_⟩
    .have:=bL r B;omega
    .have:=cb r B;omega
    .rw[bM,ck]
  .rcases U with U|rfl
   .obtain⟨rfl,c,a1⟩:=dS bc U;exact cO (bF.ext M) a1 Φ B
   .exact cO (bF.ext M) be Φ B
  .exact ((me.ab c3 (M.ab λ_=>False) λ_ _ _ h=>h).ab aB λr _ B U=>bJ r U B).mono λr B=>.inl B
 have a8:=bk.ext aT;have ce:=cj.ext aT;have dl:∀r,A r->r<w.heap.size:=h.1.2.2.2;obtain⟨_,⟨_,_,dH⟩,dI,dJ⟩:=id bk;have dK:cs.length<=4096:=Ω
 have bw:∀{aE:x3}{aX aZ:x1}{Y:Nat}{K:x1->x3->Prop},Ext aM aE->aM.heap.size<=Y->av .i64 au aE Y aX [1]->aI .i64 aE aZ cs->
   (∀W al G,Ext aM G->ai (λr=>r=Y) aE G->w.heap.size<=al->av .i64 au G al W (1::cs)->(Ext aM G->K W G))->aD x7 (Z0 #[ay,ay] ay #[aX,aZ]) aE K:=by
  intro aE aX aZ Y K C bx aG aK dm;refine jl ay.u au.i rfl aG aK Θ Θ λW al G X N aH=>?_;have H:Ext aM G:=C.put aH Ω;have dn:=C.size;exact dm W al G H aH Ω N H
 have aQ:∀{v:x1}{bf:Nat}{dp:o6}{e:p9}{dq:x3}{l:Λ},av dp e dq bf v l->w.heap.size<=bf->∀r,leads v r->¬A r:=λhm dL r B dr=>by
  obtain⟨h1,_⟩:=bQ hm B;have:=dl r dr;omega
 refine⟨?_,?_⟩
 .refine (ku ce Ω).mono ?_;rintro Z cg _ ⟨O,a2,b0,I⟩;have z5:=O.size;refine⟨.inl O,?_,?_⟩
  .refine (pn (a8.ext O)).mono ?_;rintro _ ch _ ⟨rfl,P⟩;have an:=O.trans P;have dM:=an.size;have dO:=P.size;have ci:=(a8.ext O).ext P;refine⟨.inl an,?_,?_⟩
   .refine et ay.u au.i rfl λaX Y aE bx C aG=>?_;refine⟨.inl (an.trans C),?_⟩;refine(mR (ci.ext C)).mono ?_;rintro aZ bN _ ⟨Q,bP,bR,aK⟩;have ao:=(an.trans C).trans Q;refine⟨.inl ao,?_⟩;refine bw ao Ω (aG.ext Q) aK.ls λW al G H aH X N _=>⟨.inl H,?_⟩;have aJ:=bu (((I.ext P).ext C).ext Q) aH λr B he=>by have he:r=Y:=he;obtain⟨h1,a7⟩:=bQ I B;omega
    exact bp H Ω X aJ N λr B=>B.elim (aQ I Ω r) (aQ N X r)
   .refine (mR ci).mono ?_;rintro aZ aE _ ⟨C,bP,bR,aK⟩;refine⟨.inl (an.trans C),?_⟩;have dn:=C.size;refine et ay.u au.i rfl λaX Y bN bx Q aG=>?_;have ao:=(an.trans C).trans Q;refine⟨.inl ao,?_⟩;refine bw ao Ω aG (aK.ls.ext Q) λW al G H aH X N _=>⟨.inl H,?_⟩;have aJ:=bu (((I.ext P).ext C).ext Q) aH λr B he=>by have he:r=Y:=he;obtain⟨h1,a7⟩:=bQ I B;omega
    exact bp H Ω X aJ N λr B=>B.elim (aQ I Ω r) (aQ N X r)
  .refine et ay.u au.i rfl λaX Y ch bx P aG=>?_;have an:=O.trans P;refine⟨.inl an,?_⟩;refine(pn ((a8.ext O).ext P)).mono ?_;rintro _ aE _ ⟨rfl,C⟩;have bg:=an.trans C;refine⟨.inl bg,?_⟩;refine(mR (((a8.ext O).ext P).ext C)).mono ?_;rintro aZ bN _ ⟨Q,bP,bR,aK⟩;have ao:=bg.trans Q;refine⟨.inl ao,?_⟩;refine bw ao Ω ((aG.ext C).ext Q) aK.ls λW al G H aH X N _=>⟨.inl H,?_⟩;have aJ:=bu (((I.ext P).ext C).ext Q) aH λr B he=>by have he:r=Y:=he;obtain⟨h1,a7⟩:=bQ I B;omega
   exact bp H Ω X aJ N λr B=>B.elim (aQ I Ω r) (aQ N X r)
 .refine et ay.u au.i rfl λaX Y cg bx O aG=>?_;refine⟨.inl O,?_⟩;have z5:=O.size;have dP:Y<cg.heap.size:=tq aG Ξ;refine(ku (ce.ext O) Ω).mono ?_;rintro Z ch _ ⟨P,a2,b0,I⟩;have an:=O.trans P;refine⟨.inl an,?_⟩;refine(pn ((a8.ext O).ext P)).mono ?_;rintro _ aE _ ⟨rfl,C⟩;have bg:=an.trans C;refine⟨.inl bg,?_⟩;refine(mR (((a8.ext O).ext P).ext C)).mono ?_;rintro aZ bN _ ⟨Q,bP,bR,aK⟩;have ao:=bg.trans Q;refine⟨.inl ao,?_⟩;refine bw ao Ω (((aG.ext P).ext C).ext Q) aK.ls λW al G H aH X N _=>⟨.inl H,?_⟩;have aJ:=bu ((I.ext C).ext Q) aH λr B he=>by have he:r=Y:=he;obtain⟨h1,a7⟩:=bQ I B;omega
  exact bp H Ω X aJ N λr B=>B.elim (aQ I Ω r) (aQ N X r)
theorem hJ{P:W5}{t F:p9}{k:o6}{b g:Nat}{x:x1}{m:Λ}{K:x1->x3->Prop}(y:P.underlying t=σ (.slice e))(hi:aQ P e 1 b z)(A:z.cells.size=1)(h:av k e w g v l)(J:aI k w x m)(B:(l.length+m.length)*b<=140737488355328)(C:l.length+m.length<=9223372036854775807)(E:∀a f w',av k e w' f a (l++m)->(∀r,leads a r->leads v r\/w.heap.size<=r)->ai (λr=>leads v r) w w'->K a w'):aD P (Z0 #[t,t] F #[v,x]) w K:=by
 rcases h.2 with⟨ad,G⟩|⟨cap,cs,ad,L,M⟩
 .have H:l=[]:=j6 G;subst H;have h':av k e w w.heap.size v []:=by rw[ad];exact av.nil _ _ _ _
  refine jl y hi A h' J B C λa f w' q hm s=>E a f w' hm (λr p=>.inr ?_) (s.mono λr p he=>by have he:r=w.heap.size:=he;omega);obtain⟨I,_⟩:=bQ hm p;omega
 .refine jl y hi A h J B C λa f w' q hm s=>E a f w' hm (λr p=>?_) (s.mono λr p he=>⟨_,_,_,ad,he.symm⟩);obtain⟨I,_⟩:=bQ hm p;rcases q with q|q
  .exact .inl ⟨_,_,_,ad,by show g=r;omega⟩
  .exact .inr Ω
def addVar(s:aq)(u:Λ):aq:={s with vars:=s.vars++[newVar u]}
theorem Oi(s:aq)(u:Λ):iw (addVar s u)=iw s++[((3+(s.vars.flatMap hI).length:Nat):Int)]:=by
 unfold iw addVar;rw[r9,T1,List.range_succ,Z4];congr 1
 .apply List.map_congr_left;intro i hi;have:=T6.1 hi;unfold fR;simp only[List.take_append_of_le_length (show i<=s.vars.length by omega)]
 .simp[fR]
theorem Oj{s:aq}{u:Λ}(ag:s.funs=[]):(addVar s u).cells=s.cells++(0::0::u):=by
 unfold aq.cells addVar iV;simp only[ag,List.flatMap_nil,W8,List.flatMap_append,List.flatMap_singleton,V0];rfl
def eT(n:aF)(i j:Nat):aq:=⟨n.zero,(n.unary.take i).map newVar,(n.funs.take j).map (kE n.sizes),[]⟩
theorem Dr{n:aF}{i:Nat}{u:Λ}(h:n.unary[i]?=σ u):eT n (i+1) 0=addVar (eT n i 0) u:=by
 unfold eT addVar;simp only[u9,h,j5,Z4,List.map_singleton]
theorem Ol{n:aF}{i:Nat}{g:cK}(h:n.funs[j]?=σ g):eT n i (j+1)=iX (eT n i j) g.1 (bX n.sizes g.1) g.2:=by
 unfold eT iX;simp only[u9,h,j5,Z4,List.map_singleton];rfl
theorem w3(n:aF):eT n n.unary.length n.funs.length=cY n:=by
 unfold eT cY;rw[o7,o7]
theorem w4{α β:Type}{f:α->List β}{b:Nat}:∀{L:List α},(∀x∈L,(f x).length<=b)->(L.flatMap f).length<=L.length*b
 |[],_=>Ξ
 |x::L,h=>by
  rw[X7,r9,c8,U2];have:=w4 (L:=L) λy a=>h y (.tail _ a);have:=h x (.head _);omega
theorem tN{n:aF}(a:jZ n)(ag:n.funs.length<=256)(i j:Nat):(eT n i j).cells.length<=2000000:=by
 rw[q8];have h1:=w4 (f:=hI) (b:=34) (L:=(eT n i j).vars) λx J=>by
  obtain⟨u,hu,rfl⟩:=j4.1 (show x∈(n.unary.take i).map newVar from J);obtain⟨p,h⟩:=X3.1 (List.mem_of_mem_take hu);have A:=a.kD;have B:=(x4.1 h).1;obtain⟨z,q⟩:=aJ (l:=n.sizes) (i:=p) Ω;have s:=(a.unary p z u q h).1;have e:=a.sizes.2.2 z (x5 q);show u.length+2<=34;omega
 have s:=w4 (f:=fp) (b:=4097) (L:=(eT n i j).funs) λx J=>by
  obtain⟨g,w,rfl⟩:=j4.1 (show x∈(n.funs.take j).map (kE n.sizes)from J);have e:=(a.funs g (List.mem_of_mem_take w)).1;have r:=e.len;have y:=e.small;show g.2.length+1<=4097;omega
 have e:(eT n i j).vars.length<=64:=by
  show((n.unary.take i).map newVar).length<=64;rw[r8,n9];have:=a.kD;have:=a.sizes.2.1;omega
 have r:(eT n i j).funs.length<=256:=by
  show((n.funs.take j).map (kE n.sizes)).length<=256;rw[r8,n9];omega
 have y:=X8 34 e;have C:=X8 4097 r;omega
def Plain(t:aC):Prop:=t.marks=[]/\t.olds=[]/\hx t []/\t.ii=0
theorem Plain.set{t:aC}(h:Plain t)(i:Nat)(x:Int):Plain (t.set i x):=⟨(aC.wW _ _ _).trans h.1,(aC.wX h.1 _ _).trans h.2.1,h.2.2.1.set,(aC.Di _ _ _).trans h.2.2.2⟩
theorem Plain.lay{t:aC}(h:Plain t)(l:Λ):Plain (mW t l):=⟨(rg _ _ _).trans h.1,(Dm h.1 _ _).trans h.2.1,h.2.2.1.fS l _,(Dl _ _ _).trans h.2.2.2⟩
theorem Plain.put{s:aq}{t:aC}(h:Plain t)(cs:Λ):Plain (oh s t cs):=(h.lay _).set _ _
def Om(w:x3)(R0:aj)(n:aF)(v:x1)(w':x3):Prop:=Ext w w'/\∃ae gT A R t,v=Γ ae/\StateM w' ae gT A R n (cY n) t/\t.bT=(cY n).cells/\Plain t/\(∀r,A r->w.heap.size<=r)/\∀r,R r->R0 r\/w.heap.size<=r
theorem On{w0:x3}{R0:aj}{n:aF}(aO:gg w0 B n)(aw:Ext w0 w)(bh:∀r o,w0.heap[r]?=σ o->fA o=true->R0 r)(aQ:∀r,R0 r->r<w.heap.size)(C:jZ n)(ag:n.funs.length<=256):am x7 zr [Γ B] w (Om w R0 n):=by
 have h:=aO.ext aw;have bW:=C.kD;have c1:=C.sizes.2.1;refine az func58 ?_;rw[de mA.u];simp only[Z5,a1];refine(N3 (n:=3) Ω).mono ?_;rintro _ V _ ⟨ax,gT,rfl,bX⟩;rw[cW (cs:=#[Γ B,Γ gT,.slice ν 0 0,.slice ν 0 0,.slice ν 0 0]) Ψ];refine bf λae aa c2 Q S=>?_;have S:af aa ae cG [Γ B,Γ gT,.slice ν 0 0,.slice ν 0 0,.slice ν 0 0]:=S;have c3:=ax.size;have c4:=Q.size;have c5:=S.lt;have bY:eJ aa ae gT B (.slice ν 0 0) (.slice ν 0 0) (.slice ν 0 0) (λr=>r=ae\/(w.heap.size<=r/\r<V.heap.size)) R0 n ⟨0,[],[],[]⟩ ⟨p8 3 ⟨0,0⟩,[],[],0⟩:=by
  refine⟨⟨.inl rfl,λr q N=>?_,λr q=>?_,λr q=>?_⟩,0,0,0,[],[],λr=>w.heap.size<=r/\r<V.heap.size,w0,S,⟨aO,aw.trans (ax.trans Q),bh⟩,⟨(bX.cut).ext Q,λr q=>.inr q,λq=>?_,λr q=>?_⟩,av.nil _ _ _ _,⟨bi.nil _ _ _ _ _,rfl,λj x f J=>by simp at J⟩,bi.nil _ _ _ _ _,rfl,λj x f J=>by simp at J⟩
  .have N:=aQ r N;rcases q with q|q<;>omega
  .have q:=aQ r q;omega
  .rcases q with q|q<;>omega
  .omega
  .rcases q with q|q|q
   .obtain⟨a,c6,c,aR,c7⟩:=q;cases aR
   .exact (e1 q).elim
   .exact (e1 q).elim
 intro c8 W _ _;have bZ:=bY.ext W;rw[aS cG.p 1 (S.ext W) rfl];refine(Oa (h.ext ((ax.trans Q).trans W))).mono ?_;rintro _ c9 _ ⟨rfl,aA⟩;refine⟨.inl aA,?_⟩;have b0:=bZ.ext aA;obtain⟨aT,b1,b2⟩:=b0.rf;refine(tJ (i:=0) (y:=0) b1 rfl Φ ⟨Ξ,Ξ,Ξ⟩).mono ?_;rintro _ bj _ ⟨_,b3,b4,b5⟩;obtain⟨b6,bk,aV⟩:=b2 b3 bj _ b4 b5;have aV:=aV.same (Dg ⟨0,[],[],[]⟩ n.zero);have z3:=W.size;have z4:=aA.size;have b8:=((ax.trans Q).trans W).trans aA;have bm:Ext w bj:=b8.then bk.1 λr q he=>by rcases he with he|he<;>omega
 refine(wV (h.ext bm)).mono ?_;rintro _ da _ ⟨rfl,bn⟩;refine ck.range n.sizes.length (λi aB=>∃A I t,Ext w aB/\eJ aB ae gT B I (.slice ν 0 0) (.slice ν 0 0) A R0 n (eT n i 0) t/\t.bT=(eT n i 0).cells/\Plain t/\∀r,A r->w.heap.size<=r) Ω
  ⟨b6,_,_,bm.trans bn,aV.ext bn,?_,?_,λr q=>?_⟩ ?_ ?_
 .rw[aC.qo];rfl
 .exact Plain.set (t:=⟨p8 3 ⟨0,0⟩,[],[],0⟩) ⟨rfl,rfl,⟨rfl,rfl,λc G=>by rw[(List.mem_replicate.1 G).2];exact o4 _,X4 _⟩,rfl⟩ _ _
 .rcases bk.2.1 r q with he|he
  .rcases he with he|he<;>omega
  .omega
 .rintro i aB b9 hi ⟨A,I,t,O,aW,X,Y,aD⟩ ca;obtain⟨u,hu⟩:=aJ (l:=n.unary) (i:=i) Ω;obtain⟨bo,bp⟩:=aJ (l:=n.sizes) (i:=i) Ω;have db:u.length<=32:=by
   have dc:=(C.unary i bo u bp hu).1;have dd:=C.sizes.2.2 bo (x5 bp);omega
  refine bM Ω ?_;refine(Dd (h.ext O) C).mono ?_;rintro df dg _ ⟨cb,_,cc⟩;obtain⟨dh,di,cd⟩:=cc u Ω (by rw[u7];exact hu);intro aX bq _ _;have aZ:=cb.trans bq;have br:=aW.ext aZ;obtain⟨⟨_,_,_,Z⟩,aY,bt,ge,L,E,aT,w0,aE,_⟩:=id br;have dj:=aZ.size;have dk:=O.size;rw[aS cG.p 2 aE rfl];refine qp (l:=[0,0]) ay.u au.i Ω rfl Ψ λce dl dm dn aG bw=>?_;refine⟨.inl aG,?_⟩;refine hJ ay.u au.i rfl bw ((cd.ext bq).ls.ext aG) Θ Θ λcg dp ch ci cj cl=>?_;have bx:∀r,leads ce r->aX.heap.size<=r:=λr q=>by obtain⟨aR,_⟩:=bQ bw q;omega
  have aH:Ext aX ch:=aG.then cl λr q he=>by have:=bx r he;omega
  refine⟨.inl aH,?_⟩;have cm:=br.ext aH;have cn:∀r,leads cg r->aX.heap.size<=r:=λr q=>by
   rcases cj r q with h|h
   .exact bx r h
   .have:=aG.size;omega
  have cp:t.cells.length<=2000000:=by
   have h1:=tN C ag i 0;rw[<-X]at h1;unfold aC.bT at h1;rwa [r8]at h1
  have cq:t.olds.length=0:=by rw[Y.2.1];rfl
  have cr:t.marks.length=0:=by rw[Y.1];rfl
  refine(Dq cm ci.ls (λr q s=>by have:=Z r s;have:=cn r q;omega) Θ Θ Ω).mono ?_;rintro _ dq _ ⟨rfl,_,a2,a6,ct⟩;obtain⟨⟨bz,bA,cu,bB⟩,aY,bt,ge,L,E,aT,w0,aE,⟨cw,cz,bC⟩,⟨cA,bD,bE,aI⟩,cB,⟨cC,cD⟩,cF,cH⟩:=id ct;refine⟨.inr (tM (off:=2) (z:=2) aE (λK=>by rw[aU cG.p rfl]) Ψ rfl),?_⟩;refine et (k:=.i64) an.u ah.i rfl λdr ds bF dt H cI=>?_;have a7:=aE.ext H;refine⟨.inr (tM (off:=2) (z:=2) a7 (λK=>by rw[aU cG.p rfl]) Ψ rfl),?_⟩;have bG:(iw (eT n i 0)).length=i:=by
   unfold iw eT;simp only[r8,List.length_range,n9];omega
  have bH:=cB.ext H;refine hJ an.u ah.i rfl bH cI.ls (by rw[bG];simp;omega) (by rw[bG];simp;omega) λbI cJ du ac cK bJ=>?_;have bK:=a7.ab bJ λhe=>b7 bH a7 Φ he rfl;rw[bU,aU cG.p rfl];refine bl an.i ac.ls.cells.1 ac.ls.cells.2 bK Ξ λa8 ba dv bb=>?_;have bb:af a8 ae cG [Γ B,Γ gT,bI,.slice ν 0 0,.slice ν 0 0]:=bb;rw[aN];have G:ai (λr=>leads I r\/r=ae) bF a8:=(bJ.mono λr _ h=>.inl h).trans (ba.mono λr _ h=>.inr h);have dw:=aH.size;have z12:=a6.1.size;have dx:=H.size;have dy:=G.size;have bL:∀r,a2 r->w.heap.size<=r:=λr q=>(a6.2.1 r q).elim (aD r) λh=>Ω
  have bN:∀r,(leads I r\/r=ae)->a2 r:=λr q=>q.elim (λq=>(aI r (.inl q)).1) λq=>q▸bz;have cL:(eT n (i+1) 0).cells=(eT n i 0).cells++(0::0::u):=by rw[Dr hu];exact Oj rfl
  have cM:t.cells.length=3+((eT n i 0).vars.flatMap hI).length:=by
   have h1:=congrArg S3 X;rw[q8]at h1;unfold aC.bT at h1;rw[r8]at h1;have:((eT n i 0).funs.flatMap fp).length=0:=by simp[eT]
   omega
  refine ca _ ⟨λr=>a2 r\/(bF.heap.size<=r/\r<a8.heap.size),bI,mW t ([0,0]++u),?_,⟨⟨.inl bz,λr q N=>?_,λr q=>by have:=cu r q;omega,λr q=>?_⟩,cJ,bt,ge,L,E,aT,w0,bb,⟨cw,tK (cz.trans H) G λr o q cN U=>bA r (bN r U) (bC r o q cN),bC⟩,⟨(cA.ext H).ab G λr q U=>?_,λr q=>.inl (bD r q),bE,λr q=>?_⟩,?_,⟨(cC.ext H).ab G λr q U=>?_,?_⟩,(cF.ext H).ab G λr q U=>?_,?_⟩,?_,Y.lay _,λr q=>?_⟩
  .exact ((O.trans (aZ.trans aH)).then a6.1 λr q he=>by have:=aD r he;omega).trans H |>.then G λr q U=>by have:=bL r (bN r U);omega
  .rcases q with q|q
   .exact bA r q N
   .have N:=aQ r N;omega
  .rcases q with q|q
   .have:=bB r q;omega
   .exact q.2
  .rcases U with U|rfl
   .exact (aI r (.inl U)).2 q
   .exact bE q
  .rcases q with q|q|q
   .have dz:=(bQ ac q);rcases cK r q with h|h
    .exact⟨.inl (aI r (.inl h)).1,(aI r (.inl h)).2⟩
    .refine⟨.inr ⟨h,by have:=ba.size;omega⟩,λcO=>by have:=bB r (bD r cO);omega⟩
   .exact (e1 q).elim
   .exact (e1 q).elim
  .rw[Dr hu,Oi,<-cM];exact bu ac ba λr q he=>by
    have he:r=ae:=he;subst he;exact b7 ac bK Φ q rfl
  .exact (e1 q).elim
  .refine⟨cD.1,λj x f J bc=>?_⟩;have bc:((n.funs.take 0).map (kE n.sizes))[j]?=σ f:=bc;simp at bc
  .exact (e1 q).elim
  .refine⟨cH.1,λj x e J he=>?_⟩;have he:([]:List wT)[j]?=σ e:=he;simp at he
  .rw[Do,cL,X];rfl
  .rcases q with q|q
   .exact bL r q
   .omega
 .rintro aB b9 ⟨A,I,t,O,aW,X,Y,aD⟩;refine cE Ω ?_;refine(Dc (h.ext O)).mono ?_;rintro _ dA _ ⟨rfl,bO⟩;refine ck.range n.funs.length (λj ad=>∃A R aK t,Ext w ad/\eJ ad ae gT B I aK (.slice ν 0 0) A R n (eT n n.sizes.length j) t/\t.bT=(eT n n.sizes.length j).cells/\Plain t/\(∀r,A r->w.heap.size<=r)/\∀r,R r->R0 r\/w.heap.size<=r) Ω
   ⟨A,_,_,t,O.trans bO,aW.ext bO,X,Y,aD,λ_ h=>.inl h⟩ ?_ ?_
  .rintro j ad cP cQ ⟨A,R,aK,t,M,ak,P,al,ao,bd⟩ cR;obtain⟨g,aM⟩:=aJ (l:=n.funs) cQ;have be:=(C.funs g (x5 aM)).1;refine bM Ω ?_;refine(Ob (h.ext M) C aM).mono ?_;rintro aL dC _ ⟨ap,gs,dD,bP⟩;refine(Od aO (aw.trans (M.trans ap)) aM).mono ?_;rintro _ dE _ ⟨aq,gt,dF,cS,rfl,dG,dH,cT,bR⟩;have z0:=aw.size;have cU:∀r,leads cS r->r<w.heap.size:=λr q=>by obtain⟨c,bg⟩:=bR r q;have:=bg.lt;omega
   have cV:=(ak.ext ap).ext aq;have Z:∀r,A r->r<ad.heap.size:=ak.1.2.2.2;have dI:=ap.size;have cp:t.cells.length<=2000000:=by
    have h1:=tN C ag n.sizes.length j;rw[<-P]at h1;unfold aC.bT at h1;rwa [r8]at h1
   have cq:t.olds.length=0:=by rw[al.2.1];rfl
   have cr:t.marks.length=0:=by rw[al.1];rfl
   have dJ:g.2.length<=4096:=by have:=be.len;have:=be.small;omega
   have dK:g.1.length<=6:=be.scope.2;refine(Oh (sc:=g.1) cV P (bP.ls.ext aq) (λr q s=>by have:=Z r s;obtain⟨aR,_⟩:=bQ bP q;omega) cT ⟨λs=>by have:=Z _ s;omega,λs=>by have:=Z _ s;omega,λr q s=>by have:=ao r s;have:=cU r q;omega⟩ Ω Ω Ω Ω ?_).mono ?_
   .show ((n.funs.take j).map (kE n.sizes)).length<=_;rw[r8,n9];omega
   rintro _ dL _ ⟨rfl,_,aP,R',cX,bS,cZ,dM,c0⟩;rw[aN];have bV:=Ol (i:=n.sizes.length) aM;refine cR _ ⟨aP,R',cX,oh (eT n n.sizes.length j) t g.2,((M.trans ap).trans aq).then bS.1 (λr q s=>by have:=ao r s;omega),?_,?_,al.put _,λr q=>?_,λr q=>?_⟩
   .rw[bV];exact cZ
   .rw[bV];exact Og P
   .rcases bS.2.1 r q with h|h
    .exact ao r h
    .have:=M.size;have:=aq.size;omega
   .rcases c0 r q with h|h|h
    .exact bd r h
    .exact .inl (by obtain⟨c,bg⟩:=bR r h;exact bh r _ bg rfl)
    .exact .inr (by have:=M.size;have:=ap.size;have:=aq.size;omega)
  .rintro ad cP ⟨A,R,aK,t,M,ak,P,al,ao,bd⟩;refine cE Ω ?_;have e:eT n n.sizes.length n.funs.length=cY n:=by rw[<-bW];exact w3 n
   rw[e]at ak P;exact⟨M,ae,gT,A,R,t,rfl,⟨B,I,aK,_,ak⟩,P,al,ao,bd⟩
theorem Oo(L:Bytes l)(U:l.length<=100000):am x7 Ic [bI l] w λv w'=>v=kx l/\Ext w w':=by
 refine az func189 ?_;refine ic (λad ae V=>Ext w V/\∃(m:Λ)(s:Int),ad=bI m/\ae=Δ s/\Bytes m/\m.length<=100000/\ph l m s) ?_ ?_
 .rintro _ _ V ⟨M,m,s,rfl,rfl,H,ax,I⟩;rw[nR cP.u,be,al];refine⟨λN=>?_,λN=>?_⟩
  .have O:m=[]:=j6 Ω;exact⟨by rw[sU I (by rw[O];rfl)],M⟩
  have O:m≠[]:=λh=>N (by rw[h];rfl);refine p2.range m.length (λi _ _ P Q f=>Ext V f/\∃(n:Int)(a:Bool),P= .int .u64 n/\Q= .bool a/\mJ n a ((m.take i).foldl eZ 0)/\(m.take i).all gv=true) Ω ⟨Ext.refl _,0,false,rfl,rfl,JP,rfl⟩ ?_ ?_
  .rintro i af t3 _ _ f ah hi ⟨B,n,a,rfl,rfl,q,C⟩ ai;obtain⟨b,r⟩:=aJ (l:=m) hi;have ay:=H b (x5 r);rw[nR cP.u];refine bM Ω ?_;refine AA (λ_ _ P Q p=>Ext V p/\∃(n:Int)(a:Bool),P= .int .u64 n/\Q= .bool a/\mJ n a ((m.take (i+1)).foldl eZ 0)/\(m.take (i+1)).all gv=true) ?_ ?_
   .rintro aB aC a3 a4 p aj;rw[aN];exact ai _ _ _ _ _ aj
   intro aA z;refine aV (λv p=>f=p/\v= .bool (!gv b)) ?_ ?_
   rotate_left
   .intro R e;rw[qs rfl cP.u H r,aR,al];refine⟨λh=>e _ _ ⟨rfl,by unfold gv;rw[decide_eq_false Ω];rfl⟩,λh=>?_⟩;rw[qs rfl cP.u H r,bL];refine e _ _ ⟨rfl,?_⟩;unfold gv;congr 1;by_cases W:57<b
    .rw[decide_eq_true W,decide_eq_false Ω];rfl
    .rw[decide_eq_false W,decide_eq_true Ω];rfl
   rintro _ _ ⟨rfl,rfl⟩;cases S:gv b with
   |false=>
    rw[W7,bR];exact⟨by rw[sU I (Bo r S)],M.trans B⟩
   |true=>
    rw[X1,a1];have ak:=of_decide_eq_true S;have K:=JO q ak;rw[Bm r,Bl r,C,S]at z;have an:=q.1;have ao:=q.2.1;refine aV (λv p=>f=p/\v= .bool (a||decide (461168601842738790<n))) ?_ ?_
    rotate_left
    .intro R e;rw[bL,al];refine⟨λh=>e _ _ ⟨rfl,by rw[decide_eq_true h,Bool.or_true]⟩,λh=>e _ _ ⟨rfl,by rw[decide_eq_false h,Bool.or_false]⟩⟩
    rintro _ _ ⟨rfl,rfl⟩;by_cases E:a=true\/461168601842738790<n
    .have ag:(a||decide (461168601842738790<n))=true:=by rcases E with h|h<;>simp[h]
     rw[if_pos E,ag]at K;rw[ag,bH,X1,a1];exact z _ _ _ _ _ ⟨B,n,true,rfl,rfl,K,rfl⟩
    .have ag:(a||decide (461168601842738790<n))=false:=by
      cases a with
      |true=>exact absurd (.inl rfl) E
      |false=>simp;omega
     rw[if_neg E,ag]at K;have aD:¬461168601842738790<n:=λh=>E (.inr h);rw[ag,bH,W7,bR,hU,qs rfl cP.u H r,dN,wrap_u8 Ω Ω,fh cI.u fF.u,wrap_u64 Ω Ω,wrap_u64 Ω Ω,aN,wrap_u64 Ω Ω];exact z _ _ _ _ _ ⟨B,_,false,rfl,rfl,K,rfl⟩
  .rintro af t3 _ _ f ah ⟨B,n,a,rfl,rfl,q,C⟩;rw[o7]at C q;rw[nR cP.u];refine cE Ω ?_;have X:=JQ q;have an:=q.1;have ao:=q.2.1;have ap:∀{x:Int},x=m.foldl eZ 0->0<=x->x<=4611686018427387904->(ac x7 (convert fF au (.int .u64 x)) f λaq=>
     ac x7 (aM .mul au false false (Δ s) aq) f λav=>(λv w'=>v=kx l/\Ext w w') (.tuple #[av,(Δ 0)]) f):=by
    intro x J N h1;rw[fh fF.u au.u,wrap_i64 Ω Ω,hU];have hw:X5.wrap (s*x)=s*x:=by
     rcases I.1 with rfl|rfl<;>exact wrap_i64 Ω Ω
    rw[hw];refine⟨?_,M.trans B⟩;rw[Br I (Bn O C),J]
   refine aV (λv p=>f=p/\v= .int .u64 (m.foldl eZ 0)) ?_ ?_
   .rintro _ _ ⟨rfl,rfl⟩;have Y:=sI (l:=m) (n:=0) C ⟨Int.le_refl _,Φ⟩;exact ap rfl Y.1 Y.2
   intro R e;refine aV (λv p=>f=p/\v= .bool (a||decide (4611686018427387904<n))) ?_ ?_
   .rintro _ _ ⟨rfl,rfl⟩;rw[b2];refine⟨λh=>e _ _ ⟨rfl,?_⟩,λh=>e _ _ ⟨rfl,?_⟩⟩
    .have h':a=true\/4611686018427387904<n:=by simpa using h
     rw[X,if_pos h']
    .have h':¬(a=true\/4611686018427387904<n):=by
      intro G;rcases G with G|G
      .simp[G]at h
      .simp[G]at h
     rw[X,if_neg h']
   .intro aE Z;cases a with
    |true=>rw[bR];exact Z _ _ ⟨rfl,rfl⟩
    |false=>rw[a1,bL];exact Z _ _ ⟨rfl,by rw[Bool.false_or]⟩
 .intro aA z;refine aV (λv aa=>w=aa/\∃c:Bool,v= .bool c/\(c=true↔l[0]?=σ 45)) ?_ ?_
  .rintro _ _ ⟨rfl,c,rfl,ab⟩;rw[b2];refine⟨λaw=>?_,λag=>?_⟩
   .obtain⟨m,rfl⟩:∃m,l=45::m:=by
     have:=ab.1 aw;cases l with
     |nil=>simp at this
     |cons x m=>exact⟨m,by simp at this;rw[this]⟩
    rw[AD (y:=1) (i:=1) rfl cP.u Ξ];exact z _ _ _ ⟨Ext.refl _,m,-1,rfl,rfl,λb A=>L b (.tail _ A),by simp at U;omega,Bp⟩
   .refine z _ _ _ ⟨Ext.refl _,l,1,rfl,rfl,L,U,Bq λb A he=>?_⟩;subst he;have:=ab.2 A;rw[ag]at this;cases this
  .intro R e;rw[nR cP.u,bL,al];refine⟨λh=>?_,λh=>e _ _ ⟨rfl,false,rfl,?_⟩⟩
   .obtain⟨b,A⟩:=aJ (l:=l) (i:=0) Ω;rw[qs (y:=0) (i:=0) rfl cP.u L A,be];refine e _ _ ⟨rfl,_,rfl,?_⟩;rw[decide_eq_true_eq,A];exact⟨λh=>by rw[h],λh=>b9 h⟩
   .have:l=[]:=j6 Ω;subst this;simp
theorem Oq{s:Go.Sem x1}(h:ac x7 s w λu=>u=v)(hk:K v):ac x7 s w K:=by
 obtain⟨u,h1,rfl⟩:=h;exact⟨u,h1,hk⟩
abbrev hd:Type:=Λ×Int
def fT(x:hd):List x1:=[bI x.1,Δ x.2]
theorem w5(x:hd):∀u∈fT x,u.oneCell'=true:=by
 intro u hu;simp[fT]at hu;rcases hu with rfl|rfl<;>rfl
def iY(w:x3)(v:x1)(L:List hd):Prop:=cg w 2 v L.length (L.flatMap fT)
theorem w6{g:Nat}{L:List hd}(h:bi fT 2 cp w g v L):iY w v L:=h.sl
theorem Ds{L:List hd}(h:iY w v L):ac x7 (W9 #[fg] a #[v]) w K=K (Δ (L.length:Int)):=by
 obtain⟨_,_,_,_,_,rfl,_⟩:=h;exact hs fg.u
theorem Ot{k n:Nat}{cs:List x1}(h:cg w k v n cs)(f:ai S w w')(p:∀r,leadsTo v r->¬S r):cg w' k v n cs:=by
 obtain⟨h1,b,o,base,cap,rfl,q,s,e,x⟩:=h;refine⟨h1,b,o,base,cap,rfl,q,s,e,?_⟩;rcases Q0 n with a|a
 .have:cs=[]:=j6 (by rw[h1,a,Nat.zero_mul]);subst this;intro j v ad;simp at ad
 .have y:=e a;exact jh f (p b ⟨⟨b,o,ν⟩,n,cap,by rw[y],rfl⟩) x
theorem iY.ab{L:List hd}(h:iY w v L)(a:ai S w w')(e:∀r,leadsTo v r->¬S r):iY w' v L:=Ot h a e
theorem Dt{x:hd}{L:List hd}(h:iY w v (x::L))(a:∀b o,w.rangeAt b o (fT x)->K (.pointer (σ ⟨b,o,ν⟩))):ac x7 (c7 fg v (Δ 0)) w K:=by
 obtain⟨_,b,o,base,cap,rfl,_,_,e,f⟩:=h;have:=e8 (P:=x7) (w:=w) (K:=K) (k:=.i64) (c:=cap) fg.u cp.i (show 0<(x::L).length by simp) e;rw[show((0:Nat):Int)=0 from rfl]at this;rw[this];refine a _ _ λj u hu=>?_;have p:=(x4.1 hu).1;rw[Nat.zero_mul,Nat.add_zero];exact f j u (by rw[X7,Y5 p];exact hu)
theorem Ou{x:hd}{L:List hd}(h:iY w v (x::L))(y:∀p,(∀w',iY w' v (x::L)->iY w' p L)->(∀r,leadsTo p r->leadsTo v r)->K p):ac x7 (V8 fg v (σ (Δ 1)) ν ν) w K:=by
 have C:=h;obtain⟨_,b,o,base,cap,rfl,E,_⟩:=h;rw[gV fg.u cp.i (nF 1 1 rfl) jj e9 Ξ Ω (o4 _)];refine y _ (λw' z=>?_) λr A=>?_
 .have:=cg.part (l:=1) (h:=(x::L).length) (m:=cap) z Ξ (o4 _) Ω (o4 _);have e:(((x::L).flatMap fT).drop (1*2)).take (((x::L).length-1)*2)=L.flatMap fT:=by
   rw[X7];have B:(L.flatMap fT).length=L.length*2:=hZ (k:=2) λ_ _=>rfl;show(L.flatMap fT).take _=_;rw[b6 (by rw[B,c8,Nat.add_sub_cancel];exact o4 _)]
  rw[e]at this;exact this
 .obtain⟨a,n,c,f,s⟩:=A;split at f
  .cases f;exact⟨_,_,_,rfl,s⟩
  .cases base with
   |none=>cases f
   |some q=>cases f;exact⟨_,_,_,rfl,s⟩
theorem Ov{g n:Nat}{L:List hd}(z:y=(n:Int))(h:bi fT 2 cp w g v L)(A:n<=L.length)(B:∀s,iY w s (L.take n)->(∀r,leadsTo s r->leadsTo v r)->K s):ac x7 (V8 fg v ν (σ (Δ y)) ν) w K:=by
 have C:=w6 h;obtain⟨_,b,o,base,cap,rfl,G,_⟩:=h.sl;rw[gV fg.u cp.i ji (nG n y z) e9 (X4 _) Ω (o4 _)];refine B _ ?_ λr E=>?_
 .have:=cg.part (l:=0) (h:=n) (m:=cap) C (X4 _) A Ω (o4 _);have e:((L.flatMap fT).drop (0*2)).take ((n-0)*2)=(L.take n).flatMap fT:=by
   rw[Nat.zero_mul,List.drop_zero,Nat.sub_zero,pp (f:=fT) (k:=2) n λ_ _=>rfl]
  rw[e]at this;have F:(L.take n).length=n-0:=by rw[n9];omega
  unfold iY;rw[F];exact this
 .obtain⟨a,n,c,p,x⟩:=E;split at p
  .cases p;exact⟨_,_,_,rfl,x⟩
  .cases base with
   |none=>cases p
   |some q=>cases p;exact⟨_,_,_,rfl,x⟩
def Ow(w:x3)(pl:Λ)(v:x1)(w':x3):Prop:=Ext w w'/\∃a L,∃bad:Int,v= .tuple #[a,Δ bad]/\iY w' a L/\L.map (·.1)=(lex pl).1/\(0<=bad↔(lex pl).2=false)/\(∀r,leadsTo a r->w.heap.size<=r)/\∀r,leadsTo a r->∃c,af w' r cp c
theorem Ox{p:x1}(R:aI .u8 w p pl)(aB:Bytes pl)(bb:pl.length<=65536):am x7 Hn [p] w (Ow w pl):=by
 refine az func114 ?_;rw[aX cN.u R];refine p2.range pl.length (λi _ _ A I V=>Ext w V/\∃g L,∃(q:List (Λ))(B:Λ)(op:Bool),I= .bool op/\bi fT 2 cp V g A L/\L.map (·.1)=(if op then q++[B]else q)/\(op=true->B.length<=i)/\L.length<=i/\ij (pl.drop i) q B op=lex pl/\∀r,leadsTo A r->w.heap.size<=r) R.le
  ⟨Ext.refl _,0,[],[],[],false,rfl,bi.nil _ _ _ _ _,rfl,(λh=>by cases h),o4 _,Ka pl,λr C=>(e1 C).elim⟩ ?_ ?_
 rotate_left
 .rintro aC t3 A I V aD ⟨G,g,L,q,B,op,rfl,E,z,_,_,s,H⟩;refine cE Ω ?_;rw[List.drop_length]at s;have s:(if op then q++[B]else q,true)=lex pl:=s;exact⟨G,A,L,-1,rfl,w6 E,by rw[z,<-s],by rw[<-s];simp,H,λr C=>by obtain⟨rfl,c,Y⟩:=dS E C;exact⟨c,Y⟩⟩
 rintro i aC t3 A I V aD hi ⟨G,g,L,q,B,op,rfl,E,z,ak,bc,s,H⟩ aE;obtain⟨b,Z⟩:=aJ (l:=pl) hi;have bd:=aB b (x5 Z);have an:pl.drop i=b::pl.drop (i+1):=by rw[X6 hi,(x4.1 Z).2]
 rw[an]at s;unfold ij at s;refine bM Ω ?_;refine AA (λ_ _ A I aa=>Ext w aa/\∃g L,∃(q:List (Λ))(B:Λ)(op:Bool),I= .bool op/\bi fT 2 cp aa g A L/\L.map (·.1)=(if op then q++[B]else q)/\(op=true->B.length<=i+1)/\L.length<=i+1/\ij (pl.drop (i+1)) q B op=lex pl/\∀r,leadsTo A r->w.heap.size<=r) ?_ ?_
 .rintro bf bh a3 a4 aa aF;rw[aN];exact aE _ _ _ _ _ aF
 intro aA ao;rw[bg cN.u cI.i Ψ (R.ext G) Z];refine aV (λv N=>V=N/\v= .bool (cv b)) ?_ ?_
 rotate_left
 .intro ab y;unfold cv at y;rw[be,al];refine⟨λh=>y _ _ ⟨rfl,by rw[decide_eq_true (.inl h)]⟩,λh1=>?_⟩;rw[be,al];refine⟨λh=>y _ _ ⟨rfl,by rw[decide_eq_true (.inr (.inl h))]⟩,λS=>?_⟩;rw[be,al];refine⟨λh=>y _ _ ⟨rfl,by rw[decide_eq_true (.inr (.inr (.inl h)))]⟩,λaG=>?_⟩;rw[be];refine y _ _ ⟨rfl,?_⟩;congr 1;rw[V9,decide_eq_true_eq,decide_eq_true_eq];exact⟨λh=>.inr (.inr (.inr h)),λh=>by rcases h with h|h|h|h;exact absurd h h1;exact absurd h S;exact absurd h aG;exact h⟩
 rintro _ _ ⟨rfl,rfl⟩;cases U:cv b with
 |true=>
  rw[bR];rw[if_pos U]at s;exact ao _ _ _ _ _ ⟨G,g,L,_,[],false,rfl,E,z,(λh=>by cases h),Ω,s,H⟩
 |false=>
  rw[a1];rw[if_neg (by rw[U];simp)]at s;refine aV (λv N=>V=N/\v= .bool (!bN b)) ?_ ?_
  rotate_left
  .intro ab y;unfold bN at y;rw[aR,al];refine⟨λh=>y _ _ ⟨rfl,by rw[decide_eq_false Ω];rfl⟩,λh=>?_⟩;rw[bL];refine y _ _ ⟨rfl,?_⟩;by_cases S:126<b
   .rw[decide_eq_true S,decide_eq_false Ω];rfl
   .rw[decide_eq_false S,decide_eq_true Ω];rfl
  rintro _ _ ⟨rfl,rfl⟩;cases hw:bN b with
  |false=>
   rw[W7,bR];rw[if_neg (by rw[hw];simp)]at s;refine aV (λv N=>V=N/\∃W,iY V v W/\W.map (·.1)=q/\(∀r,leadsTo v r->w.heap.size<=r)/\∀r,leadsTo v r->leadsTo A r) ?_ ?_
   .rintro v _ ⟨rfl,W,ad,aH,X,aK⟩;exact⟨G,v,W,(i:Int),rfl,ad,by rw[aH,<-s],by rw[<-s];simp,X,λr C=>by obtain⟨rfl,c,Y⟩:=dS E (aK r C);exact⟨c,Y⟩⟩
   .intro ab y;cases op with
    |false=>
     rw[a1];rw[if_neg Ξ]at z;exact y _ _ ⟨rfl,L,w6 E,z,H,λ_ h=>h⟩
    |true=>
     rw[bR];rw[if_pos rfl]at z;have ae:L.length=q.length+1:=by have:=congrArg S3 z;simpa using this
     rw[ee fg.u E,dN,wrap_i64 Ω Ω];refine Ov (n:=q.length) Ω E Ω λO ad X=>y _ _ ⟨rfl,_,ad,?_,λr C=>H r (X r C),X⟩;rw[List.map_take,z,List.take_left]
  |true=>
   rw[X1,a1];rw[if_pos hw]at s;refine aV (λA af=>Ext w af/\∃g M,∃x:hd,bi fT 2 cp af g A (M++[x])/\M.map (·.1)=q/\x.1=(if op then B else[])/\(M++[x]).length<=i+1/\∀r,leadsTo A r->w.heap.size<=r) ?_ ?_
   .rintro bj af ⟨ap,aL,M,x,aM,aO,J,aP,aq⟩;intro ag ah _ _;have Q:=aM.ext ah;have au:(M++[x])[M.length]?=σ x:=Ξ
    have bk:(M++[x]).length=M.length+1:=Ξ
    rw[ee fg.u Q,dN,wrap_i64 Ω Ω,dr (i:=M.length) Ω fg.u cp.i Q Ω,aU cp.p rfl,ax (o:=M.length*2+0) Ψ (Q.range au 0 _ rfl),aN,wrap_i64 Ω Ω];obtain⟨bl,av⟩:∃O,aI .u8 ag O [b]/\ac x7 (V8 cN p (σ (Δ (i:Int))) (σ (Δ ((i:Int)+1))) ν) ag (λv=>v=O):=by
     have aQ:=R.ext (ap.trans ah);have:=sK (P:=x7) (low:=σ (Δ (i:Int))) (high:=σ (Δ ((i:Int)+1))) (K:=λv=>aI .u8 ag v [b]) cN.u cI.i aQ (nF i _ rfl) (nG (i+1) ((i:Int)+1) Ω) Ω Ω λO aw=>by
      have e:((ints .u8 pl).drop (i*1)).take ((i+1-i)*1)=ints .u8 [b]:=by
       simp only[U1,show i+1-i=1 by omega];rw[ints,<-List.map_drop,<-List.map_take,an];rfl
      rw[e]at aw;exact aI.of (n:=i+1-i) aw
     obtain⟨v,aS,aT⟩:=this;exact⟨v,aT,v,aS,rfl⟩
    refine Oq av.2 ?_;have bm:x.1.length<=65536:=by
     rw[J];cases op with
     |true=>rw[if_pos rfl];have:=ak rfl;omega
     |false=>simp
    rw[vK cN.u cI.u cP.u av.1,vI Θ,dr (i:=M.length) Ω fg.u cp.i Q Ω,aU cp.p rfl];refine pr (f:=fT) (j:=0) (a:=x) (a':=(x.1++[b],x.2)) cP.i rfl rfl Q au rfl Ω λbn aW bo ay=>?_;have e:(M++[x]).set M.length (x.1++[b],x.2)=M++[(x.1++[b],x.2)]:=by
     rw[T4 _ _ (o4 _),U3];rfl
    rw[e]at ay;refine ao _ _ _ _ _ ⟨(ap.trans ah).then aW (λr C he=>by have:=aq r he;omega),aL,_,q,x.1++[b],true,rfl,ay,by rw[Z4,aO];rfl,λ_=>?_,by simp at aP ⊢;omega,?_,aq⟩
    .rw[r9,J];cases op with
     |true=>rw[if_pos rfl];have:=ak rfl;simp;omega
     |false=>simp
    .rw[<-s,J];cases op with
     |true=>rfl
     |false=>rfl
   .intro ab y;cases op with
    |true=>
     rw[bH,X1,a1];rw[if_pos rfl]at z;have ae:L.length=q.length+1:=by have:=congrArg S3 z;simpa using this
     obtain⟨M,x,rfl⟩:∃M x,L=M++[x]:=by
      have:L≠[]:=λh=>by rw[h]at ae;simp at ae
      exact⟨L.dropLast,L.getLast this,(List.dropLast_concat_getLast this).symm⟩
     rw[Z4]at z;obtain⟨aY,ai⟩:=List.append_inj' z Ξ;refine y _ _ ⟨G,g,M,x,E,aY,?_,Ω,H⟩;rw[if_pos rfl];have ai:[x.1]=[B]:=ai;exact(List.cons.inj ai).1
    |false=>
     rw[bH,W7,bR];rw[if_neg Ξ]at z;rw[cW (cs:=#[bI [],Δ (i:Int)]) Ψ];refine hE (f:=fT) (a:=(([],(i:Int)):hd)) fg.u cp.i Ω rfl rfl λv9 bp bq br aj aZ=>?_;have a2:=E.ext aj;refine io (f:=fT) (a:=(([],(i:Int)):hd)) fg.u cp.i rfl a2 (by simpa using aZ.sl) (w5 _) Ω Ω λO a6 bt a7 a8 ba=>?_;have bu:=G.size;have z9:=aj.size;refine y _ _ ⟨(G.trans aj).then ba (λr C he=>by have:=H r he;omega),a6,L,_,a7,z,rfl,Θ,λr C=>?_⟩;rcases a8 r C with h|h
     .exact H r h
     .omega
structure w7 where
 v:x1
 t:Λ
 c:Int
def oi(y:w7):List x1:=[y.v,Δ y.c]
def kF(w:x3)(g:Nat)(v:x1)(l:List (Λ×Int)):Prop:=∃L:List w7,bi oi 2 b5 w g v L/\(∀y∈L,∃gy,av .i64 au w gy y.v y.t)/\L.map (λy=>(y.t,y.c))=l
structure iZ where
 aL:x1
 szv:x1
 o:Int
 b1:x1
def eU(h:iZ):List x1:=[h.aL,h.szv,Δ h.o,h.b1]
def gO(w:x3)(h:iZ)(x:cj):Prop:=(∃g,av .i64 au w g h.aL x.scope)/\(∃g,av .i64 au w g h.szv x.sizes)/\h.o=x.other/\∃g,kF w g h.b1 x.lines
def hf(w:x3)(r:Nat):Prop:=∃e c,af w r e c/\e≠au/\e≠b5
theorem ey{g:Nat}(h:av .i64 au w g v l)(f:ai S w w')(p:∀r,S r->hf w r\/w.heap.size<=r):av .i64 au w' g v l:=bu h f λr a U=>by
 rcases p r U with⟨e,c,q,s,_⟩|x
 .exact b7 h q (λhe=>s he.symm) a rfl
 .obtain⟨y,z⟩:=bQ h a;omega
theorem w8{α:Type}{f:α->List x1}{k:Nat}{g:Nat}{L:List α}(h:bi f k e w g v L)(q:ai S w w')(s:∀r,S r->(∃a c,af w r a c/\a≠e)\/w.heap.size<=r):bi f k e w' g v L:=h.ab q λr p U=>by
 rcases s r U with⟨a,c,x,y⟩|z
 .exact cO h x (λhe=>y he.symm) p
 .obtain⟨A,B⟩:=h.leads p;omega
theorem kF.dK{g:Nat}{l:List (Λ×Int)}(h:kF w g v l)(a:ai S w w')(f:∀r,S r->hf w r\/w.heap.size<=r):kF w' g v l:=by
 obtain⟨L,h1,p,q⟩:=h;refine⟨L,w8 h1 a λr s=>(f r s).imp (λ⟨e,c,x,_,z⟩=>⟨e,c,x,z⟩) id,λy A=>?_,q⟩;obtain⟨gy,hm⟩:=p y A;exact⟨gy,ey hm a f⟩
theorem gO.dK{h:iZ}{x:cj}(aB:gO w h x)(a:ai S w w')(e:∀r,S r->hf w r\/w.heap.size<=r):gO w' h x:=by
 obtain⟨⟨g1,h1⟩,⟨f,p⟩,q,s,y⟩:=aB;exact⟨⟨g1,ey h1 a e⟩,⟨f,ey p a e⟩,q,s,y.dK a e⟩
theorem gO.ext{h:iZ}{x:cj}(aB:gO w h x)(J:Ext w w'):gO w' h x:=aB.dK (J.ab λ_=>False) λ_ h=>h.elim
theorem gO.one{h:iZ}{x:cj}(aB:gO w h x):∀u∈eU h,u.oneCell'=true:=by
 obtain⟨⟨g1,h1⟩,⟨f,a⟩,p,q,L,e,_⟩:=aB;intro u hu;simp[eU]at hu;rcases hu with rfl|rfl|rfl|rfl
 .exact h1.ls.cells.2
 .exact a.ls.cells.2
 .rfl
 .exact (eI e.sl).2
def mf(w:x3)(a:x1)(f:List hd)(gs:Nat)(sv:x1)(L:List iZ)(e:List cj):Prop:=(iY w a f/\∀r,leadsTo a r->∃c,af w r cp c)/\bi eU 4 a8 w gs sv L/\e.length=L.length/\∀(i:Nat)h x,L[i]?=σ h->e[i]?=σ x->gO w h x
theorem mf.dK{q:x1}{z:List hd}{L:List iZ}{A:List cj}(h:mf w q z gs sv L A)(p:ai S w w')(s:∀r,S r->(∃e c,af w r e c/\e≠au/\e≠b5/\e≠cp/\¬leadsTo sv r)\/w.heap.size<=r):mf w' q z gs sv L A:=by
 obtain⟨⟨h1,B⟩,C,F,G⟩:=h;have hw:∀r,leadsTo q r->¬S r:=λr a U=>by
  obtain⟨c,f⟩:=B r a;rcases s r U with⟨e,H,E,_,_,y,_⟩|I
  .exact y (eH E f)
  .have:=f.lt;omega
 refine⟨⟨h1.ab p hw,λr a=>?_⟩,C.ab p λr a U=>?_,F,λi aB x hi J=>(G i aB x hi J).dK p λr a=>(s r a).imp (λ⟨e,c,f,K,M,_⟩=>⟨e,c,f,K,M⟩) id⟩
 .obtain⟨c,f⟩:=B r a;exact⟨c,f.ab p (hw r a)⟩
 .rcases s r U with⟨e,H,E,_,_,_,y⟩|I
  .exact y a
  .obtain⟨N,O⟩:=C.leads a;omega
def gC(a:x1)(e f bad h big p told:Int)(sv:x1):List x1:=[a,Δ e,Δ f,Δ bad,Δ h,Δ big,Δ p,Δ told,sv]
def Oy(N:Nat)(so:Option aE)(a:List hd)(e bad big told:Int)(L:List iZ)(f:List cj):Prop:=match so with
 |some s=>bad=0/\e≠0/\(big≠0↔s.big=true)/\(s.big=false->told=s.told)/\True/\a.map (·.1)=s.toks/\(∀t∈s.toks,Bytes t/\t.length<=65536)/\f.map (λx=>(x.sizes,x.lines))=s.shared/\L.length+a.length<=100000
 |none=>bad≠0/\L.length<=N
def bK(w:x3)(g B:Nat)(H:aj)(N:Nat)(so:Option aE):Prop:=100000<=N/\∃w0 a e gs sv L f,∃(p h bad q big s told:Int),w0.heap.size=B/\ai (λr=>r=g) w0 w/\(∃c,af w0 g bz c)/\af w g bz (gC a p h bad q big s told sv)/\mf w0 a e gs sv L f/\(∀r,leadsTo sv r->H r)/\Oy N so e h bad big told L f
theorem mf.g{g:Nat}{e:x1}{f:List hd}{L:List iZ}{p:List cj}(h:mf w e f gs sv L p)(s:ai (λr=>r=g) w w')(x:∃c,af w g bz c):mf w' e f gs sv L p:=
 h.dK s λr a=>.inl (by
  have a:r=g:=a;subst a;obtain⟨c,q⟩:=x;exact⟨_,c,q,Φ,Φ,Φ,λy=>cO h.2.1 q Φ y⟩)
theorem bK.new{g:Nat}{H:aj}{so:Option aE}(h:bK w g B H N so)(a:ai S w w')(e:∀r,S r->B<=r):bK w' g B H N so:=by
 obtain⟨x,w0,y,z,gs,sv,L,A,C,E,bad,F,big,G,told,h1,f,p,I,J,K,M⟩:=h;have q:g<w0.heap.size:=by obtain⟨c,O⟩:=p;exact O.lt
 exact⟨x,w0,y,z,gs,sv,L,A,C,E,bad,F,big,G,told,h1,⟨Y8 f.size a.size,λr o s U q=>a.aZ r o (f.aZ r o s U q) U λP=>by
  have:=e r P;have:=(l9.1 s).1;omega⟩,p,I.ab a λU=>by have:=e g U;omega,J,K,M⟩
theorem bK.ext{g:Nat}{H:aj}{so:Option aE}(h:bK w g B H N so)(J:Ext w w'):bK w' g B H N so:=h.new (J.ab λ_=>False) λ_ h=>h.elim
theorem bK.base{g:Nat}{H:aj}{so:Option aE}(h:bK w g B H N so):bK w g w.heap.size H N so:=by
 obtain⟨e,w0,f,p,gs,sv,L,q,r,s,bad,x,big,y,told,h1,z,A,a,C,E,F⟩:=h;exact⟨e,w,f,p,gs,sv,L,q,r,s,bad,x,big,y,told,rfl,ai.refl _ _,⟨_,a⟩,a,C.g z A,E,F⟩
theorem bK.dK{g:Nat}{H:aj}{so:Option aE}(h:bK w g B H N so)(p:ai S w w')(q:∀r,S r->(∃e c,af w r e c/\e≠au/\e≠b5/\e≠cp/\e≠bz/\¬H r)\/w.heap.size<=r):bK w' g w'.heap.size H N so:=by
 obtain⟨A,w0,s,x,gs,sv,L,y,C,E,bad,F,big,G,told,h1,I,J,f,K,z,M⟩:=h.base;have O:mf w s x gs sv L y:=K.g I J;have a:=f.ab p λU=>by
  rcases q g U with⟨e,c,a,_,_,_,P,_⟩|Z
  .exact P (eH a f)
  .have:=f.lt;omega
 refine⟨A,w',s,x,gs,sv,L,y,C,E,bad,F,big,G,told,rfl,ai.refl _ _,⟨_,a⟩,a,O.dK p λr Q=>(q r Q).imp (λ⟨e,c,a,R,V,W,_,X⟩=>⟨e,c,a,R,V,W,λY=>X (z r Y)⟩) id,z,M⟩
theorem bK.lt{g:Nat}{H:aj}{so:Option aE}(h:bK w g B H N so):g<B/\B<=w.heap.size:=by
 obtain⟨f,w0,p,q,gs,sv,L,r,s,x,bad,y,big,z,told,h1,a,⟨c,e⟩,_⟩:=h;have:=e.lt;have:=a.size;omega
theorem h2{g:Nat}{H:aj}{so:Option aE}(h:bK w g B H N so):∃a,∃(e f bad p big q told:Int),∃sv,af w g bz (gC a e f bad p big q told sv)/\(so.isSome=true↔bad=0):=by
 obtain⟨y,w0,a,z,gs,sv,L,A,e,f,bad,p,big,q,told,h1,C,E,x,F,G,r⟩:=h;refine⟨a,e,f,bad,p,big,q,told,sv,x,?_⟩;cases so with
 |none=>exact⟨(λh=>by cases h),λh=>absurd h r.1⟩
 |some s=>exact⟨λ_=>r.1,λ_=>rfl⟩
theorem lr{g:Nat}{H:aj}{so:Option aE}(h:bK w g B H N so):ac x7 (bO (Γ g)) w (λa=>ac x7 (u6 bz a 3) w λt45=>ac x7 (u5 ah t45) w λt46=>ac x7 (aM .eql ah false true t46 (Δ 0)) w K)=K (.bool so.isSome):=by
 obtain⟨f,q,r,bad,s,big,x,told,sv,e,hi⟩:=h2 h;rw[aS bz.p 3 e rfl,be];congr 2;rw[V9,decide_eq_true_eq];exact hi.symm
theorem rh{g:Nat}{H:aj}{so:Option aE}(h:bK w g B H N so):ac x7 (bO (Γ g)) w (λf=>ac x7 (u6 bz f 3) w λt45=>ac x7 (u5 ah t45) w λt46=>ac x7 (aM .neq ah false true t46 (Δ 0)) w K)=K (.bool (!so.isSome)):=by
 obtain⟨r,s,x,bad,y,big,z,told,sv,q,hi⟩:=h2 h;rw[aS bz.p 3 q rfl,bC];congr 2;cases e:so.isSome with
 |true=>have a:=hi.1 e;simp[a]
 |false=>
  have a:bad≠0:=λa=>by rw[hi.2 a]at e;cases e
  simp[a]
def pD(w:x3)(g B:Nat)(H:aj)(N:Nat)(so:Option aE)(w':x3):Prop:=ai (λr=>r=g) w w'/\bK w' g B H N so
theorem oj{g:Nat}{H:aj}{so:Option aE}{e at_:Int}(h:bK w g B H N so)(he:e≠0):am x7 nz [Γ g,Δ e,Δ at_] w λ_ w'=>pD w g B H N ν w':=by
 refine az func119 ?_;rw[lr h];cases so with
 |none=>rw[S8,a1];exact⟨ai.refl _ _,h⟩
 |some s=>
  rw[T9,bR];obtain⟨z,w0,f,A,gs,sv,L,C,q,r,bad,R,big,x,told,h1,E,G,I,J,K,M⟩:=h;rw[bU,aU bz.p rfl];refine bl (g:=g) (o:=3) ah.i rfl rfl I (by simp[gC]) λV O S P=>?_;rw[bU,aU bz.p rfl];refine bl (g:=g) (o:=4) ah.i rfl rfl P (by simp[gC]) λaa Q U a=>?_;have a:af aa g bz (gC f q r e at_ big x told sv):=a;have y:=O.trans Q;obtain⟨_,_,_,_,_,_,_,_,W⟩:=M;exact⟨y,z,w0,f,A,gs,sv,L,C,q,r,e,at_,big,x,told,h1,E.trans y,G,a,J,K,he,Ω⟩
theorem mY{g:Nat}{H:aj}{so:Option aE}{b:Bool}{at_:Int}(h:bK w g B H N so):am x7 sh [Γ g,.bool b,Δ at_] w λ_ w'=>pD w g B H N (so.map (ba b)) w':=by
 refine az func116 ?_;obtain⟨J,w0,e,K,gs,sv,L,M,f,q,bad,r,big,X,told,h1,O,P,x,Q,R,y⟩:=id h;refine aV (λv V=>w=V/\v= .bool (b&&decide (big=0)&&so.isSome)) ?_ ?_
 .rintro _ _ ⟨rfl,rfl⟩;rw[b2];refine⟨λS=>?_,λag=>⟨ai.refl _ _,J,w0,e,K,gs,sv,L,M,f,q,bad,r,big,X,told,h1,O,P,x,Q,R,?_⟩⟩
  .rw[V7,V7]at S;obtain⟨⟨Y,ae⟩,Z⟩:=S;rw[bU,aU bz.p rfl];refine bl (g:=g) (o:=5) ah.i rfl rfl x (by simp[gC]) λV ab ak ac=>?_;rw[bU,aU bz.p rfl];refine bl (g:=g) (o:=6) ah.i rfl rfl ac (by simp[gC]) λaa ad an z=>?_;have z:af aa g bz (gC e f q bad r 5 at_ told sv):=z;have U:=ab.trans ad;refine⟨U,J,w0,e,K,gs,sv,L,M,f,q,bad,r,5,at_,told,h1,O.trans U,P,z,Q,R,?_⟩;cases so with
   |none=>cases Z
   |some s=>
    obtain⟨A,C,W,E,G⟩:=y;exact⟨A,C,⟨λ_=>by show(s.big||b)=true;rw[Y,Bool.or_true],λ_=>Ω⟩,λaB=>E (S5.1 aB).1,G⟩
  .cases so with
   |none=>exact y
   |some s=>
    obtain⟨A,C,W,E,G⟩:=y;refine⟨A,C,?_,λaB=>E (S5.1 aB).1,G⟩;show big≠0↔(s.big||b)=true;cases b with
    |false=>rw[Bool.or_false];exact W
    |true=>
     have a:big≠0:=by simpa using ag
     simp[a]
 .intro aA I;cases b with
  |false=>rw[a1];exact I _ _ ⟨rfl,Ξ⟩
  |true=>
   rw[bR,aS bz.p 5 x rfl,be,al];refine⟨λa=>?_,λa=>I _ _ ⟨rfl,by rw[decide_eq_false a];simp⟩⟩;rw[lr h];exact I _ _ ⟨rfl,by rw[decide_eq_true a];simp⟩
def ju(so:Option aE):Option (Λ×aE):=so.bind dI
theorem Du{g:Nat}{H:aj}{so:Option aE}(h:bK w g B H N so):am x7 Ho [Γ g] w λv w'=>pD w g B H N ((ju so).map (·.2)) w'/\∃(t:Λ)(n:Int),v= .agg #[bI t,Δ n]/\Bytes t/\t.length<=65536/\∀q,ju so=σ q->t=q.1:=by
 have aH:=h.lt;refine az func115 ?_;refine bx cp.i λa V bn z A=>?_;have h1:=h.ext z;have zero:∀{f:x3},pD V g B H N ν f->af f a cp [.string ⟨#[]⟩,Δ 0]->ju so=ν->(ac x7 (Instr.build cp #[]) f λt9=>
   aD x7 (o8 cp (Γ a) t9) f λ(_:Unit)aa=>
   ac x7 (do loadVar cp (<-asAddr (Γ a))) aa λaI=>(λv w'=>pD w g B H N ((ju so).map (·.2)) w'/\∃(t:Λ)(n:Int),v= .agg #[bI t,Δ n]/\Bytes t/\t.length<=65536/\∀q,ju so=σ q->t=q.1) aI aa):=by
  intro f y J Q;rw[cW (cs:=#[.string ⟨#[]⟩,Δ 0]) Ψ];refine ci (vs:=[.string ⟨#[]⟩,Δ 0]) cp.i rfl rfl (by intro v ad;simp at ad;rcases ad with rfl|rfl<;>rfl) J λaJ Y bo aK=>?_;rw[fJ cp.p cp.i rfl aK.range,Q];have aL:=z.size;have bp:=aH;refine⟨⟨hA ((z.ab _).trans y.1) Y λr e he=>?_,y.2.new Y λr e=>?_⟩,[],0,rfl,(λb aM=>by cases aM),Ξ,λq R=>by cases R⟩
  .have he:r=a:=he;omega
  .have e:r=a:=e;omega
 rw[rh h1];cases so with
 |none=>
  rw[S8,W7,bR];exact zero ⟨ai.refl _ _,h1⟩ A rfl
 |some s=>
 rw[T9,X1,a1];obtain⟨aN,w0,bq,S,gs,sv,L,Z,ae,ag,bad,ah,big,ak,told,aO,an,ao,C,K,aP,aQ⟩:=id h1;have aR:=K.g an ao;obtain⟨⟨M,br⟩,_⟩:=id aR;obtain⟨aT,ap,aV,aW,aX,aq,au,aY,aZ⟩:=id aQ;rw[aS bz.p 0 C rfl,Ds M,be,al];refine⟨λav=>?_,λav=>?_⟩
 .have a2:S=[]:=j6 Ω;have E:s.toks=[]:=by rw[<-aq,a2];rfl
  have Q:ju (σ s)=ν:=by show dI s=ν;unfold dI;rw[E]
  intro f O _ _;have J:=C.ext O;rw[aS bz.p 2 J rfl,aS bz.p 1 J rfl];refine(oj (h1.ext O) ap).mono ?_;rintro _ aJ _ y;have a6:=A.lt;exact zero ⟨(O.ab _).trans y.1,y.2⟩ ((A.ext O).ab y.1 λhe=>by have he:a=g:=he;omega) Q
 .obtain⟨x,G,rfl⟩:∃x l,S=x::l:=by
   cases S with
   |nil=>exact absurd rfl av
   |cons x l=>exact⟨x,l,rfl⟩
  have E:s.toks=x.1::G.map (·.1):=by rw[<-aq];rfl
  have a7:ju (σ s)=σ (x.1,{s with toks:=G.map (·.1)}):=by show dI s=_;unfold dI;rw[E]
  have aw:=au x.1 (by rw[E];exact .head _);rw[aS bz.p 0 C rfl];refine Dt M λb o a8=>?_;rw[bP cp.p cp.i rfl a8];refine bx cp.i λax bt bu ba bb=>?_;refine ci (vs:=fT x) cp.i rfl rfl (w5 x) bb λbc bd bw ay=>?_;have P:Ext V bc:=ba.put bd Ω;have aA:=C.ext P;rw[aS bz.p 0 aA rfl];refine Ou (M.ab (P.ab λ_=>False) λ_ _ h=>h) λU aB bf=>?_;have aC:=aB V M;rw[bU,aU bz.p rfl];refine bl (g:=g) (o:=0) fg.i (eI aC).1 (eI aC).2 aA (by simp[gC]) λI W bA X=>?_;have X:af I g bz (gC U ae ag bad ah big ak told sv):=X;have a6:=C.lt;have bB:=ay.lt;have bC:=A.lt;have aL:=z.size;have bg:af I ax cp (fT x):=ay.ab W λhe=>by have he:ax=g:=he;omega
  rw[bP cp.p cp.i rfl bg.range];have bh:af I a cp [.string ⟨#[]⟩,Δ 0]:=(af.ext A P).ab W λhe=>by have he:a=g:=he;omega
  refine ci (vs:=fT x) cp.i rfl rfl (w5 x) bh λbD aF bE bi=>?_;rw[fJ cp.p cp.i rfl bi.range];have aG:ai (λr=>r=g) V I:=(P.ab _).trans W;rw[a7];refine⟨⟨hA ((z.ab _).trans aG) aF λr e he=>?_,?_⟩,x.1,x.2,rfl,aw.1,aw.2,λq R=>by cases R;rfl⟩
  .have he:r=a:=he;omega
  .have bj:mf w0 U G gs sv L Z:=⟨⟨aB w0 K.1.1,λr e=>K.1.2 r (bf r e)⟩,K.2⟩;have bk:bK I g B H N (σ {s with toks:=G.map (·.1)}):=⟨aN,w0,U,G,gs,sv,L,Z,ae,ag,bad,ah,big,ak,told,aO,an.trans aG,ao,X,bj,aP,aT,ap,aV,aW,aX,rfl,λt bm=>au t (by rw[E];exact .tail _ bm),aY,by simp at aZ;omega⟩;refine bk.new aF λr e=>?_;have e:r=a:=e;omega
theorem Oz{lo hi:Int}{so:Option aE}:bc lo hi so=match ju so with
  |none=>ν
  |some (w,s)=>match gw w with
   |none=>ν
   |some n=>if lo<=n/\n<=hi then σ (n,s)else ν:=by
 cases so with
 |none=>rfl
 |some s=>rfl
theorem kG{g:Nat}{H:aj}{so:Option aE}{lo hi:Int}(h:bK w g B H N so):am x7 lV [Γ g,Δ lo,Δ hi] w λv w'=>pD w g B H N ((bc lo hi so).map (·.2)) w'/\∃n at_:Int,v= .tuple #[Δ n,Δ at_]/\(∀q,bc lo hi so=σ q->n=q.1)/\(bc lo hi so=ν->n=0):=by
 have ax:=h.lt;refine az func117 ?_;refine(Du h).mono ?_;rintro _ V _ ⟨⟨M,h1⟩,t,at_,rfl,W,ay,O⟩;have aC:=h1.lt;refine bx cp.i λX aa aD Y Z=>?_;refine ci (vs:=[bI t,Δ at_]) cp.i rfl rfl (by intro v ad;simp at ad;rcases ad with rfl|rfl<;>rfl) Z λac ae aF P=>?_;have Q:Ext V ac:=Y.put ae Ω;have af:=h1.ext Q;rw[aT cp.p 0 P rfl];refine(Oo W Ω).mono ?_;rintro _ E _ ⟨rfl,G⟩;have I:=af.ext G;have R:=P.ext G;have ag:=Q.trans G;have aG:=M.size;obtain⟨n,e,ah,J,ak⟩:∃n e:Int,kx t= .tuple #[Δ n,Δ e]/\(∀m,gw t=σ m->n=m/\e=0)/\(gw t=ν->e≠0):=by
  unfold kx;cases gw t with
  |none=>exact⟨0,4,rfl,(λm hm=>by cases hm),λ_=>Ω⟩
  |some m=>exact⟨m,0,rfl,(λm hm=>by cases hm;exact⟨rfl,rfl⟩),λh=>by cases h⟩
 rw[ah,bm,bn];have a:=Oz (lo:=lo) (hi:=hi) (so:=so);have S:ai (λr=>r=g) w E:=M.trans (ag.ab _);refine da (λy=>ai (λr=>r=g) E y/\bK y g B H N ((bc lo hi so).map (·.2))) ?_ ?_
 .rintro y ⟨z,x⟩;rw[rh x];cases A:bc lo hi so with
  |none=>
   rw[A]at x;rw[Option.map_none,S8,W7,bR];exact⟨⟨S.trans z,x⟩,0,0,rfl,(λq A=>by cases A),λ_=>rfl⟩
  |some q=>
   rw[A]at x a;rw[Z6,T9,X1,a1];intro aH K _ _;have an:=(R.ab z λhe=>by have he:X=g:=he;omega).ext K;rw[aT cp.p 1 an rfl];refine⟨⟨(S.trans z).trans (K.ab _),x.ext K⟩,n,at_,rfl,λaI ao=>?_,λh=>by cases h⟩;cases ao;cases s:ju so with
   |none=>rw[s]at a;cases a
   |some p=>
    obtain⟨bq,s1⟩:=p;have L:=O (bq,s1) s;subst L;rw[s]at a;simp only at a;cases f:gw t with
    |none=>rw[f]at a;cases a
    |some m=>
     rw[f]at a;simp only at a;split at a
     .cases a;exact(J m f).1
     .cases a
 .intro aA U;refine aV (λv y=>E=y/\∃c:Bool,v= .bool c/\(c=true->bc lo hi so=ν)/\(c=false->(bc lo hi so).map (·.2)=(ju so).map (·.2))) ?_ ?_
  .rintro _ _ ⟨rfl,c,rfl,ap,aq⟩;rw[b2];refine⟨λh=>?_,λh=>U _ ⟨ai.refl _ _,by rw[aq h];exact I⟩⟩;rw[aT cp.p 1 R rfl];refine(oj I Ω).mono ?_;rintro _ y _ ⟨z,x⟩;exact U _ ⟨z,by rw[ap h];exact x⟩
  .intro aJ C;rw[lr I];cases s:ju so with
   |none=>
    rw[s]at a;simp only at a;rw[Option.map_none,S8,a1];exact C _ _ ⟨rfl,false,rfl,(λh=>by cases h),λ_=>by rw[a,s];rfl⟩
   |some p=>
    obtain⟨bq,s1⟩:=p;have L:=O (bq,s1) s;subst L;rw[s]at a;simp only at a;rw[Z6,T9,bR,bC,al];refine⟨λhe=>?_,λhe=>?_⟩
    .refine C _ _ ⟨rfl,true,rfl,λ_=>?_,λh=>by cases h⟩;cases f:gw t with
     |none=>rw[a,f]
     |some m=>exact absurd (J m f).2 he
    .have au:e=0:=Z9.1 he;cases f:gw t with
     |none=>exact absurd au (ak f)
     |some m=>
      rw[f]at a;simp only at a;have av:=(J m f).1;subst av;rw[aR,al];refine⟨λaw=>C _ _ ⟨rfl,true,rfl,λ_=>by rw[a,if_neg Ω],λh=>by cases h⟩,λaw=>?_⟩;rw[bL];refine C _ _ ⟨rfl,_,rfl,λaB=>?_,λaB=>?_⟩
      .rw[a,if_neg (by have:=of_decide_eq_true aB;omega)]
      .rw[a,if_pos (by have:=of_decide_eq_false aB;omega),s];rfl
theorem w9{bh bv:x1}{a b:Λ}(e:aI .i64 w bh a)(s:aI .i64 w bv b):am x7 si [bh,bv] w λv w'=>v= .bool (decide (a=b))/\Ext w w':=by
 refine az func190 ?_;rw[aX ay.u e,aX ay.u s,bC,al];refine⟨λh=>⟨by rw[decide_eq_false];intro he;rw[he]at h;exact h rfl,Ext.refl _⟩,λh=>?_⟩;have z:a.length=b.length:=by have:=Z9.1 h;omega
 rw[aX ay.u e];refine cb.range a.length (λi _ V=>Ext w V/\a.take i=b.take i) e.le ⟨Ext.refl _,rfl⟩ ?_ ?_
 .rintro i _ V k hi ⟨q,f⟩ hk;obtain⟨x,J⟩:=aJ (l:=a) hi;obtain⟨y,r⟩:=aJ (l:=b) (i:=i) Ω;refine bM Ω ?_;intro aa A _ _;have p:=q.trans A;rw[bg ay.u au.i Ψ (e.ext p) J,bg ay.u au.i Ψ (s.ext p) r,bC,al];refine⟨λB=>⟨by rw[decide_eq_false];intro he;rw[he,r]at J;exact B (b9 J).symm,p⟩,λhe=>?_⟩;rw[aN];refine hk _ _ ⟨p,?_⟩;rw[u9,u9,f,J,r,Z9.1 he]
 .rintro _ V k ⟨q,f⟩;rw[aR,al];refine⟨λh=>Ω,λ_=>⟨?_,q⟩⟩;rw[o7,z,o7]at f;rw[decide_eq_true f]
def hg(w:x3)(B a:Nat)(x:cj):Prop:=∃aL szv b1 g1 e f,af w a a8 [aL,szv,Δ x.other,b1]/\av .i64 au w g1 aL x.scope/\av .i64 au w e szv x.sizes/\kF w f b1 x.lines/\(∀r,leads aL r\/leads szv r->B<=r)/\(∀r,leads aL r->¬leads szv r)/\B<=a
def Dv(w:x3)(r:Nat):Prop:=(∃e c,af w r e c/\e≠au/\e≠b5/\e≠a8)\/w.heap.size<=r
theorem hg.dK{f:Nat}{x:cj}(h:hg w B f x)(a:ai S w w')(s:∀r,S r->Dv w r):hg w' B f x:=by
 obtain⟨aL,szv,b1,g1,y,z,h1,A,C,E,F,G,H⟩:=h;have p:∀r,S r->hf w r\/w.heap.size<=r:=λr I=>(s r I).imp (λ⟨e,c,q,J,K,_⟩=>⟨e,c,q,J,K⟩) id;refine⟨aL,szv,b1,g1,y,z,h1.ab a λU=>?_,ey A a p,ey C a p,E.dK a p,F,G,H⟩;rcases s f U with⟨e,c,q,_,_,L⟩|M
 .exact L (eH q h1)
 .have:=h1.lt;omega
theorem hg.ext{a:Nat}{x:cj}(h:hg w B a x)(J:Ext w w'):hg w' B a x:=h.dK (J.ab λ_=>False) λ_ h=>h.elim
theorem kH{g:Nat}{H:aj}{so:Option aE}(h:bK w g B H N so):∀r,r=g->Dv w r:=λr a=>by
 subst a;obtain⟨f,p,q,bad,s,big,x,told,sv,e,_⟩:=h2 h;exact .inl ⟨_,_,e,Φ,Φ,Φ⟩
def gP(g B:Nat):aj:=λr=>r=g\/B<=r
theorem OA{k:Nat}{acc:Λ}{s:aE}:cJ (λacc s=>match bd 0 (n-1) s with
 |none=>ν
 |some (v,s)=>if v∈acc then ν else σ (v,s)) (k+1) acc s=match bd 0 (n-1) s with
  |none=>ν
  |some (v,s')=>if v∈acc then ν else cJ (λacc s=>match bd 0 (n-1) s with
 |none=>ν
 |some (v,s)=>if v∈acc then ν else σ (v,s)) k (acc++[v]) s':=by
 rw[cJ];cases bd 0 (n-1) s with
 |none=>rfl
 |some q=>
  obtain⟨v,s'⟩:=q;simp only;by_cases ad:v∈acc
  .rw[if_pos ad,if_pos ad]
  .rw[if_neg ad,if_neg ad]
def Dw(n:Int)(k:Nat)(acc:Λ)(s:aE):Option (Λ×aE):=cJ (λacc s=>match bd 0 (n-1) s with
 |none=>ν
 |some (v,s)=>if v∈acc then ν else σ (v,s)) k acc s
theorem Dx{g f ar:Nat}{H:aj}{s:aE}{so:Option aE}{aa:x1}{aO aP:x3->Prop}(aB:bK w g B H N so)(b4:so=σ s\/(so=ν/\ar=0))(b5:hg w B f ⟨[],[],0,[]⟩)(b6:∀c,af w f a8 c->c[3]?=σ (.slice ν 0 0))(bF:av .i64 au w gz aa all)(b8:∀r,leads aa r->r<B)(dn:all.length<=100001)(dp:ar<=4611686018427387904)(aQ:so=σ s->s.toks.length<=100000)(ap:so=σ s->∀w' x,ai (gP g B) w w'->eP all.length ar s=ν->bK w' g B H N ν->hg w' B f x->aO w')(ca:so=ν->aP w)(aS:so=σ s->∀w' scope s',ai (gP g B) w w'->eP all.length ar s=σ (scope,s')->bK w' g B H N (σ s')->hg w' B f ⟨scope,scope.map λv=>all.getD v.toNat 0,0,[]⟩->(∀c,af w' f a8 c->c[3]?=σ (.slice ν 0 0))->aP w'):
  ck (Δ 0) w λi z k=>
   cu (α:=x1->x3->Prop) (λ(cb:x1)(K:x3)=>
    Split cb (ac x7 (W9 #[ay] ah #[aa]) K λt53=>
   ac x7 (aM .sub au false true t53 (Δ 1)) K λcc=>
   am x7 lV [Γ g,(Δ 0),cc] K λt55 A=>
   ac x7 (Y0 t55 0) A λaW=>
   ac x7 (Y0 t55 1) A λcd=>
   ac x7 (bO (Γ g)) A λce=>
   ac x7 (u6 bz ce 3) A λcg=>
   ac x7 (u5 ah cg) A λch=>
   ac x7 (aM .neq ah false true ch (Δ 0)) A λci=>
   Split ci (aO A)
    (ac x7 (u6 a8 (Γ f) 0) A λcj=>
   ac x7 (u5 ay cj) A λbG=>
   ac x7 (W9 #[ay] ah #[bG]) A λt66=>
   ck (Δ 0) A λaY E cl=>
    ac x7 (aM .lss ah false false aY t66) E λcm=>
    Split cm (ac x7 (c7 ay bG aY) E λcn=>
    ac x7 (u5 au cn) E λt70=>
    ac x7 (aM .eql au false false t70 aW) E λcp=>
    Split cp (am x7 nz [Γ g,(Δ 4),cd] E λt76 aZ=>aO aZ)
     (ac x7 (aM .add ah false true aY (Δ 1)) E λcq=>
    cl cq E))
     (ac x7 (u6 a8 (Γ f) 0) E λcr=>
   ac x7 (u5 ay cr) E λct=>
   aD x7 (Y4 ay 1 #[(0,aW)]) E λcw ae=>
   aD x7 (Z0 #[ay,ay] ay #[ct,cw]) ae λcz a2=>
   ac x7 (u6 a8 (Γ f) 0) a2 λcB=>
   aD x7 (o8 ay cB cz) a2 λ(_:Unit)P=>
   ej P λR=>
   ac x7 (u6 a8 (Γ f) 1) R λa6=>
   ac x7 (u5 ay a6) R λbH=>
   ac x7 (c7 ay aa aW) R λcC=>
   ac x7 (u5 au cC) R λcD=>
   aD x7 (Y4 ay 1 #[(0,cD)]) R λcE Z=>
    (Ext R Z\/cA x7 (u5 ay a6) bH Z/\cA x7 (u6 a8 (Γ f) 1) a6 Z/\True)/\
   aD x7 (Z0 #[ay,ay] ay #[bH,cE]) Z λcF a7=>
    ac x7 (u6 a8 (Γ f) 1) a7 λcG=>
    aD x7 (o8 ay cG cF) a7 λ(_:Unit)S=>
     ac x7 (aM .add au false true i (Δ 1)) S λcH=>
   k cH S)))
     (aP K)) λbI=>
   ac x7 (aM .lss au false false i (Δ (ar:Int))) z λcI=>
   Split cI (ac x7 (bO (Γ g)) z λcJ=>
   ac x7 (u6 bz cJ 3) z λcK=>
   ac x7 (u5 ah cK) z λt45=>
   ac x7 (aM .eql ah false true t45 (Δ 0)) z λt46=>
   bI t46 z)
    (bI (.bool false) z):=by
 have dq:=aB.lt;rcases b4 with rfl|⟨rfl,rfl⟩
 rotate_left
 .refine ck.range 0 (λ_ V=>w=V) Ω rfl (λi V k hi=>Ω) ?_;rintro _ k rfl;refine aV (λv K=>w=K/\v= .bool false) ?_ ?_
  .rintro _ _ ⟨rfl,rfl⟩;rw[a1];exact ca rfl
  .intro aA ag;rw[aR,al];exact⟨λh=>Ω,λ_=>ag _ _ ⟨rfl,rfl⟩⟩
 have h:=aB;have aQ:=aQ rfl;have ap:=ap rfl;have aS:=aS rfl;refine ck.range ar (λi z=>∃scope M,ai (gP g B) w z/\bK z g B H N (σ M)/\hg z B f ⟨scope,scope.map λv=>all.getD v.toNat 0,0,[]⟩/\scope.length=i/\scope.length+M.toks.length<=100000/\eP all.length ar s=Dw all.length (ar-i) scope M/\∀c,af z f a8 c->c[3]?=σ (.slice ν 0 0)) Ω ⟨[],s,ai.refl _ _,h,b5,rfl,by simpa using aQ,rfl,b6⟩ ?_ ?_
 rotate_left
 .rintro z k ⟨scope,M,aq,Q,aw,bJ,cL,C,ba⟩;refine aV (λv K=>z=K/\v= .bool false) ?_ ?_
  .rintro _ _ ⟨rfl,rfl⟩;rw[a1];rw[U3]at C;exact aS z scope M aq C Q aw ba
  .intro aA ag;rw[aR,al];exact⟨λh=>Ω,λ_=>ag _ _ ⟨rfl,rfl⟩⟩
 rintro i z k hi ⟨scope,M,aq,Q,aw,bJ,cL,C,ba⟩ hk;refine aV (λv K=>z=K/\v= .bool true) ?_ ?_
 rotate_left
 .intro aA ag;refine bM Ω ?_;rw[lr Q];exact ag _ _ ⟨rfl,rfl⟩
 rintro _ _ ⟨rfl,rfl⟩;rw[bR];have bL:∀{w':x3},ai (gP g B) w w'->av .i64 au w' gz aa all:=λcM=>bu bF cM λr e U=>by
  rcases U with rfl|U
  .obtain⟨cN,G,ak,bad,cP,big,cQ,told,sv,I,_⟩:=h2 h;exact b7 bF I Φ e rfl
  .have:=b8 r e;omega
 rw[aX ay.u (bL aq).ls,dN,wrap_i64 Ω Ω];refine(kG Q).mono ?_;rintro _ A _ ⟨⟨bb,J⟩,n,at_,rfl,bf,cR⟩;rw[bm,bn,rh J];have bh:=aw.dK bb (kH Q);have bi:ai (gP g B) w A:=aq.trans (bb.mono λr _ h=>.inl h);have cS:=OA (n:=(all.length:Int)) (k:=ar-(i+1)) (acc:=scope) (s:=M);have cT:ar-i=(ar-(i+1))+1:=Ω
 rw[cT]at C;unfold Dw at C;rw[cS]at C;have cU:bc 0 ((all.length:Int)-1) (σ M)=bd 0 ((all.length:Int)-1) M:=rfl;rw[cU]at J bf cR ⊢;cases ax:bd 0 ((all.length:Int)-1) M with
 |none=>
  rw[ax]at J C;rw[Option.map_none,S8,W7,bR];exact ap A _ bi C J bh
 |some q=>
  obtain⟨v,bj⟩:=q;rw[ax]at J C bf;have cV:n=v:=bf _ rfl;subst cV;have dr:=(hW ax).1;have ds:=(dg ax).1;simp only at C;rw[Z6,T9,X1,a1];have J:bK A g B H N (σ bj):=J;obtain⟨aL,szv,b1,g1,cW,bk,f1,f2,f3,f4,f5,f6,f7⟩:=id bh;rw[aT a8.p 0 f1 rfl,aX ay.u f2.ls];have dt:scope.length<=100000:=Ω
  refine ck.range scope.length (λj E=>A=E/\n∉scope.take j) Ω ⟨rfl,Ξ⟩ ?_ ?_
  .rintro j _ cX cY ⟨rfl,az⟩ cZ;obtain⟨u,hu⟩:=aJ (l:=scope) cY;rw[aR,al];refine⟨λ_=>?_,λh=>by simp only at h;omega⟩;rw[bg ay.u au.i Ψ f2.ls hu,be,al];refine⟨λhe=>?_,λc0=>?_⟩
   .refine (oj J Ω).mono ?_;rintro _ aZ _ ⟨bN,c1⟩;rw[if_pos (by rw[<-he];exact x5 hu)]at C;exact ap aZ _ (bi.trans (bN.mono λr _ h=>.inl h)) C c1 (bh.dK bN (kH J))
   .rw[aN];refine cZ _ ⟨rfl,?_⟩;rw[u9,hu];intro hm;rcases o5.1 hm with hm|hm
    .exact az hm
    .simp at hm;exact c0 hm.symm
  .rintro _ cX ⟨rfl,az⟩;rw[o7]at az;rw[aR,al];refine⟨λh=>by simp only at h;omega,λ_=>?_⟩;rw[if_neg az]at C;rw[aT a8.p 0 f1 rfl];refine et ay.u au.i rfl λdu dv ae dw O c2=>?_;have dx:=J.lt;refine hJ ay.u au.i rfl (f2.ext O) c2.ls Θ Θ λW bo a2 aC c3 bP=>?_;have aF:=f1.ext O;have f113:=aF.ab bP λhe=>b7 (f2.ext O) aF Φ he rfl;rw[aU a8.p rfl];refine bl (g:=f) (o:=0) ay.i aC.ls.cells.1 aC.ls.cells.2 f113 Ξ λP bS dy aG=>?_;have aG:af P f a8 [W,szv,Δ 0,b1]:=aG;intro R bp _ _;have an:ai (λr=>leads aL r\/r=f) ae P:=(bP.mono λr _ h=>.inl h).trans (bS.mono λr _ h=>.inr h);have bT:∀r,(leads aL r\/r=f)->gP g B r:=λr e=>.inr (e.elim (λe=>f5 r (.inl e)) λe=>e▸f7);have bU:ai (gP g B) w P:=(bi.trans (O.ab _)).trans (an.mono λr _ e=>bT r e);have c4:ai (gP g B) w R:=bU.trans (bp.ab _);have c5:av .i64 au P cW szv _:=bu (f3.ext O) an λr e U=>by
    rcases U with U|rfl
    .exact f6 r U e
    .exact b7 (f3.ext O) aF Φ e rfl
   have c6:av .i64 au P bo W (scope++[n]):=bu aC bS λr e he=>by
    have he:r=f:=he;subst he;exact b7 aC f113 Φ e rfl
   have c8:∀r,(leads aL r\/r=f)->(∃c,af ae r au c)\/∃c,af ae r a8 c:=λr e=>by
    rcases e with e|rfl
    .obtain⟨G,_⟩:=bQ f2 e;obtain⟨_,⟨ad,_⟩|⟨_,cs,ad,I,_⟩⟩:=f2.ext O
     .rw[ad]at e;obtain⟨a,c9,c,G,ak⟩:=e;cases G
     .exact .inl ⟨cs,G▸I⟩
    .exact .inr ⟨_,aF⟩
   have da:kF P bk b1 []:=by
    obtain⟨L,X,db,bq⟩:=f4.dK (O.ab λ_=>False) λ_ h=>h.elim;have br:L=[]:=List.map_eq_nil_iff.1 bq;subst br;refine⟨[],X.ab an λr e U=>?_,λy bt=>(by cases bt),rfl⟩;rcases c8 r U with⟨c,I⟩|⟨c,I⟩
    .exact cO X I Φ e
    .exact cO X I Φ e
   have dc:bK P g B H N (σ bj):=(J.ext O).new an λr e=>by
    rcases bT r e with rfl|h
    .rcases e with e|e
     .exact f5 _ (.inl e)
     .exact e▸f7
    .exact h
   rw[aT a8.p 1 (aG.ext bp) rfl];have dd:all[n.toNat]?=σ (all.getD n.toNat 0):=by rw[u4,x6 Ω];rfl
   rw[fY (y:=n) (i:=n.toNat) Ω ay.u au.i Ψ (bL c4).ls dd];refine et ay.u au.i rfl λdz dA Z dC bV de=>?_;refine⟨.inl bV,?_⟩;have Y:=bp.trans bV;have f316:=c5.ext Y;have bW:(scope.map λv=>all.getD v.toNat 0).length=scope.length:=r8 _;refine hJ ay.u au.i rfl f316 de.ls (by simp at bW ⊢;omega) (by simp at bW ⊢;omega) λbw df a7 aH bX bY=>?_;have aI:=aG.ext Y;have bZ:=aI.ab bY λhe=>b7 f316 aI Φ he rfl;rw[aU a8.p rfl];refine bl (g:=f) (o:=1) ay.i aH.ls.cells.1 aH.ls.cells.2 bZ Ξ λS b0 dD ao=>?_;have ao:af S f a8 [W,bw,Δ 0,b1]:=ao;rw[aN];have aK:ai (λr=>leads szv r\/r=f) Z S:=(bY.mono λr _ h=>.inl h).trans (b0.mono λr _ h=>.inr h);have b2:∀r,(leads szv r\/r=f)->B<=r:=λr e=>e.elim (λe=>f5 r (.inr e)) λe=>e▸f7;have bx:=c6.ext Y;have dE:=O.size;have dF:=an.size;have bA:∀r,leads W r->B<=r/\¬leads szv r:=λr e=>by
    rcases c3 r e with h|h
    .exact⟨f5 r (.inl h),f6 r h⟩
    .exact⟨Ω,λbB=>by obtain⟨G,ak⟩:=bQ f3 bB;omega⟩
   have dh:av .i64 au S bo W (scope++[n]):=bu bx aK λr e U=>by
    rcases U with U|rfl
    .exact (bA r e).2 U
    .exact b7 bx aI Φ e rfl
   have di:=bu aH b0 λr e he=>by
    have he:r=f:=he;subst he;exact b7 aH bZ Φ e rfl
   have dj:kF S bk b1 []:=by
    obtain⟨L,X,db,bq⟩:=da.dK (Y.ab λ_=>False) λ_ h=>h.elim;have br:L=[]:=List.map_eq_nil_iff.1 bq;subst br;refine⟨[],X.ab aK λr e U=>?_,λy bt=>(by cases bt),rfl⟩;rcases U with U|rfl
    .obtain⟨G,_⟩:=bQ f316 U;obtain⟨_,⟨ad,_⟩|⟨_,cs,ad,I,_⟩⟩:=f316
     .rw[ad]at U;obtain⟨a,c9,c,G,ak⟩:=U;cases G
     .exact cO X (G▸I) Φ e
    .exact cO X aI Φ e
   refine hk _ ⟨scope++[n],bj,((bU.trans (Y.ab _)).trans (aK.mono λr _ e=>.inr (b2 r e))),(dc.ext Y).new aK b2,⟨W,bw,b1,bo,df,bk,ao,dh,by rw[Z4];exact di,dj,λr e=>?_,λr e bB=>?_,f7⟩,by rw[r9,bJ];rfl,by rw[r9];simp;omega,C,λc bC=>?_⟩
   .rcases e with e|e
    .exact (bA r e).1
    .rcases bX r e with h|h
     .exact f5 r (.inr h)
     .have:=Y.size;omega
   .rcases bX r bB with h|h
    .exact (bA r e).2 h
    .obtain⟨G,ak⟩:=bQ bx e;omega
   .have dk:c=[W,bw,Δ 0,b1]:=by
     unfold af at bC ao;rw[ao]at bC;have:=(Obj.cells.inj (b9 bC)).1;exact(Array.toList_inj.2 this).symm
    have dl:b1= .slice ν 0 0:=by
     obtain⟨dG,dH,dI,_,_,_,bD,_⟩:=aw;have b3:=ba _ bD;have bE:=bD.ab bb λhe=>by
      have he:f=g:=he;obtain⟨cN,G,ak,bad,cP,big,cQ,told,sv,I,_⟩:=h2 Q;subst he;exact absurd (eH I bD) Φ
     unfold af at bE f1;rw[f1]at bE;have dm:=Array.toList_inj.2 (Obj.cells.inj (b9 bE)).1;have Q:=congrArg (λl=>l[3]?) dm;simp at Q;simp at b3;rw[Q,b3]
    rw[dk,dl];rfl
theorem OB{y:x1->x3->Prop}(h:aI .i64 w sv l)(h1:∀z∈l,1<=z)(J:∀c:Int,(4096<c↔dj l=true)->y (Δ c) w):
  cb (Δ 1) (Δ 0) w λA r a K=>
   ac x7 (aM .lss ah false false r (Δ (l.length:Int))) a λL=>
   Split L (cu (α:=x1->x3->Prop) (λ(M:x1)(B:x3)=>
    ac x7 (aM .add ah false true r (Δ 1)) B λN=>
    K M N B) λC=>
   ac x7 (c7 ay sv r) a λO=>
   ac x7 (u5 au O) a λE=>
   cu (α:=x1->x3->Prop) (λ(P:x1)(f:x3)=>
    ac x7 (aM .mul au false false A P) f λF=>
    ac x7 (aM .gtr au false true F (Δ 4096)) f λQ=>
    Split Q (C (Δ 4097) f)
     (C F f)) λG=>
   ac x7 (aM .gtr au false true E (Δ 4096)) a λR=>
   Split R (G (Δ 4097) a)
    (G E a))
    (y A a):=by
 refine cb.range l.length (λi c V=>w=V/\∃p:Int,p=aO ((l.take i).map λk=>min k 4097)/\1<=p/\c=Δ (if 4096<p then 4097 else p)) h.le ⟨rfl,1,by simp[aO],Ω,by rw[if_neg Ω]⟩ ?_ ?_
 .rintro i _ _ S hi ⟨rfl,p,q,U,rfl⟩ W;obtain⟨z,s⟩:=aJ (l:=l) hi;have Y:=h1 z (x5 s);have e:aO ((l.take (i+1)).map λk=>min k 4097)=p*min z 4097:=by
   rw[q,u9,s,j5,Z4,U6,List.map_nil,Bx]
  have Z:p*1<=p*min z 4097:=Int.mul_le_mul_of_nonneg_left Ω Ω;refine bM Ω ?_;refine aV (λv aa=>w=aa/\v=Δ (if 4096<p*min z 4097 then 4097 else p*min z 4097)) ?_ ?_
  .rintro _ _ ⟨rfl,rfl⟩;rw[aN];exact W _ _ ⟨rfl,_,e.symm,Ω,rfl⟩
  intro aA x;rw[bg ay.u au.i Ψ h s];refine aV (λv aa=>w=aa/\v=Δ (min z 4097)) ?_ ?_
  .rintro _ _ ⟨rfl,rfl⟩;rw[hU];by_cases H:4096<p
   .rw[if_pos H];have X:(4097:Int)*1<=4097*min z 4097:=Int.mul_le_mul_of_nonneg_left Ω Ω;rw[wrap_i64 Ω Ω,bL,al];refine⟨λ_=>x _ _ ⟨rfl,by rw[if_pos Ω]⟩,λab=>Ω⟩
   .rw[if_neg H];have X:p*min z 4097<=4096*4097:=by
     have ad:=Int.mul_le_mul_of_nonneg_right (show p<=4096 by omega) (show 0<=min z 4097 by omega);have ae:=Int.mul_le_mul_of_nonneg_left (show min z 4097<=4097 by omega) (show(0:Int)<=4096 by omega);omega
    rw[wrap_i64 Ω Ω,bL,al];exact⟨λaB=>x _ _ ⟨rfl,by rw[if_pos aB]⟩,λaB=>x _ _ ⟨rfl,by rw[if_neg aB]⟩⟩
  .intro af I;rw[bL,al];exact⟨λaB=>I _ _ ⟨rfl,by congr 1;omega⟩,λaB=>I _ _ ⟨rfl,by congr 1;omega⟩⟩
 .rintro _ _ S ⟨rfl,p,q,U,rfl⟩;rw[o7]at q;rw[aR,al];refine⟨λh=>Ω,λ_=>J _ ?_⟩;unfold dj;rw[<-q,decide_eq_true_eq];split
  .exact⟨λ_=>Ω,λ_=>Ω⟩
  .exact Iff.rfl
theorem OC{g ao:Nat}{H:aj}{so:Option aE}{Y:x3->Prop}(h:bK w g B H N so)(C:av .i64 au w gz szv sizes)(aF:∀z∈sizes,1<=z/\z<=aw)(bq:sizes.length<=100001)(Q:af w ao b5 [.slice ν 0 0,Δ 0])(aG:B<=ao)(Z:∀t w' aK gt,t.length=sizes.length->ai (λr=>r=g\/r=ao\/w.heap.size<=r) w w'->af w' ao b5 [aK,Δ 0]->av .i64 au w' gt aK t->(∀r,leads aK r->w.heap.size<=r)->bK w' g B H N ((e3 sizes [] so).map (·.2))->(∀q,e3 sizes [] so=σ q->t=q.1)->Y w'):
  ck (Δ 0) w λR s aH=>
      ac x7 (aM .lss ah false false R (Δ (sizes.length:Int))) s λaI=>
      Split aI (ac x7 (c7 ay szv R) s λaL=>
      ac x7 (u5 au aL) s λaO=>
      ac x7 (aM .sub au false true aO (Δ 1)) s λaP=>
      am x7 lV [Γ g,(Δ 0),aP] s λad E=>
      ac x7 (Y0 ad 0) E λaQ=>
      ac x7 (Y0 ad 1) E λbr=>
      ac x7 (u6 b5 (Γ ao) 0) E λaR=>
      ac x7 (u5 ay aR) E λaS=>
      aD x7 (Y4 ay 1 #[(0,aQ)]) E λaV aW=>
      aD x7 (Z0 #[ay,ay] ay #[aS,aV]) aW λaX ae=>
      ac x7 (u6 b5 (Γ ao) 0) ae λaY=>
      aD x7 (o8 ay aY aX) ae λ(_:Unit)ag=>
      ac x7 (aM .add ah false true R (Δ 1)) ag λaZ=>
      aH aZ ag)
       (Y s):=by
 have bt:=Q.lt;have bw:=h.lt;refine ck.range sizes.length (λj V=>∃t aK gt s1,t.length=j/\ai (λr=>r=g\/r=ao\/w.heap.size<=r) w V/\af V ao b5 [aK,Δ 0]/\av .i64 au V gt aK t/\(∀r,leads aK r->w.heap.size<=r)/\bK V g B H N s1/\e3 sizes [] so=e3 (sizes.drop j) t s1) C.ls.le
  ⟨[],_,0,so,rfl,ai.refl _ _,Q,av.nil _ _ _ _,(λr e=>by obtain⟨a,n,c,K,S⟩:=e;cases K),h,rfl⟩ ?_ ?_
 rotate_left
 .rintro V a1 ⟨t,aK,gt,s1,L,x,M,G,y,I,he⟩;refine cE Ω ?_;rw[List.drop_length]at he;cases s1 with
  |none=>
   have he:e3 sizes [] so=ν:=he;exact Z t V aK gt L x M G y (by rw[he];exact I) (λq f=>by rw[he]at f;cases f)
  |some s1=>
   have he:e3 sizes [] so=σ (t,s1):=he;exact Z t V aK gt L x M G y (by rw[he];exact I) (λq f=>by rw[he]at f;cases f;rfl)
 rintro j V a1 ak ⟨t,aK,gt,s1,L,x,M,G,y,I,he⟩ a2;obtain⟨z,W⟩:=aJ (l:=sizes) ak;have a6:=aF z (x5 W);have bx:z<=4611686018427387904:=a6.2;have a7:av .i64 au V gz szv sizes:=bu C x λr e U=>by
  rcases U with rfl|rfl|U
  .obtain⟨a8,K,S,bad,ba,big,bb,told,sv,J,_⟩:=h2 h;exact b7 C J Φ e rfl
  .exact b7 C Q Φ e rfl
  .obtain⟨K,S⟩:=bQ C e;omega
 refine bM Ω ?_;rw[bg ay.u au.i Ψ a7.ls W,dN,wrap_i64 Ω Ω];refine(kG I).mono ?_;rintro _ aa _ ⟨⟨O,bd⟩,n,at_,rfl,be,bA⟩;rw[bm,bn];have bf:ao≠g:=Ω
 have al:=M.ab O λhe=>bf he;have bh:∃c,af V g bz c:=by obtain⟨a8,K,S,bad,ba,big,bb,told,sv,J,_⟩:=h2 I;exact⟨_,J⟩
 have an:av .i64 au aa gt aK t:=bu G O λr e he=>by
  have he:r=g:=he;obtain⟨c,J⟩:=bh;exact b7 G J Φ e he
 rw[aT b5.p 0 al rfl];refine et ay.u au.i rfl λa3 bB bi bC A bj=>?_;refine hJ ay.u au.i rfl (an.ext A) bj.ls Θ Θ λap bk bD P bo aq=>?_;have ax:=al.ext A;have az:=ax.ab aq λhe=>b7 (an.ext A) ax Φ he rfl;rw[aU b5.p rfl];refine bl (g:=ao) (o:=0) ay.i P.ls.cells.1 P.ls.cells.2 az Ξ λaA aB bE X=>?_;have X:af aA ao b5 [ap,Δ 0]:=X;rw[aN];have aC:ai (λr=>leads aK r\/r=ao) bi aA:=(aq.mono λr _ h=>.inl h).trans (aB.mono λr _ h=>.inr h);have bF:=x.size;have bG:=O.size;have z3:=A.size;refine a2 _ ⟨t++[n],ap,bk,(bc 0 (z-1) s1).map (·.2),by simp[L],?_,X,bu P aB λr e he=>?_,λr e=>?_,?_,?_⟩
 .refine (x.trans (O.mono λr _ h=>.inl h)).trans ((A.ab _).trans (aC.mono λr _ h=>?_));exact h.elim (λh=>.inr (.inr (y r h))) λh=>.inr (.inl h)
 .have he:r=ao:=he;subst he;exact b7 P az Φ e rfl
 .rcases bo r e with h|h
  .exact y r h
  .omega
 .refine (bd.ext A).new aC λr e=>?_;rcases e with e|rfl
  .have:=y r e;omega
  .exact aG
 .rw[he];have bp:sizes.drop j=z::sizes.drop (j+1):=by rw[X6 ak,(x4.1 W).2]
  rw[bp,B9];cases f:bc 0 (z-1) s1 with
  |none=>rfl
  |some q=>
   obtain⟨v,bH⟩:=q;have:=be _ f;subst this;rfl
theorem xa{g:Nat}(h:av .i64 au w g v t):∀u∈oi ⟨v,t,c⟩,u.oneCell'=true:=by
 intro u hu;simp[oi]at hu;rcases hu with rfl|rfl
 .exact h.ls.cells.2
 .rfl
def OD(sizes:Λ)(cnt i:Nat)(s0:aE)(A:List (Λ×Int))(so:Option aE):Prop:=(∃s,so=σ s/\cJ (dP sizes) cnt [] s0=cJ (dP sizes) (cnt-i) A s/\A.length+s.toks.length<=100000)\/(so=ν/\cJ (dP sizes) cnt [] s0=ν)
theorem OE{g I g1 a7 W:Nat}{H:aj}{s0:aE}{aL b1:x1}{scope:Λ}{o:Int}{aC:List (Λ×Int)}{bZ:x3->Prop}(h:bK w g B H N (σ s0))(f1:af w I a8 [aL,szv,Δ o,b1])(f2:av .i64 au w g1 aL scope)(f3:av .i64 au w a7 szv sizes)(f4:kF w W b1 aC)(f5:∀r,leads aL r\/leads szv r->B<=r)(f6:∀r,leads aL r->¬leads szv r)(f7:B<=I)(cV:∀z∈sizes,1<=z/\z<=aw)(cW:sizes.length<=100001)(eV:n<=4611686018427387904)(bt:0<n->aC=[]/\∀r,¬leadsTo b1 r)(cX:s0.toks.length<=100000)(b0:∀w' A bw,ai (gP g B) w w'->hg w' B I ⟨scope,sizes,o,A⟩->bK w' g B H N bw->(n<=0->A=aC/\bw=σ s0)->(0<n->bw=(cJ (dP sizes) n.toNat [] s0).map (·.2)/\∀q,cJ (dP sizes) n.toNat [] s0=σ q->A=q.1)->bZ w'):
  ck (Δ 0) w λb2 ad cY=>
     cu (α:=x1->x3->Prop) (λ(cZ:x1)(b3:x3)=>
      Split cZ (aD x7 (Instr.alloc b5 true (.tuple #[])) b3 λx X=>
     ac x7 (u6 a8 (Γ I) 1) X λc0=>
     ac x7 (u5 ay c0) X λb4=>
     ac x7 (W9 #[ay] ah #[b4]) X λc1=>
     ck (Δ 0) X λbA ae c2=>
      ac x7 (aM .lss ah false false bA c1) ae λc3=>
      Split c3 (ac x7 (c7 ay b4 bA) ae λc4=>
      ac x7 (u5 au c4) ae λc5=>
      ac x7 (aM .sub au false true c5 (Δ 1)) ae λc6=>
      am x7 lV [Γ g,(Δ 0),c6] ae λb6 aF=>
      ac x7 (Y0 b6 0) aF λc8=>
      ac x7 (Y0 b6 1) aF λeW=>
      ac x7 (u6 b5 x 0) aF λc9=>
      ac x7 (u5 ay c9) aF λdb=>
      aD x7 (Y4 ay 1 #[(0,c8)]) aF λdc dd=>
      aD x7 (Z0 #[ay,ay] ay #[db,dc]) dd λde b8=>
      ac x7 (u6 b5 x 0) b8 λdf=>
      aD x7 (o8 ay df de) b8 λ(_:Unit)b9=>
      ac x7 (aM .add ah false true bA (Δ 1)) b9 λdh=>
      c2 dh b9)
       (am x7 lV [Γ g,(Δ 0),(Δ 4611686018427387904)] ae λca E=>
     ac x7 (Y0 ca 0) E λdi=>
     ac x7 (Y0 ca 1) E λdj=>
     ac x7 (u6 a8 (Γ I) 3) E λdk=>
     ac x7 (u5 dW dk) E λcb=>
     ac x7 (W9 #[dW] ah #[cb]) E λdl=>
     ck (Δ 0) E λbB J dm=>
      ac x7 (aM .lss ah false false bB dl) J λdn=>
      Split dn (cu (α:=x3->Prop) (λ(aq:x3)=>
       ac x7 (aM .add ah false true bB (Δ 1)) aq λdp=>
       dm dp aq) λcc=>
      ac x7 (c7 dW cb bB) J λdq=>
      ac x7 (u5 b5 dq) J λds=>
      aD x7 (Instr.alloc b5 true (.tuple #[])) J λy cd=>
      aD x7 (o8 b5 y ds) cd λ(_:Unit)K=>
      cu (α:=x1->x3->Prop) (λ(dt:x1)(aG:x3)=>
       Split dt (am x7 nz [Γ g,(Δ 4),dj] aG λeX ce=>
        cc ce)
        (cc aG)) λcg=>
      ac x7 (bO (Γ g)) K λdu=>
      ac x7 (u6 bz du 3) K λdv=>
      ac x7 (u5 ah dv) K λdw=>
      ac x7 (aM .eql ah false true dw (Δ 0)) K λdx=>
      Split dx (ac x7 (u6 b5 x 0) K λdy=>
       ac x7 (u5 ay dy) K λdz=>
      ac x7 (u6 b5 y 0) K λdA=>
      ac x7 (u5 ay dA) K λdC=>
      am x7 si [dz,dC] K λdD ch=>
      cg dD ch)
       (cg (.bool false) K))
       (ac x7 (u6 b5 x 1) J λdE=>
     aD x7 (o8 au dE di) J λ(_:Unit)Y=>
     ac x7 (u6 a8 (Γ I) 3) Y λdF=>
     ac x7 (u5 dW dF) Y λdG=>
     ac x7 (u5 b5 x) Y λdH=>
     aD x7 (Y4 dW 1 #[(0,dH)]) Y λdI ba=>
     aD x7 (Z0 #[dW,dW] dW #[dG,dI]) ba λdJ bC=>
     ac x7 (u6 a8 (Γ I) 3) bC λdL=>
     aD x7 (o8 dW dL dJ) bC λ(_:Unit)Z=>
     ac x7 (aM .add au false true b2 (Δ 1)) Z λdM=>
     cY dM Z)))
       (bZ b3)) λcj=>
     ac x7 (aM .lss au false false b2 (Δ n)) ad λdN=>
     Split dN (ac x7 (bO (Γ g)) ad λdO=>
     ac x7 (u6 bz dO 3) ad λdQ=>
     ac x7 (u5 ah dQ) ad λdR=>
     ac x7 (aM .eql ah false true dR (Δ 0)) ad λdT=>
     cj dT ad)
      (cj (.bool false) ad):=by
 have dU:=h.lt;refine ck.range n.toNat (λi V=>∃A so b1 W,ai (gP g B) w V/\af V I a8 [aL,szv,Δ o,b1]/\av .i64 au V g1 aL scope/\av .i64 au V a7 szv sizes/\kF V W b1 A/\(0<n->∀r,leadsTo b1 r->B<=r)/\bK V g B H N so/\(n<=0->A=aC/\so=σ s0)/\(0<n->OD sizes n.toNat i s0 A so)) Ω
  ⟨aC,σ s0,b1,W,ai.refl _ _,f1,f2,f3,f4,λQ r C=>absurd C ((bt Q).2 r),h,λ_=>⟨rfl,rfl⟩,λQ=>.inl ⟨s0,rfl,by rw[(bt Q).1];rfl,by rw[(bt Q).1];simpa using cX⟩⟩ ?_ ?_
 rotate_left
 .rintro V k ⟨A,so,b1,W,aH,az,bb,aI,aO,bD,ag,cl,G⟩;refine aV (λv aa=>V=aa/\v= .bool false) ?_ ?_
  .rintro _ _ ⟨rfl,rfl⟩;rw[a1];refine b0 V A so aH ⟨aL,szv,b1,g1,a7,W,az,bb,aI,aO,f5,f6,f7⟩ ag cl λQ=>?_;rcases G Q with⟨s,rfl,he,_⟩|⟨rfl,he⟩
   .rw[U3]at he;rw[he];exact⟨rfl,λq M=>by cases M;rfl⟩
   .rw[he];exact⟨rfl,λq M=>by cases M⟩
  .intro aA bE;rw[aR,al];exact⟨λh=>Ω,λ_=>bE _ _ ⟨rfl,rfl⟩⟩
 rintro i V k hi ⟨A,so,b1,W,aH,az,bb,aI,aO,bD,ag,cl,G⟩ hk;have Q:0<n:=Ω
 refine aV (λv aa=>V=aa/\v= .bool so.isSome) ?_ ?_
 rotate_left
 .intro aA bE;refine bM Ω ?_;rw[lr ag];exact bE _ _ ⟨rfl,rfl⟩
 rintro _ _ ⟨rfl,rfl⟩;rcases G Q with⟨e6,rfl,he,eY⟩|⟨rfl,he⟩
 rotate_left
 .rw[S8,a1];refine b0 V A ν aH ⟨aL,szv,b1,g1,a7,W,az,bb,aI,aO,f5,f6,f7⟩ ag (λh=>Ω) λ_=>?_;rw[he];exact⟨rfl,λq M=>by cases M⟩
 rw[T9,bR];have eZ:=ag.lt;refine bx b5.i λao X e0 aP bF=>?_;have bF:af X ao b5 [.slice ν 0 0,Δ 0]:=bF;have dV:=az.ext aP;have cm:=aI.ext aP;have e1:=aP.size;have e2:=az.lt;rw[aU a8.p rfl,ax Ψ (dV.cell (o:=0+1) rfl),aX ay.u cm.ls];refine OC (ag.ext aP) cm cV cW bF Ω λt ae aK gt e4 dX dY dZ ea eb ec=>?_;refine(kG eb).mono ?_;rintro _ E _ ⟨⟨bG,be⟩,c,at_,rfl,ed,e5⟩;rw[bm,bn];have bH:ao≠g:=Ω
 have cn:I≠g:=by have:=h.lt;omega
 have ef:ai (λr=>r=g\/r=ao\/X.heap.size<=r) X E:=dX.trans (bG.mono λr _ h=>.inl h);have cp:∀{S:Nat->Prop},(∀r,S r->r=g\/V.heap.size<=r)->∀r,S r->hf V r\/V.heap.size<=r:=λeg r C=>(eg r C).imp (λhe=>by
  subst he;obtain⟨cq,aQ,aS,bad,cr,big,ct,told,sv,G,_⟩:=h2 ag;exact⟨_,_,G,Φ,Φ⟩) id
 have bf:ai (λr=>r=g\/V.heap.size<=r) V E:=(aP.ab _).trans (ef.mono λr _ h=>h.elim .inl λh=>h.elim (λh=>.inr Ω) λh=>.inr Ω);have cw:af E I a8 [aL,szv,Δ o,b1]:=az.ab bf λh=>h.elim cn λh=>Ω
 obtain⟨L,bg,cz,bI⟩:=aO.dK bf (cp λr C=>C);have cA:af E ao b5 [aK,Δ 0]:=dY.ab bG λhe=>bH he;have cB:av .i64 au E gt aK t:=bu dZ bG λr C he=>by
  have he:r=g:=he;have:=ea r C;omega
 have e7:L.length=A.length:=by rw[<-bI,r8]
 rw[aT a8.p 3 cw rfl,ee dW.u bg];generalize cC:(bc 0 4611686018427387904 (V5 (λx=>x.snd) (e3 sizes [] (σ e6)))).map (·.2)=ak at be;have e8:=bf.size;refine ck.range L.length (λj J=>ai (λr=>r=g) E J/\bK J g B H N (if t∈(L.take j).map (·.t)then ν else ak)) bg.le ⟨ai.refl _ _,by simpa using be⟩ ?_ ?_
 .rintro j J eh cD ⟨O,aW⟩ ei;obtain⟨y,P⟩:=aJ (l:=L) cD;have bJ:∃c,af E g bz c:=by obtain⟨cq,aQ,aS,bad,cr,big,ct,told,sv,G,_⟩:=h2 be;exact⟨_,G⟩
  have an:∀r,r=g->hf E r\/E.heap.size<=r:=λr C=>by
   subst C;obtain⟨c,G⟩:=bJ;exact .inl ⟨_,c,G,Φ,Φ⟩
  have bh:=w8 bg O λr C=>(an r C).imp (λ⟨e,c,G,_,aY⟩=>⟨e,c,G,aY⟩) id;obtain⟨e9,ej⟩:=cz y (x5 P);have cF:=ey ej O an;have bL:=ey cB O an;have bi:=cA.ab O λhe=>bH he;refine bM Ω ?_;have bN:t∈(L.take (j+1)).map (·.t)↔t∈(L.take j).map (·.t)\/t=y.t:=by
   rw[u9,P,j5,Z4,o5];simp
  refine da (λaq=>ai (λr=>r=g) E aq/\bK aq g B H N (if t∈(L.take (j+1)).map (·.t)then ν else ak)) ?_ ?_
  .rintro aq ek;rw[aN];exact ei _ ek
  intro fa cG;rw[dr rfl dW.u b5.i bh cD,bP b5.p b5.i rfl (bh.range P)];refine bx b5.i λgy cd fb em en=>?_;refine ci (vs:=oi y) b5.i rfl rfl (xa cF) en λK eo fc ep=>?_;have aZ:Ext J K:=em.put eo Ω;have cH:=aW.ext aZ;have cI:ai (λr=>r=g) E K:=O.trans (aZ.ab _);refine aV (λv aG=>∃b:Bool,v= .bool b/\Ext K aG/\(b=true->t=y.t)/\(b=false->t≠y.t\/(if t∈(L.take j).map (·.t)then ν else ak)=ν)) ?_ ?_
  .rintro _ aG ⟨b,rfl,bQ,er,es⟩;have ap:=cH.ext bQ;cases b with
   |true=>
    rw[bR];refine(oj ap Ω).mono ?_;rintro _ ce _ ⟨et,eu⟩;refine cG _ ⟨(cI.trans (bQ.ab _)).trans et,?_⟩;rw[if_pos (bN.2 (.inr (er rfl)))];exact eu
   |false=>
    rw[a1];refine cG _ ⟨cI.trans (bQ.ab _),?_⟩;by_cases hm:t∈(L.take j).map (·.t)
    .rw[if_pos (bN.2 (.inl hm))];rw[if_pos hm]at ap;exact ap
    .rw[if_neg hm]at ap;rcases es rfl with aY|cK
     .rw[if_neg (λh=>(bN.1 h).elim hm aY)];exact ap
     .rw[if_neg hm]at cK;rw[cK]at ap ⊢;split<;>exact ap
  .intro fd cL;rw[lr cH];cases a2:(if t∈(L.take j).map (·.t)then ν else ak)with
   |none=>
    rw[S8,a1];exact cL _ _ ⟨false,rfl,Ext.refl _,(λh=>by cases h),λ_=>.inr a2⟩
   |some fe=>
    rw[T9,bR];have ev:=bi.ext aZ;rw[aT b5.p 0 ev rfl,aT b5.p 0 ep rfl];refine(w9 (bL.ls.ext aZ) (cF.ls.ext aZ)).mono ?_;rintro _ ch _ ⟨rfl,ew⟩;exact cL _ _ ⟨_,rfl,ew,λh=>of_decide_eq_true h,λh=>.inl (of_decide_eq_false h)⟩
 .rintro J eh ⟨O,aW⟩;rw[o7]at aW;have ez:L.map (·.t)=A.map (·.1):=by rw[<-bI,S9];rfl
  rw[ez]at aW;have bJ:∃c,af E g bz c:=by obtain⟨cq,aQ,aS,bad,cr,big,ct,told,sv,G,_⟩:=h2 be;exact⟨_,G⟩
  have an:∀r,r=g->hf E r\/E.heap.size<=r:=λr C=>by
   subst C;obtain⟨c,G⟩:=bJ;exact .inl ⟨_,c,G,Φ,Φ⟩
  have cM:∀r,(r=g\/V.heap.size<=r)->hf V r\/V.heap.size<=r:=cp λr C=>C;have bj:ai (λr=>r=g\/V.heap.size<=r) V J:=bf.trans (O.mono λr _ h=>.inl h);have eA:=cw.ab O λhe=>cn he;have eB:=ey bb bj cM;have eC:=ey aI bj cM;have bh:=w8 bg O λr C=>(an r C).imp (λ⟨e,c,G,_,aY⟩=>⟨e,c,G,aY⟩) id;have eD:∀y∈L,∃gy,av .i64 au J gy y.v y.t:=λy P=>by
   obtain⟨gy,hm⟩:=cz y P;exact⟨gy,ey hm O an⟩
  have bL:=ey cB O an;have bi:=cA.ab O λhe=>bH he;refine cE Ω ?_;rw[aU b5.p rfl];refine bl (g:=ao) (o:=1) au.i rfl rfl bi Ξ λY aB ff bS=>?_;have bS:af Y ao b5 [aK,Δ c]:=bS;have eE:I≠ao:=Ω
  have cN:=eA.ab aB λhe=>eE he;have fg:V.heap.size<=ao:=Ω
  have eF:∀r,leadsTo b1 r->r≠ao:=λr C=>by obtain⟨aQ,aS⟩:=aO.choose_spec.1.leads C;omega
  have eH:=bh.ab aB λr C he=>eF r C he;rw[aT a8.p 3 cN rfl,bP b5.p b5.i rfl bS.range];let a:w7:=⟨aK,t,c⟩;have bk:∀{v:x1}{a6:Nat}{l:Λ},av .i64 au J a6 v l->av .i64 au Y a6 v l:=λhm=>bu hm aB λr C he=>by
   have he:r=ao:=he;exact b7 hm bi Φ C he
  have cP:=bk bL;refine hE (f:=oi) (a:=a) dW.u b5.i Ω rfl rfl λv45 fh ba fi R eJ=>?_;have bT:=eH.ext R;refine io (f:=oi) (a:=a) dW.u b5.i rfl bT (by simpa using eJ.sl) (xa (cP.ext R)) Ω Ω λbU cQ bC bo eK cR=>?_;have bV:=cN.ext R;have cS:=bV.ab cR λhe=>cO bT bV Φ he;rw[aU a8.p rfl];refine bl (g:=I) (o:=3) dW.i (eI bo.sl).1 (eI bo.sl).2 cS Ξ λZ cT fj bW=>?_;have bW:af Z I a8 [aL,szv,Δ o,bU]:=bW;rw[aN];have bX:ai (λr=>leadsTo b1 r\/r=I) ba Z:=(cR.mono λr _ h=>.inl h).trans (cT.mono λr _ h=>.inr h);have bp:∀{v:x1}{a6:Nat}{l:Λ},av .i64 au ba a6 v l->av .i64 au Z a6 v l:=λhm=>bu hm bX λr C U=>by
   rcases U with U|rfl
   .obtain⟨rfl,fk,G⟩:=dS bT U;exact b7 hm G Φ C rfl
   .exact b7 hm bV Φ C rfl
  have cU:∀r,(leadsTo b1 r\/r=I)->B<=r:=λr C=>C.elim (λC=>bD Q r C) λC=>C▸f7;have eL:bK Y g B H N (if t∈A.map (·.1)then ν else ak):=aW.new aB λr C=>by
   have C:r=ao:=C;omega
  have eM:=(eL.ext R).new bX cU;have eN:ai (gP g B) V Z:=((bj.mono λr _ h=>h.elim .inl λh=>.inr Ω).trans (aB.mono λr _ h=>.inr (by have h:r=ao:=h;omega))).trans ((R.ab _).trans (bX.mono λr _ h=>.inr (cU r h)));have eO:kF Z cQ bU (A++[(t,c)]):=⟨L++[a],bo.ab cT λr C he=>by
   have he:r=I:=he;subst he;exact cO bo cS Φ C,λy P=>by
   rcases o5.1 P with P|P
   .obtain⟨gy,hm⟩:=eD y P;exact⟨gy,bp ((bk hm).ext R)⟩
   .rw[o9.1 P];exact⟨gt,bp (cP.ext R)⟩,by rw[Z4,bI];rfl⟩
  refine hk _ ⟨A++[(t,c)],_,bU,cQ,aH.trans eN,bW,bp ((bk eB).ext R),bp ((bk eC).ext R),eO,λ_ r C=>?_,eM,λh=>Ω,λ_=>?_⟩
  .rcases eK r C with h|h
   .exact bD Q r h
   .have:=aH.size;have:=bj.size;have:=aB.size;have:=R.size;have:=dU.2;omega
  .have eP:n.toNat-i=(n.toNat-(i+1))+1:=Ω
   rw[eP]at he;obtain⟨eQ,eR⟩:=Cd (sizes:=sizes) (acc:=A) (st:=e6) (t:=t) (c:=c) ec ed;cases M:bc 0 aw ((e3 sizes [] (σ e6)).map (·.2))with
   |none=>
    have a2:ak=ν:=by rw[<-cC];show(bc 0 aw _).map _=ν;rw[M];rfl
    rw[pk (eQ M)]at he;refine .inr ⟨?_,he⟩;rw[a2];split<;>rfl
   |some q=>
    have a2:ak=σ q.2:=by rw[<-cC];show(bc 0 aw _).map _=_;rw[M];rfl
    have br:=eR q M;by_cases hm:t∈A.map (·.1)
    .rw[if_pos hm]at br;rw[pk br]at he;exact .inr ⟨by rw[if_pos hm],he⟩
    .rw[if_neg hm]at br;rw[s5 br]at he;refine .inl ⟨q.2,by rw[if_neg hm,a2],he,?_⟩;cases bY:e3 sizes [] (σ e6)with
     |none=>rw[bY]at M;cases M
     |some p=>
      rw[bY]at M;obtain⟨bq,s1⟩:=p;have aQ:iL sizes [] e6=σ (bq,s1):=bY;obtain⟨u,_,_,eS⟩:=vZ aQ;have aS:bd 0 aw s1=σ q:=M;obtain⟨fm,fo⟩:=q;have eU:=dg aS;have:=eS.1;have:=eU.1;rw[r9];simp only[T1];omega
def j2(s:aE):Prop:=s.big=false->0<=s.told/\s.told<=16384
def j3(neg:Bool)(ar:Nat)(scope sizes:Λ)(e:Option aE):Option (cj×aE):=match bc 0 aw (e.map (ba (decide (6<ar)||dj sizes)))with
 |none=>ν
 |some (other,f)=>match dC sizes f with
  |none=>ν
  |some (lines,a)=>σ (⟨scope,sizes,other,lines⟩,if neg=true then{a with shared:=a.shared++[(sizes,lines)]}else a)
theorem Dy{s s':aE}{l:List (Λ×Int)}(h:dC sizes s=σ (l,s')):s'.toks.length+1<=s.toks.length/\s'.shared=s.shared:=by
 unfold dC at h;cases e:bd (-aw) aw s with
 |none=>rw[e]at h;cases h
 |some q=>
  obtain⟨n,s1⟩:=q;have r:=dg e;have A:=r.1;have w:=r.eqs.2.2;rw[e]at h;simp only at h;split at h
  .split at h
   .cases h
   .split at h
    .cases h;exact⟨Ω,w⟩
    .cases h
  .have h':cJ (dP sizes) n.toNat [] (ba (decide (16384<min (s1.told+n) aw)) {s1 with told:=min (s1.told+n) aw})=σ (l,s'):=h;have:=iN (f:=dP sizes) (λ_ t=>t.toks.length<=s1.toks.length/\t.shared=s1.shared) (λacc t a bq x z=>by
    obtain⟨_,_,_,y⟩:=nW z;have h1:=y.1;have p:=y.eqs.2.2;exact⟨by have:=x.1;omega,p.trans x.2⟩) n.toNat [] (ba (decide (16384<min (s1.told+n) aw)) {s1 with told:=min (s1.told+n) aw}) l s' ⟨o4 _,rfl⟩ h'
   obtain⟨⟨h1,p⟩,_⟩:=this;exact⟨Ω,p.trans w⟩
theorem tO{g:Nat}{H:aj}{s:aE}(h:bK w g B H N (σ s)):s.toks.length<=100000/\s.shared.length+s.toks.length<=100000:=by
 obtain⟨p,w0,q,r,gs,sv,L,x,y,z,bad,A,big,C,told,h1,E,F,G,e,I,J,K,M,O,P,a,Q,f,R⟩:=h;have S:=e.2.2.1;refine⟨by rw[<-a,r8];omega,by rw[<-a,<-f,r8,r8];omega⟩
def Dz(w:x3)(g h B:Nat)(H:aj)(e:Option (cj×aE))(v:x1)(w':x3):Prop:=∃f x a,ai (λr=>r=g\/H r\/r=h\/B<=r) w w'/\v= .agg (eU f).toArray/\gO w' f x/\bK w' g w'.heap.size a 100001 (e.map (·.2))/\(∀q,e=σ q->x=q.1)/\(∀r,H r->a r)/\(∀r,a r->H r\/B<=r)/\∀r,a r->r<w'.heap.size
theorem DA{g G ar:Nat}{H:aj}{R:Option aE}{neg:Bool}{dD:Int}{scope:Λ}{Q:x1->x3->Prop}(h:bK w g B H 100000 R)(dE:hg w B G ⟨scope,sizes,0,[]⟩)(fp:∀c,af w G a8 c->c[3]?=σ (.slice ν 0 0))(dF:∀z∈sizes,1<=z/\z<=aw)(fq:sizes.length<=100001)(dG:af w N a8 [.slice ν 0 0,.slice ν 0 0,Δ 0,.slice ν 0 0])(jA:N<B)(cI:¬H N)(cK:∀r,H r->r<B)(fs:∀ap,R=σ ap->j2 ap)(ft:∀v w',Dz w g N B H (j3 neg ar scope sizes R) v w'->Q v w'):
  ac x7 (u6 a8 (Γ G) 1) w λfu=>
  ac x7 (u5 ay fu) w λdH=>
  ac x7 (W9 #[ay] ah #[dH]) w λfv=>
  cb (Δ 1) (Δ 0) w λdI c0 aG fw=>
   ac x7 (aM .lss ah false false c0 fv) aG λfx=>
   Split fx (cu (α:=x1->x3->Prop) (λ(fy:x1)(dJ:x3)=>
    ac x7 (aM .add ah false true c0 (Δ 1)) dJ λfz=>
    fw fy fz dJ) λdL=>
   ac x7 (c7 ay dH c0) aG λfA=>
   ac x7 (u5 au fA) aG λdM=>
   cu (α:=x1->x3->Prop) (λ(fB:x1)(cL:x3)=>
    ac x7 (aM .mul au false false dI fB) cL λdO=>
    ac x7 (aM .gtr au false true dO (Δ 4096)) cL λfD=>
    Split fD (dL (Δ 4097) cL)
     (dL dO cL)) λdQ=>
   ac x7 (aM .gtr au false true dM (Δ 4096)) aG λfE=>
   Split fE (dQ (Δ 4097) aG)
    (dQ dM aG))
    (cu (α:=x3->Prop) (λ(bY:x3)=>
   am x7 lV [(Γ g),(Δ 0),(Δ 4611686018427387904)] bY λdR bD=>
   ac x7 (Y0 dR 0) bD λfF=>
   ac x7 (Y0 dR 1) bD λjB=>
   ac x7 (u6 a8 (Γ G) 2) bD λfG=>
   aD x7 (o8 au fG fF) bD λ(_:Unit)bh=>
   am x7 lV [(Γ g),(Δ (-4611686018427387904)),(Δ 4611686018427387904)] bh λdT O=>
   ac x7 (Y0 dT 0) O λbE=>
   ac x7 (Y0 dT 1) O λdU=>
   ac x7 (bO (Γ g)) O λfH=>
   ac x7 (u6 bz fH 3) O λfI=>
   ac x7 (u5 ah fI) O λfK=>
   ac x7 (aM .neq ah false true fK (Δ 0)) O λfL=>
   Split fL (ac x7 (u5 a8 (Γ G)) O λbZ=>
    aD x7 (o8 a8 (Γ N) bZ) O λ(_:Unit)bi=>
    ac x7 (do loadVar a8 (<-asAddr (Γ N))) bi λb0=>
 Q b0 bi)
    (cu (α:=x3->Prop) (λ(aW:x3)=>
    ck (Δ 0) aW λdV br fM=>
     cu (α:=x1->x3->Prop) (λ(fN:x1)(b2:x3)=>
      Split fN (aD x7 (Instr.alloc b5 true (.tuple #[])) b2 λx cM=>
     ac x7 (u6 a8 (Γ G) 1) cM λfO=>
     ac x7 (u5 ay fO) cM λdX=>
     ac x7 (W9 #[ay] ah #[dX]) cM λfP=>
     ck (Δ 0) cM λc1 bF fQ=>
      ac x7 (aM .lss ah false false c1 fP) bF λfR=>
      Split fR (ac x7 (c7 ay dX c1) bF λfS=>
      ac x7 (u5 au fS) bF λfU=>
      ac x7 (aM .sub au false true fU (Δ 1)) bF λfV=>
      am x7 lV [(Γ g),(Δ 0),fV] bF λdY b3=>
      ac x7 (Y0 dY 0) b3 λfW=>
      ac x7 (Y0 dY 1) b3 λjC=>
      ac x7 (u6 b5 x 0) b3 λfX=>
      ac x7 (u5 ay fX) b3 λfY=>
      aD x7 (Y4 ay 1 #[(0,fW)]) b3 λfZ gb=>
      aD x7 (Z0 #[ay,ay] ay #[fY,fZ]) gb λgc dZ=>
      ac x7 (u6 b5 x 0) dZ λgd=>
      aD x7 (o8 ay gd gc) dZ λ(_:Unit)ea=>
      ac x7 (aM .add ah false true c1 (Δ 1)) ea λgf=>
      fQ gf ea)
       (am x7 lV [(Γ g),(Δ 0),(Δ 4611686018427387904)] bF λeb bG=>
     ac x7 (Y0 eb 0) bG λgg=>
     ac x7 (Y0 eb 1) bG λgh=>
     ac x7 (u6 a8 (Γ G) 3) bG λgi=>
     ac x7 (u5 dW gi) bG λec=>
     ac x7 (W9 #[dW] ah #[ec]) bG λgj=>
     ck (Δ 0) bG λc2 bI gk=>
      ac x7 (aM .lss ah false false c2 gj) bI λgl=>
      Split gl (cu (α:=x3->Prop) (λ(ed:x3)=>
       ac x7 (aM .add ah false true c2 (Δ 1)) ed λgm=>
       gk gm ed) λef=>
      ac x7 (c7 dW ec c2) bI λgn=>
      ac x7 (u5 b5 gn) bI λgp=>
      aD x7 (Instr.alloc b5 true (.tuple #[])) bI λy gq=>
      aD x7 (o8 b5 y gp) gq λ(_:Unit)aH=>
      cu (α:=x1->x3->Prop) (λ(gu:x1)(eg:x3)=>
       Split gu (am x7 nz [(Γ g),(Δ 4),gh] eg λjD gv=>
        ef gv)
        (ef eg)) λeh=>
      ac x7 (bO (Γ g)) aH λgw=>
      ac x7 (u6 bz gw 3) aH λgx=>
      ac x7 (u5 ah gx) aH λgA=>
      ac x7 (aM .eql ah false true gA (Δ 0)) aH λgB=>
      Split gB (ac x7 (u6 b5 x 0) aH λgD=>
       ac x7 (u5 ay gD) aH λgE=>
      ac x7 (u6 b5 y 0) aH λgF=>
      ac x7 (u5 ay gF) aH λgH=>
      am x7 si [gE,gH] aH λgI gJ=>
      eh gI gJ)
       (eh (.bool false) aH))
       (ac x7 (u6 b5 x 1) bI λgK=>
     aD x7 (o8 au gK gg) bI λ(_:Unit)cN=>
     ac x7 (u6 a8 (Γ G) 3) cN λgL=>
     ac x7 (u5 dW gL) cN λgM=>
     ac x7 (u5 b5 x) cN λgN=>
     aD x7 (Y4 dW 1 #[(0,gN)]) cN λgQ gR=>
     aD x7 (Z0 #[dW,dW] dW #[gM,gQ]) gR λgS ei=>
     ac x7 (u6 a8 (Γ G) 3) ei λgU=>
     aD x7 (o8 dW gU gS) ei λ(_:Unit)ek=>
     ac x7 (aM .add au false true dV (Δ 1)) ek λgV=>
     fM gV ek)))
       (cu (α:=x3->Prop) (λ(ag:x3)=>
     ac x7 (u5 a8 (Γ G)) ag λgW=>
     aD x7 (o8 a8 (Γ N) gW) ag λ(_:Unit)em=>
     ac x7 (do loadVar a8 (<-asAddr (Γ N))) em λgX=>
 Q gX em) λen=>
    Split (.bool neg) (ej b2 λaq=>
     ac x7 (bO (Γ g)) aq λc3=>
     ac x7 (u6 bz c3 8) aq λc4=>
     ac x7 (u5 dB c4) aq λeo=>
     ac x7 (u5 a8 (Γ G)) aq λgY=>
     aD x7 (Y4 dB 1 #[(0,gY)]) aq λgZ aY=>
     (Ext aq aY\/cA x7 (u5 dB c4) eo aY/\cA x7 (u6 bz c3 8) c4 aY/\cA x7 (bO (Γ g)) c3 aY/\True)/\
     aD x7 (Z0 #[dB,dB] dB #[eo,gZ]) aY λg0 cP=>
      ac x7 (bO (Γ g)) cP λg2=>
      ac x7 (u6 bz g2 8) cP λg3=>
      aD x7 (o8 dB g3 g0) cP λ(_:Unit)bt=>
      en bt)
     (en b2))) λep=>
     ac x7 (aM .lss au false false dV bE) br λg4=>
     Split g4 (ac x7 (bO (Γ g)) br λg5=>
     ac x7 (u6 bz g5 3) br λg6=>
     ac x7 (u5 ah g6) br λg7=>
     ac x7 (aM .eql ah false true g7 (Δ 0)) br λg8=>
     ep g8 br)
      (ep (.bool false) br)) λer=>
   ac x7 (aM .lss au false true bE (Δ 0)) O λg9=>
   Split g9 (cu (α:=x1->x3->Prop) (λ(ha:x1)(Y:x3)=>
     Split ha (am x7 nz [(Γ g),(Δ 4),dU] Y λjE c5=>
     ac x7 (u5 a8 (Γ G)) c5 λhb=>
     aD x7 (o8 a8 (Γ N) hb) c5 λ(_:Unit)es=>
     ac x7 (do loadVar a8 (<-asAddr (Γ N))) es λhc=>
 Q hc es)
     (ac x7 (bO (Γ g)) Y λhd=>
    ac x7 (u6 bz hd 8) Y λhh=>
    ac x7 (u5 dB hh) Y λhj=>
    ac x7 (Op.unary .neg bE) Y λhl=>
    ac x7 (aM .sub au false true hl (Δ 1)) Y λhn=>
    ac x7 (c7 dB hj hn) Y λho=>
    ac x7 (u6 a8 ho 3) Y λhp=>
    ac x7 (u5 dW hp) Y λhq=>
    ac x7 (u6 a8 (Γ G) 3) Y λhr=>
    aD x7 (o8 dW hr hq) Y λ(_:Unit)et=>
    er et)) λeu=>
    ej O λP=>
    ac x7 (Op.unary .neg bE) P λhs=>
    ac x7 (bO (Γ g)) P λht=>
    ac x7 (u6 bz ht 8) P λhy=>
    ac x7 (u5 dB hy) P λhz=>
    ac x7 (W9 #[dB] ah #[hz]) P λhA=>
    ac x7 (aM .gtr au false false hs hA) P λhB=>
    Split hB (eu (.bool true) P)
    (ac x7 (bO (Γ g)) P λhC=>
    ac x7 (u6 bz hC 8) P λhD=>
    ac x7 (u5 dB hD) P λhF=>
    ac x7 (Op.unary .neg bE) P λhG=>
    ac x7 (aM .sub au false true hG (Δ 1)) P λhH=>
    ac x7 (c7 dB hF hH) P λhI=>
    ac x7 (u6 a8 hI 1) P λhJ=>
    ac x7 (u5 ay hJ) P λhK=>
    ac x7 (u6 a8 (Γ G) 1) P λhL=>
    ac x7 (u5 ay hL) P λhM=>
    am x7 si [hK,hM] P λhN c6=>
    ac x7 (Op.unary .not hN) c6 λhO=>
    eu hO c6))
    (ac x7 (bO (Γ g)) O λhP=>
    ac x7 (u6 bz hP 7) O λhQ=>
    ac x7 (u5 au hQ) O λhR=>
    ac x7 (aM .add au false false hR bE) O λhS=>
    ac x7 (bO (Γ g)) O λhT=>
    ac x7 (u6 bz hT 7) O λhU=>
    aD x7 (o8 au hU hS) O λ(_:Unit)aI=>
    cu (α:=x3->Prop) (λ(aK:x3)=>
     ac x7 (bO (Γ g)) aK λhV=>
     ac x7 (u6 bz hV 7) aK λhX=>
     ac x7 (u5 au hX) aK λhY=>
     ac x7 (aM .gtr au false true hY (Δ 16384)) aK λhZ=>
     am x7 sh [(Γ g),hZ,dU] aK λjF c8=>
     er c8) λev=>
    ac x7 (bO (Γ g)) aI λh0=>
    ac x7 (u6 bz h0 7) aI λh3=>
    ac x7 (u5 au h3) aI λh4=>
    ac x7 (aM .gtr au false true h4 (Δ 4611686018427387904)) aI λh5=>
    Split h5 (ac x7 (bO (Γ g)) aI λh6=>
    ac x7 (u6 bz h6 7) aI λh7=>
    aD x7 (o8 au h7 (Δ 4611686018427387904)) aI λ(_:Unit)ew=>
    ev ew)
    (ev aI)))) λez=>
  ac x7 (aM .gtr au false true (Δ (ar:Int)) (Δ 6)) aG λh8=>
  Split h8 (am x7 sh [(Γ g),(.bool true),(Δ dD)] aG λjG h9=>
  ez h9)
   (ac x7 (aM .gtr au false true dI (Δ 4096)) aG λia=>
  am x7 sh [(Γ g),ia,(Δ dD)] aG λjH ib=>
  ez ib)):=by
 have ic:=h.lt;have eA:N≠g:=λhe=>by
  obtain⟨az,aa,ad,bad,aB,big,aC,told,sv,E,_⟩:=h2 h;subst he;exact absurd (eH E dG) Φ
 obtain⟨aL,szv,b1,g1,cQ,cR,f1,f2,f3,f4,f5,f6,f7⟩:=id dE;have b4:G≠g:=Ω
 have ret:∀{I:x3}{x:cj}{S:aj},hg I B G x->af I N a8 [.slice ν 0 0,.slice ν 0 0,Δ 0,.slice ν 0 0]->ai (λr=>r=g\/H r\/B<=r) w I->bK I g I.heap.size S 100001 ((j3 neg ar scope sizes R).map (·.2))->(∀q,j3 neg ar scope sizes R=σ q->x=q.1)->¬S N->(∀r,H r->S r)->(∀r,S r->H r\/B<=r)->(∀r,S r->r<I.heap.size)->
   (ac x7 (u5 a8 (Γ G)) I λbZ=>
    aD x7 (o8 a8 (Γ N) bZ) I λ(_:Unit)bi=>
    ac x7 (do loadVar a8 (<-asAddr (Γ N))) bi λb0=>Q b0 bi):=by
  intro I x S c9 db ie ig J ih dc ii ij;obtain⟨aL,szv,b1,g1,cQ,cR,dd,de,df,dh,di,eB,eC⟩:=c9;let ae:iZ:=⟨aL,szv,x.other,b1⟩;have b6:gO I ae x:=⟨⟨g1,de⟩,⟨cQ,df⟩,rfl,cR,dh⟩;rw[bP a8.p a8.i rfl (show I.rangeAt G 0 (eU ae)from dd.range)];refine ci (vs:=eU ae) a8.i rfl rfl b6.one db λjI dk ik il=>?_;rw[fJ a8.p a8.i rfl il.range];have im:∀r,r=N->hf I r\/I.heap.size<=r:=λr C=>by subst C;exact .inl ⟨_,_,db,Φ,Φ⟩
  refine ft _ _ ⟨ae,x,S,(ie.mono λr _ h=>?_).trans (dk.mono λr _ h=>.inr (.inr (.inl h))),rfl,b6.dK dk im,ig.dK dk λr C=>.inl ?_,J,dc,ii,λr C=>by rw[ik];exact ij r C⟩
  .exact h.elim .inl λh=>h.elim (λh=>.inr (.inl h)) λh=>.inr (.inr (.inr h))
  .have C:r=N:=C;subst C;exact⟨_,_,db,Φ,Φ,Φ,Φ,ih⟩
 have dl:∀{I:x3},ai (gP g B) w I->af I N a8 [.slice ν 0 0,.slice ν 0 0,Δ 0,.slice ν 0 0]:=λaZ=>dG.ab aZ λU=>U.elim eA λh=>Ω
 have dm:∀{I:x3},ai (gP g B) w I->ai (λr=>r=g\/H r\/B<=r) w I:=λaZ=>aZ.mono λr _ h=>h.elim .inl λh=>.inr (.inr h);have eD:∀{I:x3}{eE:Nat}{S:aj}{so:Option aE},bK I g eE S 100000 so->bK I g eE S 100001 so:=λC=>by
  obtain⟨b7,w0,az,bj,gs,sv,L,aF,aa,ad,bad,aB,big,aC,told,h1,ip,iq,ir,it,dn,dp⟩:=C;refine⟨Ω,w0,az,bj,gs,sv,L,aF,aa,ad,bad,aB,big,aC,told,h1,ip,iq,ir,it,dn,?_⟩;rename_i so;cases so with
  |none=>exact⟨dp.1,by have:=dp.2;omega⟩
  |some s=>exact dp
 have eF:∀{I:x3}{x:cj},hg I B G x->ai (gP g B) w I->bK I g B H 100000 ν->j3 neg ar scope sizes R=ν->(ac x7 (u5 a8 (Γ G)) I λbZ=>
    aD x7 (o8 a8 (Γ N) bZ) I λ(_:Unit)bi=>
    ac x7 (do loadVar a8 (<-asAddr (Γ N))) bi λb0=>Q b0 bi):=λc9 aZ C eJ=>
  ret c9 (dl aZ) (dm aZ) (by rw[eJ];exact eD C.base) (λq W=>by rw[eJ]at W;cases W) cI (λ_ h=>h) (λ_ h=>.inl h) λr C=>by have:=cK r C;have:=aZ.size;omega
 rw[aT a8.p 1 f1 rfl,aX ay.u f3.ls];refine OB f3.ls (λz iu=>(dF z iu).1) λc aZ=>?_;refine da (λbY=>ai (λr=>r=g) w bY/\bK bY g B H 100000 (R.map (ba (decide (6<ar)||dj sizes)))) ?_ ?_
 rotate_left
 .intro aA a2;rw[bL,al];refine⟨λdn=>?_,λdn=>?_⟩
  .refine (mY h).mono ?_;rintro _ V _ a6;refine a2 _ ⟨a6.1,?_⟩;rw[decide_eq_true (show 6<ar by omega),Bool.true_or];exact a6.2
  .rw[bL];refine(mY h).mono ?_;rintro _ V _ a6;refine a2 _ ⟨a6.1,?_⟩;have e:dj sizes=decide (4096<c):=by rw[V9,decide_eq_true_eq];exact aZ.symm
   rw[decide_eq_false (show¬6<ar by omega),Bool.false_or,e];exact a6.2
 rintro bY ⟨iv,iw⟩;refine(kG iw).mono ?_;rintro _ bD _ ⟨⟨ix,iy⟩,o,jJ,rfl,iz,jK⟩;rw[bm,bn];have bJ:ai (λr=>r=g) w bD:=iv.trans ix;have jL:=dE.dK bJ (kH h);have f123:=f1.ab bJ λhe=>b4 he;rw[aU a8.p rfl];refine bl (g:=G) (o:=2) au.i rfl rfl f123 Ξ λbh b8 jM bM=>?_;have bM:af bh G a8 [aL,szv,Δ o,b1]:=bM;have dq:∀r,r=g->hf w r\/w.heap.size<=r:=λr C=>(kH h r C).imp (λ⟨e,c,E,a7,bb,_⟩=>⟨e,c,E,a7,bb⟩) id;have bN:∀{I:x3}{c:List x1},af I G a8 c->∀r,r=G->hf I r\/I.heap.size<=r:=λE r C=>by subst C;exact .inl ⟨_,_,E,Φ,Φ⟩
 have f224:=ey (ey f2 bJ dq) b8 (bN f123);have f324:=ey (ey f3 bJ dq) b8 (bN f123);have eK:=(f4.dK bJ dq).dK b8 (bN f123);have bQ:=iy.new b8 λr C=>by have C:r=G:=C;omega
 have eL:ai (gP g B) w bh:=(bJ.mono λr _ h=>.inl h).trans (b8.mono λr _ h=>.inr (by have h:r=G:=h;omega));refine(kG bQ).mono ?_;rintro _ O _ ⟨⟨bk,be⟩,n,jN,rfl,iA,eM⟩;rw[bm,bn,rh be];have eN:ai (gP g B) w O:=eL.trans (bk.mono λr _ h=>.inl h);have iB:hg bh B G ⟨scope,sizes,o,[]⟩:=⟨aL,szv,b1,g1,cQ,cR,bM,f224,f324,eK,f5,f6,f7⟩;have eO:=iB.dK bk (kH bQ);cases bf:bc (-4611686018427387904) 4611686018427387904 (V5 (λx=>x.snd) (bc 0 4611686018427387904 (R.map (ba (decide (6<ar)||dj sizes)))))with
 |none=>
  rw[bf]at be;rw[Option.map_none,S8,W7,bR];refine eF eO eN be ?_;unfold j3;cases X:bc 0 aw (R.map (ba (decide (6<ar)||dj sizes)))with
  |none=>rfl
  |some p=>
   obtain⟨o',M⟩:=p;have iC:bc 0 4611686018427387904 (R.map (ba (decide (6<ar)||dj sizes)))=σ (o',M):=X;rw[iC]at bf;have e:bd (-aw) aw M=ν:=bf;simp only;unfold dC;rw[e]
 |some q=>
 obtain⟨jO,K⟩:=q;have iD:=iA _ bf;subst iD;rw[bf]at be;have be:bK O g B H 100000 (σ K):=be;rw[Z6,T9,X1,a1];obtain⟨M,X,ds⟩:∃M,bc 0 aw (R.map (ba (decide (6<ar)||dj sizes)))=σ (o,M)/\bd (-aw) aw M=σ (n,K):=by
  cases X:bc 0 4611686018427387904 (R.map (ba (decide (6<ar)||dj sizes)))with
  |none=>rw[X]at bf;cases bf
  |some p=>
   obtain⟨o',M⟩:=p;have:=iz _ X;subst this;rw[X]at bf;exact⟨M,X,bf⟩
 have ca:j3 neg ar scope sizes R=match dC sizes M with
   |none=>ν
   |some (lines,K)=>σ (⟨scope,sizes,o,lines⟩,if neg=true then{K with shared:=K.shared++[(sizes,lines)]}else K):=by
  unfold j3;rw[X]
 have iE:=(hW ds).1;have iF: -4611686018427387904<=n/\n<=4611686018427387904:=iE;have eP:dC sizes M=(if n<0 then match K.shared[(-n-1).toNat]? with
   |none=>ν
   |some (z,l)=>if z=sizes then σ (l,K)else ν
  else cJ (dP sizes) n.toNat [] (ba (decide (16384<min (K.told+n) aw)) {K with told:=min (K.told+n) aw})):=by
  unfold dC;rw[ds];rfl
 have iG:j2 K:=by
  cases bS:R with
  |none=>rw[bS]at X;cases X
  |some ap=>
   rw[bS]at X;have dt:bd 0 aw (ba (decide (6<ar)||dj sizes) ap)=σ (o,M):=X;have cS:=(dg dt).eqs;have cc:=(dg ds).eqs;intro E;rw[cc.2.1,cS.2.1]at E;rw[cc.1,cS.1];exact fs ap bS (S5.1 E).1
 refine da (λaW=>ai (gP g B) w aW/\∃bu cd cT bo,af aW G a8 [aL,szv,Δ o,bu]/\av .i64 au aW g1 aL scope/\av .i64 au aW cQ szv sizes/\kF aW cd bu cT/\bK aW g B H 100000 (σ bo)/\(0<n->cT=[]/\∀r,¬leadsTo bu r)/\dC sizes M=(if n<=0 then σ (cT,bo)else cJ (dP sizes) n.toNat [] bo)) ?_ ?_
 .rintro aW ⟨iH,bu,cd,cT,bo,dd,de,df,dh,di,eB,eC⟩;refine OE di dd de df dh f5 f6 f7 dF fq iF.2 eB (tO di).1 λb2 A du iI eQ eR iJ ce=>?_;have bT:=iH.trans iI;have bw:du=(dC sizes M).map (·.2)/\∀q,dC sizes M=σ q->A=q.1:=by
   rw[eC];by_cases dv:n<=0
   .obtain⟨aa,ad⟩:=iJ dv;rw[if_pos dv];exact⟨ad,λq W=>by cases W;exact aa⟩
   .rw[if_neg dv];exact ce Ω
  obtain⟨bw,a6⟩:=bw;cases neg with
  |false=>
   refine da (λag=>b2=ag) ?_ ?_
   .rintro _ rfl;refine ret eQ (dl bT) (dm bT) ?_ ?_ cI (λ_ h=>h) (λ_ h=>.inl h) λr C=>by have:=cK r C;have:=bT.size;omega
    .have:(j3 false ar scope sizes R).map (·.2)=du:=by
      rw[ca,bw];cases dC sizes M with
      |none=>rfl
      |some p=>rfl
     rw[this];exact eD eR.base
    .intro q W;rw[ca]at W;cases ak:dC sizes M with
     |none=>rw[ak]at W;cases W
     |some p=>
      rw[ak]at W;have:=a6 p ak;cases W;rw[this]
   .intro aA a2;rw[a1];exact a2 _ rfl
  |true=>
   refine da (λag=>∃S,ai (λr=>r=g\/H r\/B<=r) w ag/\hg ag B G ⟨scope,sizes,o,A⟩/\af ag N a8 [.slice ν 0 0,.slice ν 0 0,Δ 0,.slice ν 0 0]/\bK ag g ag.heap.size S 100001 ((j3 true ar scope sizes R).map (·.2))/\¬S N/\(∀r,H r->S r)/\(∀r,S r->H r\/B<=r)/\∀r,S r->r<ag.heap.size) ?_ ?_
   .rintro ag ⟨S,iK,iL,a3,a4,a5,iM,iN,iO⟩;refine ret iL a3 iK a4 ?_ a5 iM iN iO;intro q W;rw[ca]at W;cases ak:dC sizes M with
    |none=>rw[ak]at W;cases W
    |some p=>
     rw[ak]at W;have:=a6 p ak;cases W;rw[this]
   .intro aA a2;rw[bR];intro aq cg _ _;have iP:=eR.ext cg;have iQ:=eQ.ext cg;have iR:=(dl bT).ext cg;obtain⟨b7,w0,az,bj,gs,sv,L,aF,aa,ad,bad,aB,big,aC,told,cU,bx,bA,an,bB,bp,bC⟩:=id iP;have iS:=bB.g bx bA;obtain⟨⟨iT,eS⟩,aO,ch,cl⟩:=id iS;have iU:∀r,leadsTo sv r->r<B:=λr C=>cK r (bp r C);rw[aS bz.p 8 an rfl];obtain⟨eV,eW,bu,eX,eY,cd,eZ,e0,e2,e3,iV,iW,iX⟩:=id iQ;let ae:iZ:=⟨eV,eW,o,bu⟩;let x:cj:=⟨scope,sizes,o,A⟩;have b6:gO aq ae x:=⟨⟨eX,e0⟩,⟨eY,e2⟩,rfl,cd,e3⟩;rw[bP a8.p a8.i rfl (show aq.rangeAt G 0 (eU ae)from eZ.range)];refine hE (f:=eU) (a:=ae) dB.u a8.i Ω rfl rfl λjP jQ aY jR Z iY=>?_;refine⟨.inl Z,?_⟩;have jS:L.length<=100000:=by
     cases du with
     |none=>exact bC.2
     |some s=>have:=bC.2.2.2.2.2.2.2.2;omega
    have dw:=aO.ext Z;refine io (f:=eU) (a:=ae) dB.u a8.i rfl dw (by simpa using iY.sl) (b6.ext Z).one Ω Ω λe4 i0 cP cm i1 e5=>?_;have dx:=an.ext Z;have e6:=dx.ab e5 λhe=>cO dw dx Φ he;rw[bU,aU bz.p rfl];refine bl (g:=g) (o:=8) dB.i (eI cm.sl).1 (eI cm.sl).2 e6 (by simp[gC]) λbt dy jT cV=>?_;have cV:af bt g bz (gC az aa ad bad aB big aC told e4):=cV;have aP:ai (λr=>leadsTo sv r\/r=g) aY bt:=(e5.mono λr _ h=>.inl h).trans (dy.mono λr _ h=>.inr h);have cW:∀r,(leadsTo sv r\/r=g)->hf aY r\/aY.heap.size<=r:=λr C=>by
     rcases C with C|rfl
     .obtain⟨rfl,c,E⟩:=dS dw C;exact .inl ⟨_,c,E,Φ,Φ⟩
     .exact .inl ⟨_,_,dx,Φ,Φ⟩
    have e7:∀{ae x},gO aq ae x->gO bt ae x:=λhe=>(he.ext Z).dK aP cW;have z50:=cg.size;have jU:=Z.size;have z53:=aP.size;have jV:=bT.size;have jW:=ic.2;refine a2 _ ⟨λr=>H r\/(aq.heap.size<=r/\r<bt.heap.size),?_,?_,?_,?_,?_,λr C=>.inl C,λr C=>C.imp id λC=>Ω,λr C=>?_⟩
    .refine (((dm bT).trans (cg.ab _)).trans (Z.ab _)).trans (aP.mono λr _ C=>?_);exact C.elim (λC=>.inr (.inl (bp r C))) .inl
    .have i2:=eZ.ext Z;refine⟨eV,eW,bu,eX,eY,cd,i2.ab aP λC=>?_,ey (e0.ext Z) aP cW,ey (e2.ext Z) aP cW,(e3.dK (Z.ab λ_=>False) λ_ h=>h.elim).dK aP cW,iV,iW,iX⟩;rcases C with C|C
     .have:=iU _ C;omega
     .exact b4 C
    .exact (iR.ext Z).ab aP λC=>C.elim (λC=>cI (bp _ C)) eA
    .refine⟨Ω,bt,az,bj,i0,e4,L++[ae],aF++[x],aa,ad,bad,aB,big,aC,told,rfl,ai.refl _ _,⟨_,cV⟩,cV,⟨⟨?_,λr C=>?_⟩,cm.ab dy λr C he=>?_,by rw[r9,r9,ch];rfl,λi i3 i4 hi cn=>?_⟩,λr C=>?_,?_⟩
     .refine (iT.ab (Z.ab λ_=>False) λ_ _ h=>h).ab aP λr C U=>?_;obtain⟨c,E⟩:=eS r C;rcases U with U|rfl
      .obtain⟨rfl,i5,dz⟩:=dS aO U;exact absurd (eH E dz) Φ
      .exact absurd (eH E an) Φ
     .obtain⟨c,E⟩:=eS r C;refine⟨c,(E.ext Z).ab aP λU=>?_⟩;rcases U with U|rfl
      .obtain⟨rfl,i5,dz⟩:=dS aO U;exact absurd (eH E dz) Φ
      .exact absurd (eH E an) Φ
     .have he:r=g:=he;subst he;exact cO cm e6 Φ C
     .by_cases i6:i<L.length
      .rw[Y5 i6]at hi;rw[Y5 Ω]at cn;exact e7 (cl i i3 i4 hi cn)
      .rw[Y6 Ω]at hi;rw[Y6 Ω]at cn;have i7:i-L.length=0:=by have:=(x4.1 hi).1;simp at this;omega
       have dc:i-aF.length=0:=Ω
       rw[i7]at hi;rw[dc]at cn;cases hi;cases cn;exact e7 b6
     .rcases i1 r C with h|h
      .exact .inl (bp r h)
      .have:=(cm.leads C);have:=dy.size;exact .inr ⟨Ω,Ω⟩
     .rw[ca];cases ak:dC sizes M with
      |none=>
       rw[ak]at bw;rw[bw]at bC;exact⟨bC.1,by rw[r9];simp;have:=bC.2;omega⟩
      |some p=>
       obtain⟨lines,bo⟩:=p;rw[ak]at bw;rw[bw]at bC;have i8:=a6 _ ak;obtain⟨cp,cq,cr,ct,cw,bV,cz,aQ,cX⟩:=id bC;have e8:=Dy ak;refine⟨cp,cq,cr,ct,cw,bV,cz,?_,?_⟩
       .show (aF++[x]).map _=bo.shared++[(sizes,lines)];rw[Z4,aQ];simp only[x,U6,List.map_nil];rw[i8]
       .have jX:M.shared.length+M.toks.length<=100000:=by
         cases bS:R with
         |none=>rw[bS]at X;cases X
         |some ap=>
          rw[bS]at X h;have dt:bd 0 aw (ba (decide (6<ar)||dj sizes) ap)=σ (o,M):=X;have t9:=dg dt;have cS:=t9.1;have cc:=t9.eqs.2.2;have t3:=(tO h).2;have e9:(ba (decide (6<ar)||dj sizes) ap).toks=ap.toks:=rfl;have fa:(ba (decide (6<ar)||dj sizes) ap).shared=ap.shared:=rfl;rw[e9]at cS;rw[fa]at cc;rw[cc];omega
        have fb:L.length=bo.shared.length:=by rw[<-aQ,r8,ch]
        have i9:bj.length=bo.toks.length:=by rw[<-bV,r8]
        rw[e8.2]at fb;rw[r9,fb,i9];simp only[T1];have:=e8.1;omega
    .rintro (C|C)
     .exact cI C
     .omega
    .rcases C with C|C
     .have:=cK r C;omega
     .exact C.2
 .intro aA a2;rw[aR,al];refine⟨λja=>?_,λjb=>?_⟩
  .
   refine aV (λv Y=>Ext O Y/\∃b:Bool,v= .bool b/\(b=true->dC sizes M=ν)/\(b=false->∃lines,dC sizes M=σ (lines,K)/\K.shared[(-n-1).toNat]?=σ (sizes,lines))) ?_ ?_
   .rintro _ Y ⟨bW,b,rfl,jc,jd⟩;have cY:=be.ext bW;have je:=eO.ext bW;have fc:=eN.trans (bW.ab _);cases b with
    |true=>
     rw[bR];refine(oj cY Ω).mono ?_;rintro _ c5 _ ⟨fd,jf⟩;exact eF (je.dK fd (kH cY)) (fc.trans (fd.mono λr _ h=>.inl h)) jf (by rw[ca,jc rfl])
    |false=>
     rw[a1];obtain⟨lines,jg,bX⟩:=jd rfl;obtain⟨b7,w0,az,bj,gs,sv,L,aF,aa,ad,bad,aB,big,aC,told,cU,bx,bA,an,bB,bp,cp,cq,cr,ct,cw,bV,cz,aQ,cX⟩:=id cY;obtain⟨_,aO,ch,cl⟩:=bB.g bx bA;have cB:(-n-1).toNat<L.length:=by
      have h1:=(x4.1 bX).1;rw[<-aQ,r8]at h1;omega
     obtain⟨hk,cC⟩:∃h,L[(-n-1).toNat]?=σ h:=⟨_,x6 cB⟩;obtain⟨bg,cD⟩:=aJ (l:=aF) (i:=(-n-1).toNat) Ω;obtain⟨_,_,_,jh,ao⟩:=cl _ hk bg cC cD;have ji:bg.lines=lines:=by
      rw[<-aQ,x8,cD]at bX;have:=b9 bX;exact(Q1.inj this).2
     rw[aS bz.p 8 an rfl,l0,wrap_i64 Ω Ω,dN,wrap_i64 Ω Ω,dr (i:=(-n-1).toNat) Ω dB.u a8.i aO cB,aU a8.p rfl,ax Ψ (aO.range cC 3 _ rfl)];obtain⟨jY,fe,jZ,j1⟩:=id ao;have cZ:af Y G a8 [aL,szv,Δ o,b1]:=(bM.ab bk λhe=>b4 he).ext bW;have jj:=(ey f224 bk λr C=>(kH bQ r C).imp (λ⟨e,c,E,a7,bb,_⟩=>⟨e,c,E,a7,bb⟩) id).ext bW;have jk:=(ey f324 bk λr C=>(kH bQ r C).imp (λ⟨e,c,E,a7,bb,_⟩=>⟨e,c,E,a7,bb⟩) id).ext bW;rw[aU a8.p rfl];refine bl (g:=G) (o:=3) dW.i (eI fe.sl).1 (eI fe.sl).2 cZ Ξ λet cE j4 jl=>?_;refine a2 _ ⟨fc.trans (cE.mono λr _ h=>.inr (by have h:r=G:=h;omega)),hk.b1,jh,lines,K,jl,ey jj cE (bN cZ),ey jk cE (bN cZ),?_,cY.new cE λr C=>by have C:r=G:=C;omega,λh=>Ω,by rw[jg,if_pos Ω]⟩;rw[<-ji];exact ao.dK cE (bN cZ)
   .intro j5 ff;intro P cF _ _;have jm:=be.ext cF;obtain⟨b7,w0,az,bj,gs,sv,L,aF,aa,ad,bad,aB,big,aC,told,cU,bx,bA,an,bB,bp,cp,cq,cr,ct,cw,bV,cz,aQ,cX⟩:=id jm;obtain⟨_,aO,ch,cl⟩:=bB.g bx bA;have j6:K.shared.length=L.length:=by rw[<-aQ,r8,ch]
    have ao:=eP;rw[if_pos ja]at ao;rw[l0,wrap_i64 Ω Ω,aS bz.p 8 an rfl,ee dB.u aO,bL,al];refine⟨λce=>ff _ _ ⟨cF,true,rfl,λ_=>?_,λh=>by cases h⟩,λce=>?_⟩
    .rw[ao,Z2 Ω]
    have cB:(-n-1).toNat<L.length:=Ω
    obtain⟨hk,cC⟩:∃h,L[(-n-1).toNat]?=σ h:=⟨_,x6 cB⟩;obtain⟨bg,cD⟩:=aJ (l:=aF) (i:=(-n-1).toNat) Ω;obtain⟨_,⟨gz,jn⟩,_,_⟩:=cl _ hk bg cC cD;have bX:K.shared[(-n-1).toNat]?=σ (bg.sizes,bg.lines):=by rw[<-aQ,x8,cD];rfl
    rw[bX]at ao;simp only at ao;rw[aS bz.p 8 an rfl,l0,wrap_i64 Ω Ω,dN,wrap_i64 Ω Ω,dr (i:=(-n-1).toNat) Ω dB.u a8.i aO cB,aU a8.p rfl,ax Ψ (aO.range cC 1 _ rfl)];have jo:af P G a8 [aL,szv,Δ o,b1]:=(bM.ab bk λhe=>b4 he).ext cF;have jp:=(ey f324 bk λr C=>(kH bQ r C).imp (λ⟨e,c,E,a7,bb,_⟩=>⟨e,c,E,a7,bb⟩) id).ext cF;rw[aT a8.p 1 jo rfl];refine(w9 jn.ls jp.ls).mono ?_;rintro _ c6 _ ⟨rfl,jq⟩;rw[bH];refine ff _ _ ⟨cF.trans jq,_,rfl,λE=>?_,λE=>?_⟩
    .have jr:bg.sizes≠sizes:=by simpa using E
     rw[ao,if_neg jr]
    .have fg:bg.sizes=sizes:=by simpa using E
     exact⟨bg.lines,by rw[ao,if_pos fg],by rw[bX,fg]⟩
  .
   have ao:=eP;rw[if_neg jb]at ao;obtain⟨b7,w0,az,bj,gs,sv,L,aF,aa,ad,bad,aB,big,aC,told,cU,bx,bA,an,bB,bp,cp,cq,cr,ct,cw,bV,cz,aQ,cX⟩:=id be;rw[aS bz.p 7 an rfl,aN];generalize js:X5.wrap (told+n)=bq;have fh:K.big=false->bq=K.told+n/\0<=bq:=λE=>by
    obtain⟨e9,fa⟩:=iG E;have jt:=ct E;rw[<-js,jt,wrap_i64 Ω Ω];exact⟨rfl,Ω⟩
   rw[bU,aU bz.p rfl];refine bl (g:=g) (o:=7) au.i rfl rfl an (by simp[gC]) λaI fi j7 cG=>?_;have cG:af aI g bz (gC az aa ad bad aB big aC bq sv):=cG;refine da (λaK=>ai (λr=>r=g) O aK/\af aK g bz (gC az aa ad bad aB big aC (min bq aw) sv)) ?_ ?_
   rotate_left
   .intro j8 fj;rw[aS bz.p 7 cG rfl,bL,al];refine⟨λce=>?_,λce=>fj _ ⟨fi,?_⟩⟩
    .rw[bU,aU bz.p rfl];refine bl (g:=g) (o:=7) au.i rfl rfl cG (by simp[gC]) λew ju ka jv=>?_;refine fj _ ⟨fi.trans ju,?_⟩;have e:min bq aw=4611686018427387904:=by unfold aw;omega
     rw[e];exact jv
    .have e:min bq aw=bq:=by unfold aw;omega
     rw[e];exact cG
   rintro aK ⟨fk,fm⟩;have jw:bK aK g B H 100000 (σ {K with told:=min (K.told+n) aw}):=⟨b7,w0,az,bj,gs,sv,L,aF,aa,ad,bad,aB,big,aC,_,cU,bx.trans fk,bA,fm,bB,bp,cp,cq,cr,λE=>by
    have E:K.big=false:=E;rw[(fh E).1],cw,bV,cz,aQ,cX⟩
   rw[aS bz.p 7 fm rfl,bL];refine(mY jw).mono ?_;rintro _ c8 _ ⟨jx,fo⟩;have jy:(σ {K with told:=min (K.told+n) aw}).map (ba (decide (16384<min bq aw)))=σ (ba (decide (16384<min (K.told+n) aw)) {K with told:=min (K.told+n) aw}):=by
    show σ (ba _ _)=_;congr 1;unfold ba;cases E:K.big with
    |true=>simp
    |false=>rw[(fh E).1]
   rw[jy]at fo;have cH:ai (λr=>r=g) bh c8:=(bk.trans fk).trans jx;have dA:∀r,r=g->hf bh r\/bh.heap.size<=r:=λr C=>(kH bQ r C).imp (λ⟨e,c,E,a7,bb,_⟩=>⟨e,c,E,a7,bb⟩) id;have jz:b1= .slice ν 0 0:=by
    have:=fp _ f1;simpa using this
   refine a2 _ ⟨eL.trans (cH.mono λr _ h=>.inl h),b1,cR,[],_,bM.ab cH λhe=>b4 he,ey f224 cH dA,ey f324 cH dA,eK.dK cH dA,fo,λ_=>⟨rfl,λr C=>by rw[jz]at C;exact e1 C⟩,?_⟩;rw[ao];by_cases eM:n<=0
   .have:n=0:=Ω
    subst this;rw[if_pos (Int.le_refl _)];rfl
   .rw[if_neg eM]
theorem DB{s:aE}:cX all s=match bd (-aw) aw s with
  |none=>ν
  |some (a,s1)=>match eP all.length a.natAbs s1 with
   |none=>ν
   |some (scope,e)=>j3 (decide (a<0)) a.natAbs scope (scope.map λv=>all.getD v.toNat 0) (σ e):=by
 unfold cX;cases bd (-aw) aw s with
 |none=>rfl
 |some q=>
  obtain⟨a,s1⟩:=q;simp only;cases eP all.length a.natAbs s1 with
  |none=>rfl
  |some p=>
   obtain⟨scope,e⟩:=p;simp only;unfold j3;show _=match bd 0 aw (ba (decide (6<a.natAbs)||dj (scope.map λv=>all.getD v.toNat 0)) e)with
    |none=>ν
    |some (other,f)=>_
   cases bd 0 aw (ba (decide (6<a.natAbs)||dj (scope.map λv=>all.getD v.toNat 0)) e)with
   |none=>rfl
   |some r=>
    obtain⟨o,f⟩:=r;simp only;cases dC (scope.map λv=>all.getD v.toNat 0) f with
    |none=>rfl
    |some w=>
     obtain⟨ls,x⟩:=w;by_cases h:a<0
     .simp[h]
     .simp[h]
def xb(w:x3)(g:Nat)(H:aj)(e:Option (cj×aE))(v:x1)(w':x3):Prop:=∃f x a,ai (λr=>r=g\/H r) w w'/\v= .agg (eU f).toArray/\gO w' f x/\bK w' g w'.heap.size a 100001 (e.map (·.2))/\(∀q,e=σ q->x=q.1)/\(∀r,H r->a r)/\(∀r,a r->H r\/w.heap.size<=r)/\∀r,a r->r<w'.heap.size
theorem DC{k:Nat}{s s':aE}(h:eP n k s=σ (l,s')):s'.toks.length+l.length<=s.toks.length/\s'.told=s.told/\s'.big=s.big/\s'.shared=s.shared/\∀v∈l,0<=v/\v<n:=by
 have:=iN (f:=ky n) (λ(acc:Λ)t=>t.toks.length+acc.length<=s.toks.length/\t.told=s.told/\t.big=s.big/\t.shared=s.shared/\∀v∈acc,0<=v/\v<n) (λacc t a bq p e=>by
  unfold ky at e;cases w:bd 0 (n-1) t with
  |none=>rw[w]at e;cases e
  |some q=>
   obtain⟨v,C⟩:=q;rw[w]at e;simp only at e;split at e
   .cases e
   .cases e;have x:=dg w;have E:=(hW w).1;obtain⟨z,A,B⟩:=x.eqs;have t0:=x.1;refine⟨by have:=p.1;rw[r9];simp only[T1];omega,z.trans p.2.1,A.trans p.2.2.1,B.trans p.2.2.2.1,λy r=>?_⟩;rcases o5.1 r with r|r
    .exact p.2.2.2.2 y r
    .rw[o9.1 r];omega) k [] s l s' ⟨Ξ,rfl,rfl,rfl,λv ad=>by cases ad⟩ h
 exact this.1
theorem OF{g B0:Nat}{H:aj}{s:aE}{O:x1}(h:bK w g B0 H 100000 (σ s))(ae:av .i64 au w gz O all)(ag:∀z∈all,1<=z/\z<=aw)(aT:all.length<=100001)(P:∀r,H r->r<w.heap.size)(bl:j2 s):
  am x7 zy [Γ g,O] w (xb w g H (cX all s)):=by
 have bX:=h.lt;refine az func118 ?_;refine bx a8.i λI V bY Q R=>?_;have R:af V I a8 [.slice ν 0 0,.slice ν 0 0,Δ 0,.slice ν 0 0]:=R;refine bx a8.i λK aa bZ S W=>?_;have W:af aa K a8 [.slice ν 0 0,.slice ν 0 0,Δ 0,.slice ν 0 0]:=W;have h1:=(h.ext Q).base;have ah:=h1.ext S;have b0:=Q.size;have aU:=R.lt;have b2:=W.lt;refine(kG ah).mono ?_;rintro _ G _ ⟨⟨X,A⟩,a,b3,rfl,ak,an⟩;rw[bm,bn,aR];have bo:K≠g:=Ω
 have ao:I≠g:=Ω
 have ap:=W.ab X λhe=>bo he;have aq:=(R.ext S).ab X λhe=>ao he;have aW:av .i64 au G gz O all:=bu ((ae.ext Q).ext S) X λr e he=>by
  have he:r=g:=he;obtain⟨aX,C,J,bad,aY,big,aZ,told,sv,Y,_⟩:=h2 h;subst he;exact b7 ae Y Φ e rfl
 have a1:∀r,leads O r->r<V.heap.size:=λr e=>by obtain⟨C,J⟩:=bQ ae e;omega
 have ax:hg G V.heap.size K ⟨[],[],0,[]⟩:=⟨_,_,_,0,0,0,ap,av.nil _ _ _ _,av.nil _ _ _ _,⟨[],bi.nil _ _ _ _ _,λy bp=>(by cases bp),rfl⟩,(λr e=>by rcases e with⟨a,n,c,C,J⟩|⟨a,n,c,C,J⟩<;>cases C),(λr e=>by obtain⟨a,n,c,C,J⟩:=e;cases C),Ω⟩;have ay:∀c,af G K a8 c->c[3]?=σ (.slice ν 0 0):=λc aC=>by
  unfold af at aC ap;rw[ap]at aC;have:=Array.toList_inj.2 (Obj.cells.inj (b9 aC)).1;simp at this;rw[<-this];rfl
 have a2:ai (λr=>r=g) V G:=(S.ab _).trans X;have b4:V.heap.size<=G.heap.size:=a2.size;have aF:∀{f:x3}{aG:Option (cj×aE)}{v:x1}{w':x3},ai (gP g V.heap.size) G f->aG=cX all s->Dz f g I V.heap.size H aG v w'->xb w g H (cX all s) v w':=by
  rintro f aG v w' E rfl ⟨N,x,bq,aH,aI,aJ,aK,a6,a7,ba,br⟩;refine⟨N,x,bq,?_,aI,aJ,aK,a6,a7,λr e=>(ba r e).imp id λh=>Ω,br⟩;refine hA (hA ((Q.ab _).trans (a2.mono λr _ h=>.inl h)) E λr e he=>?_) aH λr e he=>?_
  .exact he.elim .inl λhe=>Ω
  .rcases he with he|he|he|he
   .exact .inl he
   .exact .inr he
   .omega
   .omega
 have bt:∀{f:x3}{x:cj},ai (gP g V.heap.size) G f->cX all s=ν->bK f g V.heap.size H 100000 ν->hg f V.heap.size K x->
   (ac x7 (u5 a8 (Γ K)) f λbw=>
    aD x7 (o8 a8 (Γ I) bw) f λ(_:Unit)bb=>
    ac x7 (do loadVar a8 (<-asAddr (Γ I))) bb λbz=>xb w g H (cX all s) bz bb):=by
  intro f x E be aM bA;obtain⟨aL,szv,b1,g1,bB,bC,aH,aI,aJ,aK,a6,a7,ba⟩:=bA;let N:iZ:=⟨aL,szv,x.other,b1⟩;have bf:gO f N x:=⟨⟨g1,aI⟩,⟨bB,aJ⟩,rfl,bC,aK⟩;have aN:=aq.ab E λU=>U.elim ao λh=>Ω
  rw[bP a8.p a8.i rfl (show f.rangeAt K 0 (eU N)from aH.range)];refine ci (vs:=eU N) a8.i rfl rfl bf.one aN λb5 aO b6 bD=>?_;rw[fJ a8.p a8.i rfl bD.range];have bE:∀r,r=I->hf f r\/f.heap.size<=r:=λr e=>by subst e;exact .inl ⟨_,_,aN,Φ,Φ⟩
  have b8:=E.size;refine aF E rfl ⟨N,x,H,aO.mono λr _ h=>.inr (.inr (.inl h)),rfl,bf.dK aO bE,?_,(λq B=>by rw[be]at B;cases B),λ_ h=>h,λ_ h=>.inl h,λr e=>by have:=P r e;omega⟩;rw[be];have bF:bK f g V.heap.size H 100001 ν:=by
   obtain⟨ca,w0,aX,bG,gs,sv,L,bH,C,J,bad,aY,big,aZ,told,h1,ah,A,bI,bJ,aP,bg⟩:=aM;exact⟨Ω,w0,aX,bG,gs,sv,L,bH,C,J,bad,aY,big,aZ,told,h1,ah,A,bI,bJ,aP,bg.1,by have:=bg.2;omega⟩
  refine bF.dK aO λr e=>.inl ?_;have e:r=I:=e;subst e;exact⟨_,_,aN,Φ,Φ,Φ,Φ,λaB=>by have:=P _ aB;omega⟩
 have M:=DB (all:=all) (s:=s);have bL:bc (-4611686018427387904) 4611686018427387904 (σ s)=bd (-aw) aw s:=rfl;rw[bL]at A ak an;have cb: -4611686018427387904<=a/\a<=4611686018427387904:=by
  cases B:bd (-aw) aw s with
  |none=>have:=an B;omega
  |some q=>have:=ak q B;rw[this];exact(hW (n:=q.1) (s':=q.2) B).1
 refine aV (λv bM=>G=bM/\v=Δ (a.natAbs:Int)) ?_ ?_
 rotate_left
 .intro aA bh;rw[al];refine⟨λcc=>?_,λcd=>bh _ _ ⟨rfl,by congr 1;omega⟩⟩;rw[l0,wrap_i64 Ω Ω];exact bh _ _ ⟨rfl,by congr 1;omega⟩
 rintro _ _ ⟨rfl,rfl⟩;have bj:∀r,H r->r<V.heap.size:=λr e=>by have:=P r e;omega
 have bk:¬H I:=λaB=>by have:=P _ aB;omega
 have bN:∀{scope:Λ},(∀v∈scope,0<=v/\v<(all.length:Int))->∀z∈scope.map (λv=>all.getD v.toNat 0),1<=z/\z<=aw:=λad z bO=>by
  obtain⟨v,bR,rfl⟩:=j4.1 bO;have:=ad v bR;refine ag _ ?_;rw[u4,x6 Ω];exact S0 _
 cases B:bd (-aw) aw s with
 |none=>
  rw[B]at A M;have bS:=an B;subst bS;refine Dx (s:=s) (ar:=(0:Int).natAbs) A (.inr ⟨rfl,rfl⟩) ax ay aW a1 aT Φ (λh=>by cases h) ?_ ?_ ?_
  .intro h;cases h
  .intro _;exact DA (neg:=decide ((0:Int)<0)) A ax ay (λz ag=>by cases ag) Ξ aq aU bk bj (λbT U=>by cases U) λv w' aQ=>aF (ai.refl _ _) (by rw[M];rfl) aQ
  .intro h;cases h
 |some q=>
  obtain⟨a',s1⟩:=q;rw[B]at A M;have:=ak _ B;subst this;simp only at M;have A:bK G g V.heap.size H 100000 (σ s1):=A;have bU:=dg B;refine Dx (s:=s1) (ar:=a.natAbs) A (.inl rfl) ax ay aW a1 aT Ω (λ_=>(tO A).1) ?_ ?_ ?_
  .intro _ f x E Z aM aS;exact bt E (by rw[M,Z]) aM aS
  .intro h;cases h
  .intro _ f scope s' E Z aP aS bV;obtain⟨ce,bW,t3,t4,t5⟩:=DC Z;rw[Z]at M;obtain⟨C,J,cg⟩:=bU.eqs;refine DA (neg:=decide (a<0)) aP aS bV (bN t5) ?_ (aq.ab E λU=>U.elim ao λh=>Ω) aU bk bj (λbT U=>?_) λv w' aQ=>aF E M.symm aQ
   .rw[r8];have:=(tO A).1;omega
   .cases U;intro Y;rw[t3,J]at Y;rw[bW,C];exact bl Y
theorem OG{s s':aE}{l:List (Λ×Int)}(h:dC sizes s=σ (l,s'))(w:j2 s):j2 s':=by
 unfold dC at h;cases p:bd (-aw) aw s with
 |none=>rw[p]at h;cases h
 |some q=>
  obtain⟨n,s1⟩:=q;obtain⟨x,y,t3⟩:=(dg p).eqs;have r:j2 s1:=λe=>by rw[x];exact w (by rw[<-y];exact e)
  rw[p]at h;simp only at h;split at h
  .split at h
   .cases h
   .split at h
    .cases h;exact r
    .cases h
  .rename_i H;have h':cJ (dP sizes) n.toNat [] (ba (decide (16384<min (s1.told+n) aw)) {s1 with told:=min (s1.told+n) aw})=σ (l,s'):=h;have:=iN (f:=dP sizes) (λ_ t=>j2 t) (λacc t a bq z A=>by
    obtain⟨_,_,_,B⟩:=nW A;obtain⟨C,E,I⟩:=B.eqs;intro e;rw[C];exact z (by rw[<-E];exact e)) n.toNat [] (ba (decide (16384<min (s1.told+n) aw)) {s1 with told:=min (s1.told+n) aw}) l s' (λe=>by
     obtain⟨F,G⟩:=S5.1 e;have J:=r F;have K:=of_decide_eq_false G;show 0<=min (s1.told+n) aw/\min (s1.told+n) aw<=16384;unfold aw at*;omega) h'
   exact this.1
theorem OH{s s':aE}{x:cj}(h:cX all s=σ (x,s')):s'.toks.length+1<=s.toks.length/\(j2 s->j2 s'):=by
 rw[DB]at h;cases w:bd (-aw) aw s with
 |none=>rw[w]at h;cases h
 |some q=>
  obtain⟨a,s1⟩:=q;rw[w]at h;simp only at h;have B:=dg w;cases U:eP all.length a.natAbs s1 with
  |none=>rw[U]at h;cases h
  |some p=>
   obtain⟨scope,f⟩:=p;rw[U]at h;simp only at h;obtain⟨T,G,t3,_⟩:=DC U;unfold j3 at h;have e:bc 0 aw ((σ f).map (ba (decide (6<a.natAbs)||dj (scope.map λv=>all.getD v.toNat 0))))=bd 0 aw (ba (decide (6<a.natAbs)||dj (scope.map λv=>all.getD v.toNat 0)) f):=rfl;rw[e]at h;cases y:bd 0 aw (ba (decide (6<a.natAbs)||dj (scope.map λv=>all.getD v.toNat 0)) f)with
   |none=>rw[y]at h;cases h
   |some H=>
    obtain⟨o,C⟩:=H;rw[y]at h;simp only at h;have E:=dg y;cases r:dC (scope.map λv=>all.getD v.toNat 0) C with
    |none=>rw[r]at h;cases h
    |some I=>
     obtain⟨ls,z⟩:=I;rw[r]at h;simp only[Y1,T0]at h;obtain⟨_,J⟩:=h;have V:=Dy r;have K:(ba (decide (6<a.natAbs)||dj (scope.map λv=>all.getD v.toNat 0)) f).toks=f.toks:=rfl;have L:=E.1;rw[K]at L;have W:=B.1;obtain⟨M,N,_⟩:=B.eqs;obtain⟨f1,f2,_⟩:=E.eqs;have A:s'.toks=z.toks/\s'.told=z.told/\s'.big=z.big:=by
      rw[<-J];split<;>exact⟨rfl,rfl,rfl⟩
     refine⟨by rw[A.1];omega,λO=>?_⟩;have P:j2 C:=λF=>by
      rw[f2]at F;rw[f1];have Q:f.big=false:=(S5.1 F).1;show 0<=f.told/\f.told<=16384;rw[G,M];exact O (by rw[<-N,<-t3];exact Q)
     have R:=OG r P;intro S;rw[A.2.1];exact R (by rw[<-A.2.2];exact S)
theorem bK.shrink{g:Nat}{H:aj}{so:Option aE}(h:bK w g B H N so):∃a,bK w g B a N so/\(∀r,a r->H r)/\∀r,a r->∃c,af w r a8 c:=by
 obtain⟨x,w0,y,z,gs,sv,L,A,C,E,bad,F,big,G,told,h1,f,p,I,q,J,K⟩:=h;refine⟨λr=>leadsTo sv r,⟨x,w0,y,z,gs,sv,L,A,C,E,bad,F,big,G,told,h1,f,p,I,q,λr e=>e,K⟩,J,λr e=>?_⟩;obtain⟨rfl,c,s⟩:=dS q.2.1 e;refine⟨c,s.ab f λhe=>?_⟩;obtain⟨O,M⟩:=p;subst he;exact absurd (eH s M) Φ
theorem bK.low{g:Nat}{H:aj}{s:aE}(h:bK w g B H N (σ s)):bK w g B H 100000 (σ s):=by
 obtain⟨G,w0,a,e,gs,sv,L,f,p,q,bad,r,big,x,told,h1,y,z,A,C,E,F⟩:=h;exact⟨o4 _,w0,a,e,gs,sv,L,f,p,q,bad,r,big,x,told,h1,y,z,A,C,E,F⟩
theorem bK.up{g M:Nat}{H:aj}{so:Option aE}(h:bK w g B H N so)(G:N<=M):bK w g B H M so:=by
 obtain⟨I,w0,e,f,gs,sv,L,p,q,r,bad,x,big,y,told,h1,z,A,C,E,F,a⟩:=h;refine⟨Ω,w0,e,f,gs,sv,L,p,q,r,bad,x,big,y,told,h1,z,A,C,E,F,?_⟩;cases so with
 |none=>exact⟨a.1,by have:=a.2;omega⟩
 |some s=>exact a
def lu{α:Type}(f:List α->aE->Option (α×aE))(cnt i:Nat)(a:Option aE)(A:List α)(so:Option aE):Prop:=a.bind (cJ f cnt [])=(match so with
 |none=>ν
 |some s=>cJ f (cnt-i) A s)
theorem lu.step{α:Type}{f:List α->aE->Option (α×aE)}{cnt i:Nat}{p:Option aE}{A:List α}{s:aE}{a:α}{r:Option aE}(h:lu f cnt i p A (σ s))(hi:i<cnt)(h1:r=(f A s).map (·.2))(w:∀q,f A s=σ q->a=q.1):lu f cnt (i+1) p (A++[a]) r:=by
 unfold lu at*;rw[h,show cnt-i=(cnt-(i+1))+1 by omega];simp only;cases e:f A s with
 |none=>rw[pk e,h1,e];rfl
 |some q=>
  obtain⟨a',s'⟩:=q;have:=w _ e;subst this;rw[s5 e,h1,e];rfl
theorem OI{s0:aE}{acc:Λ}{most r:Int}{G:List cj}{y z A B H so6 e:Option aE}(h1:y=((dI s0).map (·.2)).map (ba (decide (64<t.length))))(Q:∀q,dI s0=σ q->t=q.1)(w:z=((bc 1 aw y).map (·.2)).map (ba (decide (64<n))))(N:∀q,bc 1 aw y=σ q->n=q.1)(h:A=(bc 1 aw z).map (·.2))(hm:∀q,bc 1 aw z=σ q->most=q.1)(f:B=((bc 0 aw A).map (·.2)).map (ba (decide (256<r))))(O:∀q,bc 0 aw A=σ q->r=q.1)(a:H=((bc 1 aw B).map (·.2)).map (ba (decide (2147483648<k))))(hk:∀q,bc 1 aw B=σ q->k=q.1)(x:H.bind (cJ (fb most) n.toNat [])=so6.map λs=>(acc,s))(p:so6.bind (cJ (λ_ s=>cX acc s) r.toNat [])=e.map λs=>(G,s)):gX s0=e.map λs=>(⟨t,k,acc,G⟩,s):=by
 unfold gX;cases I:dI s0 with
 |none=>
  rw[I]at h1;subst h1;subst w;subst h;subst f;subst a;have:so6=ν:=by cases so6 with|none=>rfl|some s=>cases x
  subst this;cases e with|none=>rfl|some s=>cases p
 |some R=>
 obtain⟨bq,s1⟩:=R;have:=Q _ I;subst this;rw[I]at h1;have h1:y=σ (ba (decide (64<t.length)) s1):=h1;subst h1;simp only;have S:bc 1 aw (σ (ba (decide (64<t.length)) s1))=bd 1 aw (ba (decide (64<t.length)) s1):=rfl;rw[S]at w N;cases J:bd 1 aw (ba (decide (64<t.length)) s1)with
 |none=>
  rw[J]at w;subst w;subst h;subst f;subst a;have:so6=ν:=by cases so6 with|none=>rfl|some s=>cases x
  subst this;cases e with|none=>rfl|some s=>cases p
 |some T=>
 obtain⟨ab,C⟩:=T;have:=N _ J;subst this;rw[J]at w;have w:z=σ (ba (decide (64<n)) C):=w;subst w;simp only;have U:bc 1 aw (σ (ba (decide (64<n)) C))=bd 1 aw (ba (decide (64<n)) C):=rfl;rw[U]at h hm;cases K:bd 1 aw (ba (decide (64<n)) C)with
 |none=>
  rw[K]at h;subst h;subst f;subst a;have:so6=ν:=by cases so6 with|none=>rfl|some s=>cases x
  subst this;cases e with|none=>rfl|some s=>cases p
 |some V=>
 obtain⟨cd,E⟩:=V;have:=hm _ K;subst this;rw[K]at h;have h:A=σ E:=h;subst h;simp only;have W:bc 0 aw (σ E)=bd 0 aw E:=rfl;rw[W]at f O;cases L:bd 0 aw E with
 |none=>
  rw[L]at f;subst f;subst a;have:so6=ν:=by cases so6 with|none=>rfl|some s=>cases x
  subst this;cases e with|none=>rfl|some s=>cases p
 |some X=>
 obtain⟨ac,F⟩:=X;have:=O _ L;subst this;rw[L]at f;have f:B=σ (ba (decide (256<r)) F):=f;subst f;simp only;have Y:bc 1 aw (σ (ba (decide (256<r)) F))=bd 1 aw (ba (decide (256<r)) F):=rfl;rw[Y]at a hk;cases M:bd 1 aw (ba (decide (256<r)) F)with
 |none=>
  rw[M]at a;subst a;have:so6=ν:=by cases so6 with|none=>rfl|some s=>cases x
  subst this;cases e with|none=>rfl|some s=>cases p
 |some Z=>
 obtain⟨ad,P⟩:=Z;have:=hk _ M;subst this;rw[M]at a;have a:H=σ (ba (decide (2147483648<k)) P):=a;subst a;simp only;have x:cJ (fb most) n.toNat [] (ba (decide (2147483648<k)) P)=so6.map λs=>(acc,s):=x;rw[x];cases so6 with
 |none=>cases e with|none=>rfl|some s=>cases p
 |some aa=>
  simp only[Z6];have p:cJ (λ_ s=>cX acc s) r.toNat [] aa=e.map λs=>(G,s):=p;rw[p];cases e<;>rfl
def pE(w:x3)(gr:Nat)(e:x1)(a:List cj):Prop:=∃L,bi eU 4 a8 w gr e L/\a.length=L.length/\∀(i:Nat)h x,L[i]?=σ h->a[i]?=σ x->gO w h x
def ol(w:x3)(e:Nat)(f:bY):Prop:=∃szv gz a gr,af w e dF [bI f.name,Δ f.k,szv,a]/\av .i64 au w gz szv f.sizes/\pE w gr a f.funs
theorem pE.ext{gr:Nat}{a:x1}{e:List cj}(h:pE w gr a e)(J:Ext w w'):pE w' gr a e:=by
 obtain⟨L,h1,f,p⟩:=h;exact⟨L,h1.ext J,f,λi aB x hi q=>(p i aB x hi q).ext J⟩
theorem ol.ext{a:Nat}{f:bY}(h:ol w a f)(J:Ext w w'):ol w' a f:=by
 obtain⟨szv,gz,e,gr,h1,p,q⟩:=h;exact⟨szv,gz,e,gr,h1.ext J,p.ext J,q.ext J⟩
def OJ(w:x3)(pl:Λ)(v:x1)(w':x3):Prop:=Ext w w'/\∃n e:Int,(fj pl=ν->v= .tuple #[.pointer ν,Δ n,Δ e])/\∀f,fj pl=σ f->∃a,v= .tuple #[Γ a,Δ n,Δ e]/\ol w' a f
theorem OK{w0:x3}{g A:Nat}{so6:Option aE}{acc:Λ}{R bad:Int}{p:x1}{Q:x1->x3->Prop}(dd:ai (λr=>w0.heap.size<=r) w0 w)(b1:af w A dF [bI t,Δ k,szv,.slice ν 0 0])(de:av .i64 au w gz szv acc)(h:bK w g B bA 100000 so6)(df:∀s,so6=σ s->j2 s/\s.toks.length<=100000/\(∀z∈acc,1<=z/\z<=aw)/\acc.length<=100001)(fc:w0.heap.size<=g)(fd:w0.heap.size<=A)(dg:aI .u8 w0 p pl)(fe:0<=R/\R<=4611686018427387904)(bk:∀v w' M bm,Ext w0 w'->so6.bind (cJ (λ_ s=>cX acc s) R.toNat [])=bm.map (λs=>(M,s))->
   (∀s,bm=σ s->s.toks=[]/\¬0<=bad/\s.big=false->v= .tuple #[Γ A,Δ (pl.length:Int),Δ 0]/\ol w' A ⟨t,k,acc,M⟩)->
   ((∀s,bm=σ s->¬(s.toks=[]/\¬0<=bad/\s.big=false))->∃n e:Int,v= .tuple #[.pointer ν,Δ n,Δ e])->Q v w'):
  ck (Δ 0) w λb2 E dh=>
   cu (α:=x1->x3->Prop) (λ(di:x1)(N:x3)=>
    Split di (ej N λI=>
   ac x7 (bO (Γ A)) I λaH=>
   ac x7 (u6 dF aH 3) I λaJ=>
   ac x7 (u5 dB aJ) I λbn=>
   ac x7 (bO (Γ A)) I λdj=>
   ac x7 (u6 dF dj 2) I λdk=>
   ac x7 (u5 ay dk) I λdl=>
   am x7 zy [(Γ g),dl] I λdm ag=>
    (Ext I ag\/cA x7 (u5 dB aJ) bn ag/\cA x7 (u6 dF aH 3) aJ ag/\cA x7 (bO (Γ A)) aH ag/\True)/\
   aD x7 (Y4 dB 1 #[(0,dm)]) ag λdn S=>
    (Ext I S\/cA x7 (u5 dB aJ) bn S/\cA x7 (u6 dF aH 3) aJ S/\cA x7 (bO (Γ A)) aH S/\True)/\
    aD x7 (Z0 #[dB,dB] dB #[bn,dn]) S λdp aZ=>
     ac x7 (bO (Γ A)) aZ λdq=>
     ac x7 (u6 dF dq 3) aZ λdr=>
     aD x7 (o8 dB dr dp) aZ λ(_:Unit)aK=>
     ac x7 (aM .add au false true b2 (Δ 1)) aK λds=>
   dh ds aK)
     (cu (α:=x3->Prop) (λ(P:x3)=>
   cu (α:=x3->Prop) (λ(G:x3)=>
    ac x7 (bO (Γ g)) G λdt=>
    ac x7 (u6 bz dt 3) G λdu=>
    ac x7 (u5 ah du) G λdv=>
    ac x7 (aM .neq ah false true dv (Δ 0)) G λdw=>
    Split dw (ej G λZ=>
     ac x7 (bO (Γ g)) Z λdx=>
     ac x7 (u6 bz dx 4) Z λdy=>
     ac x7 (u5 ah dy) Z λdz=>
     ac x7 (bO (Γ g)) Z λdA=>
     ac x7 (u6 bz dA 3) Z λdC=>
     ac x7 (u5 ah dC) Z λdD=>
     Q (.tuple #[(.pointer ν),dz,dD]) Z)
     (ac x7 (bO (Γ g)) G λdE=>
    ac x7 (u6 bz dE 5) G λdG=>
    ac x7 (u5 ah dG) G λdH=>
    ac x7 (aM .neq ah false true dH (Δ 0)) G λdI=>
    Split dI (ej G λaa=>
     ac x7 (bO (Γ g)) aa λdJ=>
     ac x7 (u6 bz dJ 6) aa λdL=>
     ac x7 (u5 ah dL) aa λdM=>
     ac x7 (bO (Γ g)) aa λdN=>
     ac x7 (u6 bz dN 5) aa λdO=>
     ac x7 (u5 ah dO) aa λdP=>
     Q (.tuple #[(.pointer ν),dM,dP]) aa)
     (ac x7 (W9 #[cN] ah #[p]) G λdQ=>
    Q (.tuple #[(Γ A),dQ,(Δ 0)]) G))) λb3=>
   cu (α:=x1->x3->Prop) (λ(dR:x1)(a2:x3)=>
    Split dR (am x7 nz [(Γ g),(Δ 11),(Δ bad)] a2 λff b4=>
     b3 b4)
     (b3 a2)) λb6=>
   ac x7 (bO (Γ g)) P λdT=>
   ac x7 (u6 bz dT 3) P λdU=>
   ac x7 (u5 ah dU) P λdV=>
   ac x7 (aM .eql ah false true dV (Δ 0)) P λdW=>
   Split dW (ac x7 (aM .geq ah false true (Δ bad) (Δ 0)) P λdX=>
   b6 dX P)
    (b6 (.bool false) P)) λb7=>
  cu (α:=x1->x3->Prop) (λ(dY:x1)(V:x3)=>
   Split dY (ac x7 (bO (Γ g)) V λdZ=>
    ac x7 (u6 bz dZ 0) V λea=>
    ac x7 (u5 fg ea) V λeb=>
    ac x7 (c7 fg eb (Δ 0)) V λec=>
    ac x7 (u6 cp ec 1) V λed=>
    ac x7 (u5 ah ed) V λee=>
    am x7 nz [(Γ g),(Δ 4),ee] V λfh bo=>
    b7 bo)
    (b7 V)) λb8=>
  ac x7 (bO (Γ g)) N λef=>
  ac x7 (u6 bz ef 3) N λeg=>
  ac x7 (u5 ah eg) N λeh=>
  ac x7 (aM .eql ah false true eh (Δ 0)) N λei=>
  Split ei (ac x7 (bO (Γ g)) N λek=>
  ac x7 (u6 bz ek 0) N λem=>
  ac x7 (u5 fg em) N λen=>
  ac x7 (W9 #[fg] ah #[en]) N λeo=>
  ac x7 (aM .gtr ah false true eo (Δ 0)) N λep=>
  b8 ep N)
   (b8 (.bool false) N))) λb9=>
   ac x7 (aM .lss au false false b2 (Δ R)) E λer=>
   Split er (ac x7 (bO (Γ g)) E λes=>
   ac x7 (u6 bz es 3) E λet=>
   ac x7 (u5 ah et) E λeu=>
   ac x7 (aM .eql ah false true eu (Δ 0)) E λev=>
   b9 ev E)
    (b9 (.bool false) E):=by
 have ca:A≠g:=λhe=>by
  obtain⟨ak,ad,ae,bad,an,big,ao,told,sv,C,_⟩:=h2 h;subst he;exact absurd (eH C b1) Φ
 refine⟨λbp E=>∃i:Nat,bp=Δ (i:Int)/\i<=R.toNat/\ai (λr=>w0.heap.size<=r) w0 E/\∃O gr M so,∃H:aj,af E A dF [bI t,Δ k,szv,O]/\av .i64 au E gz szv acc/\pE E gr O M/\(∀r,leadsTo O r->w0.heap.size<=r/\¬H r)/\¬H A/\(∀r,leads szv r->¬H r)/\(∀r,H r->w0.heap.size<=r)/\bK E g E.heap.size H 100001 so/\lu (λ_ s=>cX acc s) R.toNat i so6 M so/\
   ∀s,so=σ s->j2 s/\M.length+s.toks.length<=100000/\(∀z∈acc,1<=z/\z<=aw)/\acc.length<=100001,λbp _=>R.toNat-(bS bp).toNat,
  ⟨0,rfl,X4 _,dd,_,0,[],so6,bA,b1,de,⟨[],bi.nil _ _ _ _ _,rfl,λi h x hi=>by simp at hi⟩,λr y=>(e1 y).elim,id,λr _ h=>h,λr h=>h.elim,h.base.up Ω,?_,λs U=>?_⟩,?_⟩
 .unfold lu;cases so6<;>rfl
 .obtain⟨ew,ez,a3,a4⟩:=df s U;exact⟨ew,by simpa using ez,a3,a4⟩
 rintro _ E ⟨i,rfl,hi,a6,O,gr,M,so,H,cb,cc,cd,aL,bq,eA,ce,Y,br,eB⟩;refine aV (λv N=>E=N/\((v= .bool true/\i<R.toNat/\∃s,so=σ s)\/(v= .bool false/\(so=ν\/i=R.toNat)))) ?_ ?_
 rotate_left
 .intro aA bt;rw[aR,al];refine⟨λcg=>?_,λfi=>bt _ _ ⟨rfl,.inr ⟨rfl,.inr Ω⟩⟩⟩;rw[lr Y];cases so with
  |none=>exact bt _ _ ⟨rfl,.inr ⟨rfl,.inl rfl⟩⟩
  |some s=>exact bt _ _ ⟨rfl,.inl ⟨rfl,Ω,s,rfl⟩⟩
 rintro _ _ ⟨rfl,⟨rfl,cg,s,rfl⟩|⟨rfl,eC⟩⟩
 .
  rw[bR];intro I ap _ _;obtain⟨ch,fj,ci,cj⟩:=eB s rfl;have aO:=cb.ext ap;obtain⟨eD,cl,aP,cm⟩:=(Y.ext ap).low.shrink;have bu:=cc.ext ap;have eE:=cd.ext ap;rw[aS dF.p 3 aO rfl,aS dF.p 2 aO rfl];refine(OF cl bu ci cj (λr y=>by obtain⟨c,C⟩:=cm r y;exact C.lt) ch).mono ?_;rintro _ ag _ ⟨bw,x,cn,aq,rfl,cq,eF,eJ,fk,cr,eK⟩;have ct:∃c,af I g bz c:=by obtain⟨ak,ad,ae,bad,an,big,ao,told,sv,C,_⟩:=h2 cl;exact⟨_,C⟩
  have cw:∀r,(r=g\/eD r)->hf I r\/I.heap.size<=r:=λr y=>by
   rcases y with rfl|y
   .obtain⟨c,C⟩:=ct;exact .inl ⟨_,c,C,Φ,Φ⟩
   .obtain⟨c,C⟩:=cm r y;exact .inl ⟨_,c,C,Φ,Φ⟩
  have bx:=aO.ab aq λy=>y.elim (λhe=>ca he) λy=>bq (aP _ y);have st:∀{w':x3},af w' A dF [bI t,Δ k,szv,O]->cA x7 (u5 dB (.pointer (σ ⟨A,0+3,ν⟩))) O w'/\cA x7 (u6 dF (Γ A) 3) (.pointer (σ ⟨A,0+3,ν⟩)) w'/\cA x7 (bO (Γ A)) (Γ A) w'/\True:=λC=>
   ⟨sL Ψ (C.cell (o:=0+3) rfl),lg (by rw[aU dF.p rfl]),lg (by rw[bU]),trivial⟩
  refine⟨.inr (st bx),?_⟩;refine hE (f:=eU) (a:=bw) dB.u a8.i Ω rfl rfl λfm fo S fp W eL=>?_;refine⟨.inr (st (bx.ext W)),?_⟩;obtain⟨L,az,bB,bD⟩:=id eE;have eM:bi eU 4 a8 ag gr O L:=az.ab aq λr y U=>U.elim (λhe=>by
   obtain⟨c,C⟩:=ct;subst he;exact cO az C Φ y) λU=>(aL r y).2 (aP r U)
  have bE:=eM.ext W;refine io (f:=eU) (a:=bw) dB.u a8.i rfl bE (by simpa using eL.sl) (cq.ext W).one Ω Ω λcz eN aZ a7 eO cB=>?_;have bF:=bx.ext W;have cC:=bF.ab cB λhe=>cO bE bF Φ he;rw[bU,aU dF.p rfl];refine bl (g:=A) (o:=3) dB.i (eI a7.sl).1 (eI a7.sl).2 cC Ξ λaK cD fq bG=>?_;have bG:af aK A dF [bI t,Δ k,szv,cz]:=bG;have fs:i<=4611686018427387904:=Ω
  rw[aN,wrap_i64 Ω Ω];have aC:ai (λr=>leadsTo O r\/r=A) S aK:=(cB.mono λr _ h=>.inl h).trans (cD.mono λr _ h=>.inr h);have cE:∀r,(leadsTo O r\/r=A)->∃e c,af S r e c/\e≠au/\e≠b5/\e≠cp/\e≠bz:=λr y=>by
   rcases y with y|rfl
   .obtain⟨rfl,c,C⟩:=dS bE y;exact⟨_,c,C,Φ,Φ,Φ,Φ⟩
   .exact⟨_,_,bF,Φ,Φ,Φ,Φ⟩
  have bH:∀r,(leadsTo O r\/r=A)->hf S r\/S.heap.size<=r:=λr y=>by
   obtain⟨e,c,C,bJ,bM,_⟩:=cE r y;exact .inl ⟨e,c,C,bJ,bM⟩
  have ft:=ap.size;have fu:=aq.size;have fv:=W.size;have fw:=aC.size;have cF:∀r,leadsTo O r->r<I.heap.size:=λr y=>by obtain⟨ad,ae⟩:=az.leads y;omega
  have aQ:∀r,r<I.heap.size->¬H r->¬cn r:=λr y eP bN=>(cr r bN).elim (λh=>eP (aP r h)) λh=>Ω
  have eQ:∀r,leads szv r->r<I.heap.size:=λr y=>by obtain⟨ad,ae⟩:=bQ bu y;omega
  refine⟨⟨i+1,rfl,Ω,?_,cz,eN,M++[x],_,cn,bG,ey ((ey bu aq cw).ext W) aC bH,⟨L++[bw],a7.ab cD λr y he=>?_,by rw[r9,r9,bB];rfl,λj cG eR aF aT=>?_⟩,λr y=>?_,aQ A aO.lt bq,λr y=>aQ r (eQ r y) (eA r y),λr y=>?_,?_,br.step cg rfl λq K=>eJ q K,λs' X=>?_⟩,by simp only[bS];omega⟩
  .refine (((a6.trans (ap.ab _)).trans (aq.mono λr _ h=>?_)).trans (W.ab _)).trans (aC.mono λr _ h=>?_)
   .exact h.elim (λh=>Ω) λh=>ce r (aP r h)
   .exact h.elim (λh=>(aL r h).1) λh=>Ω
  .have he:r=A:=he;subst he;exact cO a7 cC Φ y
  .by_cases eS:j<L.length
   .rw[Y5 eS]at aF;rw[Y5 Ω]at aT;exact(((bD j cG eR aF aT).dK aq cw).ext W).dK aC bH
   .rw[Y6 Ω]at aF;rw[Y6 Ω]at aT;have eV:j-L.length=0:=by have:=(x4.1 aF).1;simp at this;omega
    have eW:j-M.length=0:=Ω
    rw[eV]at aF;rw[eW]at aT;cases aF;cases aT;exact(cq.ext W).dK aC bH
  .rcases eO r y with h|h
   .exact⟨(aL r h).1,aQ r (cF r h) (aL r h).2⟩
   .exact⟨by have:=a6.size;omega,λbN=>by have:=eK r bN;omega⟩
  .rcases cr r y with h|h
   .exact ce r (aP r h)
   .have:=a6.size;omega
  .refine (eF.ext W).dK aC λr y=>.inl ?_;obtain⟨e,c,C,bJ,bM,eX,eY⟩:=cE r y;refine⟨e,c,C,bJ,bM,eX,eY,?_⟩;rcases y with y|rfl
   .exact aQ r (cF r y) (aL r y).2
   .exact aQ _ aO.lt bq
  .cases bP:cX acc s with
   |none=>rw[bP]at X;cases X
   |some q=>
    obtain⟨fx,cH⟩:=q;rw[bP]at X;cases X;obtain⟨fy,eZ⟩:=OH bP;refine⟨eZ ch,?_,ci,cj⟩;rw[r9];simp only[T1];omega
 .
  rw[a1];have bT:so6.bind (cJ (λ_ s=>cX acc s) R.toNat [])=so.map λs=>(M,s):=by
   unfold lu at br;rw[br];cases so with
   |none=>rfl
   |some s=>
    rcases eC with h|rfl
    .cases h
    .simp only[U3];rfl
  have row:∀{w':x3},ai (λr=>r=g) E w'->pE w' gr O M/\af w' A dF [bI t,Δ k,szv,O]/\av .i64 au w' gz szv acc:=λba=>by
   obtain⟨ak,ad,ae,bad,an,big,ao,told,sv,C,_⟩:=h2 Y;have cI:∀r,r=g->hf E r\/E.heap.size<=r:=λr y=>by subst y;exact .inl ⟨_,_,C,Φ,Φ⟩
   obtain⟨L,az,bB,bD⟩:=id cd;refine⟨⟨L,az.ab ba λr y he=>?_,bB,λi h x hi J=>(bD i h x hi J).dK ba cI⟩,cb.ab ba λhe=>ca he,ey cc ba cI⟩;have he:r=g:=he;subst he;exact cO az C Φ y
  refine da (λP=>ai (λr=>r=g) E P/\bK P g E.heap.size H 100001 (so.bind λs=>if s.toks=[]then σ s else ν)) ?_ ?_
  rotate_left
  .intro fz cK;refine aV (λv V=>E=V/\∃b:Bool,v= .bool b/\(b=true->∃s,so=σ s/\s.toks≠[])/\(b=false->∀s,so=σ s->s.toks=[])) ?_ ?_
   .rintro _ _ ⟨rfl,b,rfl,bV,bW⟩;cases b with
    |true=>
     obtain⟨s,rfl,bb⟩:=bV rfl;rw[bR];obtain⟨cL,cP,ak,aW,gs,sv,L,cQ,ad,ae,bX,an,big,ao,told,cR,bc,bd,aG,be,cS,cT,cU,bf,cV,cW,bg,cY,cZ,c0⟩:=id Y;obtain⟨⟨bY,e0⟩,_⟩:=be.g bc bd;obtain⟨x,fA,rfl⟩:∃x l,aW=x::l:=by
      cases aW with
      |nil=>exact absurd bg.symm (by simpa using bb)
      |cons x l=>exact⟨x,l,rfl⟩
     rw[aS bz.p 0 aG rfl];refine Dt bY λb o e2=>?_;rw[aU cp.p rfl,ax Ψ (e2 1 _ rfl)];refine(oj Y Ω).mono ?_;rintro _ bo _ ⟨e3,e4⟩;refine cK _ ⟨e3,?_⟩;show bK bo g _ H 100001 (if s.toks=[]then σ s else ν);rw[if_neg bb];exact e4
    |false=>
     rw[a1];refine cK _ ⟨ai.refl _ _,?_⟩;cases so with
     |none=>exact Y
     |some s=>
      show bK _ g _ H 100001 (if s.toks=[]then σ s else ν);rw[if_pos (bW rfl s rfl)];exact Y
   .intro fB c1;rw[lr Y];cases so with
    |none=>
     rw[S8,a1];exact c1 _ _ ⟨rfl,false,rfl,(λh=>by cases h),λ_ s U=>by cases U⟩
    |some s=>
     rw[T9,bR];obtain⟨cL,cP,ak,aW,gs,sv,L,cQ,ad,ae,bX,an,big,ao,told,cR,bc,bd,aG,be,cS,cT,cU,bf,cV,cW,bg,cY,cZ,c0⟩:=id Y;obtain⟨⟨bY,e0⟩,_⟩:=be.g bc bd;rw[aS bz.p 0 aG rfl,Ds bY,bL];have fD:aW.length=s.toks.length:=by rw[<-bg,r8]
     refine c1 _ _ ⟨rfl,_,rfl,λh=>⟨s,rfl,λaY=>?_⟩,λh s' X=>?_⟩
     .have:=of_decide_eq_true h;have cG:s.toks.length=0:=by rw[aY];rfl
      omega
     .cases X;have:=of_decide_eq_false h;exact j6 Ω
  rintro P ⟨c2,bZ⟩;refine da (λG=>ai (λr=>r=g) E G/\bK G g E.heap.size H 100001 (so.bind λs=>if s.toks=[]/\¬0<=bad then σ s else ν)) ?_ ?_
  rotate_left
  .intro fE c3;refine aV (λv a2=>P=a2/\∃b:Bool,v= .bool b/\(b=true->(so.bind λs=>if s.toks=[]/\¬0<=bad then σ s else ν)=ν)/\(b=false->(so.bind λs=>if s.toks=[]/\¬0<=bad then σ s else ν)=so.bind λs=>if s.toks=[]then σ s else ν)) ?_ ?_
   .rintro _ _ ⟨rfl,b,rfl,bV,bW⟩;cases b with
    |true=>
     rw[bR];refine(oj bZ Ω).mono ?_;rintro _ b4 _ ⟨e5,e6⟩;exact c3 _ ⟨c2.trans e5,by rw[bV rfl];exact e6⟩
    |false=>
     rw[a1];exact c3 _ ⟨c2,by rw[bW rfl];exact bZ⟩
   .intro fF c4;rw[lr bZ];cases K:(so.bind λs=>if s.toks=[]then σ s else ν)with
    |none=>
     rw[S8,a1];refine c4 _ _ ⟨rfl,false,rfl,(λh=>by cases h),λ_=>?_⟩;cases so with
     |none=>rfl
     |some s=>
      have K:(if s.toks=[]then σ s else ν)=ν:=K;show(if s.toks=[]/\¬0<=bad then σ s else ν)=(if s.toks=[]then σ s else ν);rw[K];split at K
      .cases K
      .rename_i bb;rw[if_neg (λh=>bb h.1)]
    |some s=>
     rw[T9,bR,cM];refine c4 _ _ ⟨rfl,_,rfl,λh=>?_,λh=>?_⟩
     .have aY:=of_decide_eq_true h;cases so with
      |none=>rfl
      |some s=>exact if_neg λh=>h.2 aY
     .have aY:=of_decide_eq_false h;cases so with
      |none=>rfl
      |some s=>
       show(if s.toks=[]/\¬0<=bad then σ s else ν)=(if s.toks=[]then σ s else ν);by_cases U:s.toks=[]
       .rw[if_pos U,if_pos ⟨U,aY⟩]
       .rw[if_neg U,if_neg λh=>U h.1]
  rintro G ⟨c5,bh⟩;obtain⟨e7,e8,e9⟩:=row c5;have fa:ai (λr=>w0.heap.size<=r) w0 G:=a6.trans (c5.mono λr _ h=>by have h:r=g:=h;omega);have bj:Ext w0 G:=fa.ext λr y he=>Ω
  rw[rh bh];cases K:(so.bind λs=>if s.toks=[]/\¬0<=bad then σ s else ν)with
  |none=>
   rw[S8,W7,bR];intro Z c6 _ _;obtain⟨ak,ad,ae,bX,an,big,ao,told,sv,C,_⟩:=h2 (bh.ext c6);rw[aS bz.p 4 C rfl,aS bz.p 3 C rfl];refine bk _ _ M so (bj.trans c6) bT (λs U aB=>?_) λ_=>⟨_,_,rfl⟩;subst U;have K:(if s.toks=[]/\¬0<=bad then σ s else ν)=ν:=K;rw[if_pos ⟨aB.1,aB.2.1⟩]at K;cases K
  |some s=>
   rw[K]at bh;rw[T9,X1,a1];obtain⟨s',rfl,X⟩:∃s',so=σ s'/\(if s'.toks=[]/\¬0<=bad then σ s' else ν)=σ s:=by
    cases so with
    |none=>cases K
    |some s'=>exact⟨s',rfl,K⟩
   split at X
   .rename_i c8;cases X;obtain⟨cL,cP,ak,aW,gs,sv,L,cQ,ad,ae,bX,an,big,ao,told,cR,bc,bd,aG,be,cS,cT,cU,bf,cV,cW,bg,cY,cZ,c0⟩:=id bh;rw[aS bz.p 5 aG rfl,bC,al];refine⟨λb0=>?_,λb0=>?_⟩
    .intro aa c9 _ _;have db:=aG.ext c9;rw[aS bz.p 6 db rfl,aS bz.p 5 db rfl];refine bk _ _ M _ (bj.trans c9) bT (λcH dc aB=>?_) λ_=>⟨_,_,rfl⟩;cases dc;rw[bf.1 b0]at aB;cases aB.2.2
    .rw[aX cN.u (dg.ext bj)];refine bk _ _ M _ bj bT (λcH dc aB=>⟨rfl,szv,gz,O,gr,e8,e9,e7⟩) λfb=>?_;refine absurd ⟨c8.1,c8.2,?_⟩ (fb s rfl);cases C:s.big with
     |false=>rfl
     |true=>exact absurd (bf.2 C) b0
   .cases X
def Zero(so:Option aE):Prop:=∀s,so=σ s->s.told=0/\s.toks.length<=100000
theorem Zero.big{so:Option aE}(h:Zero so)(b:Bool):Zero (so.map (ba b)):=λs U=>by
 cases so with
 |none=>cases U
 |some s0=>cases U;exact h s0 rfl
theorem zero_num{lo hi:Int}{so:Option aE}(h:Zero so):Zero ((bc lo hi so).map (·.2)):=λs U=>by
 cases so with
 |none=>cases U
 |some s0=>
  have U:V5 (λx=>x.2) (bd lo hi s0)=σ s:=U;cases a:bd lo hi s0 with
  |none=>rw[a]at U;cases U
  |some q=>
   obtain⟨n,s1⟩:=q;rw[a]at U;cases U;have e:=dg a;have:=e.1;obtain⟨h1,f⟩:=h s0 rfl;exact⟨e.eqs.1.trans h1,by show s1.toks.length<=100000;omega⟩
theorem OL{so:Option aE}(h:Zero so):Zero ((ju so).map (·.2)):=λs U=>by
 cases so with
 |none=>cases U
 |some s0=>
  have U:V5 (λx=>x.2) (dI s0)=σ s:=U;cases a:dI s0 with
  |none=>rw[a]at U;cases U
  |some q=>
   obtain⟨n,s1⟩:=q;rw[a]at U;cases U;obtain⟨V,aa⟩:=qE a;obtain⟨h1,e⟩:=h s0 rfl;have:s0.toks.length=s1.toks.length+1:=by rw[V];rfl
   exact⟨by show s1.told=0;rw[aa];exact h1,by show s1.toks.length<=100000;omega⟩
theorem OM{so:Option aE}{f:bY}(h:gX ⟨(lex pl).1,0,false,[]⟩=so.map λs=>(f,s))(a:¬65536<pl.length):fj pl=so.bind λs=>if s.toks=[]/\(lex pl).2=true/\s.big=false then σ f else ν:=by
 unfold fj;rw[if_neg a,h]<;>cases so<;>rfl
theorem ON(a:pl.length<=60000):(∀t∈(lex pl).1,Bytes t/\t.length<=65536)/\(lex pl).1.length<=60000:=by
 refine⟨λt e=>?_,Y8 (pa pl.length pl (o4 _)) a⟩;obtain⟨_,f,p⟩:=sH pl.length pl (o4 _) t e;refine⟨λb h=>?_,Ω⟩;have:=of_decide_eq_true (f b h);omega
theorem DD{p:x1}(ap:aI .u8 w p pl)(cA:Bytes pl)(cB:pl.length<=60000):am x7 GL [p] w (OJ w pl):=by
 obtain⟨cC,dQ⟩:=ON cB;refine az func56 ?_;rw[aX cN.u ap,bL,al];refine⟨λh=>Ω,λ_=>?_⟩;refine(Ox ap cA Ω).mono ?_;rintro _ V _ ⟨aK,aq,bk,bad,rfl,bo,bp,cD,dR,bq⟩;rw[bm,bn,aX cN.u (ap.ext aK),cW (cs:=#[aq,Δ (pl.length:Int),Δ 4,Δ 0,Δ 0,Δ 0,Δ 0,Δ 0,.slice ν 0 0]) (by obtain⟨_,_,_,_,_,rfl,_⟩:=bo;kernel_rfl)];refine bf λg aa dS ax W=>?_;have W:af aa g bz (gC aq (pl.length:Int) 4 0 0 0 0 0 (.slice ν 0 0)):=W;have dT:=aK.size;have dU:=ax.size;have dV:=W.lt;refine da (λE=>Ext w E/\ai (λr=>r=g) aa E/\∃X Y:Int,Y≠0/\af E g bz (gC aq X Y 0 0 0 0 0 (.slice ν 0 0))) ?_ ?_
 rotate_left
 .intro aA R;have br:=aK.trans ax;rw[cM,al];refine⟨λ_=>?_,λ_=>R _ ⟨br,ai.refl _ _,_,_,Ω,W⟩⟩;rw[bU,aU bz.p rfl];refine bl (g:=g) (o:=1) ah.i rfl rfl W (by simp[gC]) λdW cE dX cF=>?_;rw[bU,aU bz.p rfl];refine bl (g:=g) (o:=2) ah.i rfl rfl cF (by simp[gC]) λdY cG dZ cH=>?_;have G:=cE.trans cG;exact R _ ⟨br.then G λr A he=>by have he:r=g:=he;omega,G,bad,11,Ω,cH⟩
 rintro E ⟨bt,aL,X,Y,cI,bw⟩;have z3:=aL.size;have cK:bK E g E.heap.size bA 100000 (σ ⟨(lex pl).1,0,false,[]⟩):=by
  refine⟨o4 _,E,aq,bk,0,_,[],[],X,Y,0,0,0,0,0,rfl,ai.refl _ _,⟨_,bw⟩,bw,⟨⟨?_,λr A=>?_⟩,bi.nil _ _ _ _ _,rfl,λi h x hi=>by simp at hi⟩,λr A=>e1 A,rfl,cI,Ξ,λ_=>rfl,trivial,bp,cC,rfl,?_⟩
  .refine (bo.ab (ax.ab λ_=>False) λ_ _ h=>h).ab aL λr A he=>?_;have he:r=g:=he;obtain⟨c,M⟩:=bq r A;have:=M.lt;omega
  .obtain⟨c,M⟩:=bq r A;exact⟨c,(M.ext ax).ab aL λhe=>by have he:r=g:=he;have:=M.lt;omega⟩
  .have:bk.length=(lex pl).1.length:=by rw[<-bp,r8]
   simp only[List.length_nil];omega
 have ea:∀{Q:x3}{cL N:Nat}{H:aj}{so:Option aE},bK Q g cL H N so->True:=λ_=>trivial;rw[cW (cs:=#[bI [],Δ 0,.slice ν 0 0,.slice ν 0 0]) Ψ];refine bf λB cO eb aM aC=>?_;have aC:af cO B dF [bI [],Δ 0,.slice ν 0 0,.slice ν 0 0]:=aC;have ec:E.heap.size<=B:=Ω
 have ed:=aC.lt;have cQ:B≠g:=Ω
 have I:∀{Q Z:x3}{c:List x1},af Q B dF c->ai (λr=>r=g) Q Z->af Z B dF c:=λM G=>M.ab G λhe=>cQ he;refine(Du (cK.ext aM)).mono ?_;rintro _ cR _ ⟨⟨aO,cS⟩,t,bB,rfl,ee,ef,cT⟩;refine bx cp.i λbC eg eh cU cV=>?_;refine ci (vs:=[bI t,Δ bB]) cp.i rfl rfl (by intro v ad;simp at ad;rcases ad with rfl|rfl<;>rfl) cV λcX cY ei bD=>?_;have aD:Ext cR cX:=cU.put cY Ω;have cZ:=(I aC aO).ext aD;rw[aT cp.p 0 bD rfl,bU,aU dF.p rfl];refine bl (g:=B) (o:=0) cP.i rfl rfl cZ Ξ λaP aQ ej aW=>?_;have aW:af aP B dF [bI t,Δ 0,.slice ν 0 0,.slice ν 0 0]:=aW;have c0:=(cS.ext aD).new aQ λr A=>by have A:r=B:=A;omega
 have z4:=aM.size;have z5:=aO.size;have ek:=aD.size;have bE:af aP bC cp [bI t,Δ bB]:=bD.ab aQ λhe=>by have he:bC=B:=he;omega
 rw[aT cp.p 0 bE rfl,nR cP.u,bL,aT cp.p 1 bE rfl];have c1:ai (λr=>w.heap.size<=r) w aP:=((((bt.ab _).trans (aM.ab _)).trans (aO.mono λr _ h=>by have h:r=g:=h;omega)).trans (aD.ab _)).trans (aQ.mono λr _ h=>by have h:r=B:=h;omega);have up:∀{Q Z:x3},ai (λr=>w.heap.size<=r) w Q->ai (λr=>r=g) Q Z->ai (λr=>w.heap.size<=r) w Z:=λh k=>h.trans (k.mono λr _ h=>by have h:r=g:=h;omega);refine(mY c0).mono ?_;rintro _ em _ ⟨bF,ac⟩;have c2:=up c1 bF;have c3:=I aW bF;generalize aY:(((ju (σ ⟨(lex pl).1,0,false,[]⟩)).map (·.2)).map (ba (decide ((64:Int)<(t.length:Int)))))=aZ at ac;refine(kG ac).mono ?_;rintro _ en _ ⟨⟨bG,c4⟩,n,eo,rfl,bH,c5⟩;rw[bm,bn,bL];refine(mY c4).mono ?_;rintro _ ep _ ⟨bJ,bM⟩;have c6:=up (up c2 bG) bJ;have c7:=I (I c3 bG) bJ;generalize bN:((bc 1 4611686018427387904 aZ).map (·.2)).map (ba (decide (64<n)))=a2 at bM;refine(kG bM).mono ?_;rintro _ er _ ⟨⟨bO,bP⟩,most,es,rfl,hm,c8⟩;rw[bm,bn];generalize bQ:(bc 1 4611686018427387904 a2).map (·.2)=a6 at bP;refine(kG bP).mono ?_;rintro _ eu _ ⟨⟨bT,c9⟩,a7,ev,rfl,bV,db⟩;rw[bm,bn,bL];refine(mY c9).mono ?_;rintro _ ew _ ⟨bW,bX⟩;generalize bY:((bc 0 4611686018427387904 a6).map (·.2)).map (ba (decide (256<a7)))=bZ at bX;refine(kG bX).mono ?_;rintro _ ez _ ⟨⟨b0,dc⟩,k,eA,rfl,hk,eB⟩;rw[bm,bn,bL];refine(mY dc).mono ?_;rintro _ eC _ ⟨b1,b2⟩;generalize b3:((bc 1 4611686018427387904 bZ).map (·.2)).map (ba (decide (2147483648<k)))=ae at b2;have dd:=up (up (up (up (up c6 bO) bT) bW) b0) b1;have de:=I (I (I (I (I c7 bO) bT) bW) b0) b1;rw[bU,aU dF.p rfl];refine bl (g:=B) (o:=1) au.i rfl rfl de Ξ λb4 b5 eD a8=>?_;have a8:af b4 B dF [bI t,Δ k,.slice ν 0 0,.slice ν 0 0]:=a8;have df:=b2.new b5 λr A=>by have A:r=B:=A;omega
 have b6:ai (λr=>w.heap.size<=r) w b4:=dd.trans (b5.mono λr _ h=>by have h:r=B:=h;omega);have eE:0<=n/\n<=4611686018427387904:=by
  cases C:bc 1 4611686018427387904 aZ with
  |none=>have:=c5 C;omega
  |some q=>have ac:=bH q C;have:=mT (n:=q.1) (s':=q.2) C;omega
 have eF:0<=most/\most<=4611686018427387904:=by
  cases C:bc 1 4611686018427387904 a2 with
  |none=>have:=c8 C;omega
  |some q=>have ac:=hm q C;have:=mT (n:=q.1) (s':=q.2) C;omega
 have dh:0<=a7/\a7<=4611686018427387904:=by
  cases C:bc 0 4611686018427387904 a6 with
  |none=>have:=db C;omega
  |some q=>have ac:=bV q C;have:=mT (n:=q.1) (s':=q.2) C;omega
 have di:Zero (σ (⟨(lex pl).1,0,false,[]⟩:aE)):=λs U=>by cases U;exact⟨rfl,by simp only;omega⟩
 have dj:Zero aZ:=by rw[<-aY];exact(OL di).big _
 have dk:Zero a2:=by rw[<-bN];exact(zero_num dj).big _
 have dl:Zero a6:=by rw[<-bQ];exact zero_num dk
 have dm:Zero bZ:=by rw[<-bY];exact(zero_num dl).big _
 have b8:Zero ae:=by rw[<-b3];exact(zero_num dm).big _
 have eH:=b6.size;refine⟨λbb O=>∃i:Nat,bb=Δ (i:Int)/\i<=n.toNat/\ai (λr=>w.heap.size<=r) w O/\∃szv gz acc so,af O B dF [bI t,Δ k,szv,.slice ν 0 0]/\av .i64 au O gz szv acc/\(∀r,leads szv r->E.heap.size<=r)/\bK O g E.heap.size bA 100000 so/\lu (fb most) n.toNat i ae acc so/\∀s,so=σ s->s.told=0/\acc.length+s.toks.length<=100000/\∀z∈acc,1<=z/\z<=aw,λbb _=>n.toNat-(bS bb).toNat,
  ⟨0,rfl,X4 _,b6,_,0,[],ae,a8,av.nil _ _ _ _,(λr A=>by obtain⟨a,aF,c,X,Y⟩:=A;cases X),df,?_,λs U=>⟨(b8 s U).1,by simpa using(b8 s U).2,λz dn=>by cases dn⟩⟩,?_⟩
 .unfold lu;cases ae<;>rfl
 rintro _ O ⟨i,rfl,hi,be,szv,gz,acc,so,b9,ca,cb,ak,bg,cc⟩;refine aV (λv dp=>O=dp/\((v= .bool true/\i<n.toNat/\∃s,so=σ s)\/(v= .bool false/\(so=ν\/i=n.toNat)))) ?_ ?_
 rotate_left
 .intro aA R;rw[aR,al];refine⟨λcd=>?_,λeI=>R _ _ ⟨rfl,.inr ⟨rfl,.inr Ω⟩⟩⟩;rw[lr ak];cases so with
  |none=>exact R _ _ ⟨rfl,.inr ⟨rfl,.inl rfl⟩⟩
  |some s=>exact R _ _ ⟨rfl,.inl ⟨rfl,Ω,s,rfl⟩⟩
 rintro _ _ ⟨rfl,⟨rfl,cd,s,rfl⟩|⟨rfl,dq⟩⟩
 .rw[bR];obtain⟨dr,eJ,ds⟩:=cc s rfl;refine(kG ak).mono ?_;rintro _ eK _ ⟨⟨dt,du⟩,z,eL,rfl,bh,eM⟩;rw[bm,bn,bL];refine(mY du).mono ?_;rintro _ eN _ ⟨dv,dw⟩;have aG:=dt.trans dv;have ce:=I b9 aG;have dx:∀r,r=g->hf O r\/O.heap.size<=r:=λr A=>(kH ak r A).imp (λ⟨e,c,M,dy,dz,_⟩=>⟨e,c,M,dy,dz⟩) id;have cg:=ey ca aG dx;rw[aS dF.p 2 ce rfl];refine et ay.u au.i rfl λa22 eO dA eP S dC=>?_;refine hJ ay.u au.i rfl (cg.ext S) dC.ls Θ Θ λch dD eQ aH dE cj=>?_;have ck:=ce.ext S;have cl:=ck.ab cj λhe=>b7 (cg.ext S) ck Φ he rfl;rw[bU,aU dF.p rfl];refine bl (g:=B) (o:=2) ay.i aH.ls.cells.1 aH.ls.cells.2 cl Ξ λcm cn eR bj=>?_;have bj:af cm B dF [bI t,Δ k,ch,.slice ν 0 0]:=bj;rw[aN,wrap_i64 Ω Ω];have cq:ai (λr=>leads szv r\/r=B) dA cm:=(cj.mono λr _ h=>.inl h).trans (cn.mono λr _ h=>.inr h);have cr:∀r,(leads szv r\/r=B)->E.heap.size<=r:=λr A=>A.elim (cb r) λA=>Ω
  have eS:w.heap.size<=E.heap.size:=bt.size;have eU:=aG.size;have z22:=S.size;have eV:=be.size;have eW:=ak.lt;refine⟨⟨i+1,rfl,Ω,((up be aG).trans (S.ab _)).trans (cq.mono λr _ h=>by have:=cr r h;omega),ch,dD,acc++[z],((bc 1 most (σ s)).map (·.2)).map (ba (decide (32<z))),bj,bu aH cn λr A he=>?_,λr A=>?_,(dw.ext S).new cq cr,?_,λs' K=>?_⟩,by simp only[bS];omega⟩
  .have he:r=B:=he;subst he;exact b7 aH cl Φ A rfl
  .rcases dE r A with h|h
   .exact cb r h
   .omega
  .refine bg.step cd ?_ λq C=>?_
   .show (V5 _ (bd 1 most s)).map _=_;unfold fb;cases C:bd 1 most s with
    |none=>rfl
    |some q=>
     have:=bh q C;obtain⟨ct,aJ⟩:=q;subst this;rfl
   .unfold fb at C;cases L:bd 1 most s with
    |none=>rw[L]at C;cases C
    |some an=>
     rw[L]at C;have:=bh an L;obtain⟨ct,aJ⟩:=an;cases C;exact this
  .cases L:bd 1 most s with
   |none=>
    have K:(V5 (λx=>x.2) (bd 1 most s)).map (ba (decide (32<z)))=σ s':=K;rw[L]at K;cases K
   |some an=>
    have K:(V5 (λx=>x.2) (bd 1 most s)).map (ba (decide (32<z)))=σ s':=K;rw[L]at K;have dG:=bh an L;obtain⟨ct,aJ⟩:=an;cases K;have cu:=dg L;have h3:=(hW L).1;have eX:=cu.1;refine⟨by show aJ.told=0;rw[cu.eqs.1];exact dr,?_,λy ao=>?_⟩
    .rw[r9];show acc.length+1+aJ.toks.length<=100000;omega
    .rcases o5.1 ao with ao|ao
     .exact ds y ao
     .rw[o9.1 ao,dG];exact⟨h3.1,by unfold aw;have:=h3.2;simp only at*;omega⟩
 .rw[a1];have dH:ae.bind (cJ (fb most) n.toNat [])=so.map λs=>(acc,s):=by
   unfold lu at bg;rw[bg];cases so with
   |none=>rfl
   |some s=>
    rcases dq with h|rfl
    .cases h
    .simp only[U3];rfl
  refine OK be b9 ca ak (λs U=>?_) Ω Ω ap dh λv w' dI dJ J dK dL cw=>?_
  .obtain⟨dM,eY,a3⟩:=cc s U;exact⟨λ_=>by rw[dM];omega,Ω,a3,Ω⟩
  .have dN:(decide ((64:Int)<(t.length:Int)))=decide (64<t.length):=by rw[V9,decide_eq_true_eq,decide_eq_true_eq];omega
   rw[dN]at aY;have dO:=OI (s0:=⟨(lex pl).1,0,false,[]⟩) aY.symm (λq C=>cT q C) bN.symm bH bQ.symm hm bY.symm bV b3.symm hk dH dK;have P:=OM dO Ω;have cz:¬0<=bad↔(lex pl).2=true:=by
    rw[cD];cases (lex pl).2<;>simp
   cases dJ with
   |none=>
    obtain⟨aF,e,rfl⟩:=cw λs U=>by cases U
    exact⟨J,aF,e,λ_=>rfl,λf ag=>by rw[P]at ag;cases ag⟩
   |some s=>
    have P:fj pl=if s.toks=[]/\(lex pl).2=true/\s.big=false then σ ⟨t,k,acc,dI⟩else ν:=P;by_cases G:s.toks=[]/\(lex pl).2=true/\s.big=false
    .rw[if_pos G]at P;obtain⟨rfl,dP⟩:=dL s rfl ⟨G.1,cz.2 G.2.1,G.2.2⟩;exact⟨J,_,_,(λag=>by rw[P]at ag;cases ag),λf ag=>⟨B,rfl,by rw[P]at ag;cases ag;exact dP⟩⟩
    .rw[if_neg G]at P;obtain⟨aF,e,rfl⟩:=cw λs' K aB=>by
      cases K;exact G ⟨aB.1,cz.1 aB.2.1,aB.2.2⟩
     exact⟨J,aF,e,λ_=>rfl,λf ag=>by rw[P]at ag;cases ag⟩
theorem DE{a b:Int}:am x7 Iu [Δ a,Δ b] w λv w'=>v=Δ (min a b)/\Ext w w':=by
 refine az func215 ?_;rw[aR,al];exact⟨λh=>⟨by congr 1;omega,Ext.refl _⟩,λh=>⟨by congr 1;omega,Ext.refl _⟩⟩
theorem OO{z:iZ}{x:cj}(h:gO w z x)(O:(x.lines.map (·.1)).Nodup)(P:aI .i64 w aK t):am x7 IZ [.agg (eU z).toArray,aK,Δ k] w λv w'=>v=Δ (jU x k t)/\Ext w w':=by
 obtain⟨⟨g1,Q⟩,⟨au,R⟩,S,av,L,f,U,G⟩:=id h;refine az func265 ?_;refine bf λW V aw A a=>?_;have a:af V W a8 (eU z):=by
  obtain⟨_,_,_,X⟩:=c5 Q.ls;obtain⟨_,_,_,Y⟩:=c5 R.ls;obtain⟨_,_,_,_,_,Z,_⟩:=f.sl;simp only[eU,X,Y,Z]at a ⊢;exact a
 have ab:=f.ext A;have ac:L.length=x.lines.length:=by rw[<-G,r8]
 rw[aT a8.p 2 a rfl,aT a8.p 3 a rfl,ee dW.u ab,S];refine cb.range L.length (λi q aa=>Ext V aa/\∃c:Int,q=Δ c/\min c k=lk x k i t) f.le ⟨Ext.refl _,x.other,rfl,(Cv x k t).symm⟩ ?_ ?_
 .rintro i _ aa ad hi ⟨e,c,rfl,r⟩ ae;obtain⟨y,B⟩:=aJ (l:=L) hi;obtain⟨gy,H⟩:=U y (x5 B);have C:=A.trans e;have ag:x.lines[i]?=σ (y.t,y.c):=by rw[<-G,x8,B];rfl
  have I:=Cx (k:=k) O ag t;refine bM Ω ?_;refine aV (λq J=>Ext V J/\∃c:Int,q=Δ c/\min c k=lk x k (i+1) t) ?_ ?_
  .rintro q J ah;rw[aN];exact ae _ _ ah
  intro aA K;have M:=f.ext C;rw[dr rfl dW.u b5.i M hi,bP b5.p b5.i rfl (M.range B)];refine bx b5.i λao ax ay ai aj=>?_;refine ci (vs:=oi y) b5.i rfl rfl (xa H) aj λak an aB N=>?_;have s:Ext aa ak:=ai.put an Ω;rw[aT b5.p 0 N rfl];refine(w9 ((H.ls.ext C).ext s) ((P.ext C).ext s)).mono ?_;rintro _ aC _ ⟨rfl,E⟩;rw[al];refine⟨λhe=>?_,λap=>?_⟩
  .rw[aT b5.p 1 (N.ext E) rfl];refine K _ _ ⟨(e.trans s).trans E,y.c,rfl,?_⟩;rw[I,if_pos he.symm]
  .refine K _ _ ⟨(e.trans s).trans E,c,rfl,?_⟩;rw[I,if_neg λhe=>ap he.symm,r]
 .rintro _ aa ad ⟨e,c,rfl,r⟩;rw[ac,Cw]at r;refine cE Ω ?_;refine DE.mono ?_;rintro _ aD _ ⟨rfl,aq⟩;exact⟨by rw[r],(A.trans e).trans aq⟩
theorem OP{ds:x1}(h:aI .i64 w ds l)(L:l.Nodup)(ag:l.length<=64):am x7 IY [ds] w λv w'=>Ext w w'/\∃g,av .i64 ah w' g v (bo l)/\∀r,leads v r->w.heap.size<=r:=by
 refine az func264 ?_;have M:∀i,i<=64->(((X0 i).map λ(v:Nat)=>(v:Int)).filter λv=>decide (v∈l)).length<=i:=λi _=>by
  have:=R3 (λv=>decide (v∈l)) ((X0 i).map λ(v:Nat)=>(v:Int));simp at this;omega
 refine cb.range 64 (λi e V=>Ext w V/\∃g,av .i64 ah V g e (((X0 i).map λ(v:Nat)=>(v:Int)).filter λv=>decide (v∈l))/\∀r,leads e r->w.heap.size<=r) Ω ⟨Ext.refl _,0,av.nil _ _ _ _,λr y=>by obtain⟨a,n,c,N,ai⟩:=y;cases N⟩ ?_ ?_
 .rintro i e V k hi ⟨z,g,hm,C⟩ hk;refine bM Ω ?_;rw[aX ay.u (h.ext z)];have O:=M i Ω;generalize P:(((X0 i).map λ(v:Nat)=>(v:Int)).filter λv=>decide (v∈l))=A at hm O;refine cb.range l.length (λj e aa=>Ext w aa/\∃g,av .i64 ah aa g e (A++(if(i:Int)∈l.take j then[(i:Int)]else[]))/\∀r,leads e r->w.heap.size<=r) h.le ⟨z,g,by simpa using hm,C⟩ ?_ ?_
  .rintro j Q aa R S ⟨q,E,f,s⟩ U;obtain⟨x,J⟩:=aJ (l:=l) S;refine bM Ω ?_;refine aV (λe B=>Ext w B/\∃g,av .i64 ah B g e (A++(if(i:Int)∈l.take (j+1)then[(i:Int)]else[]))/\∀r,leads e r->w.heap.size<=r) ?_ ?_
   .rintro aj B W;rw[aN];exact U _ _ W
   intro aA K;have G:(i:Int)∈l.take (j+1)↔(i:Int)∈l.take j\/(i:Int)=x:=by
    rw[u9,J,j5,o5,o9]
   rw[bg ay.u au.i Ψ (h.ext q) J,be,al];refine⟨λhe=>?_,λX=>?_⟩
   .have Y:(i:Int)∉l.take j:=λhm=>by
     obtain⟨p,H⟩:=X3.1 hm;have Z:p<j:=by have:=(x4.1 H).1;rw[n9]at this;omega
     rw[Z7 Z,<-he]at H;have:=kz L H J;omega
    rw[if_neg Y,W8]at f;refine et (k:=.i64) an.u ah.i rfl λa3 ak B ao I ab=>?_;refine hJ an.u ah.i rfl (f.ext I) ab.ls Θ Θ λap ac aq ad ae af=>?_;have aw:=q.size;have z3:=I.size;refine K _ _ ⟨(q.trans I).then af λr y he=>by have:=s r he;omega,ac,?_,λr y=>(ae r y).elim (s r) λh=>Ω⟩;rw[if_pos (G.2 (.inr he.symm))];exact ad
   .refine K _ _ ⟨q,E,?_,s⟩;have:((i:Int)∈l.take (j+1))=((i:Int)∈l.take j):=propext ⟨λaB=>(G.1 aB).resolve_right λhe=>X he.symm,λaB=>G.2 (.inl aB)⟩;simp only[this];exact f
  .rintro Q aa R ⟨q,E,f,s⟩;rw[o7]at f;refine cE Ω ?_;rw[aN];refine hk _ _ ⟨q,E,?_,s⟩;rw[List.range_succ,Z4,List.filter_append,P];by_cases hm:(i:Int)∈l
   .rw[if_pos hm]at f;simpa[hm]using f
   .rw[if_neg hm]at f;simpa[hm]using f
 .rintro e V k ⟨z,g,hm,C⟩;rw[aR,al];exact⟨λh=>Ω,λ_=>⟨z,g,hm,C⟩⟩
structure fs where
 aL:x1
 szv:x1
 a6:x1
 sc:Λ
 cs:Λ
def dm(h:fs):List x1:=[h.aL,h.szv,h.a6]
def pF(h:fs)(r:Nat):Prop:=leads h.a6 r\/leads h.aL r\/leads h.szv r
def fU(w:x3)(sizes:Λ)(h:fs):Prop:=(∃g,av .i64 ah w g h.aL h.sc)/\(∃g,av .i64 ah w g h.szv (bX sizes h.sc))/\∃g,av .i64 au w g h.a6 h.cs
theorem fU.ext{h:fs}(aB:fU w sizes h)(J:Ext w w'):fU w' sizes h:=by
 obtain⟨⟨g1,h1⟩,⟨a,e⟩,f,p⟩:=aB;exact⟨⟨g1,h1.ext J⟩,⟨a,e.ext J⟩,f,p.ext J⟩
theorem fU.one{h:fs}(aB:fU w sizes h):∀u∈dm h,u.oneCell'=true:=by
 obtain⟨⟨g1,h1⟩,⟨f,a⟩,p,e⟩:=aB;intro u hu;simp[dm]at hu;rcases hu with rfl|rfl|rfl
 .exact h1.ls.cells.2
 .exact a.ls.cells.2
 .exact e.ls.cells.2
theorem DF{f:bY}{x:cj}{ac:iZ}(h:gO w ac x)(aF:e0 N f)(bL:x∈f.funs)(cz:av .i64 au w gz sv f.sizes):
  am x7 Is [.agg (eU ac).toArray,sv,Δ f.k] w λv w'=>Ext w w'/\∃c:fs,v= .agg (dm c).toArray/\c.sc=bo x.scope/\c.cs=(hX f.sizes f.k x).2/\fU w' f.sizes c/\∀r,pF c r->w.heap.size<=r:=by
 obtain⟨ae,cA,dP⟩:=aF.funs x bL;have ad:=tk ae aF.sizes.2.1;have bN:=tj ad ae.scope.1;have cB:(bo x.scope).length<=6:=by rw[bN.length_eq];exact cA
 have cC:=px aF bL;have bO:=Cm x.scope;obtain⟨⟨g1,aG⟩,⟨dQ,cD⟩,dR,dS,cF⟩:=id h;refine az func212 ?_;refine bf λbd V dT bR ag=>?_;have ag:af V bd a8 (eU ac):=by
  obtain⟨L,cG,_⟩:=cF;obtain⟨_,_,_,E⟩:=c5 aG.ls;obtain⟨_,_,_,I⟩:=c5 cD.ls;obtain⟨_,_,_,_,_,cH,_⟩:=cG.sl;simp only[eU,E,I,cH]at ag ⊢;exact ag
 refine bx bb.i λbS aa dU bh bi=>?_;have bj:=bR.trans bh;rw[aT a8.p 0 (ag.ext bh) rfl];refine(OP (aG.ls.ext bj) ae.scope.1 Ω).mono ?_;rintro aL bT _ ⟨aH,gr,bk,cI⟩;rw[cW (cs:=#[aL,.slice ν 0 0,.slice ν 0 0]) (by obtain⟨_,_,_,rfl⟩:=c5 bk.ls;kernel_rfl)];refine bx bb.i λB dV cJ cK cL=>?_;refine ci (vs:=[aL,.slice ν 0 0,.slice ν 0 0]) bb.i rfl rfl (by intro u hu;simp at hu;rcases hu with rfl|rfl;exact bk.ls.cells.2;rfl) cL λJ cM dW W=>?_;have aI:Ext bT J:=cK.put cM Ω;have bU:=(bj.trans aH).trans aI;have R:=bk.ext aI;have bm:=((ag.ext bh).ext aH).ext aI;have bV:=(bi.ext aH).ext aI;have dX:=bj.size;have z3:=aH.size;have dY:=bU.size;have dZ:=W.lt;have ea:B=bT.heap.size:=cJ;rw[aT bb.p 0 W rfl,aX an.u R.ls];have bW:∀v∈bo x.scope,0<=v/\v<f.sizes.length:=λv hm=>ae.scope.2 v ((qU ad).1 hm);have bn:∀{w':x3},ai (λr=>r=B\/J.heap.size<=r) J w'->Ext w w':=λbq=>bU.then bq λr s he=>Ω
 have br:(bX f.sizes (bo x.scope)).length=(bo x.scope).length:=by simp[bX]
 refine ck.range (bo x.scope).length (λi K=>ai (λr=>r=B\/J.heap.size<=r) J K/\∃szv gs,af K B bb [aL,szv,.slice ν 0 0]/\av .i64 ah K gs szv ((bX f.sizes (bo x.scope)).take i)/\∀r,leads szv r->J.heap.size<=r) Ω
  ⟨ai.refl _ _,_,0,W,av.nil _ _ _ _,λr s=>by obtain⟨a,n,c,E,I⟩:=s;cases E⟩ ?_ ?_
 .rintro i K cN hi ⟨M,szv,gs,cO,aj,aM⟩ cP;obtain⟨v,bt⟩:=aJ (l:=(bo x.scope)) hi;have eb:=bW v (x5 bt);have cQ:av .i64 ah K gr aL (bo x.scope):=bu R M λr s U=>by
   rcases U with rfl|U
   .exact b7 R W Φ s rfl
   .obtain⟨E,I⟩:=bQ R s;omega
  refine bM Ω ?_;rw[bg an.u ah.i Ψ cQ.ls bt];intro ec ak _ _;have bZ:=cO.ext ak;have cR:f.sizes[v.toNat]?=σ (f.sizes.getD v.toNat 0):=by rw[u4,x6 Ω];rfl
  rw[aT bb.p 1 bZ rfl,fY (y:=v) (i:=v.toNat) Ω ay.u au.i Ψ (cz.ext ((bn M).trans ak)).ls cR];refine et (k:=.i64) an.u ah.i rfl λed ee cS ef ao cT=>?_;refine⟨.inl ao,?_⟩;have b0:=(aj.ext ak).ext ao;refine hJ an.u ah.i rfl b0 cT.ls Θ Θ λcU cV eg aP cX b1=>?_;have b2:=bZ.ext ao;have b4:=b2.ab b1 λhe=>b7 b0 b2 Φ he rfl;rw[aU bb.p rfl];refine bl (g:=B) (o:=1) an.i aP.ls.cells.1 aP.ls.cells.2 b4 Ξ λcY b5 eh cZ=>?_;rw[aN];have c0:ai (λr=>leads szv r\/r=B) cS cY:=(b1.mono λr _ h=>.inl h).trans (b5.mono λr _ h=>.inr h);have c1:=M.size;have ei:=(ak.trans ao).size;refine cP _ ⟨((M.trans (ak.ab _)).trans (ao.ab _)).trans (c0.mono λr _ h=>h.elim (λh=>.inr (aM r h)) .inl),cU,cV,cZ,?_,λr s=>(cX r s).elim (aM r) λh=>Ω⟩;have e:(bX f.sizes (bo x.scope)).take (i+1)=(bX f.sizes (bo x.scope)).take i++[f.sizes.getD v.toNat 0]:=by
   unfold bX;rw[<-List.map_take,<-List.map_take,u9,bt,j5,Z4];rfl
  rw[e];exact bu aP b5 λr s he=>by
   have he:r=B:=he;subst he;exact b7 aP b4 Φ s rfl
 rintro K cN ⟨M,szv,gs,bw,aj,aM⟩;rw[<-br,o7]at aj;refine cE Ω ?_;have ej:=bn M;have aQ:b3 (bX f.sizes (bo x.scope)):=⟨by rw[br];exact cB,pw aF.sizes.2.2 bW⟩;have c2:=cC.small;rw[aT bb.p 1 bw rfl];refine(AT _ aj.ls aQ).mono ?_;rintro c3 C _ ⟨aR,b6⟩;have ek:=jQ aQ.2;have em:=l8 aQ.2;have en:aO (bX f.sizes (bo x.scope))<=4096:=c2;rw[jo dz.u b6];have aS:ai (λr=>r=B\/J.heap.size<=r) J C:=M.trans (aR.ab _);have aq:=bw.ext aR;have b8:=aj.ext aR;have c1:=M.size;have eo:=aR.size;have bz:av .i64 ah C gr aL (bo x.scope):=bu R aS λr s U=>by
  rcases U with rfl|U
  .exact b7 R W Φ s rfl
  .obtain⟨E,I⟩:=bQ R s;omega
 have bB:af C bd a8 (eU ac):=bm.ab aS λU=>U.elim (λhe=>by subst he;exact absurd (eH bm W) Φ) λh=>by have:=bm.lt;omega
 have b9:=bV.ab aS λU=>U.elim (λhe=>by have:=bi.lt;omega) λh=>by have:=bV.lt;omega
 have ca:∀{w':x3},ai (λr=>r=B\/C.heap.size<=r) C w'->Ext w w':=λbq=>(bn aS).then bq λr s he=>by
  have he:r=B\/C.heap.size<=r:=he;omega
 have ep:B<C.heap.size:=aq.lt;refine ck.range (bp (bX f.sizes (bo x.scope))).length (λq z=>ai (λr=>r=B\/C.heap.size<=r) C z/\∃a6 aw,af z B bb [aL,szv,a6]/\av .i64 au z aw a6 (((bp (bX f.sizes (bo x.scope))).take q).map λt=>jU x f.k (pi x.scope (bo x.scope) t))/\∀r,leads a6 r->C.heap.size<=r) Ω
  ⟨ai.refl _ _,_,0,aq,av.nil _ _ _ _,λr s=>by obtain⟨a,n,c,E,I⟩:=s;cases E⟩ ?_ ?_
 .rintro q z c4 c6 ⟨G,a6,aw,ax,aC,aW⟩ c7;obtain⟨t,aY⟩:∃t,(bp (bX f.sizes (bo x.scope)))[q]?=σ t:=⟨_,x6 c6⟩;have er:t.length=(bo x.scope).length:=by
   have c8:=qw aQ.2 (i:=q) Ω;rw[c8]at aY;cases aY;rw[jp,br]
  have bC:=ca G;have c9:ap.rep (α:=List (Λ)) true (eE K.heap.size) bA z [c3] (bp (bX f.sizes (bo x.scope))):=ap.ab b6 G λr s h U=>by
   rcases h with h|h
   .have h:K.heap.size<=r:=h;have:=bw.lt;rcases U with U|U<;>omega
   .exact h
  have X:∀{O:Nat}{P:x1}{Q:Λ},av .i64 ah C O P Q->av .i64 ah z O P Q:=λhm=>bu hm G λr s U=>by
   rcases U with rfl|U
   .exact b7 hm aq Φ s rfl
   .obtain⟨E,I⟩:=bQ hm s;omega
  have cc:=X bz;have cd:af z bd a8 (eU ac):=bB.ab G λU=>U.elim (λhe=>by subst he;exact absurd (eH bB aq) Φ) λh=>by have:=bB.lt;omega
  refine bM Ω ?_;refine k6 (α:=Λ) rfl rfl dz.u an.i Ψ c9 aY λaK da=>?_;have db:=eD da;rw[aT a8.p 0 cd rfl,aX ay.u (aG.ls.ext bC)];have z12:=G.size;refine cb.range x.scope.length (λp H a1=>Ext z a1/\∃go,av .i64 au a1 go H ((x.scope.take p).map λv=>t.getD ((bo x.scope).idxOf v) 0)/\∀r,leads H r->z.heap.size<=r) Ω ⟨Ext.refl _,0,av.nil _ _ _ _,λr s=>by obtain⟨a,n,c,E,I⟩:=s;cases E⟩ ?_ ?_
  .rintro p H a1 dc dd ⟨Y,go,aD,ce⟩ de;obtain⟨v,bD⟩:=aJ (l:=x.scope) dd;have df:v∈bo x.scope:=bN.mem_iff.2 (x5 bD);refine bM Ω ?_;have dg:=bC.trans Y;have dh:=ax.ext Y;have di:=cc.ext Y;rw[bg ay.u au.i Ψ (aG.ls.ext dg) bD,aT bb.p 0 dh rfl,aX an.u di.ls];generalize cg:((x.scope.take p).map λv=>t.getD ((bo x.scope).idxOf v) 0)=A at aD;have es:A.length=p:=by rw[<-cg,r8,n9];omega
   refine cb.range (bo x.scope).length (λj H a2=>Ext z a2/\∃go,av .i64 au a2 go H (A++if v∈(bo x.scope).take j then[t.getD ((bo x.scope).idxOf v) 0]else[])/\∀r,leads H r->z.heap.size<=r) Ω ⟨Y,go,by simpa using aD,ce⟩ ?_ ?_
   .rintro j dj a2 dk dl ⟨S,bE,Z,aE⟩ dn;obtain⟨u,hu⟩:=aJ (l:=(bo x.scope)) dl;have dp:=cc.ext S;refine bM Ω ?_;refine aV (λH bF=>Ext z bF/\∃go,av .i64 au bF go H (A++if v∈(bo x.scope).take (j+1)then[t.getD ((bo x.scope).idxOf v) 0]else[])/\∀r,leads H r->z.heap.size<=r) ?_ ?_
    .rintro eu bF dq;rw[aN];exact dn _ _ dq
    intro aA ch;have bG:v∈(bo x.scope).take (j+1)↔v∈(bo x.scope).take j\/v=u:=by
     rw[u9,hu,j5,o5,o9]
    rw[bg an.u ah.i Ψ dp.ls hu,be,al];refine⟨λhe=>?_,λbH=>?_⟩
    .have dr:v∉(bo x.scope).take j:=λhm=>by
      obtain⟨ds,bI⟩:=X3.1 hm;have dt:ds<j:=by have:=(x4.1 bI).1;rw[n9]at this;omega
      rw[Z7 dt,<-he]at bI;have:=kz bO bI hu;omega
     rw[if_neg dr,W8]at Z;have du:t[j]?=σ (t.getD ((bo x.scope).idxOf v) 0):=by
      have:(bo x.scope).idxOf v=j:=qV bO (by rw[hu,he]);rw[this,u4,x6 (show j<t.length by omega)];rfl
     rw[bg an.u ah.i Ψ (db.ext S) du];refine et ay.u au.i rfl λev ew ey ez bJ dv=>?_;refine hJ ay.u au.i rfl (Z.ext bJ) dv.ls Θ Θ λeA dw eB dx dy dA=>?_;have eC:=S.size;have eF:=bJ.size;refine ch _ _ ⟨(S.trans bJ).then dA λr s he=>by have:=aE r he;omega,dw,?_,λr s=>(dy r s).elim (aE r) λh=>Ω⟩;rw[if_pos (bG.2 (.inr he.symm))];exact dx
    .refine ch _ _ ⟨S,bE,?_,aE⟩;have:(v∈(bo x.scope).take (j+1))=(v∈(bo x.scope).take j):=propext ⟨λaB=>(bG.1 aB).resolve_right λhe=>bH he.symm,λaB=>bG.2 (.inl aB)⟩;simp only[this];exact Z
   .rintro dj a2 dk ⟨S,bE,Z,aE⟩;rw[o7,if_pos df]at Z;refine cE Ω ?_;rw[aN];refine de _ _ ⟨S,bE,?_,aE⟩;rw[u9,bD,j5,Z4,cg];exact Z
  .rintro H a1 dc ⟨Y,go,aD,ce⟩;rw[o7]at aD;refine cE Ω ?_;intro eI cl _ _;have a7:=Y.trans cl;have dC:=ax.ext a7;have dD:=cd.ext a7;rw[aT bb.p 2 dC rfl,bP a8.p a8.i rfl dD.range];refine(OO (h.ext (bC.trans a7)) ae.lines.1 (aD.ls.ext cl)).mono ?_;rintro _ eJ _ ⟨rfl,bK⟩;refine⟨.inl bK,?_⟩;refine et ay.u au.i rfl λeK eL dE eM cm dF=>?_;refine⟨.inl (bK.trans cm),?_⟩;have ba:=(a7.trans bK).trans cm;have cn:=aC.ext ba;refine hJ ay.u au.i rfl cn dF.ls Θ Θ λdG dH eN bc dI cp=>?_;have cq:=ax.ext ba;have cr:=cq.ab cp λhe=>b7 cn cq Φ he rfl;rw[aU bb.p rfl];refine bl (g:=B) (o:=2) ay.i bc.ls.cells.1 bc.ls.cells.2 cr Ξ λdJ ct eO dK=>?_;rw[aN];have dL:ai (λr=>leads a6 r\/r=B) dE dJ:=(cp.mono λr _ h=>.inl h).trans (ct.mono λr _ h=>.inr h);have eP:=ba.size;refine c7 _ ⟨(G.trans (ba.ab _)).trans (dL.mono λr _ h=>h.elim (λh=>.inr (aW r h)) .inl),dG,dH,dK,?_,λr s=>(dI r s).elim (aW r) λh=>Ω⟩;rw[u9,aY,j5,Z4];exact bu bc ct λr s he=>by
    have he:r=B:=he;subst he;exact b7 bc cr Φ s rfl
 .rintro z c4 ⟨G,a6,aw,ax,aC,aW⟩;rw[o7]at aC;refine cE Ω ?_;have X:∀{O:Nat}{P:x1}{Q:Λ},av .i64 ah C O P Q->av .i64 ah z O P Q:=λhm=>bu hm G λr s U=>by
   rcases U with rfl|U
   .exact b7 hm aq Φ s rfl
   .obtain⟨E,I⟩:=bQ hm s;omega
  let c:fs:=⟨aL,szv,a6,bo x.scope,(hX f.sizes f.k x).2⟩;have dM:fU z f.sizes c:=⟨⟨gr,X bz⟩,⟨gs,X b8⟩,aw,aC⟩;rw[bP bb.p bb.i rfl (show z.rangeAt B 0 (dm c)from ax.range)];have cu:=b9.ab G λU=>U.elim (λhe=>by have:=bi.lt;omega) λh=>by have:=b9.lt;omega
  refine ci (vs:=dm c) bb.i rfl rfl dM.one cu λdN cw eQ dO=>?_;rw[fJ bb.p bb.i rfl dO.range];have aZ:∀{O:Nat}{P:x1}{Q:Λ}{e:p9},e≠bb->av .i64 e z O P Q->av .i64 e dN O P Q:=λbH hm=>bu hm cw λr s he=>by
   have he:r=bS:=he;exact b7 hm cu bH s he
  refine⟨(ca G).then cw λr s he=>by have he:r=bS:=he;have:=bR.size;omega,c,rfl,rfl,rfl,⟨⟨gr,aZ Φ (X bz)⟩,⟨gs,aZ Φ (X b8)⟩,aw,aZ Φ aC⟩,λr s=>?_⟩;rcases s with s|s|s
  .have:=aW r s;omega
  .have:=cI r s;omega
  .have:=aM r s;omega
theorem DG{h:fs}{g:Nat}(e:fU w sizes h)(a:af w' g bb (x1.agg (dm h).toArray).cells.toList):af w' g bb (dm h):=by
 obtain⟨⟨g1,h1⟩,⟨x,f⟩,y,p⟩:=e;obtain⟨_,_,_,q⟩:=c5 h1.ls;obtain⟨_,_,_,r⟩:=c5 f.ls;obtain⟨_,_,_,s⟩:=c5 p.ls;simp only[dm,q,r,s]at a ⊢;exact a
theorem OQ{a b:fs}(Q:fU w sizes a)(R:fU w sizes b)(W:jt a.sc)(X:jt b.sc):am x7 zJ [.agg (dm a).toArray,.agg (dm b).toArray] w λv w'=>v= .bool (decide (dd a.sc<dd b.sc))/\Ext w w':=by
 obtain⟨⟨ga,S⟩,_⟩:=id Q;obtain⟨⟨av,Y⟩,_⟩:=id R;have H:=(wy W X).1;refine az func213 ?_;refine bf λg1 V aw Z I=>?_;refine bf λab aa ax U L=>?_;have I:=(DG Q I).ext U;have L:=DG R L;have q:=Z.trans U;have r:=S.ls.ext q;have A:=Y.ls.ext q;have s:∀{w':x3},Ext aa w'->∀{K:x1->Prop},ac x7 (u6 bb (Γ g1) 0) w' (λt=>ac x7 (u5 an t) w' K)=K a.aL:=λJ K=>by
  rw[aT bb.p 0 (I.ext J) rfl]
 have B:∀{w':x3},Ext aa w'->∀{K:x1->Prop},ac x7 (u6 bb (Γ ab) 0) w' (λt=>ac x7 (u5 an t) w' K)=K b.aL:=λJ K=>by
  rw[aT bb.p 0 (L.ext J) rfl]
 rw[s (Ext.refl _),aX an.u r,B (Ext.refl _),aX an.u A,bC,al];refine⟨λad=>?_,λae=>?_⟩
 .rw[s (Ext.refl _),aX an.u r,B (Ext.refl _),aX an.u A,aR];refine⟨?_,q⟩;congr 1;rw[V9,decide_eq_true_eq,decide_eq_true_eq,H];exact⟨λh=>.inl Ω,λh=>by rcases h with h|h<;>omega⟩
 have af:a.sc.length=b.sc.length:=by have:=Z9.1 ae;omega
 rw[s (Ext.refl _),aX an.u r];refine cb.range a.sc.length (λi _ M=>Ext aa M/\∀(j:Nat)(x y:Int),j<i->a.sc[j]?=σ x->b.sc[j]?=σ y->x=y) S.ls.le ⟨Ext.refl _,λj x y ag=>Ω⟩ ?_ ?_
 .rintro i _ M k hi ⟨N,C⟩ hk;obtain⟨x,J⟩:=aJ (l:=a.sc) hi;obtain⟨y,E⟩:=aJ (l:=b.sc) (i:=i) Ω;have e:gb a.sc b.sc=gb (a.sc.drop i) (b.sc.drop i):=tz C Ω Ω;have ai:a.sc.drop i=x::a.sc.drop (i+1):=by rw[X6 hi,(x4.1 J).2]
  have aj:b.sc.drop i=y::b.sc.drop (i+1):=by rw[X6 (show i<b.sc.length by omega),(x4.1 E).2]
  rw[ai,aj]at e;simp only[gb]at e;refine bM Ω ?_;intro ay ak _ _;have f:=N.trans ak;rw[s f,bg an.u ah.i Ψ (r.ext f) J,B f,bg an.u ah.i Ψ (A.ext f) E,bC,al];refine⟨λad=>?_,λhe=>?_⟩
  .intro aA ao _ _;have z:=f.trans ao;rw[s z,bg an.u ah.i Ψ (r.ext z) J,B z,bg an.u ah.i Ψ (A.ext z) E,aR];refine⟨?_,q.trans z⟩;congr 1;rw[V9,decide_eq_true_eq,decide_eq_true_eq,H,e];by_cases G:x<y
   .rw[if_pos G];exact⟨λ_=>.inr ⟨af,Ω⟩,λ_=>G⟩
   .rw[if_neg G,if_pos (show y<x by omega)];exact⟨λh=>absurd h G,λh=>by rcases h with h|h<;>omega⟩
  .rw[aN];refine hk _ _ ⟨f,λj ap aq ag O P=>?_⟩;by_cases au:j=i
   .subst au;rw[J]at O;rw[E]at P;cases O;cases P;exact Z9.1 he
   .exact C j ap aq Ω O P
 .rintro _ M k ⟨N,C⟩;rw[aR,al];refine⟨λh=>Ω,λ_=>⟨?_,q.trans N⟩⟩;congr 1;symm;rw[decide_eq_false_iff_not,H];have e:gb a.sc b.sc=gb (a.sc.drop a.sc.length) (b.sc.drop a.sc.length):=tz C (o4 _) Ω;rw[List.drop_length,show b.sc.drop a.sc.length=[]from List.drop_eq_nil_of_le Ω]at e;rw[e];simp only[gb];omega
def dw(h:fs):cK:=(h.sc,h.cs)
def kI(w:x3)(B g:Nat)(v:x1)(sizes:Λ)(L:List fs):Prop:=bi dm 3 bb w g v L/\(∀h∈L,fU w sizes h/\∀r,pF h r->B<=r)/\(∀(i j:Nat)x y,L[i]?=σ x->L[j]?=σ y->i≠j->∀r,leads x.a6 r->¬leads y.a6 r)/\∀r,leadsTo v r->B<=r
theorem mZ{h:fs}(z:fU w sizes h)(s:ai S w w')(x:∀r,S r->(∃e c,af w r e c/\e≠ah/\e≠au)\/w.heap.size<=r\/((∃c,af w r au c)/\¬leads h.a6 r)):fU w' sizes h:=by
 obtain⟨⟨g1,h1⟩,⟨A,B⟩,C,p⟩:=z;have y:∀{g:Nat}{v:x1}{l:Λ},av .i64 ah w g v l->av .i64 ah w' g v l:=λhm=>bu hm s λr a U=>by
  rcases x r U with⟨e,c,f,q,_⟩|E|⟨⟨c,f⟩,_⟩
  .exact b7 hm f (λhe=>q he.symm) a rfl
  .obtain⟨F,G⟩:=bQ hm a;omega
  .exact b7 hm f Φ a rfl
 refine⟨⟨g1,y h1⟩,⟨A,y B⟩,C,bu p s λr a U=>?_⟩;rcases x r U with⟨e,c,f,_,q⟩|E|⟨_,H⟩
 .exact b7 p f (λhe=>q he.symm) a rfl
 .obtain⟨F,G⟩:=bQ p a;omega
 .exact H a
theorem kI.ext{g:Nat}{L:List fs}(h:kI w B g v sizes L)(J:Ext w w'):kI w' B g v sizes L:=⟨h.1.ext J,λx a=>⟨(h.2.1 x a).1.ext J,(h.2.1 x a).2⟩,h.2.2⟩
section
variable{α:Type}{f:α->List x1}{k:Nat}{P:W5}{w:x3}{e:p9}{g:Nat}{v:x1}{L:List α}
theorem OR{M:List α}(h:bi f k e w g v L)(ag:L.map f=M.map f):bi f k e w g v M:=by
 have p:L.length=M.length:=by have:=congrArg S3 ag;simpa using this
 have hm:L.flatMap f=M.flatMap f:=by rw[List.flatMap_def,List.flatMap_def,ag]
 refine⟨by rw[<-p,<-hm];exact h.1,λa q=>?_⟩;obtain⟨b,r,he⟩:=j4.1 (show f a∈L.map f by rw[ag];exact j4.2 ⟨a,q,rfl⟩);rw[<-he];exact h.2 b r
theorem DH{t:p9}{b l h':Nat}{low high:Option x1}(s:P.underlying t=σ (.slice e))(hi:aQ P e k b z)(h:bi f k e w g v L)(h1:l2 low l)(x:l3 high L.length h')(q:l<=h')(aB:h'<=L.length)(y:∀r,(∀w',bi f k e w' g v L->cg w' k r ((L.drop l).take (h'-l)).length (((L.drop l).take (h'-l)).flatMap f))->K r):ac P (V8 t v low high ν) w K:=by
 have A:=h.sl;obtain⟨_,C,o,base,cap,rfl,E,_⟩:=A;rw[gV s hi h1 x e9 q Ω (o4 _)];refine y _ λw' p=>?_;have:=cg.part (l:=l) (h:=h') (m:=cap) p.sl q aB Ω (o4 _);rw[ta l p.2,pp (h'-l) (λa B=>p.2 a (List.mem_of_mem_drop B))]at this;have el:((L.drop l).take (h'-l)).length=h'-l:=by rw[n9,List.length_drop];omega
 rw[el];exact this
theorem tP{t O:p9}{b:Nat}{x:x1}{M:List α}{K:x1->x3->Prop}(A:P.underlying t=σ (.slice e))(hi:aQ P e k b z)(G:z.cells.size=k)(h:bi f k e w g v L)(J:cg w k x M.length (M.flatMap f))(Q:∀a∈M,(f a).length=k)(h1:∀a∈M,∀u∈f a,u.oneCell'=true)(B:(L.length+M.length)*b<=140737488355328)(H:L.length+M.length<=9223372036854775807)(I:∀p q w',bi f k e w' q p (L++M)->(∀r,leadsTo p r->leadsTo v r\/w.heap.size<=r)->ai (λr=>leadsTo v r) w w'->K p w'):aD P (Z0 #[t,t] O #[v,x]) w K:=by
 have N:∀u∈M.flatMap f,u.oneCell'=true:=λu hu=>by
  obtain⟨a,R,hu⟩:=S7.1 hu;exact h1 a R u hu
 have C:∀p q w',bV w' q e k p (L.length+M.length) (L.flatMap f++M.flatMap f)->bi f k e w' q p (L++M):=λp q w' hm=>⟨by simpa using hm,λb B=>by
  rcases o5.1 B with h'|h'
  .exact h.2 b h'
  .exact Q b h'⟩
 rcases h.1.2 with⟨ad,S⟩|⟨cap,cs,ad,T,_⟩
 .have hm:bV w w.heap.size e k v L.length (L.flatMap f):=⟨h.1.1,.inl ⟨ad,S⟩⟩;subst ad;refine nJ A A hi G hm J N (by simpa using B) (by simpa[maxLen]using H) λp q w' E s F=>I p q w' (C _ _ _ s) (λr y=>.inr ?_) (F.mono λr y h=>Ω);have:=((C _ _ _ s).leads y).1;omega
 .refine nJ A A hi G h.1 J N (by simpa using B) (by simpa[maxLen]using H) λp q w' E s F=>I p q w' (C _ _ _ s) (λr y=>?_) (F.mono λr y h=>⟨_,_,_,ad,h.symm⟩);have:=((C _ _ _ s).leads y).1;rcases E with E|E
  .exact .inl ⟨_,_,_,ad,by show g=r;omega⟩
  .exact .inr Ω
theorem OS{t:p9}{b:Nat}{K:x1->x3->Prop}(a:P.underlying t=σ (.slice e))(hi:aQ P e k b z)(h:∀v g w',g=w.heap.size->Ext w w'->bi f k e w' g v []->K v w'):aD P (Y4 t 0 #[]) w K:=
 kq a hi Ω (cs:=#[]) (by simp[Instr.fill]) λg w' p q r=>by
  exact h _ g w' p q ⟨by simpa using bV.full (k:=k) (n:=0) r Ξ (by simp[maxLen]),λc s=>by cases s⟩
end
theorem xc{α:Type}{A B:List α}{s:Nat}{a:α}(U:s<B.length)(e:A[s]?=σ a):(A.take s++B.drop s).set s a=A.take (s+1)++B.drop (s+1):=by
 have f:=(x4.1 e).1;have h1:(A.take s).length=s:=by rw[n9];omega
 rw[T4 _ _ Ω,h1,U3,X6 U,List.set_cons_zero,u9,e,j5,V0];rfl
theorem DI{α:Type}{A B:List α}{s:Nat}(U:s<=A.length):(A.take s++B.drop s)[s]?=B[s]?:=by
 have h1:(A.take s).length=s:=by rw[n9];omega
 rw[Y6 Ω,h1,U3,List.getElem?_drop,Nat.add_zero]
theorem DJ{g:cK}:∀{l:List cK}{i:Nat},(∀p<i,∀x,l[p]?=σ x->dd x.1<dd g.1)->i<=l.length->(∀x,l[i]?=σ x->¬dd x.1<dd g.1)->hC g l=l.take i++g::l.drop i
 |[],i,_,a,_=>by
  have:i=0:=by simpa using a
  subst this;rfl
 |x::l,0,_,_,e=>by
  unfold hC;rw[if_neg (e x rfl)];rfl
 |x::l,i+1,h1,a,e=>by
  unfold hC;rw[if_pos (h1 0 Ω x rfl),DJ (i:=i) (λp h y f=>h1 (p+1) Ω y f) (by simpa using a) (λy f=>e y f)];rfl
theorem OT{g:Nat}{L:List fs}{h:fs}{s:Nat}{K:Unit->x3->Prop}(f:kI w B g v sizes L)(F:L[j]?=σ h)(U:s<h.cs.length)(X:∀w',ai (λr=>leads h.a6 r) w w'->(∀r,leads h.a6 r->∃c,af w r au c)->kI w' B g v sizes (L.set j {h with cs:=h.cs.set s n})->K () w'):
  ac x7 (c7 ay h.a6 (Δ (s:Int))) w λt=>aD x7 (o8 au t (Δ n)) w K:=by
 obtain⟨h1,O,P,Y⟩:=f;have M:=(x4.1 F).1;obtain⟨Q,Z⟩:=O h (x5 F);obtain⟨_,_,R,G⟩:=id Q;have H:∀r,leads h.a6 r->∃c,af w r au c:=λr f=>by
  obtain⟨rfl,_⟩:=bQ G f;obtain⟨_,⟨ad,_⟩|⟨cap,full,_,A,_⟩⟩:=G
  .obtain⟨a,n,c,e,_⟩:=f;rw[ad]at e;cases e
  .exact⟨_,A⟩
 have aa:∀r,r=R->leads h.a6 r:=λr he=>by
  subst he;obtain⟨_,⟨_,ax⟩|⟨cap,full,e,A,_⟩⟩:=G
  .omega
  .exact⟨_,_,_,e,rfl⟩
 rw[hy rfl ay.u au.i G U];refine hz au.i G U λw' C az ae=>?_;have C:=C.mono (T:=λr=>leads h.a6 r) λr _ he=>aa r he;refine X w' C H ⟨?_,λx J=>?_,λp q x y J ag ah r aj ak=>?_,Y⟩
 .refine OR (h1.ab C λr f U=>?_) ?_
  .obtain⟨c,A⟩:=H r U;exact cO h1 A Φ f
  .rw[U4];symm;refine Y3 λp=>?_;rw[Y9,x8];by_cases z:j=p
   .subst z;rw[if_pos rfl,if_pos (by simpa using M),F];rfl
   .rw[if_neg z]
 .have al:x={h with cs:=h.cs.set s n}\/∃p,p≠j/\L[p]?=σ x:=by
   obtain⟨p,z⟩:=X3.1 J;rw[Y9]at z;by_cases E:j=p
   .subst E;rw[if_pos rfl,if_pos M]at z;exact .inl (b9 z).symm
   .rw[if_neg E]at z;exact .inr ⟨p,λh=>E h.symm,z⟩
  rcases al with rfl|⟨p,am,z⟩
  .obtain⟨⟨g1,S⟩,⟨an,V⟩,_⟩:=Q;refine⟨⟨⟨g1,bu S C λr f U=>?_⟩,⟨an,bu V C λr f U=>?_⟩,R,ae⟩,Z⟩
   .obtain⟨c,A⟩:=H r U;exact b7 S A Φ f rfl
   .obtain⟨c,A⟩:=H r U;exact b7 V A Φ f rfl
  .obtain⟨ao,ap⟩:=O x (x5 z);refine⟨mZ ao C λr f=>.inr (.inr ⟨H r f,λN=>P p j x h z F am r N f⟩),ap⟩
 .have W:∀{p:Nat}{x:fs},(L.set j {h with cs:=h.cs.set s n})[p]?=σ x->∃I,L[p]?=σ I/\I.a6=x.a6:=λ{p x}J=>by
   rw[Y9]at J;by_cases E:j=p
   .subst E;rw[if_pos rfl,if_pos M]at J;cases J;exact⟨h,F,rfl⟩
   .rw[if_neg E]at J;exact⟨x,J,rfl⟩
  obtain⟨I,N,ex⟩:=W J;obtain⟨aq,av,aw⟩:=W ag;exact P p q I aq N av ah r (by rw[ex];exact aj) (by rw[aw];exact ak)
def lv(f:bY)(j:Nat):List cK:=(((fc f).take j).filter fl).foldl (λl g=>hC g l) []
theorem DK{f:bY}{x:cK}(h:(fc f)[j]?=σ x):lv f (j+1)=if fl x then hC x (lv f j)else lv f j:=by
 unfold lv;rw[u9,h,j5,List.filter_append,List.foldl_append];cases U:fl x with
 |true=>rw[List.filter_cons_of_pos U];rfl
 |false=>rw[List.filter_cons_of_neg (by simp[U])];rfl
theorem OU(f:bY):lv f (fc f).length=fm f:=by unfold lv fm;rw[o7]
theorem DL(g:cK):∀l,(hC g l).length=l.length+1
 |[]=>rfl
 |h::l=>by
  unfold hC;split
  .rw[c8,DL g l,c8]
  .rfl
theorem OV{f:bY}(e:j<=(fc f).length):(lv f j).length<=j:=by
 induction j with
 |zero=>simp[lv]
 |succ j a=>
  have:=a Ω;rw[DK (x:=(fc f)[j]) (x6 Ω)];split
  .rw[DL];omega
  .omega
theorem OW{g:Nat}{l:x1}{f:bY}{L:List fs}{Q:x1->x3->Prop}(az:e0 N f)(z:kI w B g l f.sizes L)(aC:L.map dw=fc f)(bO:∀out w' go s,Ext w w'->bi dm 3 bb w' go out s->(∀h∈s,h∈L)->(∀h∈s,fU w' f.sizes h)->s.map dw=fm f->(∀r,leadsTo out r->w.heap.size<=r)->Q out w'):
  ac x7 (W9 #[cT] ah #[l]) w λbQ=>
 cb (.slice ν 0 0) (Δ 0) w λout aE P bT=>
  ac x7 (aM .lss ah false false aE bQ) P λbU=>
  Split bU (cu (α:=x1->x3->Prop) (λ(bV:x1)(R:x3)=>
   ac x7 (aM .add ah false true aE (Δ 1)) R λbW=>
   bT bV bW R) λbe=>
  ac x7 (c7 cT l aE) P λbX=>
  ac x7 (u5 bb bX) P λbZ=>
  aD x7 (Instr.alloc bb true (.tuple #[])) P λak bf=>
  aD x7 (o8 bb ak bZ) bf λ(_:Unit)I=>
  ac x7 (u6 bb ak 2) I λb0=>
  ac x7 (u5 ay b0) I λbh=>
  ac x7 (W9 #[ay] ah #[bh]) I λb1=>
  cb (.bool false) (Δ 0) I λbj aF A b3=>
   ac x7 (aM .lss ah false false aF b1) A λb4=>
   Split b4 (cu (α:=x1->x3->Prop) (λ(b5:x1)(Y:x3)=>
    ac x7 (aM .add ah false true aF (Δ 1)) Y λb7=>
    b3 b5 b7 Y) λbk=>
   ac x7 (c7 ay bh aF) A λb8=>
   ac x7 (u5 au b8) A λb9=>
   Split bj (bk (.bool true) A)
    (ac x7 (aM .gtr au false true b9 (Δ 0)) A λca=>
   bk ca A))
    (ac x7 (Op.unary .not bj) A λcc=>
  Split cc (be out A)
   (ck (Δ 0) A λi an cd=>
   cu (α:=x1->x3->Prop) (λ(ce:x1)(S:x3)=>
    Split ce (ac x7 (aM .add ah false true i (Δ 1)) S λcg=>
   cd cg S)
     (ej S λE=>
  ac x7 (u5 bb ak) E λch=>
  ac x7 (V8 cT out (σ i) ν ν) E λbl=>
  aD x7 (Y4 cT 1 #[(0,ch)]) E λcj Z=>
   (Ext E Z\/cA x7 (V8 cT out (σ i) ν ν) bl Z/\True)/\
  aD x7 (Z0 #[cT,cT] cT #[cj,bl]) Z λcl aG=>
   aD x7 (Y4 cT 0 #[]) aG λcm ao=>
  ac x7 (V8 cT out ν (σ i) ν) ao λcn=>
  aD x7 (Z0 #[cT,cT] cT #[cm,cn]) ao λcp aH=>
  aD x7 (Z0 #[cT,cT] cT #[cp,cl]) aH λcq aI=>
  be cq aI)) λbm=>
   ej an λG=>
   ac x7 (W9 #[cT] ah #[out]) G λcr=>
   ac x7 (aM .lss ah false false i cr) G λct=>
   Split ct (ac x7 (c7 cT out i) G λcw=>
   ac x7 (u5 bb cw) G λcz=>
   ac x7 (u5 bb ak) G λcB=>
   am x7 zJ [cz,cB] G λcC bn=>
    bm cC bn)
    (bm (.bool false) G))))
   (Q out P):=by
 have cD:L.length=(fc f).length:=by rw[<-aC,r8]
 have dj:L.length<=256:=by have:=(kC az).2.2;have:=az.la;omega
 have bo:=(kC az).1;rw[ee cT.u z.1];refine cb.range L.length (λj out V=>∃go s,Ext w V/\bi dm 3 bb V go out s/\(∀h∈s,h∈L)/\s.map dw=lv f j/\∀r,leadsTo out r->w.heap.size<=r) z.1.le
  ⟨0,[],Ext.refl _,bi.nil _ _ _ _ _,λh aB=>(by cases aB),rfl,λr z=>(e1 z).elim⟩ ?_ ?_
 rotate_left
 .rintro out V cF ⟨go,s,bp,aa,K,ad,aL⟩;rw[aR,al];refine⟨λh=>Ω,λ_=>bO _ _ go s bp aa K (λh aB=>((z.ext bp).2.1 h (K h aB)).1) ?_ aL⟩;rw[ad,cD,OU]
 rintro j out P cF bq ⟨go,s,ap,aa,K,ad,aL⟩ cG;obtain⟨h,aB⟩:=aJ (l:=L) bq;have hm:(fc f)[j]?=σ (dw h):=by rw[<-aC,x8,aB];rfl
 have cH:=bo _ (x5 hm);have dk:s.length<=256:=by
  have:=OV (f:=f) (j:=j) Ω;rw[<-ad,r8]at this;omega
 have ae:=z.ext ap;obtain⟨aO,_⟩:=ae.2.1 h (x5 aB);obtain⟨_,_,dl,cI⟩:=id aO;refine bM Ω ?_;refine aV (λaP R=>∃aQ af,Ext w R/\bi dm 3 bb R aQ aP af/\(∀h∈af,h∈L)/\af.map dw=lv f (j+1)/\∀r,leadsTo aP r->w.heap.size<=r) ?_ ?_
 .rintro aP R ⟨aQ,af,h1,cJ,cK,cL,cM⟩;rw[aN];exact cG _ _ ⟨aQ,af,h1,cJ,cK,cL,cM⟩
 intro aA ai;rw[dr rfl cT.u bb.i ae.1 bq,bP bb.p bb.i rfl (ae.1.range aB)];refine bx bb.i λbr bf dn cN cO=>?_;refine ci (vs:=dm h) bb.i rfl rfl aO.one cO λI cP dp bt=>?_;have bu:Ext P I:=cN.put cP Ω;have aS:=cI.ext bu;rw[aT bb.p 2 bt rfl,aX ay.u aS.ls];refine cb.range h.cs.length (λq sv A=>Ext I A/\sv= .bool ((h.cs.take q).any λc=>decide (0<c))) aS.ls.le ⟨Ext.refl _,rfl⟩ ?_ ?_
 .rintro q _ A cQ cR ⟨W,rfl⟩ cS;obtain⟨c,bw⟩:=aJ (l:=h.cs) cR;have e:(h.cs.take (q+1)).any (λc=>decide (0<c))=((h.cs.take q).any (λc=>decide (0<c))||decide (0<c)):=by
   rw[u9,bw,j5,List.any_append];simp
  refine bM Ω ?_;refine aV (λsv Y=>Ext I Y/\sv= .bool ((h.cs.take (q+1)).any λc=>decide (0<c))) ?_ ?_
  .rintro _ Y ⟨cU,rfl⟩;rw[aN];exact cS _ _ ⟨cU,rfl⟩
  intro aA ai;rw[bg ay.u au.i Ψ (aS.ext W).ls bw,b2];refine⟨λcV=>ai _ _ ⟨W,by rw[e,cV];rfl⟩,λag=>?_⟩;rw[bL];exact ai _ _ ⟨W,by rw[e,ag];rfl⟩
 rintro _ A cQ ⟨W,rfl⟩;have bz:=bt.ext W;have O:=bu.trans W;rw[o7];refine cE Ω ?_;rw[bH,b2];have aq:=DK hm;have cW:(h.cs.any λc=>decide (0<c))=fl (dw h):=rfl;rw[cW];refine⟨λaU=>?_,λU=>?_⟩
 .have aU:fl (dw h)=false:=by simpa using aU
  rw[aU]at aq;exact ai _ _ ⟨go,s,ap.trans O,aa.ext O,K,by rw[ad,aq];rfl,aL⟩
 have U:fl (dw h)=true:=by simpa using U
 rw[U,if_pos rfl]at aq;refine⟨λaW an=>∃i:Nat,aW=Δ (i:Int)/\i<=s.length/\Ext A an/\∀p<i,∀x,s[p]?=σ x->dd x.sc<dd h.sc,λaW _=>s.length-(bS aW).toNat,⟨0,rfl,X4 _,Ext.refl _,λp aY=>Ω⟩,?_⟩;rintro _ an ⟨i,rfl,hi,cX,aZ⟩;refine aV (λaK S=>Ext A S/\((aK= .bool true/\i<s.length/\∀x,s[i]?=σ x->dd x.sc<dd h.sc)\/(aK= .bool false/\∀x,s[i]?=σ x->¬dd x.sc<dd h.sc))) ?_ ?_
 rotate_left
 .intro dq a2;intro G cY _ _;have X:=cX.trans cY;have a6:=aa.ext (O.trans X);rw[ee cT.u a6,aR,al];refine⟨λaZ=>?_,λds=>a2 _ _ ⟨X,.inr ⟨rfl,λx J=>absurd (x4.1 J).1 Ω⟩⟩⟩;obtain⟨x,J⟩:=aJ (l:=s) (i:=i) Ω;have bA:=K x (x5 J);have cZ:jt x.sc:=(bo (dw x) (by rw[<-aC];exact j4.2 ⟨x,bA,rfl⟩)).scope;have bB:=ae.ext (O.trans X);rw[dr rfl cT.u bb.i a6 Ω,bP bb.p bb.i rfl (a6.range J),bP bb.p bb.i rfl (show G.rangeAt br 0 (dm h)from(bz.ext X).range)];refine(OQ (bB.2.1 x bA).1 (bB.2.1 h (x5 aB)).1 cZ cH.scope).mono ?_;rintro _ bn _ ⟨rfl,bC⟩;by_cases av:dd x.sc<dd h.sc
  .rw[decide_eq_true av];exact a2 _ _ ⟨X.trans bC,.inl ⟨rfl,Ω,λy C=>by rw[J]at C;cases C;exact av⟩⟩
  .rw[decide_eq_false av];exact a2 _ _ ⟨X.trans bC,.inr ⟨rfl,λy C=>by rw[J]at C;cases C;exact av⟩⟩
 rintro _ S ⟨bD,⟨rfl,dt,c0⟩|⟨rfl,c1⟩⟩
 .rw[bR,aN,wrap_i64 Ω Ω];refine⟨⟨i+1,rfl,Ω,bD,λp aY x J=>?_⟩,by simp only[bS];omega⟩;by_cases c2:p=i
  .subst c2;exact c0 x J
  .exact aZ p Ω x J
 .rw[a1];intro E c3 _ _;have aj:=bD.trans c3;have aw:=aa.ext (O.trans aj);have c4:=ae.ext (O.trans aj);have a7:∀x∈s,∀u∈dm x,u.oneCell'=true:=λx J=>(c4.2.1 x (K x J)).1.one;have c5:∀u∈dm h,u.oneCell'=true:=aO.one;rw[bP bb.p bb.i rfl (show E.rangeAt br 0 (dm h)from(bz.ext aj).range)];refine DH (h':=s.length) cT.u bb.i aw (nF i _ rfl) jj hi (o4 _) λdu bE=>?_;refine hE (f:=dm) (k:=3) (a:=h) cT.u bb.i Ω rfl rfl λdv dx Z dy a8 bF=>?_;refine⟨.inl a8,?_⟩;have c6:(s.drop i).take (s.length-i)=s.drop i:=b6 (by rw[List.length_drop];omega);rw[c6]at bE;refine tP (M:=s.drop i) cT.u bb.i rfl bF (bE Z (aw.ext a8)) (λ_ _=>rfl) (λa H=>a7 a (List.mem_of_mem_drop H)) Θ Θ λdz dA aG ba dC c8=>?_;have bG:Ext E aG:=a8.then c8 λr z he=>by have:=(bF.leads he).1;omega
  refine OS (f:=dm) (k:=3) cT.u bb.i λdD dE ao dF bc ax=>?_;have bd:=bG.trans bc;refine DH (h':=i) cT.u bb.i (aw.ext bd) ji (nG i _ rfl) (X4 _) hi λdG bI=>?_;rw[List.drop_zero,Nat.sub_zero]at bI;refine tP (M:=s.take i) cT.u bb.i rfl ax (bI ao (aw.ext bd)) (λ_ _=>rfl) (λa H=>a7 a (List.mem_of_mem_take H)) Θ Θ λc9 dH aH da db bJ=>?_;have dI:=bG.size;have dJ:=bc.size;have dc:=(ba.ext bc).ab bJ λr z U=>by have:=(ba.leads z).1;have:=(ba.leads z).2;have:=(ax.leads U).1;omega
  refine tP (M:=[h]++s.drop i) cT.u bb.i rfl da dc.sl (λ_ _=>rfl) (λa H=>?_) Θ Θ λdK de aI df dg dh=>?_
  .rcases o5.1 H with H|H
   .rw[o9.1 H];exact c5
   .exact a7 a (List.mem_of_mem_drop H)
  have bK:Ext E aH:=bd.then bJ λr z he=>by have:=(ax.leads he).1;omega
  have bN:∀r,leadsTo c9 r->E.heap.size<=r:=λr z=>(db r z).elim (λh=>by have:=(ax.leads h).1;omega) λh=>Ω
  have di:Ext E aI:=bK.then dh λr z he=>by have:=bN r he;omega
  have dL:=(ap.trans (O.trans aj)).size;have dM:=bK.size;refine ai _ _ ⟨de,_,(ap.trans (O.trans aj)).trans di,df,λx J=>?_,?_,λr z=>(dg r z).elim (λh=>by have:=bN r h;omega) λh=>Ω⟩
  .rcases o5.1 J with J|J
   .exact K x (List.mem_of_mem_take (by simpa using J))
   .rcases o5.1 J with J|J
    .rw[o9.1 J];exact x5 aB
    .exact K x (List.mem_of_mem_drop J)
  .rw[aq,<-ad,DJ (i:=i) (λp aY x J=>?_) (by simpa using hi) (λx J=>?_)]
   .simp
   .rw[x8]at J;cases C:s[p]? with
    |none=>rw[C]at J;cases J
    |some y=>rw[C]at J;cases J;exact aZ p aY y C
   .rw[x8]at J;cases C:s[i]? with
    |none=>rw[C]at J;cases J
    |some y=>rw[C]at J;cases J;exact c1 y C
def OX(w:x3)(f:bY)(v:x1)(w':x3):Prop:=Ext w w'/\∃go a,bi dm 3 bb w' go v a/\(∀h∈a,fU w' f.sizes h/\∀r,pF h r->w.heap.size<=r)/\a.map dw=fm f/\∀r,leadsTo v r->w.heap.size<=r
def lx(k:Int)(sc cs:Λ)(h:cK):cK:=if h.1=sc then(h.1,dV k h.2 cs)else h
theorem OY{bI:Nat}{f:bY}(cI:ol w bI f)(Q:e0 N f):am x7 Hy [Γ bI] w (OX w f):=by
 have hk:=Q.k;obtain⟨szv,gz,av,gr,a2,bJ,cJ⟩:=id cI;obtain⟨bK,a7,cK,cL⟩:=id cJ;refine az func132 ?_;rw[aS dF.p 3 a2 rfl,ee dB.u a7];refine cb.range bK.length (λi l V=>∃g L,Ext w V/\kI V w.heap.size g l f.sizes L/\L.map dw=eG f i) a7.le
  ⟨0,[],Ext.refl _,⟨bi.nil _ _ _ _ _,λh aB=>(by cases aB),λi j x y J=>(by simp at J),λr C=>(e1 C).elim⟩,rfl⟩ ?_ ?_
 rotate_left
 .rintro l V cM ⟨g,L,R,C,S⟩;rw[<-cK,C2]at S;rw[aR,al];refine⟨λh=>Ω,λ_=>OW Q C S λout w' go cN J ba cO W cP cQ=>?_⟩;have cR:=R.size;exact⟨R.trans J,go,cN,ba,λh aB=>⟨W h aB,(C.2.1 h (cO h aB)).2⟩,cP,λr C=>by have:=cQ r C;omega⟩
 rintro i l V cM hi ⟨g,L,R,C,S⟩ cS;obtain⟨bc,bL⟩:=aJ (l:=bK) hi;obtain⟨x,bd⟩:=aJ (l:=f.funs) (i:=i) Ω;have be:=x5 bd;have bf:=cL i bc x bL bd;have bN:=px Q be;obtain⟨cU,dK,dL⟩:=C1 Q i;have bO:L.length=(eG f i).length:=by rw[<-S,r8]
 have dM:=Q.la;have bR:=a7.ext R;refine bM Ω ?_;refine aV (λl' aa=>∃g L,Ext w aa/\kI aa w.heap.size g l' f.sizes L/\L.map dw=eG f (i+1)) ?_ ?_
 .rintro l' aa bh;rw[aN];exact cS _ _ bh
 intro aA bS;rw[dr rfl dB.u a8.i bR hi,bP a8.p a8.i rfl (bR.range bL)];refine bx a8.i λao dN dO cV cW=>?_;refine ci (vs:=eU bc) a8.i rfl rfl bf.one cW λcX cY dP cZ=>?_;have bT:Ext V cX:=cV.put cY Ω;have dQ:=bT.size;refine aV (λaY aw=>∃G c,aY=Γ G/\Ext V aw/\af aw G bb (dm c)/\c.sc=bo x.scope/\c.cs=(hX f.sizes f.k x).2/\fU aw f.sizes c/\V.heap.size<=G/\∀r,pF c r->V.heap.size<=r) ?_ ?_
 rotate_left
 .intro dR bU;intro c0 bV _ _;have aC:=bT.trans bV;have aD:=R.trans aC;have c1:=cZ.ext bV;have bW:=a2.ext aD;have dT:=aC.size;rw[bP a8.p a8.i rfl (show c0.rangeAt ao 0 (eU bc)from c1.range),aS dF.p 2 bW rfl,aS dF.p 1 bW rfl];refine⟨?_,?_⟩
  .refine (DF (bf.ext aD) Q be (bJ.ext aD)).mono ?_;rintro _ dU _ ⟨bj,c,rfl,h1,bk,W,M⟩;refine bx bb.i λG dW bZ bl aE=>?_;refine⟨.inl (bj.trans bl),?_⟩;refine ci (vs:=dm c) bb.i rfl rfl W.one aE λdX b0 dY c2=>?_;have dZ:=bj.size;refine bU _ _ ⟨G,c,rfl,(aC.trans bj).trans (bl.then b0 λr C he=>by have he:r=G:=he;omega),c2,h1,bk,?_,Ω,λr C=>by have:=M r C;omega⟩;exact mZ (W.ext bl) b0 λr C=>.inl ⟨_,_,by have C:r=G:=C;subst C;exact aE,Φ,Φ⟩
  .refine bx bb.i λG ea bZ aF aE=>?_;refine⟨.inl aF,?_⟩;have b1:=aD.trans aF;refine(DF (bf.ext b1) Q be (bJ.ext b1)).mono ?_;rintro _ eb _ ⟨b3,c,rfl,h1,bk,W,M⟩;have b4:=aE.ext b3;have ec:=aF.size;refine ci (vs:=dm c) bb.i rfl rfl W.one b4 λed b5 ef c3=>?_;refine bU _ _ ⟨G,c,rfl,aC.trans ((aF.trans b3).then b5 λr C he=>by have he:r=G:=he;omega),c3,h1,bk,?_,Ω,λr C=>by have:=M r C;omega⟩;exact mZ W b5 λr C=>.inl ⟨_,_,by have C:r=G:=C;subst C;exact b4,Φ,Φ⟩
 rintro _ aw ⟨G,c,rfl,bm,c4,ai,aG,c5,bZ,M⟩;have b7:=C.ext bm;have c6:∀h∈L,∀r,leads h.a6 r->r<V.heap.size:=λh aB r c7=>by
  obtain⟨⟨_,_,c8,b8⟩,_⟩:=C.2.1 h aB;have:=bQ b8 c7;omega
 have da:∀{j:Nat},decide (c.sc∈(L.take j).map (·.sc))=decide (bo x.scope∈((eG f i).take j).map (·.1)):=λ{j}=>by
  rw[ai,<-S,<-List.map_take,S9];rfl
 have cR:=R.size;rw[ee cT.u b7.1];refine cb.range L.length (λj av O=>∃E,av= .bool (decide (c.sc∈(L.take j).map (·.sc)))/\Ext w O/\V.heap.size<=O.heap.size/\kI O w.heap.size g l f.sizes E/\E.map dw=((eG f i).map (lx f.k c.sc c.cs)).take j++(eG f i).drop j/\af O G bb (dm c)/\fU O f.sizes c/\∀h∈E,∀r,leads h.a6 r->r<V.heap.size) C.1.le
  ⟨L,Ξ,R.trans bm,bm.size,b7,by simpa using S,c4,c5,c6⟩ ?_ ?_
 .rintro j _ O db ca ⟨E,rfl,aj,dc,aH,K,bn,bp,X⟩ dd;have de:E.length=L.length:=by
   have:=congrArg S3 K;simp only[r8,r9,n9,List.length_drop]at this;omega
  obtain⟨h,aB⟩:=aJ (l:=E) (i:=j) Ω;have aI:(eG f i)[j]?=σ (dw h):=by
   have cc:(E.map dw)[j]?=σ (dw h):=by rw[x8,aB];rfl
   rw[K,DI (by rw[r8];omega)]at cc;exact cc
  have aK:((eG f i).map (lx f.k c.sc c.cs))[j]?=σ (lx f.k c.sc c.cs (dw h)):=by rw[x8,aI];rfl
  have df:∃y,L[j]?=σ y/\y.sc=h.sc:=by
   refine⟨_,x6 ca,?_⟩;rw[<-S,x8,x6 ca]at aI;exact congrArg Prod.fst (b9 aI)
  obtain⟨y,I,dg⟩:=df;have bq:(c.sc∈(L.take (j+1)).map (·.sc))↔c.sc∈(L.take j).map (·.sc)\/h.sc=c.sc:=by
   rw[u9,I,j5,Z4,o5,List.map_singleton,o9,dg];exact or_congr Iff.rfl ⟨λe=>e.symm,λe=>e.symm⟩
  have cd:fP f.sizes f.k (dw h):=cU _ (x5 aI);refine bM Ω ?_;refine aV (λav P=>∃E,av= .bool (decide (c.sc∈(L.take (j+1)).map (·.sc)))/\Ext w P/\V.heap.size<=P.heap.size/\kI P w.heap.size g l f.sizes E/\E.map dw=((eG f i).map (lx f.k c.sc c.cs)).take (j+1)++(eG f i).drop (j+1)/\af P G bb (dm c)/\fU P f.sizes c/\∀h∈E,∀r,leads h.a6 r->r<V.heap.size) ?_ ?_
  .rintro eg P bh;rw[aN];exact dd _ _ bh
  intro eh ce;intro dh ak _ _;have aM:=aH.ext ak;have cg:=bn.ext ak;have ch:=bp.ext ak;obtain⟨di,ei⟩:=aM.2.1 h (x5 aB);obtain⟨⟨g1,h1⟩,_,c8,b8⟩:=id di;obtain⟨⟨ej,dj⟩,_,ek,cj⟩:=id ch;rw[dr rfl cT.u bb.i aM.1 Ω,aU bb.p rfl,ax (v:=h.aL) Ψ (aM.1.range aB 0 _ rfl),aT bb.p 0 cg rfl];refine(Kl h1.ls dj.ls).mono ?_;rintro _ em _ ⟨rfl,ac⟩;have cl:=aM.ext ac;have br:=cg.ext ac;have cm:=ch.ext ac;have cn:=(aj.trans ak).trans ac;have z9:=(ak.trans ac).size;rw[al];refine⟨λbt=>?_,λcp=>?_⟩
  rotate_left
  .refine ce _ _ ⟨E,?_,cn,Ω,cl,?_,br,cm,X⟩
   .congr 1;exact decide_eq_decide.2 ⟨λh=>bq.2 (.inl h),λh=>(bq.1 h).resolve_right cp⟩
   .have e:lx f.k c.sc c.cs (dw h)=dw h:=if_neg cp;rw[e]at aK;rw[<-xc Ω aK,<-K];symm;refine Y3 λp=>?_;rw[Y9];by_cases an:j=p
    .subst an;rw[if_pos rfl,if_pos Θ,x8,aB];rfl
    .rw[if_neg an]
  have dk:h.cs.length=c.cs.length:=by
   have dl:h.cs.length=_:=cd.len;have dn:c.cs.length=(aO (bX f.sizes (hX f.sizes f.k x).1)).toNat:=by rw[aG];exact bN.len
   rw[dl,dn,show(dw h).1=h.sc from rfl,bt,ai];rfl
  have en:(dV f.k h.cs c.cs).length=h.cs.length:=by unfold dV;rw[List.length_zipWith];omega
  rw[aT bb.p 2 br rfl,aX ay.u (cj.ext ac).ls];refine ck.range c.cs.length (λs Y=>Ext w Y/\V.heap.size<=Y.heap.size/\kI Y w.heap.size g l f.sizes (E.set j {h with cs:=(dV f.k h.cs c.cs).take s++h.cs.drop s})/\af Y G bb (dm c)/\fU Y f.sizes c) cj.ls.le
   ⟨cn,Ω,?_,br,cm⟩ ?_ ?_
  .have e:E.set j {h with cs:=(dV f.k h.cs c.cs).take 0++h.cs.drop 0}=E:=by
    refine Y3 λp=>?_;rw[Y9];by_cases an:j=p
    .subst an;rw[if_pos rfl,if_pos Ω,aB];rfl
    .rw[if_neg an]
   rw[e];exact cl
  .rintro s Y dp U ⟨bu,cq,aP,bw,bz⟩ dq;refine bM Ω ?_;intro eo ap _ _;have ad:=aP.ext ap;have cr:=bw.ext ap;have ct:=bz.ext ap;have cu:=bu.trans ap;have aQ:(E.set j {h with cs:=(dV f.k h.cs c.cs).take s++h.cs.drop s})[j]?=σ {h with cs:=(dV f.k h.cs c.cs).take s++h.cs.drop s}:=by
    rw[Y9,if_pos rfl,if_pos Ω]
   have cw:j<(E.set j {h with cs:=(dV f.k h.cs c.cs).take s++h.cs.drop s}).length:=by rw[c9];omega
   obtain⟨⟨_,_,ds,bA⟩,dt⟩:=ad.2.1 _ (x5 aQ);obtain⟨_,_,ep,du⟩:=id ct;obtain⟨a,bB⟩:=aJ (l:=h.cs) (i:=s) Ω;obtain⟨b,aq⟩:=aJ (l:=c.cs) U;have dv:s<({h with cs:=(dV f.k h.cs c.cs).take s++h.cs.drop s}:fs).cs.length:=by show s<((dV f.k h.cs c.cs).take s++h.cs.drop s).length;rw[r9,n9,List.length_drop];omega
   have dx:((dV f.k h.cs c.cs).take s++h.cs.drop s)[s]?=σ a:=by rw[DI Ω];exact bB
   have bC:(dV f.k h.cs c.cs)[s]?=σ (min (a+b) f.k):=by
    unfold dV;rw[List.getElem?_zipWith,bB,aq]
   have er:=cd.h0 a (x5 bB);have es:=bN.h0 b (by rw[<-aG];exact x5 aq);have dy:=a2.ext cu;rw[dr rfl cT.u bb.i ad.1 cw,aU bb.p rfl,ax (v:=h.a6) Ψ (ad.1.range aQ 2 _ rfl),dr rfl cT.u bb.i ad.1 cw,aU bb.p rfl,ax (v:=h.a6) Ψ (ad.1.range aQ 2 _ rfl),bg ay.u au.i Ψ bA.ls dx,aT bb.p 2 cr rfl,bg ay.u au.i Ψ du.ls aq,aS dF.p 1 dy rfl];refine(pm Ω Ω).mono ?_;rintro _ et _ ⟨rfl,ae⟩;refine⟨.inl ae,?_⟩;have z12:=(ap.trans ae).size;refine OT (h:={h with cs:=(dV f.k h.cs c.cs).take s++h.cs.drop s}) (ad.ext ae) aQ dv λeu aW cz bD=>?_;rw[aN];have dz:=ct.ext ae;have cA:=cr.ext ae;have ev:=aW.size;refine dq _ ⟨(cu.trans ae).then aW λr C he=>by have:=dt r (.inl he);omega,Ω,?_,?_,?_⟩
   .rw[List.set_set]at bD;have e:=xc (A:=dV f.k h.cs c.cs) (B:=h.cs) (s:=s) Ω bC;simp only[e]at bD;exact bD
   .exact cA.ab aW λU=>by
     obtain⟨ew,dA⟩:=cz _ U;exact absurd (eH cA dA) Φ
   .refine mZ dz aW λr C=>.inr (.inr ⟨cz r C,λdC=>?_⟩);have:=M r (.inl dC);have:=X h (x5 aB) r C;omega
  .rintro Y dp ⟨bu,cq,aP,bw,bz⟩;refine cE Ω ?_;have e:(dV f.k h.cs c.cs).take c.cs.length++h.cs.drop c.cs.length=dV f.k h.cs c.cs:=by
    rw[<-dk,List.drop_length,W8,b6 Ω]
   simp only[e]at aP;refine ce _ _ ⟨_,?_,bu,cq,aP,?_,bw,bz,λz H r C=>?_⟩
   .congr 1;symm;exact decide_eq_true (bq.2 (.inr bt))
   .have dD:lx f.k c.sc c.cs (dw h)=dw {h with cs:=dV f.k h.cs c.cs}:=if_pos bt;rw[dD]at aK;rw[U4,K,xc Ω aK]
   .rcases X9 H with H|rfl
    .exact X z H r C
    .exact X h (x5 aB) r C
 rintro _ O db ⟨E,rfl,aj,dc,aH,K,bn,bp,X⟩;refine cE Ω ?_;rw[da,bO,o7,bH,b2];have cB:=wO bd;have bC:((eG f i).map (lx f.k c.sc c.cs)).take L.length++(eG f i).drop L.length=(eG f i).map (lx f.k c.sc c.cs):=by
  rw[bO,List.drop_length,W8,b6 (by rw[r8];exact o4 _)]
 rw[bC]at K;have de:E.length=L.length:=by
  have:=congrArg S3 K;rw[r8,r8]at this;omega
 refine⟨λaZ=>?_,λag=>?_⟩
 .have aZ:bo x.scope∉(eG f i).map (·.1):=by simpa using aZ
  have dE:(eG f i).map (lx f.k c.sc c.cs)=eG f i:=by
   refine(List.map_congr_left λz H=>?_).trans (List.map_id _);exact if_neg λhe=>aZ (j4.2 ⟨z,H,by rw[he,ai]⟩)
  rw[dE]at K;rw[bP bb.p bb.i rfl (show O.rangeAt G 0 (dm c)from bn.range)];refine hE (f:=dm) (k:=3) (a:=c) cT.u bb.i Ω rfl rfl λey ds P ez a1 bA=>?_;have Z:=aH.ext a1;have cC:=bp.ext a1;refine io (f:=dm) (a:=c) cT.u bb.i rfl Z.1 (by simpa using bA.sl) cC.one Ω Ω λeA dG dh ba dH bE=>?_;have cD:∀r,leadsTo l r->∃e c,af P r e c/\e≠ah/\e≠au:=λr C=>by
   obtain⟨rfl,c,aq⟩:=dS Z.1 C;exact⟨_,c,aq,Φ,Φ⟩
  have eB:=a1.size;have eC:=aj.size;refine bS _ _ ⟨dG,E++[c],(aj.trans a1).then bE λr C he=>by have:=Z.2.2.2 r he;omega,⟨ba,λz H=>?_,λp q y z I H dI r bF bG=>?_,λr C=>(dH r C).elim (Z.2.2.2 r) λh=>Ω⟩,?_⟩
  .rcases o5.1 H with H|H
   .exact⟨mZ (Z.2.1 z H).1 bE λr C=>.inl (cD r C),(Z.2.1 z H).2⟩
   .rw[o9.1 H];exact⟨mZ cC bE λr C=>.inl (cD r C),λr C=>by have:=M r C;omega⟩
  .have cF:∀{p:Nat}{y:fs},(E++[c])[p]?=σ y->E[p]?=σ y\/(p=E.length/\y=c):=λ{p y}I=>by
    rw[List.getElem?_append]at I;split at I
    .exact .inl I
    .by_cases dJ:p-E.length=0
     .rw[dJ]at I;cases I;exact .inr ⟨Ω,rfl⟩
     .rw[Z2 Θ]at I;cases I
   rcases cF I with cG|⟨eD,rfl⟩<;>rcases cF H with cH|⟨eq,rfl⟩
   .exact Z.2.2.1 p q y z cG cH dI r bF bG
   .have:=X y (x5 cG) r bF;have:=M r (.inl bG);omega
   .have:=X z (x5 cH) r bG;have:=M r (.inl bF);omega
   .omega
  .rw[Z4,K,cB,C0 λz H he=>aZ (j4.2 ⟨z,H,he⟩)];show _++[(c.sc,c.cs)]=_;rw[ai,aG];rfl
 .have ag:bo x.scope∈(eG f i).map (·.1):=by simpa using ag
  refine bS _ _ ⟨g,E,aj,aH,?_⟩;rw[K,cB];unfold il;rw[if_pos (show(hX f.sizes f.k x).1∈_ from ag)];refine List.map_congr_left λz _=>?_;unfold lx;rw[ai,aG];rfl
def xd(w:x3)(B:Nat)(v:x1)(n:aF):Prop:=∃szv gz a f aW e gr L,v= .agg #[Δ n.k,szv,Δ n.zero,a,e]/\av .i64 ah w gz szv n.sizes/\hG w f a aW/\aW.map (·.l)=n.unary/\bi dm 3 bb w gr e L/\(∀h∈L,fU w n.sizes h)/\L.map dw=n.funs/\(∀r,leads szv r->B<=r)/\∀h∈L,∀r,pF h r->B<=r
def z9:List x1:=[Δ 0,.slice ν 0 0,Δ 0,.slice ν 0 0,.slice ν 0 0]
def m4(w:x3)(C gt gs go:Nat)(szv a6:x1)(f:bY)(a:List fs)(w':x3):Prop:=Ext w w'/\C<=w'.heap.size/\af w' gt dE z9/\av .i64 ah w' gs szv f.sizes/\bi dm 3 bb w' go a6 a/\(∀r,leadsTo a6 r->r<C)/\∀h∈a,fU w' f.sizes h
theorem m4.ext{C gt go:Nat}{a6:x1}{f:bY}{a:List fs}(h:m4 w C gt gs go szv a6 f a w')(J:Ext w' aa):m4 w C gt gs go szv a6 f a aa:=by
 obtain⟨h1,z,e,p,q,r,s⟩:=h;have:=J.size;exact⟨h1.trans J,Ω,e.ext J,p.ext J,q.ext J,r,λx y=>(s x y).ext J⟩
def OZ(w w':x3)(C gt:Nat)(r:Nat):Prop:=w.heap.size<=r/\r≠gt/\((∃c,af w' r dE c)\/(∃c,af w' r ay c)\/((∃c,af w' r bb c)/\C<=r))
theorem m4.ab{C gt go:Nat}{a6:x1}{f:bY}{z:List fs}(h:m4 w C gt gs go szv a6 f z w')(q:ai S w' aa)(s:∀r,S r->OZ w w' C gt r):m4 w C gt gs go szv a6 f z aa:=by
 obtain⟨h1,I,F,A,y,B,G⟩:=h;have:=q.size;have E:∀r,S r->∃e c,af w' r e c/\e≠ah/\e≠au:=λr p=>by
  obtain⟨_,_,⟨c,a⟩|⟨c,a⟩|⟨⟨c,a⟩,_⟩⟩:=s r p
  .exact⟨_,c,a,Φ,Φ⟩
  .exact⟨_,c,a,Φ,Φ⟩
  .exact⟨_,c,a,Φ,Φ⟩
 refine⟨h1.then q λr p U=>by have:=(s r U).1;omega,Ω,F.ab q λU=>(s _ U).2.1 rfl,bu A q λr p U=>?_,y.ab q λr p U=>?_,B,λx J=>mZ (G x J) q λr p=>.inl (E r p)⟩
 .obtain⟨e,c,a,H,_⟩:=E r U;exact b7 A a (λhe=>H he.symm) p rfl
 .obtain⟨_,_,⟨c,a⟩|⟨c,a⟩|⟨_,K⟩⟩:=s r U
  .exact cO y a Φ p
  .exact cO y a Φ p
  .have:=B r p;omega
def DM(w:x3)(C f:Nat)(szv:x1)(k:Int)(n:aF)(p:List fs)(w':x3):Prop:=∃a q aW e gr L,af w' f dE [Δ k,szv,Δ n.zero,a,e]/\hG w' q a aW/\aW.map (·.l)=n.unary/\(∀r,leadsTo a r->w.heap.size<=r)/\bi dm 3 bb w' gr e L/\(∀h∈L,h∈p)/\L.map dw=n.funs/\∀r,leadsTo e r->C<=r
theorem DN{b0:Nat}{f:bY}(b1:ol w b0 f)(P:e0 N f):am x7 GO [Γ b0] w λv w'=>Ext w w'/\xd w' w.heap.size v (cR f):=by
 have hk:=P.k;have dA:=P.sizes.2.1;obtain⟨dC,dD,dH,dI,b2,b3,dJ⟩:=id b1;refine az func60 ?_;refine bx dE.i λgt V dK aR aV=>?_;have aV:af V gt dE z9:=aV;rw[aS dF.p 1 (b2.ext aR) rfl,cW (cs:=#[Δ f.k,.slice ν 0 0,Δ 0,.slice ν 0 0,.slice ν 0 0]) Ψ];refine bx dE.i λA aa dL b4 cK=>?_;refine ci (vs:=[Δ f.k,.slice ν 0 0,Δ 0,.slice ν 0 0,.slice ν 0 0]) dE.i rfl rfl (by intro u hu;simp at hu;rcases hu with rfl|rfl|rfl|rfl<;>rfl) cK λcL b5 dM cM=>?_;have bz:Ext w cL:=(aR.trans b4).then b5 λr q he=>by have he:r=A:=he;have:=aR.size;omega
 have dN:=aV.lt;have E:A≠gt:=Ω
 have cN:=(aV.ext b4).ab b5 λhe=>by have he:gt=A:=he;omega
 rw[aS dF.p 2 (b2.ext bz) rfl,aX ay.u (b3.ext bz).ls];have dO:=aR.size;refine ck.range f.sizes.length (λi S=>Ext w S/\af S gt dE z9/\∃szv gs B H aW,af S A dE [Δ f.k,szv,Δ 0,B,.slice ν 0 0]/\av .i64 ah S gs szv (f.sizes.take i)/\(∀r,leads szv r->w.heap.size<=r)/\hG S H B aW/\aW.map (·.l)=(f.sizes.take i).map (λz=>p8 z.toNat 0)/\∀r,leadsTo B r->w.heap.size<=r) Ω
  ⟨bz,cN,_,0,_,0,[],cM,av.nil _ _ _ _,(λr q=>by obtain⟨a,n,c,cP,dP⟩:=q;cases cP),⟨bi.nil _ _ _ _ _,λx J=>(by cases J)⟩,rfl,λr q=>(e1 q).elim⟩ ?_ ?_
 .rintro i S cQ hi ⟨W,bA,szv,gs,B,H,aW,aF,aY,aZ,bB,aG,a1⟩ cS;obtain⟨z,C⟩:=aJ (l:=f.sizes) hi;have dQ:=P.sizes.2.2 z (x5 C);have dR:aW.length=i:=by have:=congrArg S3 aG;simp only[r8,n9]at this;omega
  refine bM Ω ?_;rw[bg ay.u au.i Ψ (b3.ext W).ls C,aT dE.p 1 aF rfl];refine et (k:=.i64) an.u ah.i rfl λa5 dT b6 dU ak cU=>?_;have aH:=aY.ext ak;refine hJ an.u ah.i rfl aH cU.ls Θ Θ λbC b8 dV a2 cV b9=>?_;have bD:=aF.ext ak;have ca:=bA.ext ak;have cb:=bD.ab b9 λhe=>b7 aH bD Φ he rfl;rw[aU dE.p rfl];refine bl (g:=A) (o:=1) an.i a2.ls.cells.1 a2.ls.cells.2 cb Ξ λa7 cc dW a8=>?_;have a8:af a7 A dE [Δ f.k,bC,Δ 0,B,.slice ν 0 0]:=a8;have bE:ai (λr=>leads szv r\/r=A) b6 a7:=(b9.mono λr _ h=>.inl h).trans (cc.mono λr _ h=>.inr h);have cX:av .i64 ah a7 b8 bC (f.sizes.take (i+1)):=by
   rw[u9,C];exact bu a2 cc λr q he=>by
    have he:r=A:=he;subst he;exact b7 a2 cb Φ q rfl
  have ao:∀r,(leads szv r\/r=A)->∃e c,af b6 r e c/\e≠au/\e≠ay:=λr q=>by
   rcases q with q|rfl
   .obtain⟨rfl,_⟩:=bQ aH q;obtain⟨_,⟨ad,_⟩|⟨cap,full,_,s,_⟩⟩:=aH
    .obtain⟨a,n,c,e,_⟩:=q;rw[ad]at e;cases e
    .exact⟨_,_,s,Φ,Φ⟩
   .exact⟨_,_,bD,Φ,Φ⟩
  have cY:=(bB.ext ak).ab bE ao;have z4:=W.size;have z5:=ak.size;have cd:Ext w a7:=(W.trans ak).then bE λr q he=>by
   rcases he with he|he
   .have:=aZ r he;omega
   .omega
  have cZ:=ca.ab bE λU=>by
   rcases U with U|U
   .exact b7 aH ca Φ U rfl
   .omega
  intro dX ce _ _;have c0:=a8.ext ce;rw[aT dE.p 3 c0 rfl];obtain⟨X,rfl⟩:∃n:Nat,z=n:=⟨z.toNat,Ω⟩;refine jN (k:=.i64) ay.u au.i Ω Ω λba c1 dY bF c2=>?_;refine⟨.inl bF,?_⟩;have c3:av .i64 au c1 ba (.slice (σ ⟨ba,0,ν⟩) X X) (p8 X 0):=av.of (bV.full (k:=1) (n:=X) c2 Ξ (by simp[maxLen];omega));let a:ln:=⟨.slice (σ ⟨ba,0,ν⟩) X X,p8 X 0⟩;refine hE (f:=n5) (a:=a) ek.u ay.i Ω rfl rfl λdZ ea bG eb bH c4=>?_;refine⟨.inl (bF.trans bH),?_⟩;have ap:=(ce.trans bF).trans bH;have aI:=cY.ext ap;refine io (f:=n5) (a:=a) ek.u ay.i rfl aI.1 (by simpa using c4.sl) (λu hu=>by rw[o9.1 (show u∈[a.v]from hu)];rfl) Ω Ω λbI bJ ec I bK cg=>?_;have aq:∀{r:Nat},leadsTo B r->∃c,af bG r ay c:=λq=>by
   obtain⟨rfl,c,s⟩:=dS aI.1 q;exact⟨c,s⟩
  have bL:=a8.ext ap;have ch:=bL.ab cg λhe=>cO aI.1 bL Φ he;rw[aU dE.p rfl];refine bl ek.i (eI I.sl).1 (eI I.sl).2 ch Ξ λc5 cj ed c6=>?_;rw[aN];have Q:ai (λr=>leadsTo B r\/r=A) bG c5:=(cg.mono λr _ h=>.inl h).trans (cj.mono λr _ h=>.inr h);have bN:∀r,(leadsTo B r\/r=A)->∃e c,af bG r e c/\e≠au/\e≠ah:=λr q=>by
   rcases q with q|rfl
   .obtain⟨c,s⟩:=aq q;exact⟨_,c,s,Φ,Φ⟩
   .exact⟨_,_,bL,Φ,Φ⟩
  have cl:=cX.ext ap;have ef:=cd.size;have eg:=ap.size;have cm:=cZ.ext ap;refine cS _ ⟨(cd.trans ap).then Q (λr q he=>?_),cm.ab Q (λU=>?_),bC,b8,bI,bJ,aW++[a],c6,bu cl Q (λr q U=>?_),λr q=>?_,⟨I.ab cj λr q he=>?_,λy K=>?_⟩,?_,λr q=>?_⟩
  .rcases he with he|rfl
   .have:=a1 r he;omega
   .omega
  .rcases U with U|U
   .exact cO aI.1 cm Φ U
   .omega
  .obtain⟨e,c,s,_,E⟩:=bN r U;exact b7 cl s (λhe=>E he.symm) q rfl
  .rcases cV r q with h|h
   .exact aZ r h
   .omega
  .have he:r=A:=he;subst he;exact cO I ch Φ q
  .rcases o5.1 K with K|K
   .exact aI.q4 Q (λr q=>by obtain⟨e,c,s,E,_⟩:=bN r q;exact⟨e,c,s,E⟩) y K
   .rw[o9.1 K];have cn:=c3.ext bH;exact⟨ba,bu cn Q λr q U=>by
     obtain⟨e,c,s,E,_⟩:=bN r U;exact b7 cn s (λhe=>E he.symm) q rfl⟩
  .rw[Z4,aG,u9,C,j5,Z4];rfl
  .rcases bK r q with h|h
   .exact a1 r h
   .omega
 rintro S cQ ⟨W,bA,szv,gs,B,H,aW,aF,aY,aZ,bB,aG,a1⟩;refine cE Ω ?_;rw[o7]at aY aG;refine(OY (b1.ext W) P).mono ?_;rintro a6 bc _ ⟨aw,go,M,I,cp,cq,eh⟩;have cr:M.length=(fm f).length:=by rw[<-cq,r8]
 have ei:M.length<=256:=by
  have h1:=(py P).2.length_eq;have bd:=(kC P).2.2;have ej:=R3 fl (fc f);have em:=P.la;omega
 have z4:=W.size;have en:=aw.size;have eo:=aF.lt;rw[ee cT.u I];refine ck.range M.length (λi Y=>m4 w bc.heap.size gt gs go szv a6 f M Y/\DM w bc.heap.size A szv f.k (dG f i) M Y) I.le
  ⟨⟨W.trans aw,o4 _,bA.ext aw,aY.ext aw,I,λr q=>by have:=I.leads q;omega,λh aB=>(cp h aB).1⟩,B,H,aW,_,0,[],aF.ext aw,bB.ext aw,aG,a1,bi.nil _ _ _ _ _,λx J=>(by cases J),rfl,λr q=>(e1 q).elim⟩ ?_ ?_
 rotate_left
 .rintro Y c7 ⟨aC,B,H,aW,Z,gr,L,bf,bh,ac,aK,aL,aD,ae,aM⟩;obtain⟨c8,ep,ct,bO,er,es,c9⟩:=id aC;have bj:=oa f M.length;rw[cr,q6]at bj;rw[cr,q6]at bf ac ae;refine cE Ω ?_;rw[bP dE.p dE.i rfl (show Y.rangeAt A 0 [Δ f.k,szv,Δ (cR f).zero,B,Z]from bf.range)];refine ci (vs:=[Δ f.k,szv,Δ (cR f).zero,B,Z]) dE.i rfl rfl (λu hu=>?_) ct λeu aP ev db=>?_
  .simp at hu;rcases hu with rfl|rfl|rfl|rfl|rfl
   .rfl
   .exact bO.ls.cells.2
   .rfl
   .exact (eI bh.1.sl).2
   .exact (eI aL.sl).2
  rw[fJ dE.p dE.i rfl db.range];have ao:∀r,r=gt->∃e c,af Y r e c/\e≠au/\e≠ay/\e≠ah/\e≠bb:=λr q=>by
   subst q;exact⟨_,_,ct,Φ,Φ,Φ,Φ⟩
  refine⟨c8.then aP λr q he=>by have he:r=gt:=he;omega,szv,gs,B,H,aW,Z,gr,L,?_,?_,bh.ab aP (λr q=>?_),ac,aL.ab aP (λr q U=>?_),λh aB=>?_,ae,aZ,λh aB r q=>by have:=(cp h (aD h aB)).2 r q;omega⟩
  .rw[bj.1]
  .rw[bj.2.1];refine bu bO aP λr q U=>?_;obtain⟨e,c,s,_,_,E,_⟩:=ao r U;exact b7 bO s (λhe=>E he.symm) q rfl
  .obtain⟨e,c,s,h1,bd,_⟩:=ao r q;exact⟨e,c,s,h1,bd⟩
  .obtain⟨e,c,s,_,_,_,E⟩:=ao r U;exact cO aL s (λhe=>E he.symm) q
  .rw[bj.2.1];exact mZ (c9 h (aD h aB)) aP λr q=>by
    obtain⟨e,c,s,h1,_,bd,_⟩:=ao r q;exact .inl ⟨e,c,s,bd,h1⟩
 rintro i Y c7 hi ⟨aC,B,H,aW,Z,gr,L,bf,bh,ac,aK,aL,aD,ae,aM⟩ dc;obtain⟨y,K⟩:=aJ (l:=M) hi;have bk:=x5 K;have cu:(fm f)[i]?=σ (dw y):=by rw[<-cq,x8,K];rfl
 have bR:fP f.sizes f.k (dw y):=tm P _ (x5 cu);have bS:=wQ cu;obtain⟨ew,ey,ez,eA⟩:=oa f i;refine bM Ω ?_;refine da (λbT=>m4 w bc.heap.size gt gs go szv a6 f M bT/\DM w bc.heap.size A szv f.k (dG f (i+1)) M bT) ?_ ?_
 .rintro bT h;rw[aN];exact dc _ h
 intro aA bU;rw[dr rfl cT.u bb.i aC.2.2.2.2.1 hi,bP bb.p bb.i rfl (aC.2.2.2.2.1.range K)];refine bx bb.i λdd eB eC de df=>?_;refine ci (vs:=dm y) bb.i rfl rfl (aC.2.2.2.2.2.2 y bk).one df λcw dg eD bm=>?_;have bn:Ext Y cw:=de.put dg Ω;have bo:=aC.ext bn;have ag:=bf.ext bn;have bW:=bh.ext bn;have bp:=aL.ext bn;obtain⟨eE,eF,cz,eJ,eK,eL,cA⟩:=id bo;obtain⟨⟨eM,cB⟩,_,dh,cC⟩:=cA y bk;rw[aT bb.p 0 bm rfl,aX an.u cB.ls];have eN:aW.length=f.sizes.length:=by have:=congrArg S3 ac;rw[r8]at this;omega
 have eO:L.length<=256:=by have:=congrArg S3 ae;rw[r8]at this;omega
 rw[be,al];refine⟨λeP=>?_,λeQ=>?_⟩
 .
  have aj:y.sc=[]:=j6 Ω;have G:dG f (i+1)={dG f i with zero:=y.cs.getD 0 0}:=by rw[bS];unfold iU;simp only[dw,aj]
  have eR:y.cs.length=1:=by have:=bR.len;simpa[dw,aj,bX,aO]using this
  have di:y.cs[0]?=σ (y.cs.getD 0 0):=by rw[u4,x6 Ω];rfl
  rw[aT bb.p 2 bm rfl,fY (y:=0) (i:=0) rfl ay.u au.i Ψ cC.ls di,aU dE.p rfl];refine bl au.i rfl rfl ag Ξ λdj O dk dl=>?_;refine bU _ ⟨bo.ab O λr q=>?_,B,H,aW,Z,gr,L,?_,bW.ab O (λr q=>?_),by rw[G];exact ac,aK,bp.ab O (λr q U=>?_),aD,by rw[G];exact ae,aM⟩
  .have q:r=A:=q;subst q;exact⟨Ω,E,.inl ⟨_,ag⟩⟩
  .rw[G];exact dl
  .have q:r=A:=q;subst q;exact⟨_,_,ag,Φ,Φ⟩
  .have U:r=A:=U;subst U;exact cO bp ag Φ q
 rw[be,al];refine⟨λh1=>?_,λeS=>?_⟩
 .
  obtain⟨v,aj⟩:∃v,y.sc=[v]:=W6.1 Ω;have eU:=bR.scope.1 v (by show v∈y.sc;rw[aj];exact .head _);have eV:=bR.vars v (by show v∈y.sc;rw[aj];exact .head _);have G:dG f (i+1)={dG f i with unary:=(dG f i).unary.set v.toNat y.cs}:=by rw[bS];unfold iU;simp only[dw,aj]
  intro dn R _ _;have bZ:=ag.ext R;have cD:=bm.ext R;have aQ:=bW.ext R;have dp:=bo.ext R;have cF:=bp.ext R;rw[aT dE.p 3 bZ rfl,aT bb.p 0 cD rfl];refine qq (y:=0) (i:=0) rfl an.u ah.i (cB.ls.ext R) (show y.sc[0]?=σ v by rw[aj];rfl) λb o dq=>?_;rw[ax Ψ dq,aT bb.p 2 cD rfl];obtain⟨u,hu⟩:=aJ (l:=aW) (i:=v.toNat) Ω;rw[dr (i:=v.toNat) Ω ek.u ay.i aQ.1 Ω];let a:ln:=⟨y.a6,y.cs⟩;have bq:=cC.ext R;refine pr (f:=n5) (j:=0) (a:=u) (a':=a) ay.i bq.ls.cells.1 bq.ls.cells.2 aQ.1 hu rfl Ω λdj O dk ds=>?_;have aq:∀{r:Nat},leadsTo B r->∃c,af dn r ay c:=λq=>by
   obtain⟨rfl,c,s⟩:=dS aQ.1 q;exact⟨c,s⟩
  refine bU _ ⟨dp.ab O λr q=>?_,B,H,aW.set v.toNat a,Z,gr,L,?_,⟨ds,λz C=>?_⟩,?_,aK,cF.ab O (λr q U=>?_),aD,by rw[G];exact ae,aM⟩
  .obtain⟨c,s⟩:=aq q;exact⟨aK r q,λhe=>(by subst he;exact absurd (eH s (cz.ext R)) Φ),.inr (.inl ⟨c,s⟩)⟩
  .rw[G];exact bZ.ab O λhe=>cO aQ.1 bZ Φ he
  .rcases X9 C with C|rfl
   .exact aQ.q4 O (λr q=>by obtain⟨c,s⟩:=aq q;exact⟨_,c,s,Φ⟩) z C
   .exact⟨dh,bu bq O λr q U=>by
     obtain⟨c,s⟩:=aq U;exact b7 bq s Φ q rfl⟩
  .rw[G,U4,ac]
  .obtain⟨c,s⟩:=aq U;exact cO cF s Φ q
 .
  have G:dG f (i+1)={dG f i with funs:=(dG f i).funs++[dw y]}:=by
   rw[bS];unfold iU;have cG:2<=(dw y).1.length:=by show 2<=y.sc.length;omega
   generalize dw y=g at cG ⊢;obtain⟨sc,cs⟩:=g
   match sc,cG with
   |_::_::_,_=>rfl
  rw[aT dE.p 4 ag rfl,bP bb.p bb.i rfl (show cw.rangeAt dd 0 (dm y)from bm.range)];refine hE (f:=dm) (k:=3) (a:=y) cT.u bb.i Ω rfl rfl λeW eX dt eY aE du=>?_;have br:=bp.ext aE;have dv:=bW.ext aE;have bt:=ag.ext aE;have dx:=bo.ext aE;refine io (f:=dm) (a:=y) cT.u bb.i rfl br (by simpa using du.sl) (cA y bk).one Ω Ω λbI bJ eZ bw bK cH=>?_;have cI:=bt.ab cH λhe=>cO br bt Φ he;rw[aU dE.p rfl];refine bl cT.i (eI bw.sl).1 (eI bw.sl).2 cI Ξ λdy cJ e2 dz=>?_;have Q:ai (λr=>leadsTo Z r\/r=A) dt dy:=(cH.mono λr _ h=>.inl h).trans (cJ.mono λr _ h=>.inr h);have e3:=aE.size;refine bU _ ⟨dx.ab Q λr q=>?_,B,H,aW,bI,bJ,L++[y],?_,dv.ab Q (λr q=>?_),by rw[G];exact ac,aK,bw.ab cJ (λr q U=>?_),λz C=>?_,?_,λr q=>?_⟩
  .rcases q with q|rfl
   .obtain⟨rfl,c,s⟩:=dS br q;have:=aM _ q;refine⟨Ω,λhe=>?_,.inr (.inr ⟨⟨c,s⟩,this⟩)⟩;subst he;exact absurd (eH s (cz.ext aE)) Φ
   .exact⟨Ω,E,.inl ⟨_,bt⟩⟩
  .rw[G];exact dz
  .rcases q with q|rfl
   .obtain⟨rfl,c,s⟩:=dS br q;exact⟨_,c,s,Φ,Φ⟩
   .exact⟨_,_,bt,Φ,Φ⟩
  .have U:r=A:=U;subst U;exact cO bw cI Φ q
  .rcases o5.1 C with C|C
   .exact aD z C
   .rw[o9.1 C];exact bk
  .rw[G,Z4,ae];rfl
  .rcases bK r q with h|h
   .exact aM r h
   .omega
def ri(w:x3)(S:Nat->Prop)(e:p9):Prop:=∀r,S r->∃c,af w r e c
theorem xe{k:o6}{g:Nat}(h:av k a w g v l)(f:ai S w w')(p:ri w S e)(q:a≠e):av k a w' g v l:=bu h f λr s U=>by
 obtain⟨c,x⟩:=p r U;exact b7 h x q s rfl
theorem DO{α:Type}{f:α->List x1}{k:Nat}{g:Nat}{L:List α}(h:bi f k a w g v L)(p:ai S w w')(q:ri w S e)(s:a≠e):bi f k a w' g v L:=h.ab p λr x U=>by
 obtain⟨c,y⟩:=q r U;exact cO h y s x
theorem xf{r:Nat}{c:List x1}(h:af w r a c)(f:ai S w w')(p:ri w S e)(q:a≠e):af w' r a c:=h.ab f λU=>by
 obtain⟨c,s⟩:=p r U;exact q (eH h s)
theorem DP{g:Nat}{c:List x1}(h:af w g e c):ri w (λr=>r=g) e:=λr a=>by
 have a:r=g:=a;subst a;exact⟨c,h⟩
theorem O0{k:o6}{g:Nat}(h:av k e w g v l):ri w (λr=>leads v r) e:=λr f=>by
 have f:leads v r:=f;obtain⟨rfl,_⟩:=bQ h f;obtain⟨_,⟨ad,_⟩|⟨cap,full,_,q,_⟩⟩:=h
 .obtain⟨a,n,c,p,_⟩:=f;rw[ad]at p;cases p
 .exact⟨_,q⟩
def aG(x:bG):Λ:=((X0 x.un.length).map λv:Nat=>(v:Int)).filter λv=>!dropped x.mask v
theorem xg{P:W5}{k:o6}{t:p9}{b:Nat}{K:x1->x3->Prop}(a:P.underlying t=σ (.slice e))(hi:aQ P e 1 b z)(f:∀v g w',g=w.heap.size->Ext w w'->av k e w' g v []->K v w'):aD P (Y4 t 0 #[]) w K:=
 kq a hi Ω (cs:=#[]) (by simp[Instr.fill]) λg w' h p q=>f _ g w' h p (av.of (n:=0) (bV.full (by simpa using q) Ξ (by simp[maxLen])))
theorem O1{n:aF}(h:xd w B v n){g:Nat}(p:af w' g dE v.cells.toList):∃szv gz a f aW e gr L,af w' g dE [Δ n.k,szv,Δ n.zero,a,e]/\av .i64 ah w gz szv n.sizes/\hG w f a aW/\aW.map (·.l)=n.unary/\bi dm 3 bb w gr e L/\(∀h∈L,fU w n.sizes h)/\L.map dw=n.funs/\(∀r,leads szv r->B<=r)/\∀h∈L,∀r,pF h r->B<=r:=by
 obtain⟨szv,gz,a,f,aW,e,gr,L,rfl,q,s,y,x,z,A⟩:=h;obtain⟨_,_,_,C⟩:=c5 q.ls;obtain⟨_,_,_,_,_,E,_⟩:=s.1.sl;obtain⟨_,_,_,_,_,F,_⟩:=x.sl;refine⟨szv,gz,a,f,aW,e,gr,L,?_,q,s,y,x,z,A⟩;rw[C,E,F]at p ⊢;exact p
def z12:List x1:=[Δ 0,.slice ν 0 0,Δ 0,.slice ν 0 0,.slice ν 0 0,.slice ν 0 0,.slice ν 0 0,.slice ν 0 0]
theorem O2(u:Λ):aG (newVar u)=(X0 u.length).map λv:Nat=>(v:Int):=by
 unfold aG newVar dropped;rw[List.filter_eq_self.2];intro a _;simp
section
variable{P:W5}{w:x3}{t:p9}{cx cy:Bool}{a b:Nat}{K:x1->Prop}
theorem O3(f:a<2 ^ 62)(h:b<2 ^ 62):ac P (aM .or t cx cy (Δ a) (Δ b)) w K=K (Δ ((a ||| b:Nat):Int)):=ac.of λw' _=>by
 have e:(U9 64 (a:Int) ||| U9 64 (b:Int)).toNat=a ||| b:=by
  rw[mM,mM,BitVec.toNat_or,BitVec.toNat_ofNat,BitVec.toNat_ofNat,Nat.mod_eq_of_lt Ω,Nat.mod_eq_of_lt Ω]
 have q:a ||| b<2 ^ 62:=Nat.or_lt_two_pow f h;have hw:X5.wrap ((a ||| b:Nat):Int)=((a ||| b:Nat):Int):=wrap_i64 Ω Ω;have p:(U9 X5.bits (a:Int) ||| U9 X5.bits (b:Int)).toNat=a ||| b:=e;simp only[aM,eqGuard,binOp,Op.intBits,p,hw];rfl
theorem DQ(p:a<2 ^ 62)(f:b<2 ^ 62):ac P (aM .and t cx cy (Δ a) (Δ b)) w K=K (Δ ((a &&& b:Nat):Int)):=ac.of λw' _=>by
 have e:(U9 64 (a:Int) &&& U9 64 (b:Int)).toNat=a &&& b:=by
  rw[mM,mM,BitVec.toNat_and,BitVec.toNat_ofNat,BitVec.toNat_ofNat,Nat.mod_eq_of_lt Ω,Nat.mod_eq_of_lt Ω]
 have q:a &&& b<2 ^ 62:=Nat.and_lt_two_pow _ f;have hw:X5.wrap ((a &&& b:Nat):Int)=((a &&& b:Nat):Int):=wrap_i64 Ω Ω;have h:(U9 X5.bits (a:Int) &&& U9 X5.bits (b:Int)).toNat=a &&& b:=e;simp only[aM,eqGuard,binOp,Op.intBits,h,hw];rfl
theorem O4{k:o6}{n:Nat}(a:n<62):ac P (aM .shl t cx cy (Δ 1) (.int k (n:Int))) w K=K (Δ ((2 ^ n:Nat):Int)):=by
 rw[zU Ω];have e:min ((n:Int).toNat) X5.bits=n:=Nat.min_eq_left (by show n<=64;omega);have f:2 ^ n<2 ^ 62:=Nat.pow_lt_pow_right Ω a;rw[e,Int.one_mul,show((2:Int) ^ n)=((2 ^ n:Nat):Int) by simp];generalize 2 ^ n=q at f ⊢;rw[wrap_i64 Ω Ω]
end
theorem DR(a n:Nat):(a / 2 ^ n &&& 1=1)↔a.testBit n=true:=by
 rw[Nat.and_one_is_mod,Nat.testBit_eq_decide_div_mod_eq,decide_eq_true_eq]
theorem DS{b n:Nat}{v:Int}(x:l7 b n):am x7 Hm [jr b n,Δ v] w λr w'=>r= .bool (decide (0<=v/\v<n)&&b.testBit v.toNat)/\Ext w w':=by
 refine az func103 ?_;refine bf λg V B e f=>?_;refine aV (λr aa=>r= .bool (decide (0<=v/\v<n)&&b.testBit v.toNat)/\Ext w aa) (λ_ _ h=>h) λaA q=>?_;rw[bP bZ.p bZ.i rfl f.range];refine A3.mono ?_;rintro _ C _ ⟨rfl,a⟩;rw[al];refine⟨λh=>?_,λh=>q _ _ ⟨by rw[decide_eq_false h];rfl,e.trans a⟩⟩;obtain⟨y,E⟩:=x;obtain⟨s,rfl⟩:∃s:Nat,v=s:=⟨v.toNat,Ω⟩;have z:=f.ext a;have G:(2:Nat) ^ n<=2 ^ 32:=T8 Ω y;have A:b / 2 ^ s<2 ^ 64:=Nat.lt_of_le_of_lt (Nat.div_le_self _ _) Ω;rw[aT bZ.p 0 z rfl,k9 Ω,show(1:Int)=((1:Nat):Int)from rfl,u64_and A Ω,be];refine q _ _ ⟨?_,e.trans a⟩;congr 1;rw[decide_eq_true h,T5,V9,decide_eq_true_eq,u7,<-DR];omega
theorem O5(m v:Nat):dropped (m:Int) (v:Int)=m.testBit v:=by unfold dropped;rw[u7,u7]
def bw(w:x3)(ae gT:Nat)(A R:aj)(n:aF)(s:aq)(t:aC):Prop:=StateM w ae gT A R n s t/\t.bT=s.cells/\mV t/\br n.k n.sizes s/\jZ n
theorem bw.ext{A R:aj}{n:aF}{s:aq}{t:aC}(h:bw w ae gT A R n s t)(J:Ext w w'):bw w' ae gT A R n s t:=⟨h.1.ext J,h.2⟩
theorem StateM.parts{A R:aj}{n:aF}{s:aq}{t:aC}(h:StateM w ae gT A R n s t):∃a e f p aY q L r,af w ae cG [Γ a,Γ gT,e,f,p]/\gg w a n/\dv w gT r t/\av .i64 ah w aY e (iw s)/\bi oe 3 ff w q f L/\lq R w L s:=by
 obtain⟨a,e,f,p,_,aY,q,ge,L,E,r,w0,x,⟨y,z,H⟩,⟨B,I,J,K⟩,C,⟨F,G⟩,M,N⟩:=h;exact⟨a,e,f,p,aY,q,L,r,x,y.ext z,B,C,F,G⟩
theorem tQ{s:aq}{i:Nat}(h:i<s.vars.length):(iw s)[i]?=σ (fR s i:Int):=by
 unfold iw;rw[x8,List.getElem?_range h];rfl
theorem pG{s:aq}{t:aC}(ad:t.bT=s.cells)(U:mV t):s.cells.length<=100000000:=by
 rw[<-ad];unfold aC.bT;rw[r8];exact U.1
theorem tR{s:aq}{i:Nat}{x:bG}(h:s.vars[i]?=σ x):fR s i+x.un.length+2<=s.cells.length:=by
 have h1:=q7 h (j:=x.un.length+1) Ω;have a:(hI x)[x.un.length+1]? ≠ν:=by
  rw[Ne,List.getElem?_eq_none_iff];show¬(x.un.length+1+1<=x.un.length+1);omega
 rw[<-h1]at a;have:=(x4.1 (Option.ne_none_iff_exists'.1 a).choose_spec).1;omega
theorem xh{s:aq}{f:ca}(h:s.funs[j]?=σ f):eS s j+f.cs.length+1<=s.cells.length:=by
 have h1:=wU h (j:=f.cs.length) Ω;have a:(fp f)[f.cs.length]? ≠ν:=by
  rw[Ne,List.getElem?_eq_none_iff];show¬(f.cs.length+1<=f.cs.length);omega
 rw[<-h1]at a;have:=(x4.1 (Option.ne_none_iff_exists'.1 a).choose_spec).1;omega
section
variable{w:x3}{ae gT:Nat}{A R:aj}{n:aF}{s:aq}{t:aC}
theorem DT(h:bw w ae gT A R n s t):am x7 G7 [Γ ae] w λv w'=>(∃a,v=Γ a/\gg w' a n)/\Ext w w':=by
 obtain⟨a,q,r,x,aY,y,L,z,e,f,B,C,E,G⟩:=h.1.parts;refine az func86 ?_;rw[de db.u];simp only[Z5,a1];rw[aS cG.p 0 e rfl];exact⟨⟨a,rfl,f⟩,Ext.refl _⟩
theorem DU(h:bw w ae gT A R n s t):am x7 GB [Γ ae] w λv w'=>v=Δ (n.sizes.length:Int)/\Ext w w':=by
 refine az func41 ?_;refine(DT h).mono ?_;rintro _ V _ ⟨⟨p,rfl,a⟩,e⟩;refine(wV a).mono ?_;rintro _ aa _ ⟨rfl,f⟩;exact⟨rfl,e.trans f⟩
theorem j7(h:bw w ae gT A R n s t):am x7 GZ [Γ ae] w λv w'=>v=Δ n.k/\Ext w w':=by
 refine az func73 ?_;refine(DT h).mono ?_;rintro _ V _ ⟨⟨p,rfl,a⟩,e⟩;refine(N9 a).mono ?_;rintro _ aa _ ⟨rfl,f⟩;exact⟨rfl,e.trans f⟩
theorem xi{i:Int}(h:bw w ae gT A R n s t):am x7 Hb [Γ ae,Δ i] w λv w'=>v= .bool (decide (0<=i/\i<n.sizes.length))/\Ext w w':=by
 refine az func90 ?_;refine aV (λv V=>v= .bool (decide (0<=i/\i<n.sizes.length))/\Ext w V) (λ_ _ h=>h) λaA a=>?_;rw[cM,al];refine⟨λe=>?_,λe=>a _ _ ⟨by rw[decide_eq_false Ω],Ext.refl _⟩⟩;refine(DU h).mono ?_;rintro _ V _ ⟨rfl,f⟩;rw[aR];refine a _ _ ⟨?_,f⟩;congr 1;exact decide_eq_decide.2 ⟨λh=>⟨e,h⟩,λh=>h.2⟩
theorem tS(h:bw w ae gT A R n s t):am x7 GA [Γ ae] w λv w'=>v=Δ s.zero/\Ext w w':=by
 obtain⟨q,r,x,y,aY,z,L,B,a,C,e,E,G,H⟩:=h.1.parts;refine az func40 ?_;rw[de db.u];simp only[Z5,a1];rw[aS cG.p 1 a rfl];refine(od (i:=0) e rfl (show t.bT[0]?=σ s.zero by rw[h.2.1];exact N4 s)).mono ?_;rintro _ V _ ⟨rfl,f⟩;exact⟨rfl,f⟩
theorem rj(h:bw w ae gT A R n s t):am x7 G1 [Γ ae] w λv w'=>v=Δ (s.funs.length:Int)/\Ext w w':=by
 obtain⟨q,r,x,y,aY,z,L,B,a,C,E,G,e,f⟩:=h.1.parts;refine az func75 ?_;rw[de db.u];simp only[Z5,a1];rw[aS cG.p 3 a rfl,ee fE.u e];exact⟨by rw[f.1],Ext.refl _⟩
def hK(s:aq)(i:Nat):Bool:=match s.vars[i]? with
 |some x=>decide (x.gone≠0)
 |none=>false
theorem xj{i:Int}(h:bw w ae gT A R n s t):am x7 GG [Γ ae,Δ i] w λv w'=>v= .bool (decide (0<=i)&&hK s i.toNat)/\Ext w w':=by
 refine az func48 ?_;refine aV (λv V=>v= .bool (decide (0<=i)&&hK s i.toNat)/\Ext w V) (λ_ _ h=>h) λaA a=>?_;intro aa e _ _;refine(xi (h.ext e)).mono ?_;rintro _ I _ ⟨rfl,r⟩;have J:=e.trans r;have K:=h.2.2.2.1.vars;rw[al];refine⟨λz=>?_,λM=>a _ _ ⟨?_,J⟩⟩
 .obtain⟨N,O,P,Q,aY,S,L,U,f,W,B,C,X,Y⟩:=(h.ext J).1.parts;obtain⟨x,q⟩:=aJ (l:=s.vars) (i:=i.toNat) Ω;rw[aS cG.p 1 f rfl,aS cG.p 2 f rfl,fY (y:=i) (i:=i.toNat) Ω an.u ah.i Ψ C.ls (tQ Ω)];have E:t.bT[fR s i.toNat+0]?=σ x.gone:=by rw[h.2.1,q7 q Ω];rfl
  refine(od (i:=fR s i.toNat) B rfl E).mono ?_;rintro _ Z _ ⟨rfl,G⟩;rw[bC];refine a _ _ ⟨?_,J.trans G⟩;rw[decide_eq_true z.1,T5];unfold hK;rw[q]
 .by_cases H:0<=i
  .unfold hK;rw[Z2 Ω,Bool.and_false]
  .rw[decide_eq_false H];rfl
def ft(n:aF)(i v:Int):Prop:=0<=i/\i<n.sizes.length/\0<=v/\v<n.sizes.getD i.toNat 0
instance (n:aF) (i v:Int):Decidable (ft n i v):=inferInstanceAs (Decidable (_/\_))
theorem ft.var{i v:Int}(ad:ft n i v)(a:br n.k n.sizes s):∃x,s.vars[i.toNat]?=σ x/\v.toNat<x.un.length/\x.un.length<=32/\n.sizes.getD i.toNat 0=x.un.length:=by
 obtain⟨h1,h,p,f⟩:=ad;have q:=a.vars;obtain⟨x,J⟩:=aJ (l:=s.vars) (i:=i.toNat) Ω;obtain⟨z,e⟩:=aJ (l:=n.sizes) (i:=i.toNat) Ω;have r:=a.fq.2.2 z (x5 e);have w:=(a.var i.toNat x z J e).1;rw[u4,e,V2]at f ⊢;exact⟨x,J,Ω,Ω,Ω⟩
theorem xk{i v:Int}(h:bw w ae gT A R n s t):am x7 Hi [Γ ae,Δ i,Δ v] w λr w'=>r=Δ (if ft n i v then((fR s i.toNat+2+v.toNat:Nat):Int)else-1)/\Ext w w':=by
 have Z:=h.2.2.2.1.vars;refine az func98 ?_;refine aV (λr V=>r= .bool (decide (¬ft n i v))/\Ext w V) ?_ ?_
 .rintro _ V ⟨rfl,z⟩;rw[al];refine⟨λH=>⟨by rw[if_neg H],z⟩,λf=>?_⟩;have f:=Z9.1 f;obtain⟨x,I,ab,ac,_⟩:=f.var h.2.2.2.1;obtain⟨J,K,M,N,aY,O,L,P,a,C,Q,E,S,U⟩:=(h.ext z).1.parts;have G:=tR I;have af:=pG h.2.1 h.2.2.1;obtain⟨h1,ag,ai,aj⟩:=id f;rw[aS cG.p 2 a rfl,fY (y:=i) (i:=i.toNat) Ω an.u ah.i Ψ E.ls (tQ Ω),aN,wrap_i64 Ω Ω,aN,wrap_i64 Ω Ω,if_pos f];refine⟨?_,z⟩;congr 1;omega
 .intro aA B;refine(xi h).mono ?_;rintro _ aa _ ⟨rfl,q⟩;rw[bH,b2];refine⟨λa=>?_,λa=>?_⟩
  .have a:¬(0<=i/\i<n.sizes.length):=λW=>by rw[decide_eq_true W]at a;cases a
   exact B _ _ ⟨by rw[decide_eq_true];exact λe=>a ⟨e.1,e.2.1⟩,q⟩
  have a:0<=i/\i<n.sizes.length:=by simpa using a
  rw[aR,al];refine⟨λad=>B _ _ ⟨by rw[decide_eq_true];exact λe=>by have:=e.2.2.1;omega,q⟩,λad=>?_⟩;obtain⟨J,K,M,N,aY,O,L,P,X,C,Q,E,S,U⟩:=(h.ext q).1.parts;rw[aS cG.p 0 X rfl];refine(De C h.2.2.2.2).mono ?_;rintro _ ak _ ⟨Y,rfl⟩;rw[if_pos a.1,cM];refine B _ _ ⟨?_,q.trans Y⟩;congr 1;refine decide_eq_decide.2 ⟨λh e=>?_,λh=>?_⟩
  .have:=e.2.2.2;omega
  .refine Int.not_lt.1 λG=>h ⟨a.1,a.2,Ω,G⟩
def ix(s:aq)(i v:Nat):Int:=match s.vars[i]? with
 |some x=>x.un.getD v 0
 |none=>0
theorem pH{i v:Int}(h:bw w ae gT A R n s t):am x7 zp [Γ ae,Δ i,Δ v] w λr w'=>r=(if ft n i v then .tuple #[Δ (ix s i.toNat v.toNat),Δ 0]else .tuple #[Δ 0,Δ 1])/\Ext w w':=by
 refine az func47 ?_;rw[de db.u];simp only[Z5,a1];refine(xk h).mono ?_;rintro _ V _ ⟨rfl,e⟩;by_cases a:ft n i v
 .rw[if_pos a,if_pos a];refine cE Ω ?_;obtain⟨x,f,q,E,_⟩:=a.var h.2.2.2.1;obtain⟨G,H,I,J,aY,K,L,M,y,N,z,O,P,Q⟩:=(h.ext e).1.parts;rw[aS cG.p 1 y rfl];have B:t.bT[fR s i.toNat+2+v.toNat]?=σ (x.un.getD v.toNat 0):=by
   rw[h.2.1,R2,q7 f Ω,show 2+v.toNat=v.toNat+1+1 by omega];show x.un[v.toNat]?=_;rw[u4,x6 q];rfl
  refine(od (i:=fR s i.toNat+2+v.toNat) z rfl B).mono ?_;rintro _ aa _ ⟨rfl,C⟩;refine⟨?_,e.trans C⟩;unfold ix;rw[f]
 .rw[if_neg a,if_neg a,aR,al];exact⟨λ_=>⟨rfl,e⟩,λh=>Ω⟩
def e7(s:aq)(j:Nat):Bool:=match s.funs[j]? with
 |some f=>decide (f.live≠0)
 |none=>false
theorem rk{j:Int}(h:bw w ae gT A R n s t):am x7 GH [Γ ae,Δ j] w λv w'=>v= .bool (decide (0<=j)&&e7 s j.toNat)/\Ext w w':=by
 refine az func49 ?_;refine aV (λv V=>v= .bool (decide (0<=j)&&e7 s j.toNat)/\Ext w V) (λ_ _ h=>h) λaA a=>?_;intro aa e _ _;rw[cM,al];refine⟨λq=>?_,λq=>a _ _ ⟨by rw[decide_eq_false q];rfl,e⟩⟩;refine(rj (h.ext e)).mono ?_;rintro _ K _ ⟨rfl,C⟩;have J:=e.trans C;rw[aR,al];refine⟨λM=>?_,λN=>a _ _ ⟨?_,J⟩⟩
 .obtain⟨O,P,Q,S,aY,U,L,W,x,X,E,Y,z,r⟩:=(h.ext J).1.parts;obtain⟨f,ag⟩:=aJ (l:=s.funs) (i:=j.toNat) Ω;obtain⟨y,B⟩:∃y,L[j.toNat]?=σ y:=⟨_,x6 (by rw[r.1];omega)⟩;obtain⟨_,_,G⟩:=r.2 j.toNat y f B ag;rw[aS cG.p 1 x rfl,aS cG.p 3 x rfl,dr (i:=j.toNat) Ω fE.u ff.i z (by rw[r.1];omega),aU ff.p rfl,ax (v:=Δ (y.at_:Int)) Ψ (z.range B 2 _ rfl)];have H:t.bT[eS s j.toNat+0]?=σ f.live:=by rw[h.2.1,wU ag Ω];rfl
  refine(od (i:=eS s j.toNat) E (by rw[G]) H).mono ?_;rintro _ Z _ ⟨rfl,I⟩;rw[bC];refine a _ _ ⟨?_,J.trans I⟩;rw[decide_eq_true q,T5];unfold e7;rw[ag]
 .unfold e7;rw[Z2 Ω,Bool.and_false]
end
def tT(s:aq)(n:aF)(i:Int)(b m:Nat):Prop:=l7 b m/\(¬(0<=i/\i<n.sizes.length)->b=0/\m=0)/\∀x,0<=i->s.vars[i.toNat]?=σ x->m=x.un.length/\∀j:Nat,b.testBit j=(decide (j<x.un.length)&& !dropped x.mask (j:Int))
section
variable{w:x3}{ae gT:Nat}{A R:aj}{n:aF}{s:aq}{t:aC}
theorem jv{i:Int}(h:bw w ae gT A R n s t):am x7 GD [Γ ae,Δ i] w λv w'=>(∃b m,v=jr b m/\tT s n i b m)/\Ext w w':=by
 have bo:=h.2.2.2.1.vars;refine az func45 ?_;refine bx bZ.i λf V bp ak P=>?_;have P:af V f bZ [.int .u64 0,Δ 0]:=P;refine(xi (h.ext ak)).mono ?_;rintro _ aa _ ⟨rfl,ao⟩;have Q:=P.ext ao;have S:=ak.trans ao;rw[bH,b2];refine⟨λa=>?_,λa=>?_⟩
 .have a:¬(0<=i/\i<n.sizes.length):=λaM=>by rw[decide_eq_true aM]at a;cases a
  rw[cW (cs:=#[.int .u64 0,Δ 0]) Ψ];refine ci (vs:=[.int .u64 0,Δ 0]) bZ.i rfl rfl (by intro u hu;simp at hu;rcases hu with rfl|rfl<;>rfl) Q λbq aO br aP=>?_;rw[fJ bZ.p bZ.i rfl aP.range];refine⟨⟨0,0,rfl,⟨Ω,Ξ⟩,λ_=>⟨rfl,rfl⟩,λx ap J=>?_⟩,S.put aO Ω⟩;have:=(x4.1 J).1;exact absurd ⟨ap,Ω⟩ a
 have a:0<=i/\i<n.sizes.length:=by simpa using a
 obtain⟨x,E⟩:=aJ (l:=s.vars) (i:=i.toNat) Ω;obtain⟨z,U⟩:=aJ (l:=n.sizes) (i:=i.toNat) Ω;have aQ:=h.2.2.2.1.fq.2.2 z (x5 U);obtain⟨bt,_,bu,bz⟩:=h.2.2.2.1.var i.toNat x z E U;obtain⟨aR,aT,aU,aV,aY,aW,L,aX,G,aq,_⟩:=(h.ext S).1.parts;rw[aS cG.p 0 G rfl];refine(De aq h.2.2.2.2).mono ?_;rintro _ bA _ ⟨W,rfl⟩;rw[if_pos a.1,u4,U,V2];refine Kx.mono ?_;rintro _ bB _ ⟨X,rfl⟩;rw[if_pos aQ];obtain⟨m,rfl⟩:∃m:Nat,z=m:=⟨z.toNat,Ω⟩;rw[bm,bn,u7];have au:=(S.trans W).trans X;refine bx bZ.i λe bC bD av aZ=>?_;refine ci (vs:=[.int .u64 ((2 ^ m-1:Nat):Int),Δ (m:Int)]) bZ.i rfl rfl (by intro u hu;simp at hu;rcases hu with rfl|rfl<;>rfl) aZ λaw ax bE a1=>?_;have z5:=au.size;have ay:Ext w aw:=(au.trans av).put ax Ω;have bF:=(((Q.ext W).ext X)).lt;have a2:af aw f bZ [.int .u64 0,Δ 0]:=(((Q.ext W).ext X).ext av).ab ax λhe=>by have he:f=e:=he;omega
 intro bG Y _ _;have aB:=ay.trans Y;obtain⟨aR,aT,aU,aV,aY,aW,L,aX,G,aq,a6,a7,_⟩:=(h.ext aB).1.parts;have bI:=tR E;have bJ:=pG h.2.1 h.2.2.1;rw[aS cG.p 1 G rfl,aS cG.p 2 G rfl,fY (y:=i) (i:=i.toNat) Ω an.u ah.i Ψ a7.ls (tQ Ω),aN,wrap_i64 Ω Ω];have a8:t.bT[fR s i.toNat+1]?=σ x.mask:=by rw[h.2.1,q7 E Ω];rfl
 refine(od (i:=fR s i.toNat+1) a6 Ω a8).mono ?_;rintro _ ba _ ⟨rfl,Z⟩;have aC:=(a1.ext Y).ext Z;have bb:=(a2.ext Y).ext Z;obtain⟨mk,aD⟩:∃mk:Nat,x.mask=mk:=⟨x.mask.toNat,Ω⟩;rw[bP bZ.p bZ.i rfl (show ba.rangeAt e 0 [.int .u64 ((2 ^ m-1:Nat):Int),Δ (m:Int)]from aC.range)];refine(vR (b:=2 ^ m-1) (n:=m)).mono ?_;rintro _ bK _ ⟨rfl,ac⟩;have bc:=aB.trans Z;have bd:f≠e:=Ω
 have bL:=ay.size;have bN:w.heap.size<=e:=Ω
 have bO:w.heap.size<=f:=Ω
 refine ck.range m (λq B=>Ext w B/\af B f bZ [.int .u64 0,Δ 0]/\∃b:Nat,af B e bZ [.int .u64 (b:Int),Δ (m:Int)]/\l7 b m/\∀j:Nat,b.testBit j=(decide (j<m)&& !(decide (j<q)&&mk.testBit j))) Ω
  ⟨bc.trans ac,bb.ext ac,_,aC.ext ac,⟨Ω,by have:=Nat.two_pow_pos m;omega⟩,λj=>by rw[A2];simp⟩ ?_ ?_
 .rintro q B bf bQ ⟨H,I,b,C,K,M⟩ bg;refine bM Ω ?_;refine da (λN=>Ext w N/\af N f bZ [.int .u64 0,Δ 0]/\∃b:Nat,af N e bZ [.int .u64 (b:Int),Δ (m:Int)]/\l7 b m/\∀j:Nat,b.testBit j=(decide (j<m)&& !(decide (j<q+1)&&mk.testBit j))) ?_ ?_
  .rintro N bh;rw[aN];exact bg _ bh
  intro aA aE;have bi:mk / 2 ^ q<2 ^ 62:=Nat.lt_of_le_of_lt (Nat.div_le_self _ _) Ω;rw[aD,B4 Ω,show(1:Int)=((1:Nat):Int)from rfl,DQ bi Ω,be,al];have aF:(((mk / 2 ^ q &&& 1:Nat):Int)=((1:Nat):Int))↔mk.testBit q=true:=by rw[<-DR];omega
  refine⟨λad=>?_,λag=>?_⟩
  .have ad:=aF.1 ad;rw[bP bZ.p bZ.i rfl (show B.rangeAt e 0 [.int .u64 (b:Int),Δ (m:Int)]from C.range)];refine(Kz (v:=(q:Int)) K).mono ?_;rintro _ bR _ ⟨rfl,ai⟩;rw[if_pos ⟨Ω,Ω⟩,u7];refine ci (vs:=[.int .u64 ((jR b (2 ^ q):Nat):Int),Δ (m:Int)]) bZ.i rfl rfl (by intro u hu;simp at hu;rcases hu with rfl|rfl<;>rfl) (C.ext ai) λbS aG bU bj=>?_;have aH:∀j:Nat,(jR b (2 ^ q)).testBit j=(decide (j<m)&& !(decide (j<q+1)&&mk.testBit j)):=λj=>by
    rw[AU,M,Nat.testBit_two_pow];by_cases aI:j<m
    .by_cases O:j=q
     .subst O;simp[ad]
     .have aj:decide (j<q+1)=decide (j<q):=decide_eq_decide.2 ⟨λh=>Ω,λh=>Ω⟩;rw[aj,decide_eq_true aI,decide_eq_true (show j<64 by omega),decide_eq_false (show¬q=j from λh=>O h.symm)];simp
    .simp[aI]
   refine aE _ ⟨(H.trans ai).then aG λr bV he=>by have he:r=e:=he;omega,(I.ext ai).ab aG λhe=>bd he,_,bj,⟨Ω,Kq λj aK=>by rw[aH,decide_eq_false Ω];rfl⟩,aH⟩
  .have ag:mk.testBit q=false:=by simpa using λh=>ag (aF.2 h)
   refine aE _ ⟨H,I,b,C,K,λj=>?_⟩;rw[M];by_cases O:j=q
   .subst O;simp[ag]
   .have aj:decide (j<q+1)=decide (j<q):=decide_eq_decide.2 ⟨λh=>Ω,λh=>Ω⟩;rw[aj]
 .rintro B bf ⟨H,I,b,C,K,M⟩;refine cE Ω ?_;rw[bP bZ.p bZ.i rfl (show B.rangeAt e 0 [.int .u64 (b:Int),Δ (m:Int)]from C.range)];refine ci (vs:=[.int .u64 (b:Int),Δ (m:Int)]) bZ.i rfl rfl (by intro u hu;simp at hu;rcases hu with rfl|rfl<;>rfl) I λbW bk bX bl=>?_;rw[fJ bZ.p bZ.i rfl bl.range];refine⟨⟨b,m,rfl,K,λh=>absurd a h,λy ap aL=>?_⟩,H.put bk Ω⟩;rw[E]at aL;cases aL;refine⟨Ω,λj=>?_⟩;rw[M,aD,O5,show x.un.length=m by omega];by_cases aK:j<m<;>simp[aK]
theorem DV{f:ca}(e:br k sizes s)(ag:f∈s.funs):b3 f.ak/\f.cs.length=(aO f.ak).toNat/\aO f.ak<=4096:=by
 obtain⟨a,U,_⟩:=e.funs f ag;rw[U];refine⟨⟨?_,pw e.fq.2.2 λv ad=>⟨(a.scope.1 v ad).1,a.vars v ad⟩⟩,a.len,a.small⟩;have:=a.scope.2;simp[bX];exact this
def h4(s:aq)(j:Nat)(tl:Λ):Option Nat:=match s.funs[j]? with
 |some f=>if f.live≠0 then(cH f.ak tl 0).map λm=>eS s j+1+m.toNat else ν
 |none=>ν
def m7(s:aq)(j:Nat)(tl:Λ):Int:=match s.funs[j]? with
 |some f=>bt f.ak f.cs tl
 |none=>0
theorem DW(h:bw w ae gT A R n s t)(J:aI .i64 w aK tl):am x7 Hl [Γ ae,Δ (j:Int),aK] w λv w'=>v=Δ (match h4 s j tl with|some p=>(p:Int)|none=>-1)/\Ext w w':=by
 refine az func102 ?_;refine(rk h).mono ?_;rintro _ V _ ⟨rfl,z⟩;rw[decide_eq_true Ω,T5,u7,bH,b2];refine⟨λa=>⟨?_,z⟩,λa=>?_⟩
 .have a:e7 s j=false:=by simpa using a
  have:h4 s j tl=ν:=by
   unfold h4;unfold e7 at a;cases ag:s.funs[j]? with
   |none=>rfl
   |some f=>
    rw[ag]at a;have a:f.live=0:=by simpa using a
    simp[a]
  rw[this]
 have a:e7 s j=true:=by simpa using a
 obtain⟨f,ag,K⟩:∃f,s.funs[j]?=σ f/\f.live≠0:=by
  unfold e7 at a;cases ag:s.funs[j]? with
  |none=>rw[ag]at a;cases a
  |some f=>rw[ag]at a;exact⟨f,rfl,by simpa using a⟩
 obtain⟨G,ab,ac⟩:=DV h.2.2.2.1 (x5 ag);obtain⟨M,N,O,P,aY,H,L,Q,B,S,U,W,r,x⟩:=(h.ext z).1.parts;obtain⟨y,e⟩:∃y,L[j]?=σ y:=⟨_,x6 (by rw[x.1];exact(x4.1 ag).1)⟩;have C:=(x4.1 e).1;obtain⟨_,X,I⟩:=x.2 j y f e ag;have Y:V.rangeAt H (j*3+1) [y.szv]:=λq v ad=>by
  match q,ad with
  |0,ad=>cases ad;exact r.range e 1 _ rfl
 rw[aS cG.p 3 B rfl,dr rfl fE.u ff.i r C,aU ff.p rfl,bP (cs:=[y.szv]) bB.p bB.i rfl Y];refine(Am X.ls (J.ext z) G).mono ?_;rintro _ aa _ ⟨rfl,Z⟩;have E:=z.trans Z;unfold k7 h4;rw[ag];simp only[if_pos K];cases hi:cH f.ak tl 0 with
 |none=>
  simp only[Option.map_none];rw[bm,bn,bC,al];exact⟨λ_=>⟨trivial,E⟩,λh=>absurd (show(3:Int)≠0 by decide) h⟩
 |some m=>
  simp only[Z6];rw[bm,bn,bC,al];refine⟨λh=>absurd rfl h,λ_=>?_⟩;have af:=nO G.2 hi;have ah:=xh ag;have ai:=pG h.2.1 h.2.2.1;obtain⟨M,N,O,P,aY,H,L,Q,B,S,U,W,r,x⟩:=(h.ext E).1.parts;obtain⟨y,e⟩:∃y,L[j]?=σ y:=⟨_,x6 (by rw[x.1];exact(x4.1 ag).1)⟩;have C:=(x4.1 e).1;obtain⟨_,_,I⟩:=x.2 j y f e ag;rw[aS cG.p 3 B rfl,dr rfl fE.u ff.i r C,aU ff.p rfl,ax (v:=Δ (y.at_:Int)) Ψ (r.range e 2 _ rfl),I,aN,wrap_i64 Ω Ω,aN,wrap_i64 Ω Ω];refine⟨?_,E⟩;congr 1;omega
theorem xl{p:Nat}(a:br k sizes s)(h:h4 s j tl=σ p):s.cells[p]?=σ (m7 s j tl)/\∃f,s.funs[j]?=σ f/\f.live≠0/\∃m:Nat,cH f.ak tl 0=σ (m:Int)/\m<f.cs.length/\p=eS s j+(m+1):=by
 unfold h4 at h;cases ag:s.funs[j]? with
 |none=>rw[ag]at h;cases h
 |some f=>
  rw[ag]at h;simp only at h;split at h
  .rename_i e;obtain⟨m,hm,rfl⟩:=Y7.1 h;obtain⟨r,w,x⟩:=DV a (x5 ag);have y:=nO r.2 hm;obtain⟨q,rfl⟩:∃q:Nat,m=q:=⟨m.toNat,Ω⟩;refine⟨?_,f,rfl,e,q,hm,Ω,Ω⟩;rw[show eS s j+1+(q:Int).toNat=eS s j+(q+1) by omega,wU ag Ω];unfold m7 bt;rw[ag];simp only[hm];show f.cs[q]?=_;rw[u7,u4,x6 Ω];rfl
  .cases h
theorem xm(h:bw w ae gT A R n s t)(e:aI .i64 w aK tl):am x7 zq [Γ ae,Δ (j:Int),aK] w λv w'=>v=(if(h4 s j tl).isSome then .tuple #[Δ (m7 s j tl),Δ 0]else .tuple #[Δ 0,Δ 1])/\Ext w w':=by
 refine az func51 ?_;rw[de db.u];simp only[Z5,a1];refine(DW h e).mono ?_;rintro _ V _ ⟨rfl,a⟩;cases f:h4 s j tl with
 |none=>
  simp only;rw[aR,al];exact⟨λ_=>⟨rfl,a⟩,λh=>Ω⟩
 |some p=>
  simp only;refine cE Ω ?_;obtain⟨y,z,B,C,aY,E,L,G,q,H,r,I,J,K⟩:=(h.ext a).1.parts;rw[aS cG.p 1 q rfl];refine(od (i:=p) r rfl (by rw[h.2.1];exact(xl h.2.2.2.1 f).1)).mono ?_;rintro _ aa _ ⟨rfl,x⟩;exact⟨rfl,a.trans x⟩
end
theorem eJ.parts{a:Nat}{e f r:x1}{A R:aj}{n:aF}{s:aq}{t:aC}(h:eJ w ae gT a e f r A R n s t):∃aY p L q,af w ae cG [Γ a,Γ gT,e,f,r]/\gg w a n/\dv w gT q t/\av .i64 ah w aY e (iw s)/\bi oe 3 ff w p f L/\lq R w L s:=by
 obtain⟨_,aY,p,ge,L,E,q,w0,x,⟨y,z,H⟩,⟨B,I,J,K⟩,C,⟨F,G⟩,M,N⟩:=h;exact⟨aY,p,L,q,x,y.ext z,B,C,F,G⟩
theorem DX{a b:Int}(e:0<=a/\a<=k)(f:0<=b/\b<=k)(hk:1<=k/\k<=2147483648):am x7 zs [Δ a,Δ b,Δ k] w λv w'=>v= .tuple #[Δ (min (a+b) k),Δ 0]/\Ext w w':=by
 refine wa.mono ?_;rintro _ V _ ⟨rfl,J⟩;refine⟨?_,J⟩;unfold nY;rw[if_pos ⟨⟨hk,e.1,e.2⟩,hk,f.1,f.2⟩]
def Room(t:aC):Prop:=t.marks=[]\/t.olds.length<100000000
def ef(s:aq)(i v:Nat):aq:=match s.vars[i]? with
 |some x=>{s with vars:=s.vars.set i {x with mask:=((x.mask.toNat ||| 2 ^ v:Nat):Int)}}
 |none=>s
theorem br.tU{s:aq}{i:Nat}{x y:bG}(h:br k sizes s)(J:s.vars[i]?=σ x)(r:y.un.length=x.un.length)(w:∀c∈y.un,0<=c/\c<=k)(hm:0<=y.mask/\y.mask<4294967296):br k sizes {s with vars:=s.vars.set i y}:=
 ⟨h.ew,h.fq,h.zero,by show(s.vars.set i y).length=_;rw[c9];exact h.vars,λp z q a e=>by
  have a:(s.vars.set i y)[p]?=σ z:=a;rw[Y9]at a;by_cases f:i=p
  .subst f;rw[if_pos rfl,if_pos (x4.1 J).1]at a;cases a;exact⟨r.trans (h.var i x q J e).1,w,hm⟩
  .rw[if_neg f]at a;exact h.var p z q a e,h.funs⟩
theorem br.DY{s:aq}{f g:ca}(h:br k sizes s)(ag:s.funs[j]?=σ f)(h1:g.sc=f.sc)(a:g.ak=f.ak)(e:g.cs.length=f.cs.length)(p:∀c∈g.cs,0<=c/\c<=k):br k sizes {s with funs:=s.funs.set j g}:=
 ⟨h.ew,h.fq,h.zero,h.vars,h.var,λx J=>by
  rcases X9 J with J|rfl
  .exact h.funs x J
  .obtain⟨⟨q,r,w,y,z,C⟩,A,B⟩:=h.funs f (x5 ag);refine⟨⟨?_,?_,?_,?_,?_,p⟩,?_,?_⟩
   .show jt x.sc;rw[h1];exact q
   .show x.sc.Pairwise _;rw[h1];exact r
   .show ∀v∈x.sc,_;rw[h1];exact w
   .show x.cs.length=(aO (bX sizes x.sc)).toNat;rw[h1,e];exact y
   .show aO (bX sizes x.sc)<=_;rw[h1];exact z
   .rw[h1,a];exact A
   .rw[h1];exact B⟩
theorem O6{r:Nat}{c:List x1}(a:af w r e c)(he:¬(e=fG\/e=eC\/e=k2\/e=gu\/e=cG\/e=ff\/e=vu)):¬en w r:=by
 rintro (⟨q,s,f,h⟩|p)
 .rw[eH a f]at he;exact he h
 .exact p _ a rfl
section
variable{w:x3}{ae gT:Nat}{A R:aj}{n:aF}{s:aq}{t:aC}
theorem mV.set(h:mV t)(a:Room t)(p:Nat)(x:Int):mV (t.set p x):=by
 refine⟨by rw[aC.Dj];exact h.1,?_,by rw[aC.wW];exact h.2.2⟩;rcases a with a|a
 .rw[aC.wX a];exact h.2.1
 .have:=aC.Dk t p x;omega
theorem DZ{s':aq}{p:Nat}{x:Int}(h:bw w ae gT A R n s t)(z:y=(p:Int))(a:p<s.cells.length)(B:s.cells.set p x=s'.cells)(U:og s s')(C:br n.k n.sizes s')(E:Room t):
  am x7 zz [Γ gT,Δ y,Δ x] w λr w'=>r=Δ 0/\ai (en w) w w'/\∃aP,Grow A w aP w'/\bw w' ae gT aP R n s' (t.set p x):=by
 obtain⟨G,ad,q,_,H⟩:=id h;obtain⟨I,J,K⟩:=G.rf;have L:p<t.cells.length:=by rw[<-ad]at a;unfold aC.bT at a;rw[r8]at a;exact a
 refine(tJ J.min z L q).mono ?_;rintro _ V _ ⟨rfl,M,e,N⟩;obtain⟨aP,O,P⟩:=K (λr=>I r\/M r) V _ ⟨e.1.mono λr _ h=>h.1,λr f=>f.elim .inl λh=>(e.2.1 r h).imp (λh=>h.1) id,λr f=>.inl f⟩ (N.mono λr h=>.inr h);exact⟨rfl,e.1.mono λr _ h=>.inl h.2,aP,O,P.same U,by rw[aC.qo,ad,B],q.set E p x,C,H⟩
theorem xn{i v:Int}(h:bw w ae gT A R n s t)(K:Room t):am x7 GP [Γ ae,Δ i,Δ v] w λr w'=>(¬ft n i v->r=Δ 1/\Ext w w')/\
  (ft n i v->r=Δ 0/\ai (en w) w w'/\∃aP x,Grow A w aP w'/\bw w' ae gT aP R n (ef s i.toNat v.toNat) (t.set (fR s i.toNat+1) x)):=by
 refine az func61 ?_;rw[de db.u];simp only[Z5,a1];refine(xk h).mono ?_;rintro _ V _ ⟨rfl,f⟩;by_cases e:ft n i v
 rotate_left
 .rw[if_neg e,aR,al];exact⟨λ_=>⟨λ_=>⟨by trivial,f⟩,λh=>absurd h e⟩,λh=>Ω⟩
 rw[if_pos e];refine cE Ω ?_;obtain⟨x,a,M,ac,ad⟩:=e.var h.2.2.2.1;obtain⟨h1,af,ag,aj⟩:=id e;have ak:=h.2.2.2.1.vars;obtain⟨z,N⟩:=aJ (l:=n.sizes) (i:=i.toNat) Ω;obtain⟨_,O,ao,ap⟩:=h.2.2.2.1.var i.toNat x z a N;have aq:=tR a;have au:=pG h.2.1 h.2.2.1;obtain⟨av,aw,ax,ay,P⟩:=(h.ext f).1;obtain⟨aY,aA,L,aB,G,aC,Q,S,aD,aE⟩:=P.parts;rw[aS cG.p 2 G rfl,fY (y:=i) (i:=i.toNat) Ω an.u ah.i Ψ S.ls (tQ Ω),aN,wrap_i64 Ω Ω];intro aa B _ _;have U:=f.trans B;have H:=G.ext B;have W:=Q.ext B;obtain⟨q,rfl⟩:∃q:Nat,v=q:=⟨v.toNat,Ω⟩;obtain⟨mk,I⟩:∃mk:Nat,x.mask=mk:=⟨x.mask.toNat,Ω⟩;rw[u7]at M;rw[aS cG.p 1 H rfl,aS cG.p 1 H rfl,O4 Ω];have X:t.bT[fR s i.toNat+1]?=σ x.mask:=by rw[h.2.1,q7 a Ω];rfl
 refine(od (i:=fR s i.toNat+1) W Ω X).mono ?_;rintro _ aF _ ⟨rfl,J⟩;refine⟨.inl J,?_⟩;have aG:(2:Nat) ^ q<=2 ^ 31:=T8 Ω Ω;rw[I,O3 Ω Ω];have C:=U.trans J;have aH:mk ||| 2 ^ q<2 ^ 32:=Nat.or_lt_two_pow Ω Ω;have E:ef s i.toNat (q:Int).toNat={s with vars:=s.vars.set i.toNat {x with mask:=((mk ||| 2 ^ q:Nat):Int)}}:=by
  unfold ef;rw[a];simp only[I,u7]
 refine(DZ (p:=fR s i.toNat+1) (s':=ef s i.toNat (q:Int).toNat) (h.ext C) Ω Ω ?_ ?_ ?_ K).mono ?_
 .rw[E,Db a Ω];rfl
 .rw[E];exact Dh a rfl
 .rw[E];exact h.2.2.2.1.tU a rfl O ⟨by simp only;omega,by simp only;omega⟩
 rintro _ aI _ ⟨rfl,Y,aP,Z,ab⟩;exact⟨λh=>absurd e h,λ_=>⟨rfl,j1 C Y,aP,_,(Grow.ext C).trans Z,ab⟩⟩
end
theorem xo{ds:x1}{v:Int}(h:aI .i64 w ds l):am x7 HC [ds,Δ v] w λr w'=>r= .bool (decide (v∈l))/\Ext w w':=by
 refine az func137 ?_;rw[aX an.u h];refine cb.range l.length (λi _ V=>Ext w V/\v∉l.take i) h.le ⟨Ext.refl _,Ξ⟩ ?_ ?_
 .rintro i _ V k hi ⟨J,a⟩ hk;obtain⟨x,e⟩:=aJ (l:=l) hi;refine bM Ω ?_;rw[bg an.u ah.i Ψ (h.ext J) e,be,al];refine⟨λhe=>⟨by rw[decide_eq_true];rw[<-he];exact x5 e,J⟩,λf=>?_⟩;rw[aN];refine hk _ _ ⟨J,λhm=>?_⟩;rw[u9,e,j5,o5,o9]at hm;rcases hm with hm|hm
  .exact a hm
  .exact f hm.symm
 .rintro _ V k ⟨J,a⟩;rw[o7]at a;rw[aR,al];exact⟨λh=>Ω,λ_=>⟨by rw[decide_eq_false a],J⟩⟩
theorem O7{x:bG}{v:Int}(h:0<=v/\v<x.un.length):v∈aG x↔dropped x.mask v=false:=by
 unfold aG;rw[T3,j4];constructor
 .rintro⟨_,a⟩;simpa using a
 .intro a;exact⟨⟨v.toNat,T6.2 Ω,Ω⟩,by simp[a]⟩
def dn(s:aq):Prop:=∀f∈s.funs,f.live≠0->∀v∈f.sc,∀x,s.vars[v.toNat]?=σ x->x.gone=0
theorem gg.put{g y:Nat}{c:List x1}{n:aF}(h:gg w y n)(a:af w g a7 c)(f:ai (λr=>r=g) w w'):gg w' y n:=by
 have q:=DP a;have z:∀r,r=g->∃e c,af w r e c/\e≠hq/\e≠cV/\e≠ah/\e≠au/\e≠ay:=λr p=>by
  subst p;exact⟨_,c,a,Φ,Φ,Φ,Φ,Φ⟩
 obtain⟨A,B,C,E,gr,aW,L,nm,szv,gz,fv2,h1,F,G,H,I,J,K⟩:=h;refine⟨A,B,C,E,gr,aW,L,nm,szv,gz,fv2,xf h1 f q Φ,xf F f q Φ,xe G f q Φ,H.ab f λr p=>?_,I,J.ab f λr p=>?_,K⟩
 .obtain⟨e,c,a,_,_,_,s,x⟩:=z r p;exact⟨e,c,a,s,x⟩
 .obtain⟨e,c,a,s,x,M,N,_⟩:=z r p;exact⟨e,c,a,s,x,M,N⟩
theorem StateM.put{g:Nat}{A R:aj}{n:aF}{s:aq}{t:aC}{c:List x1}(h:StateM w ae gT A R n s t)(y:af w g a7 c)(p:ai (λr=>r=g) w w')(Q:¬A g):∃R',(∀r,R' r->R r/\r≠g)/\StateM w' ae gT A R' n s t:=by
 obtain⟨S,V,W,X,⟨h1,Y,Z,aa⟩,aY,ac,ge,L,E,ad,w0,ah,⟨I,C,ak⟩,⟨al,K,am,an⟩,ao,⟨ap,M⟩,au,N⟩:=h;obtain⟨ct,O⟩:=C4;have z:=p.size;have q:=DP y;have B:∀r,(w0.heap.setIfInBounds g ct)[r]?=if g=r then(if g<w0.heap.size then σ ct else ν)else w0.heap[r]?:=λr=>Array.getElem?_setIfInBounds;have av:∀r,A r->r≠g:=λr a he=>Q (he▸a);have int:∀{v:x1}{l:Λ},iW R w v l->iW (λr=>R r/\r≠g) w' v l:=λ⟨⟨aw,hm⟩,ax⟩=>⟨⟨aw,xe hm p q Φ⟩,λr a=>⟨ax r a,b7 hm y Φ a⟩⟩;refine⟨λr=>R r/\r≠g,λr h=>h,S,V,W,X,⟨h1,λr a ay=>Y r a ay.1,λr a=>by have:=Z r a.1;omega,λr a=>by have:=aa r a;omega⟩,aY,ac,ge,L,E,ad,{w0 with heap:=w0.heap.setIfInBounds g ct},xf ah p q Φ,⟨?_,?_,?_⟩,
  ⟨al.ab p λr a=>av r (K r a),K,am,an⟩,xe ao p q Φ,⟨DO ap p q Φ,M.1,λj x f J ag=>?_⟩,DO au p q Φ,N.1,λj x e J he=>?_⟩
 .by_cases U:∃o,w0.heap[g]?=σ o/\fA o=true
  .obtain⟨o,P,az⟩:=U;have aA:af w0 g a7 c:=by
    unfold af at y ⊢;have:=C.aZ g o P az;rw[y]at this;rw[P,this]
   refine I.put aA ⟨Ξ,λr o a U aB=>?_⟩;show(w0.heap.setIfInBounds g ct)[r]?=σ o;rw[B,if_neg λhe=>aB he.symm];exact a
  .refine I.ext ⟨Ξ,λr o a aD=>?_⟩;show(w0.heap.setIfInBounds g ct)[r]?=σ o;rw[B,if_neg λhe=>U ⟨o,by rw[he];exact a,aD⟩];exact a
 .refine⟨by show(w0.heap.setIfInBounds g ct).size<=_;rw[Array.size_setIfInBounds];exact Y8 C.size z,λr o a U=>?_⟩;have a:(w0.heap.setIfInBounds g ct)[r]?=σ o:=a;rw[B]at a;by_cases he:g=r
  .rw[if_pos he]at a;split at a
   .cases a;rw[O]at U;cases U
   .cases a
  .rw[if_neg he]at a;exact p.aZ r o (C.aZ r o a U) U λh=>he h.symm
 .intro r o a U;have a:(w0.heap.setIfInBounds g ct)[r]?=σ o:=a;rw[B]at a;by_cases he:g=r
  .rw[if_pos he]at a;split at a
   .cases a;rw[O]at U;cases U
   .cases a
  .rw[if_neg he]at a;exact⟨ak r o a U,λh=>he h.symm⟩
 .obtain⟨F,G,H⟩:=M.2 j x f J ag;exact⟨int F,int G,H⟩
 .obtain⟨F,G,H⟩:=N.2 j x e J he;exact⟨F,int G,int H⟩
theorem O8{f:bY}(p:pl.length<=60000)(h:fj pl=σ f):∃N,N<=60000/\e0 N f/\f.name≠[]/\∀b∈f.name,bN b=true:=by
 unfold fj at h;rw[if_neg Ω]at h;cases a:gX ⟨(lex pl).1,0,false,[]⟩with
 |none=>rw[a]at h;cases h
 |some q=>
  obtain⟨r,s⟩:=q;rw[a]at h;simp only at h;split at h
  .rename_i aB;cases h;obtain⟨h1,e⟩:=Bt rfl a aB.2.2;have w:=pa pl.length pl (o4 _);obtain⟨V,aa,_⟩:=sH pl.length pl (o4 _) f.name e;exact⟨_,by show(lex pl).1.length<=60000;omega,h1,V,aa⟩
  .cases h
theorem O9:am x7 zr [.pointer ν] w λv w'=>v= .pointer ν/\Ext w w':=by
 refine az func58 ?_;rw[de mA.u];simp only[Option.isNone_none,bR];exact⟨by trivial,Ext.refl _⟩
theorem Pa(h:aI .u8 w v l)(C:l.length<=100000):am x7 GJ [v] w λf w'=>Ext w w'/\∃g,av .u8 cI w' g f l:=by
 have e:=h;obtain⟨E,b,o,base,cap,rfl,G,hm,s,x⟩:=h;refine az func54 ?_;rw[oX cN.u,b2];refine⟨λy=>⟨Ext.refl _,0,?_⟩,λ_=>?_⟩
 .have:l=[]:=by
   cases base with
   |none=>
        by_cases e:0<l.length
        .have:=s e;cases this
        .exact j6 Ω
   |some a=>cases y
  subst this;exact av.nil _ _ _ _
 .refine xg (k:=.u8) cN.u cI.i λH g1 V I p q=>?_;refine hJ cN.u cI.i rfl q (e.ext p) Θ Θ λf z aa A J B=>?_;exact⟨p.then B (λr x he=>by have:=(bQ q he).1;omega),z,by simpa using A⟩
def Pb(sv:x1):Prop:=∃cs:List x1,sv= .agg cs.toArray/\cs.length=8/\∀u∈cs,u.oneCell'=true
theorem D0:Pb (.agg z12.toArray):=⟨z12,rfl,rfl,by intro u hu;simp[z12]at hu;rcases hu with rfl|rfl|rfl|rfl<;>rfl⟩
theorem xp{f:bY}(a:e0 N f):(cR f).funs.length<=256:=by
 have h1:=(py a).2.length_eq;have h:=(kC a).2.2;have p:=R3 fl (fc f);have q:=a.la;have e:=(oa f (fm f).length).2.2.2;rw[q6]at e;omega
theorem Pc{n:aF}{t:aC}(e:jZ n)(ag:n.funs.length<=256)(ad:t.bT=(cY n).cells)(a:Plain t):mV t:=by
 have h1:=tN e ag n.unary.length n.funs.length;rw[w3,<-ad]at h1;unfold aC.bT at h1;rw[r8]at h1;refine⟨Ω,?_,?_⟩
 .rw[a.2.1];exact X4 _
 .rw[a.1];exact X4 _
section
variable{w:x3}{ae gT:Nat}{A R:aj}{n:aF}{s:aq}{t:aC}
theorem D1{j:Int}(h:bw w ae gT A R n s t)(p:¬(0<=j/\j<s.funs.length)):am x7 qc [Γ ae,Δ j] w λr w'=>r= .slice ν 0 0/\Ext w w':=by
 refine az func76 ?_;refine aV (λv V=>v= .bool true/\Ext w V) ?_ ?_
 .rintro _ V ⟨rfl,e⟩;rw[bR];exact⟨rfl,e⟩
 intro aA a;rw[aR,al];refine⟨λ_=>a _ _ ⟨rfl,Ext.refl _⟩,λq=>?_⟩;refine(rj h).mono ?_;rintro _ x _ ⟨rfl,f⟩;rw[cM];exact a _ _ ⟨by rw[decide_eq_true Ω],f⟩
end
section
variable{w:x3}{B:Nat}{sv:x1}{k:Int}{sizes:Λ}{s:aq}
end
def iy:List (Λ)->List (Λ)
 |[]=>[[]]
 |d::a=>d.flatMap λv=>(iy a).map (v:: ·)
theorem tV:∀{e:List (Λ)}{t:Λ},t∈iy e↔t.length=e.length/\∀(p:Nat)d v,e[p]?=σ d->t[p]?=σ v->v∈d
 |[],t=>by
  simp only[iy,o9];exact⟨λh=>by subst h;exact⟨rfl,λp d v h=>by simp at h⟩,λh=>j6 h.1⟩
 |d::e,t=>by
  simp only[iy,S7,j4];constructor
  .rintro⟨v,ad,bq,r,rfl⟩;obtain⟨h1,f⟩:=tV.1 r;refine⟨by simp[h1],λp q u a hu=>?_⟩;cases p with
   |zero=>simp at a hu;subst a hu;exact ad
   |succ p=>exact f p q u (by simpa using a) (by simpa using hu)
  .rintro⟨h1,f⟩;cases t with
   |nil=>simp at h1
   |cons v bq=>exact⟨v,f 0 d v rfl rfl,bq,tV.2 ⟨by simpa using h1,λp q u a hu=>f (p+1) q u (by simpa using a) (by simpa using hu)⟩,rfl⟩
def m8:List (Int->Bool)->Λ->Bool
 |q::a,v::t=>q v&&m8 a t
 |_,_=>true
theorem D2:∀(r:List (Λ))(a:List (Int->Bool)),a.length=r.length->iy ((r.zip a).map λp=>p.1.filter p.2)=(iy r).filter (m8 a)
 |[],[],_=>rfl
 |d::r,q::a,h=>by
  have s:=D2 r a (by simpa using h);simp only[List.zip_cons_cons,U6,iy];rw[s];clear s h;induction d with
  |nil=>rfl
  |cons v d w=>
   rw[X7,List.filter_append,<-w];have e:((iy r).map (v:: ·)).filter (m8 (q::a))=if q v then((iy r).filter (m8 a)).map (v:: ·)else[]:=by
    rw[List.filter_map];by_cases f:q v=true
    .rw[if_pos f];congr 1;apply List.filter_congr;intro t _;show(q v&&m8 a t)=_;rw[f,T5]
    .rw[if_neg f];rw[List.filter_eq_nil_iff.2 λt _=>by show¬(q v&&m8 a t)=true;simp[f]];rfl
   rw[e];by_cases f:q v=true
   .rw[if_pos f,List.filter_cons_of_pos f,X7]
   .rw[if_neg f,List.filter_cons_of_neg f];rfl
def hL(k:Int):Λ:=(X0 k.toNat).map λv:Nat=>(v:Int)
theorem xq:∀(s:Λ),bp s=iy (s.map hL)
 |[]=>rfl
 |k::s=>by
  simp only[bp,U6,iy,hL,List.flatMap_map,<-xq s]
theorem tW{v:Int}:v∈hL k↔0<=v/\v<k:=by
 unfold hL;rw[j4];constructor
 .rintro⟨n,a,rfl⟩;have:=T6.1 a;omega
 .intro h;exact⟨v.toNat,T6.2 Ω,Ω⟩
def dD(f:Int->Int)(L:List (Λ))(ak cs:Λ):Λ:=((bp ak).zip cs).map λp=>if p.1∈L then f p.2 else p.2
theorem om(f:Int->Int)(L:List (Λ))(ak cs:Λ)(h:cs.length<=(bp ak).length):(dD f L ak cs).length=cs.length:=by
 unfold dD;rw[r8,List.length_zip];omega
theorem pI{f:Int->Int}{L:List (Λ)}{i:Nat}(a:(bp ak)[i]?=σ t)(e:cs[i]?=σ c):(dD f L ak cs)[i]?=σ (if t∈L then f c else c):=by
 unfold dD;have h:((bp ak).zip cs)[i]?=σ (t,c):=List.getElem?_zip_eq_some.2 ⟨a,e⟩;rw[x8,h];rfl
theorem Pd{f:Int->Int}{L:List (Λ)}{i:Nat}(U:dQ ak)(q:cs.length<=(bp ak).length)(p:(bp ak)[i]?=σ t)(r:cs[i]?=σ c)(x:t∉L):(dD f L ak cs)[i]?=σ c/\(dD f L ak cs).set i (f c)=dD f (L++[t]) ak cs:=by
 have h1:=pI (f:=f) (L:=L) p r;rw[if_neg x]at h1;refine⟨h1,?_⟩;apply Y3;intro j;rw[Y9];by_cases s:i=j
 .subst s;rw[if_pos rfl,if_pos (x4.1 h1).1,pI p r,if_pos Ξ]
 .rw[if_neg s];cases a:cs[j]? with
  |none=>
   have:=List.getElem?_eq_none_iff.1 a;rw[Z2 (by rw[om _ _ _ _ q];exact this),Z2 (by rw[om _ _ _ _ q];exact this)]
  |some A=>
   obtain⟨u,hu⟩:∃u,(bp ak)[j]?=σ u:=⟨_,x6 (by have:=(x4.1 a).1;omega)⟩;rw[pI hu a,pI hu a];have y:u≠t:=λhe=>by
    subst he;have z:=jT U p;have w:=jT U hu;rw[z]at w;have:=b9 w;omega
   have:u∈L++[t]↔u∈L:=by simp[y]
   by_cases e:u∈L
   .rw[if_pos e,if_pos (this.2 e)]
   .rw[if_neg e,if_neg λh=>e (this.1 h)]
def kJ(s:aq)(i v:Nat)(c:Int):aq:=match s.vars[i]? with
 |some x=>{s with vars:=s.vars.set i {x with un:=x.un.set v c}}
 |none=>s
def kK(s:aq)(j m:Nat)(c:Int):aq:=match s.funs[j]? with
 |some f=>{s with funs:=s.funs.set j {f with cs:=f.cs.set m c}}
 |none=>s
theorem rl{i:Nat}(h:∀x∈l,0<=x/\x<=k)(a:0<=c/\c<=k):∀x∈l.set i c,0<=x/\x<=k:=λx J=>by
 rcases X9 J with J|rfl
 .exact h x J
 .exact a
def m9(w:x3)(ae gT:Nat)(A R:aj)(n:aF)(s':aq)(t:aC)(v:x1)(w':x3):Prop:=v=Δ 0/\ai (en w) w w'/\∃aP p x,Grow A w aP w'/\bw w' ae gT aP R n s' (t.set p x)
theorem m9.ext{A R:aj}{n:aF}{s':aq}{t:aC}(J:Ext w V)(h:m9 V ae gT A R n s' t v w'):m9 w ae gT A R n s' t v w':=by
 obtain⟨h1,a,aP,p,x,e,f⟩:=h;exact⟨h1,j1 J a,aP,p,x,(Grow.ext J).trans e,f⟩
section
variable{w:x3}{ae gT:Nat}{A R:aj}{n:aF}{s:aq}{t:aC}
theorem rm(h:bw w ae gT A R n s t)(f:y<0\/¬(0<=c/\c<=n.k)):am x7 zP [Γ ae,Δ y,Δ c] w λv w'=>v=Δ (if y<0 then 1 else 3)/\Ext w w':=by
 refine az func269 ?_;rw[de db.u];simp only[Z5,a1];rw[aR,al];refine⟨λe=>⟨by rw[if_pos e],Ext.refl _⟩,λe=>?_⟩;refine(j7 h).mono ?_;rintro _ V _ ⟨rfl,p⟩;refine(jP (a:=c) (k:=n.k)).mono ?_;rintro _ aa _ ⟨rfl,q⟩;have r:=f.resolve_left e;rw[decide_eq_false (λh=>r h.2),bH,W7,bR,if_neg e];exact⟨rfl,p.trans q⟩
theorem xr{s':aq}{p:Nat}(h:bw w ae gT A R n s t)(f:Room t)(q:y=(p:Int))(r:p<s.cells.length)(x:s.cells.set p c=s'.cells)(U:og s s')(z:br n.k n.sizes s')(B:0<=c/\c<=n.k):
  am x7 zP [Γ ae,Δ y,Δ c] w (m9 w ae gT A R n s' t):=by
 refine az func269 ?_;rw[de db.u];simp only[Z5,a1];refine cE Ω ?_;refine(j7 h).mono ?_;rintro _ V _ ⟨rfl,C⟩;refine(jP (a:=c) (k:=n.k)).mono ?_;rintro _ aa _ ⟨rfl,E⟩;have e:=C.trans E;rw[decide_eq_true (show cq c n.k from⟨h.2.2.2.1.ew,B⟩),bH,X1,a1];obtain⟨K,M,N,O,aY,P,L,Q,G,S,W,X,Y,Z⟩:=(h.ext e).1.parts;rw[aS cG.p 1 G rfl];refine(DZ (h.ext e) q r x U z f).mono ?_;rintro _ ab _ ⟨rfl,H,aP,I,J⟩;exact m9.ext e ⟨rfl,H,aP,_,_,I,J⟩
theorem Pe(h:bw w ae gT A R n s t)(e:Room t):am x7 IA [Γ ae,Δ c] w λv w'=>(¬(0<=c/\c<=n.k)->v=Δ 3/\Ext w w')/\((0<=c/\c<=n.k)->m9 w ae gT A R n {s with zero:=c} t v w'):=by
 refine az func222 ?_;by_cases a:0<=c/\c<=n.k
 .refine (xr (p:=0) h e rfl (by unfold aq.cells iV;simp) (N5 s c) (Dg s c) ⟨h.2.2.2.1.ew,h.2.2.2.1.fq,a,h.2.2.2.1.vars,h.2.2.2.1.var,h.2.2.2.1.funs⟩ a).mono ?_;rintro v V _ f;exact⟨λh=>absurd a h,λ_=>f⟩
 .refine (rm h (.inr a)).mono ?_;rintro v V _ ⟨rfl,q⟩;exact⟨λ_=>⟨rfl,q⟩,λh=>absurd h a⟩
theorem D3{i v:Int}(h:bw w ae gT A R n s t)(C:Room t):am x7 Iz [Γ ae,Δ i,Δ v,Δ c] w λr w'=>
  (¬ft n i v->r=Δ 1/\Ext w w')/\(ft n i v->¬(0<=c/\c<=n.k)->r=Δ 3/\Ext w w')/\(ft n i v->(0<=c/\c<=n.k)->m9 w ae gT A R n (kJ s i.toNat v.toNat c) t r w'):=by
 refine az func221 ?_;refine(xk h).mono ?_;rintro _ V _ ⟨rfl,e⟩;by_cases a:ft n i v
 .rw[if_pos a];by_cases q:0<=c/\c<=n.k
  .obtain⟨x,f,I,J,_⟩:=a.var h.2.2.2.1;have K:=h.2.2.2.1.vars;obtain⟨z,E⟩:∃z,n.sizes[i.toNat]?=σ z:=⟨_,x6 (by have:=a.1;have:=a.2.1;omega)⟩;obtain⟨_,G,hm⟩:=h.2.2.2.1.var i.toNat x z f E;have L:=tR f;have y:kJ s i.toNat v.toNat c={s with vars:=s.vars.set i.toNat {x with un:=x.un.set v.toNat c}}:=by unfold kJ;rw[f]
   refine(xr (p:=fR s i.toNat+(2+v.toNat)) (s':=kJ s i.toNat v.toNat c) (h.ext e) C Ω Ω ?_ ?_ ?_ q).mono ?_
   .rw[y];refine Db f Ω ?_;rw[show 2+v.toNat=v.toNat+1+1 by omega];rfl
   .rw[y];exact Dh f Ξ
   .rw[y];exact h.2.2.2.1.tU f Ξ (rl G q) hm
   .rintro r aa _ H;exact⟨λh=>absurd a h,λ_ h=>absurd q h,λ_ _=>H.ext e⟩
  .refine (rm (h.ext e) (.inr q)).mono ?_;rintro r aa _ ⟨rfl,B⟩;rw[if_neg Ω];exact⟨λh=>absurd a h,λ_ _=>⟨rfl,e.trans B⟩,λ_ h=>absurd h q⟩
 .rw[if_neg a];refine(rm (h.ext e) (.inl Ω)).mono ?_;rintro r aa _ ⟨rfl,B⟩;rw[if_pos Ω];exact⟨λ_=>⟨rfl,e.trans B⟩,λh=>absurd h a,λh=>absurd h a⟩
theorem Pf(h:bw w ae gT A R n s t)(B:Room t)(C:aI .i64 w aK tl):am x7 Iy [Γ ae,Δ (j:Int),aK,Δ c] w λr w'=>
  (h4 s j tl=ν->r=Δ 1/\Ext w w')/\((h4 s j tl).isSome=true->¬(0<=c/\c<=n.k)->r=Δ 3/\Ext w w')/\
  ((h4 s j tl).isSome=true->(0<=c/\c<=n.k)->∀f (m:Nat),s.funs[j]?=σ f->cH f.ak tl 0=σ (m:Int)->m9 w ae gT A R n (kK s j m c) t r w'):=by
 refine az func220 ?_;refine(DW h C).mono ?_;rintro _ V _ ⟨rfl,a⟩;cases E:h4 s j tl with
 |none=>
  simp only;refine(rm (h.ext a) (.inl Ω)).mono ?_;rintro r aa _ ⟨rfl,q⟩;rw[if_pos Ω];exact⟨λ_=>⟨rfl,a.trans q⟩,λh=>by simp at h,λh=>by simp at h⟩
 |some p=>
  simp only;by_cases e:0<=c/\c<=n.k
  .obtain⟨I,f,ag,J,m,hm,K,rfl⟩:=xl h.2.2.2.1 E;have L:=xh ag;have x:kK s j m c={s with funs:=s.funs.set j {f with cs:=f.cs.set m c}}:=by unfold kK;rw[ag]
   obtain⟨G,_⟩:=h.2.2.2.1.funs f (x5 ag);refine(xr (p:=eS s j+(m+1)) (s':=kK s j m c) (h.ext a) B rfl Ω ?_ ?_ ?_ e).mono ?_
   .rw[x];exact N6 ag Ω rfl
   .rw[x];exact Of ag Ξ rfl rfl
   .rw[x];exact h.2.2.2.1.DY ag rfl rfl Ξ (rl G.h0 e)
   .rintro r aa _ H;refine⟨(λh=>by cases h),λ_ h=>absurd e h,λ_ _ M cd y z=>?_⟩;rw[ag]at y;cases y;rw[hm]at z;have:cd=m:=by have:=b9 z;omega
    subst this;exact H.ext a
  .refine (rm (h.ext a) (.inr e)).mono ?_;rintro r aa _ ⟨rfl,q⟩;rw[if_neg Ω];exact⟨(λh=>by cases h),λ_ _=>⟨rfl,a.trans q⟩,λ_ h=>absurd h e⟩
end
end Go.Proofs.YtikkpokkcdocoabGreatDoor
