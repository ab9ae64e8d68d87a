/- own texts, made small by a tool (wip/ holds them as they were written): no statement of the seat. -/
import Derived.Test.YtikkpokkcdocoabGreatDoorXc
set_option linter.unusedVariables false
set_option linter.unusedSimpArgs false
set_option linter.unnecessarySimpa false
open Array renaming getElem?_eq_some_iff→j4
open BitVec renaming ofInt→T4
open Bool renaming not_true→Y7,not_false→V0,eq_iff_iff→V9,and_eq_true→U1,true_and→U6,or_eq_false_iff→S7
open Decidable renaming not_not→Y0
open Go renaming Value→x1,World→x3,TypeId→p8,IntKind→o6,Program→W8
open Go.Builtin renaming append_→Z2,len_→V2
open Go.Instr renaming loadAt→u5,fieldAt→u6,storeAt→o9,indexAt→c9,extract→Y1,buildSlice→Y3,sliceAt→U3
open Go.IntKind renaming i64→X9
open Go.Proofs.Tryz renaming prog→x7
open Int renaming toNat_natCast→r9
open List renaming getElem?_eq_some_iff→x4,mem_of_getElem?→x5,getElem?_eq_getElem→x6,getElem?_map→x8,getD_eq_getElem?_getD→u4,take_add_one→u7,length_map→u9,length_append→r8,replicate→p9,mem_append→o5,take_length→o7,length_take→n9,mem_singleton→l9,mem_map→j5,take_of_length_le→j6,length_cons→j9,eq_nil_of_length_eq_zero→c8,length_set→b8,getElem?_set_self→b9,map_append→Z3,getElem?_eq_none→Z4,getElem?_take_of_lt→Z9,getElem?_set_ne→Y4,ext_getElem?→Y5,append_assoc→Y6,getElem?_append_left→Y9,getElem?_append_right→X0,getElem?_set→X2,range→X3,append_nil→X5,mem_iff_getElem?→X7,flatMap_cons→W0,drop_eq_getElem_cons→W3,mem_or_eq_of_mem_set→W5,length_eq_one_iff→W9,mem_cons→V4,length_singleton→V6,map_set→U9,map_cons→T1,getElem_mem→T2,mem_range→T6,set_append_right→T8,length_filter_le→T9,mem_of_mem_take→S0,length→S5,flatMap_append→S8,mem_flatMap→R2,map_map→R4
open Nat renaming le_refl→o4,le_trans→Y8,mul_le_mul_right→X1,zero_le→X6,zero_add→X8,add_mul→U4,mul_one→U7,sub_self→U8,pow_le_pow_right→S2,add_assoc→R5,add_sub_cancel_left→R6,eq_zero_or_pos→Q2
open Option renaming toList_some→o8,some→c7,isNone_some→Z5,map_some→Z7,getD_some→V1,map→V7,isSome_some→S3,isSome_none→R3
open Option.some renaming inj→Z0,injEq→Y2
open Prod renaming mk→Q3
open Prod.mk renaming injEq→T5
set_option maxHeartbeats 16000000
open Option renaming some→σ,none→ν
variable{aa w w':x3}{B N ae gT gs gz j:Nat}{P a e t:p8}{cs:List x1}{all l pl sizes:Λ}{k n:Int}{sv szv v z:x1}{K:x1->Prop}{S:Nat->Prop}
namespace Go.Proofs.YtikkpokkcdocoabGreatDoor
open Go Go.Vc Go.RowKit Go.Proofs Go.Proofs.Tryz
set_option maxRecDepth 100000
theorem aC.xe(t:aC)(i:Nat)(x:Int):(t.set i x).marks=t.marks:=by
 unfold aC.set;cases t.cells[i]? with
 |none=>rfl
 |some c=>
  simp only;cases t.marks.getLast? with
  |none=>rfl
  |some m=>simp only;split<;>rfl
theorem aC.Dx(t:aC)(i:Nat)(x:Int):(t.set i x).ii=t.ii:=by
 unfold aC.set;cases t.cells[i]? with
 |none=>rfl
 |some c=>
  simp only;cases t.marks.getLast? with
  |none=>rfl
  |some m=>simp only;split<;>rfl
theorem aC.Dy(t:aC)(i:Nat)(x:Int):(t.set i x).cells.length=t.cells.length:=by
 have h:=congrArg S5 (aC.qF (t:=t) (i:=i) (x:=x));rw[b8]at h;unfold aC.bR at h;rwa [u9,u9]at h
theorem aC.Dz(t:aC)(i:Nat)(x:Int):(t.set i x).olds.length<=t.olds.length+1:=by
 unfold aC.set;cases t.cells[i]? with
 |none=>exact Nat.le_succ _
 |some c=>
  simp only;cases t.marks.getLast? with
  |none=>exact Nat.le_succ _
  |some m=>simp only;split<;>simp
theorem aC.xf{t:aC}(h:t.marks=[])(i:Nat)(x:Int):(t.set i x).olds=t.olds:=by
 unfold aC.set;cases t.cells[i]? with
 |none=>rfl
 |some c=>simp only[h,List.getLast?_nil]
def fV(t:aC)(l:Λ):Nat->aC
 |0=>t.grow l.length
 |i+1=>(fV t l i).set (t.cells.length+i) (l.getD i 0)
def nc(t:aC)(l:Λ):aC:=fV t l l.length
theorem ru(t:aC)(l:Λ):∀i,(fV t l i).marks=t.marks
 |0=>rfl
 |i+1=>(aC.xe _ _ _).trans (ru t l i)
theorem DA(t:aC)(l:Λ):∀i,(fV t l i).ii=t.ii
 |0=>rfl
 |i+1=>(aC.Dx _ _ _).trans (DA t l i)
theorem xg(t:aC)(l:Λ):∀i,(fV t l i).cells.length=t.cells.length+l.length
 |0=>by simp[fV,aC.grow]
 |i+1=>(aC.Dy _ _ _).trans (xg t l i)
theorem xh(t:aC)(l:Λ):∀i,(fV t l i).olds.length<=t.olds.length+i
 |0=>o4 _
 |i+1=>by have:=aC.Dz (fV t l i) (t.cells.length+i) (l.getD i 0);have:=xh t l i;show(aC.set _ _ _).olds.length<=_;omega
theorem DB{t:aC}(h:t.marks=[])(l:Λ):∀i,(fV t l i).olds=t.olds
 |0=>rfl
 |i+1=>(aC.xf ((ru t l i).trans h) _ _).trans (DB h l i)
theorem DC(t:aC)(l:Λ):∀i,i<=l.length->(fV t l i).bR=t.bR++(l.take i++p9 (l.length-i) 0)
 |0,_=>by rw[List.take_zero,List.nil_append];exact aC.J4
 |i+1,h=>by
  have a:=DC t l i Ω;show(aC.set _ _ _).bR=_;have e:t.bR.length=t.cells.length:=by simp[aC.bR]
  rw[aC.qF,a,T8 _ _ Ω,e,R6,T8 _ _ (by rw[n9];omega),n9,Nat.min_eq_left Ω,U8,show l.length-i=(l.length-(i+1))+1 by omega,List.replicate_succ,List.set_cons_zero,u7,u4,x6 (show i<l.length by omega)];simp only[o8,V1,Y6,List.singleton_append]
theorem DD(t:aC)(l:Λ):(nc t l).bR=t.bR++l:=by
 unfold nc;rw[DC t l _ (o4 _),o7,U8,List.replicate_zero,X5]
theorem hv.fV{h:List aC}{t:aC}(hk:hv t h)(l:Λ):∀i,hv (fV t l i) h
 |0=>hk.grow
 |i+1=>(hv.fV hk l i).set
theorem jw{s:Go.Sem x1}{x:x1}(h:ac x7 s w (λv=>v=x)):cD x7 s x w:=by
 obtain⟨v,h,rfl⟩:=h;exact h
theorem uc{off:Nat}{z:Nat}{x:x1}(f:af w ae e cs)(h:∀(K:x1->Prop),ac x7 (u6 cq (Γ ae) z) w K=K (.pointer (σ ⟨ae,0+off,ν⟩)))(p:jR x7 a=true)(q:cs[0+off]?=σ x):
  cD x7 (u5 a (.pointer (σ ⟨ae,0+off,ν⟩))) x w/\cD x7 (u6 cq (Γ ae) z) (.pointer (σ ⟨ae,0+off,ν⟩)) w/\cD x7 (bP (Γ ae)) (Γ ae) w/\True:=
 ⟨md p (f.cell q),jw (by rw[h]),jw (by rw[bV]),trivial⟩
def DE(w:x3)(r:Nat):Prop:=∃e c,af w r e c/\(e=fK\/e=eF\/e=la\/e=gv\/e=cq\/e=dC\/e=gp)
def et(w:x3)(r:Nat):Prop:=DE w r\/∀o,w.heap[r]?=σ o->fF o≠true
theorem ne{V:x3}{r:Nat}(hk:∀o,w.heap[r]?=σ o->fF o=true->¬et w r->V.heap[r]?=σ o)(h:et V r):et w r:=by
 by_cases a:et w r
 .exact a
 .refine absurd (.inr λo p U=>?_) a;have h1:=hk o p U a;rcases h with⟨e,c,f,he⟩|q
  .refine a (.inl ⟨e,c,?_,he⟩);unfold af at f ⊢;rw[h1]at f;rw[p];exact f
  .exact q o h1 U
theorem j7{V:x3}(J:Ext w V)(a:ai (et V) V aa):ai (et w) w aa:=(J.ab _).trans (a.mono λr _ h=>ne (λo e U _=>J.aZ r o e U) h)
theorem xi{V:x3}(h:ai (et w) w V)(a:ai (et V) V aa):ai (et w) w aa:=h.trans (a.mono λr _ e=>ne (λo f U p=>h.aZ r o f U p) e)
theorem dt.min{A:ak}{t:aC}(h:dt w gT A t):dt w gT (λr=>A r/\DE w r) t:=by
 obtain⟨s,x,go,dh,a6,y,dJ,h1,f,p,q,z⟩:=h;refine⟨⟨s,_,_,h1,.inl rfl⟩,x,go,dh,a6,y,dJ,h1,f,p,q,λr a=>⟨z r a,?_⟩⟩;rcases a with a|a|a
 .obtain⟨rfl,c,e⟩:=dS f a;exact⟨_,c,e,.inr (.inl rfl)⟩
 .obtain⟨rfl,c,e⟩:=dS p a;exact⟨_,c,e,.inr (.inr (.inl rfl))⟩
 .obtain⟨rfl,c,e⟩:=dS q a;exact⟨_,c,e,.inr (.inr (.inr (.inl rfl)))⟩
theorem eL.xj{p:Nat}{q x y:x1}{A R:ak}{n:aJ}{s:au}{t:aC}(h:eL w ae gT p q x y A R n s t):∃a,dt w gT a t/\∀z w' bp,Grow a w z w'->dt w' gT z bp->ai (et w) w w'/\∃aT,Grow A w aT w'/\eL w' ae gT p q x y aT R n s bp:=by
 obtain⟨a,B,C⟩:=h.rt;refine⟨_,B.min,λE V bp e F=>⟨e.1.mono λr _ h=>.inl h.2,?_⟩⟩;exact C (λr=>a r\/E r) V _ ⟨e.1.mono λr _ h=>h.1,λr f=>f.elim .inl λh=>(e.2.1 r h).imp (λh=>h.1) id,λr f=>.inl f⟩ (F.mono λr h=>.inr h)
theorem DF{z:Nat}{B C G:x1}{A R:ak}{n:aJ}{s:au}{t:aC}{cO:x1}(h:eL w ae gT z B C G A R n s t)(H:aH .i64 w cO l)(Q:∀r,leads cO r->¬A r)(aF:t.cells.length+l.length<=100000000)(aG:t.olds.length+l.length<=100000000)(hm:t.marks.length<=100000000):
  am x7 zN [Γ ae,cO] w λv w'=>v=Δ (t.cells.length:Int)/\ai (et w) w w'/\∃aT,Grow A w aT w'/\eL w' ae gT z B C G aT R n s (nc t l):=by
 refine az func127 ?_;obtain⟨_,aY,S,ge,L,E,_,w0,I,_⟩:=id h;obtain⟨U,K,M⟩:=h.xj;rw[aQ cq.p 1 I rfl,aW ay.u H];refine(Od (n:=l.length) K ⟨Ω,Ω,hm⟩ Ω).mono ?_;rintro _ V _ ⟨rfl,W,X,Y⟩;obtain⟨Z,ab,O,ac⟩:=M W V _ X Y;have P:∀{aT:ak}{w':x3},Grow A w aT w'->aH .i64 w' cO l:=λaf=>hT H af.1 λr ag a ah c ad aj=>Q r ⟨a,ah,c,ad,aj⟩ ag;rw[aW ay.u (P O)];have an:=H.le;refine ce.range l.length (λi aa=>ai (et w) w aa/\∃f,Grow A w f aa/\eL aa ae gT z B C G f R n s (fV t l i)) an ⟨Z,ab,O,ac⟩ ?_ ?_
 .rintro i aa k hi ⟨N,f,q,y⟩ hk;refine bH Ω ?_;obtain⟨x,J⟩:=aI (l:=l) hi;rw[bh ay.u ao.i Ψ (P q) J];obtain⟨_,aY,S,ge,L,E,_,w0,I,_⟩:=id y;obtain⟨U,K,M⟩:=y.xj;have aK:=xg t l i;have aL:=xh t l i;have ap:=ru t l i;rw[aQ cq.p 1 I rfl,aO,wrap_i64 Ω Ω];refine(tY (i:=t.cells.length+i) K Ω Ω ⟨Ω,Ω,by rw[ap];exact hm⟩).mono ?_;rintro _ aq _ ⟨rfl,av,aw,ax⟩;obtain⟨aA,aB,aD,aE⟩:=M av aq _ aw ax;rw[aO];refine hk _ ⟨xi N aA,aB,q.trans aD,?_⟩;have e:fV t l (i+1)=(fV t l i).set (t.cells.length+i) x:=by
   show(fV t l i).set _ (l.getD i 0)=_;rw[u4,J];rfl
  rw[e];exact aE
 .rintro aa k ⟨N,f,q,y⟩;rw[aS,al];exact⟨λh=>Ω,λ_=>⟨rfl,N,f,q,y⟩⟩
def iX(s:au)(sc aj cs:Λ):au:={s with funs:=s.funs++[⟨sc,aj,1,cs⟩]}
def oy(s:au)(t:aC)(cs:Λ):aC:=(nc t (1::cs)).set 1 ((s.funs.length+1:Nat):Int)
theorem Ou{s:au}{t:aC}{sc aj cs:Λ}(h:t.bR=s.cells):(oy s t cs).bR=(iX s sc aj cs).cells:=by
 unfold oy iX;rw[aC.qF,DD,h,<-Oi];rfl
theorem Ov{bh:Nat}{bi aR bj:x1}{A R:ak}{n:aJ}{s:au}{t:aC}{aK:x1}{sc aj cs:Λ}{g bT:Nat}{S:x1}(h:eL w ae gT bh bi aR bj A R n s t)(ad:t.bR=s.cells)(cj:aH .i64 w aK sc)(dr:∀r,leads aK r->¬A r)(bk:df w g bT S aj k cs)(bU:¬A g/\¬A bT/\∀r,leads S r->¬A r)(ds:sc.length<=1000)(a1:t.cells.length+cs.length+1<=100000000)(bm:t.olds.length+cs.length+1<=100000000)(hm:t.marks.length<=100000000)(ag:s.funs.length<=1000000):
  am x7 HJ [Γ ae,aK,Γ g] w λv w'=>v=Δ (s.funs.length:Int)/\ai (et w) w w'/\∃aT R' bz,Grow A w aT w'/\eL w' ae gT bh bi bz bj aT R' n (iX s sc aj cs) (oy s t cs)/\(∀r,R r->R' r)/\∀r,R' r->R r\/leads S r\/w.heap.size<=r:=by
 have dt:t.cells.length=s.cells.length:=by rw[<-ad];simp[aC.bR]
 have du:=rm s;have ck:eU (iX s sc aj cs) s.funs.length=t.cells.length:=by
  unfold eU iX;simp only[List.take_left];omega
 have cl:∀j,j<s.funs.length->eU (iX s sc aj cs) j=eU s j:=λj bA=>by
  unfold eU iX;simp only[List.take_append_of_le_length (show j<=s.funs.length by omega)]
 have cm:iw (iX s sc aj cs)=iw s:=rfl;refine az func129 ?_;refine c5 (λV=>ai (et w) w V/\∃aT R' bz,Grow A w aT V/\eL V ae gT bh bi bz bj aT R' n (iX s sc aj cs) (nc t (1::cs))/\(∀r,R r->R' r)/\∀r,R' r->R r\/leads S r\/w.heap.size<=r) ?_ ?_
 .rintro V ⟨cn,dv,cp,cr,ct,cu,cw,cz⟩;intro aa bB _ _;have bW:=cu.ext bB;obtain⟨_,aY,bC,ge,L,E,_,w0,aq,_,_,_,⟨ba,bn⟩,_⟩:=id bW;have bo:L.length=s.funs.length+1:=by rw[bn.1];simp[iX]
  rw[aQ cq.p 1 aq rfl,aQ cq.p 3 aq rfl,ea fa.u ba];obtain⟨bX,cA,cB⟩:=bW.xj;have cC:=xg t (1::cs) (1::cs).length;have cE:=xh t (1::cs) (1::cs).length;have cF:=ru t (1::cs) (1::cs).length;simp only[j9]at cC cE;refine(tY (i:=1) (y:=1) cA rfl (by show 1<(fV _ _ _).cells.length;simp only[j9];omega) ⟨by show(fV _ _ _).cells.length<=_;simp only[j9];omega,by show(fV _ _ _).olds.length<=_;simp only[j9];omega,by show(fV _ _ _).marks.length<=_;rw[cF];exact hm⟩).mono ?_;rintro _ cG _ ⟨rfl,cH,cI,cJ⟩;obtain⟨cK,cL,cM,bY⟩:=cB cH cG _ cI cJ;obtain⟨_,aY,bC,ge,cN,E,_,w0,aq,_,_,_,⟨ba,cO⟩,_⟩:=id bY;have dw:cN.length=s.funs.length+1:=by rw[cO.1];simp[iX]
  rw[aQ cq.p 3 aq rfl,ea fa.u ba,dO,wrap_i64 Ω Ω];refine⟨by congr 1;omega,xi cn (j7 bB cK),cL,cp,cr,ct.trans ((Grow.ext bB).trans cM),?_,cw,cz⟩;have e:oy s t cs=(nc t (1::cs)).set 1 (L.length:Int):=by unfold oy;rw[bo]
  rw[e];exact bY
 intro aB cP;intro aM aS _ _;have bZ:=h.ext aS;obtain⟨_,aY,bC,ge,L,E,_,w0,aq,_⟩:=id bZ;rw[aQ cq.p 3 aq rfl];have z4:=aS.size;have bp:∀{G:x3}{Z W:x1}{a2 al:Nat},Ext aM G->w.heap.size<=a2->w.heap.size<=al->av .i64 ah G a2 Z sc->av .i64 ao G al W (1::cs)->(∀r,leads Z r\/leads W r->¬A r)->
   am x7 zN [Γ ae,W] G λcQ aw=>
    (Ext aM aw\/cD x7 (u5 fa (.pointer (σ ⟨ae,0+3,ν⟩))) aR aw/\cD x7 (u6 cq (Γ ae) 3) (.pointer (σ ⟨ae,0+3,ν⟩)) aw/\cD x7 (bP (Γ ae)) (Γ ae) aw/\True)/\
    ac x7 (Instr.build dC #[(0,Z),(1,.agg #[S]),(2,cQ)]) aw λt22=>
    aD x7 (Y3 fa 1 #[(0,t22)]) aw λcS ax=>
     (Ext aM ax\/cD x7 (u5 fa (.pointer (σ ⟨ae,0+3,ν⟩))) aR ax/\cD x7 (u6 cq (Γ ae) 3) (.pointer (σ ⟨ae,0+3,ν⟩)) ax/\cD x7 (bP (Γ ae)) (Γ ae) ax/\True)/\
    aD x7 (Z2 #[fa,fa] fa #[aR,cS]) ax λcT bq=>
     ac x7 (bP (Γ ae)) bq λt25=>
     ac x7 (u6 cq t25 3) bq λcV=>
     aD x7 (o9 fa cV cT) bq λ(_:Unit)aV=>
      aB aV:=by
  intro G Z W a2 al H b0 X I N bD;have cW:=bZ.ext H;refine(DF cW N.ls (λr B=>bD r (.inr B)) (by simp only[j9];omega) (by simp only[j9];omega) hm).mono ?_;rintro _ aw _ ⟨rfl,cX,bb,a6,cY⟩;obtain⟨⟨b1,b2,c0,b3⟩,aY,bC,ge,L,E,bX,w0,aq,⟨c1,c2,b4⟩,⟨c3,b5,b6,aN⟩,bE,⟨ba,bn⟩,bF,c4⟩:=id cY;have aI:av .i64 ah aw a2 Z sc:=bt I a6.1 λr B=>bD r (.inl B);have br:av .i64 ah G (Classical.choose (show∃gs,av .i64 ah w gs S aj from by obtain⟨⟨_,gs,_,q,_⟩,_⟩:=bk;exact⟨gs,q⟩)) S aj:=((Classical.choose_spec (show∃gs,av .i64 ah w gs S aj from by obtain⟨⟨_,gs,_,q,_⟩,_⟩:=bk;exact⟨gs,q⟩)).ext aS).ext H;have c6:=bt br a6.1 bU.2.2;refine⟨.inr (uc (off:=3) (z:=3) aq (λK=>by rw[aU cq.p rfl]) Ψ rfl),?_⟩;rw[cZ (cs:=#[Z,S,Δ (t.cells.length:Int)]) (by obtain⟨_,_,_,rfl⟩:=cU I.ls;obtain⟨_,_,_,rfl⟩:=cU br.ls;kernel_rfl)];let a:pR:=⟨Z,S,t.cells.length⟩;have c7:∀u∈mm a,u.oneCell'=true:=by
   intro u hu;simp[mm]at hu;rcases hu with rfl|rfl|rfl
   .exact I.ls.cells.2
   .exact br.ls.cells.2
   .rfl
  refine hD (f:=mm) (a:=a) fa.u dC.i Ω rfl rfl λdx dy ax dz M c8=>?_;refine⟨.inr (uc (off:=3) (z:=3) (aq.ext M) (λK=>by rw[aU cq.p rfl]) Ψ rfl),?_⟩;have bc:=ba.ext M;have bo:L.length=s.funs.length:=bn.1;refine io (f:=mm) (a:=a) fa.u dC.i rfl bc (by simpa using c8.sl) c7 Ω Ω λb7 c9 bq bd da b8=>?_;have be:=aq.ext M;have b9:=be.ab b8 λhe=>cR bc be Φ he;rw[bV,aU cq.p rfl];refine bl fa.i (eK bd.sl).1 (eK bd.sl).2 b9 Ξ λaV bG dA bH=>?_;have bH:af aV ae cq [Γ bh,Γ gT,bi,b7,bj]:=bH;have aA:ai (λr=>leadsTo aR r\/r=ae) ax aV:=(b8.mono λr _ h=>.inl h).trans (bG.mono λr _ h=>.inr h);have z9:=H.size;have dD:=a6.1.size;have dE:=M.size;have dF:=aA.size;have bI:∀r,(leadsTo aR r\/r=ae)->bb r:=λr B=>B.elim (λB=>(aN r (.inr (.inl B))).1) λB=>B▸b1;have bJ:∀r,(leadsTo aR r\/r=ae)->¬R r:=λr B=>b2 r (bI r B);have db:ai (et w) w aV:=xi (j7 (aS.trans H) cX) (j7 M (aA.mono λr _ B=>by
   rcases B with B|rfl
   .obtain⟨_,c,a1⟩:=dS bc B;exact .inl ⟨_,c,‹r=_› ▸a1,Φ⟩
   .exact .inl ⟨_,_,be,Φ⟩))
  let dc:ak:=λr=>bb r\/(ax.heap.size<=r/\r<aV.heap.size);let bK:ak:=λr=>R r\/(leads S r/\r<aw.heap.size)\/(leads Z r/\r<aw.heap.size);have dG:∀r,r<w.heap.size->bb r->A r:=λr B h=>(a6.2.1 r h).elim id λh=>Ω
  have bL:∀r,leads Z r->w.heap.size<=r/\r<G.heap.size:=λr B=>by obtain⟨h1,a7⟩:=bQ I B;omega
  have ca:∀r,leads S r->r<G.heap.size:=λr B=>by obtain⟨h1,a7⟩:=bQ br B;omega
  have bu:∀r,leads Z r\/leads S r->¬bb r:=λr B dd=>by
   rcases a6.2.1 r dd with h|h
   .rcases B with B|B
    .exact bD r (.inl B) h
    .exact bU.2.2 r B h
   .rcases B with B|B
    .have:=bL r B;omega
    .have:=ca r B;omega
  refine cP _ ⟨db,dc,bK,b7,(Grow.ext (aS.trans H)).trans (a6.trans ((Grow.ext M).trans ⟨aA.mono λr _ B=>bI r B,λr B=>B.imp id And.left,λr B=>.inl B⟩)),?_,λr B=>.inl B,λr B=>?_⟩
  rotate_left
  .rcases B with B|B|B
   .exact .inl B
   .exact .inr (.inl B.1)
   .exact .inr (.inr (bL r B.1).1)
  have cb:∀{v:x1}{bf:Nat}{l:Λ},av .i64 ah ax bf v l->(∀r,leads v r->¬bb r)->av .i64 ah aV bf v l:=λhm de=>bt hm aA λr B U=>de r B (bI r U);have cd:∀r,bK r->r<ax.heap.size:=λr B=>by
   rcases B with B|B|B
   .have:=c0 r B;omega
   .omega
   .omega
  refine⟨⟨.inl b1,λr B aO=>?_,λr B=>by have:=cd r B;omega,λr B=>B.elim (λB=>by have:=b3 r B;omega) And.right⟩,aY,c9,ge,L++[a],E,bX,w0,bH,⟨c1,ua (c2.trans M) aA λr o B bm U=>bJ r U (b4 r o B bm),λr o B bm=>.inl (b4 r o B bm)⟩,⟨(c3.ext M).ab aA λr B U=>?_,λr B=>.inl (b5 r B),b6,λr B=>?_⟩,?_,⟨bd.ab bG λr B he=>?_,?_⟩,(bF.ext M).ab aA λr B U=>?_,?_⟩
  .have:=cd r aO;rcases B with B|B
   .rcases aO with aO|aO|aO
    .exact b2 r B aO
    .exact bu r (.inr aO.1) B
    .exact bu r (.inl aO.1) B
   .omega
  .rcases U with U|rfl
   .exact (aN r (.inr (.inl U))).2 B
   .exact b6 B
  .rcases B with B|B|B
   .exact⟨.inl (aN r (.inl B)).1,(aN r (.inl B)).2⟩
   .obtain⟨h1,a7⟩:=bd.leads B;rcases da r B with h|h
    .exact⟨.inl (aN r (.inr (.inl h))).1,(aN r (.inr (.inl h))).2⟩
    .refine⟨.inr ⟨h,by have:=bG.size;omega⟩,λdg=>?_⟩;have:=b3 r (b5 r dg);omega
   .exact⟨.inl (aN r (.inr (.inr B))).1,(aN r (.inr (.inr B))).2⟩
  .rw[cm];exact bt (bE.ext M) aA λr B U=>by
    rcases U with U|rfl
    .obtain⟨rfl,c,a1⟩:=dS bc U;exact cc (bE.ext M) a1 Φ B rfl
    .exact cc (bE.ext M) be Φ B rfl
  .have he:r=ae:=he;subst he;exact cR bd b9 Φ B
  .refine⟨by rw[r8,bo];simp[iX],λj x f J aW=>?_⟩;have aW:(s.funs++[⟨sc,aj,1,cs⟩])[j]?=σ f:=aW;by_cases bA:j<s.funs.length
   .rw[Y9 Ω]at J;rw[Y9 bA]at aW;obtain⟨dh,di,dj⟩:=((((lB.ab bn (M.ab λ_=>False) λ_ _ _ h=>h).ab aA λr _ B U=>bJ r U B).mono (R':=bK) λr B=>.inl B)).2 j x f J aW;exact⟨dh,di,by rw[cl j bA];exact dj⟩
   .have bM:j=s.funs.length:=by have:=(x4.1 aW).1;simp at this;omega
    rw[X0 Ω,bo,bM,U8]at J;rw[X0 Ω,bM,U8]at aW;cases J;cases aW;refine⟨⟨⟨_,cb (aI.ext M) λr B=>bu r (.inl B)⟩,λr B=>.inr (.inr ⟨B,?_⟩)⟩,⟨⟨_,cb (c6.ext M) λr B=>bu r (.inr B)⟩,λr B=>.inr (.inl ⟨B,?_⟩)⟩,?_⟩
    .have:=bL r B;omega
    .have:=ca r B;omega
    .rw[bM,ck]
  .rcases U with U|rfl
   .obtain⟨rfl,c,a1⟩:=dS bc U;exact cR (bF.ext M) a1 Φ B
   .exact cR (bF.ext M) be Φ B
  .exact ((mn.ab c4 (M.ab λ_=>False) λ_ _ _ h=>h).ab aA λr _ B U=>bJ r U B).mono λr B=>.inl B
 have a8:=bk.ext aS;have ce:=cj.ext aS;have dk:∀r,A r->r<w.heap.size:=h.1.2.2.2;obtain⟨_,⟨_,_,dH⟩,dI,dJ⟩:=id bk;have dK:cs.length<=4096:=Ω
 have bw:∀{aE:x3}{aX aZ:x1}{Y:Nat}{K:x1->x3->Prop},Ext aM aE->aM.heap.size<=Y->av .i64 ao aE Y aX [1]->aH .i64 aE aZ cs->
   (∀W al G,Ext aM G->ai (λr=>r=Y) aE G->w.heap.size<=al->av .i64 ao G al W (1::cs)->(Ext aM G->K W G))->aD x7 (Z2 #[ay,ay] ay #[aX,aZ]) aE K:=by
  intro aE aX aZ Y K C bx aF aL dl;refine jn ay.u ao.i rfl aF aL Θ Θ λW al G X N aG=>?_;have H:Ext aM G:=C.put aG Ω;have dm:=C.size;exact dl W al G H aG Ω N H
 have aP:∀{v:x1}{bf:Nat}{dn:o6}{e:p8}{dp:x3}{l:Λ},av dn e dp bf v l->w.heap.size<=bf->∀r,leads v r->¬A r:=λhm dL r B dq=>by
  obtain⟨h1,_⟩:=bQ hm B;have:=dk r dq;omega
 refine⟨?_,?_⟩
 .refine (kB ce Ω).mono ?_;rintro Z cg _ ⟨O,a2,b0,I⟩;have z5:=O.size;refine⟨.inl O,?_,?_⟩
  .refine (pB (a8.ext O)).mono ?_;rintro _ ch _ ⟨rfl,P⟩;have an:=O.trans P;have dM:=an.size;have dN:=P.size;have ci:=(a8.ext O).ext P;refine⟨.inl an,?_,?_⟩
   .refine ee ay.u ao.i rfl λaX Y aE bx C aF=>?_;refine⟨.inl (an.trans C),?_⟩;refine(mY (ci.ext C)).mono ?_;rintro aZ bN _ ⟨Q,bO,bS,aL⟩;have ap:=(an.trans C).trans Q;refine⟨.inl ap,?_⟩;refine bw ap Ω (aF.ext Q) aL.ls λW al G H aG X N _=>⟨.inl H,?_⟩;have aI:=bt (((I.ext P).ext C).ext Q) aG λr B he=>by have he:r=Y:=he;obtain⟨h1,a7⟩:=bQ I B;omega
    exact bp H Ω X aI N λr B=>B.elim (aP I Ω r) (aP N X r)
   .refine (mY ci).mono ?_;rintro aZ aE _ ⟨C,bO,bS,aL⟩;refine⟨.inl (an.trans C),?_⟩;have dm:=C.size;refine ee ay.u ao.i rfl λaX Y bN bx Q aF=>?_;have ap:=(an.trans C).trans Q;refine⟨.inl ap,?_⟩;refine bw ap Ω aF (aL.ls.ext Q) λW al G H aG X N _=>⟨.inl H,?_⟩;have aI:=bt (((I.ext P).ext C).ext Q) aG λr B he=>by have he:r=Y:=he;obtain⟨h1,a7⟩:=bQ I B;omega
    exact bp H Ω X aI N λr B=>B.elim (aP I Ω r) (aP N X r)
  .refine ee ay.u ao.i rfl λaX Y ch bx P aF=>?_;have an:=O.trans P;refine⟨.inl an,?_⟩;refine(pB ((a8.ext O).ext P)).mono ?_;rintro _ aE _ ⟨rfl,C⟩;have bg:=an.trans C;refine⟨.inl bg,?_⟩;refine(mY (((a8.ext O).ext P).ext C)).mono ?_;rintro aZ bN _ ⟨Q,bO,bS,aL⟩;have ap:=bg.trans Q;refine⟨.inl ap,?_⟩;refine bw ap Ω ((aF.ext C).ext Q) aL.ls λW al G H aG X N _=>⟨.inl H,?_⟩;have aI:=bt (((I.ext P).ext C).ext Q) aG λr B he=>by have he:r=Y:=he;obtain⟨h1,a7⟩:=bQ I B;omega
   exact bp H Ω X aI N λr B=>B.elim (aP I Ω r) (aP N X r)
 .refine ee ay.u ao.i rfl λaX Y cg bx O aF=>?_;refine⟨.inl O,?_⟩;have z5:=O.size;have dP:Y<cg.heap.size:=tH aF Ξ;refine(kB (ce.ext O) Ω).mono ?_;rintro Z ch _ ⟨P,a2,b0,I⟩;have an:=O.trans P;refine⟨.inl an,?_⟩;refine(pB ((a8.ext O).ext P)).mono ?_;rintro _ aE _ ⟨rfl,C⟩;have bg:=an.trans C;refine⟨.inl bg,?_⟩;refine(mY (((a8.ext O).ext P).ext C)).mono ?_;rintro aZ bN _ ⟨Q,bO,bS,aL⟩;have ap:=bg.trans Q;refine⟨.inl ap,?_⟩;refine bw ap Ω (((aF.ext P).ext C).ext Q) aL.ls λW al G H aG X N _=>⟨.inl H,?_⟩;have aI:=bt ((I.ext C).ext Q) aG λr B he=>by have he:r=Y:=he;obtain⟨h1,a7⟩:=bQ I B;omega
  exact bp H Ω X aI N λr B=>B.elim (aP I Ω r) (aP N X r)
theorem gD{P:W8}{F:p8}{k:o6}{b g:Nat}{x:x1}{m:Λ}{K:x1->x3->Prop}(y:P.underlying t=σ (.slice e))(hi:aR P e 1 b z)(A:z.cells.size=1)(h:av k e w g v l)(J:aH k w x m)(B:(l.length+m.length)*b<=140737488355328)(C:l.length+m.length<=9223372036854775807)(E:∀a f w',av k e w' f a (l++m)->(∀r,leads a r->leads v r\/w.heap.size<=r)->ai (λr=>leads v r) w w'->K a w'):aD P (Z2 #[t,t] F #[v,x]) w K:=by
 rcases h.2 with⟨ad,G⟩|⟨cap,cs,ad,L,M⟩
 .have H:l=[]:=c8 G;subst H;have h':av k e w w.heap.size v []:=by rw[ad];exact av.nil _ _ _ _
  refine jn y hi A h' J B C λa f w' q hm s=>E a f w' hm (λr p=>.inr ?_) (s.mono λr p he=>by have he:r=w.heap.size:=he;omega);obtain⟨I,_⟩:=bQ hm p;omega
 .refine jn y hi A h J B C λa f w' q hm s=>E a f w' hm (λr p=>?_) (s.mono λr p he=>⟨_,_,_,ad,he.symm⟩);obtain⟨I,_⟩:=bQ hm p;rcases q with q|q
  .exact .inl ⟨_,_,_,ad,by show g=r;omega⟩
  .exact .inr Ω
def addVar(s:au)(u:Λ):au:={s with vars:=s.vars++[newVar u]}
theorem Ow(s:au)(u:Λ):iw (addVar s u)=iw s++[((3+(s.vars.flatMap hG).length:Nat):Int)]:=by
 unfold iw addVar;rw[r8,V6,List.range_succ,Z3];congr 1
 .apply List.map_congr_left;intro i hi;have:=T6.1 hi;unfold fg;simp only[List.take_append_of_le_length (show i<=s.vars.length by omega)]
 .simp[fg]
theorem Ox{s:au}{u:Λ}(ag:s.funs=[]):(addVar s u).cells=s.cells++(0::0::u):=by
 unfold au.cells addVar iV;simp only[ag,List.flatMap_nil,X5,S8,List.flatMap_singleton,Y6];rfl
def eX(n:aJ)(i j:Nat):au:=⟨n.zero,(n.unary.take i).map newVar,(n.funs.take j).map (kL n.sizes),[]⟩
theorem DG{n:aJ}{i:Nat}{u:Λ}(h:n.unary[i]?=σ u):eX n (i+1) 0=addVar (eX n i 0) u:=by
 unfold eX addVar;simp only[u7,h,o8,Z3,List.map_singleton]
theorem Oy{n:aJ}{i:Nat}{g:cM}(h:n.funs[j]?=σ g):eX n i (j+1)=iX (eX n i j) g.1 (bW n.sizes g.1) g.2:=by
 unfold eX iX;simp only[u7,h,o8,Z3,List.map_singleton];rfl
theorem xk(n:aJ):eX n n.unary.length n.funs.length=de n:=by
 unfold eX de;rw[o7,o7]
theorem xl{α β:Type}{f:α->List β}{b:Nat}:∀{L:List α},(∀x∈L,(f x).length<=b)->(L.flatMap f).length<=L.length*b
 |[],_=>Ξ
 |x::L,h=>by
  rw[W0,r8,j9,U4];have:=xl (L:=L) λy a=>h y (.tail _ a);have:=h x (.head _);omega
theorem ud{n:aJ}(a:j2 n)(ag:n.funs.length<=256)(i j:Nat):(eX n i j).cells.length<=2000000:=by
 rw[rm];have h1:=xl (f:=hG) (b:=34) (L:=(eX n i j).vars) λx J=>by
  obtain⟨u,hu,rfl⟩:=j5.1 (show x∈(n.unary.take i).map newVar from J);obtain⟨p,h⟩:=X7.1 (S0 hu);have A:=a.kK;have B:=(x4.1 h).1;obtain⟨z,q⟩:=aI (l:=n.sizes) (i:=p) Ω;have s:=(a.unary p z u q h).1;have e:=a.sizes.2.2 z (x5 q);show u.length+2<=34;omega
 have s:=xl (f:=fw) (b:=4097) (L:=(eX n i j).funs) λx J=>by
  obtain⟨g,w,rfl⟩:=j5.1 (show x∈(n.funs.take j).map (kL n.sizes)from J);have e:=(a.funs g (S0 w)).1;have r:=e.len;have y:=e.small;show g.2.length+1<=4097;omega
 have e:(eX n i j).vars.length<=64:=by
  show((n.unary.take i).map newVar).length<=64;rw[u9,n9];have:=a.kK;have:=a.sizes.2.1;omega
 have r:(eX n i j).funs.length<=256:=by
  show((n.funs.take j).map (kL n.sizes)).length<=256;rw[u9,n9];omega
 have y:=X1 34 e;have C:=X1 4097 r;omega
def Plain(t:aC):Prop:=t.marks=[]/\t.olds=[]/\hv t []/\t.ii=0
theorem Plain.set{t:aC}(h:Plain t)(i:Nat)(x:Int):Plain (t.set i x):=⟨(aC.xe _ _ _).trans h.1,(aC.xf h.1 _ _).trans h.2.1,h.2.2.1.set,(aC.Dx _ _ _).trans h.2.2.2⟩
theorem Plain.lay{t:aC}(h:Plain t)(l:Λ):Plain (nc t l):=⟨(ru _ _ _).trans h.1,(DB h.1 _ _).trans h.2.1,h.2.2.1.fV l _,(DA _ _ _).trans h.2.2.2⟩
theorem Plain.put{s:au}{t:aC}(h:Plain t)(cs:Λ):Plain (oy s t cs):=(h.lay _).set _ _
def Oz(w:x3)(R0:ak)(n:aJ)(v:x1)(w':x3):Prop:=Ext w w'/\∃ae gT A R t,v=Γ ae/\StateM w' ae gT A R n (de n) t/\t.bR=(de n).cells/\Plain t/\(∀r,A r->w.heap.size<=r)/\∀r,R r->R0 r\/w.heap.size<=r
theorem OA{w0:x3}{R0:ak}{n:aJ}(aN:gh w0 B n)(aw:Ext w0 w)(bh:∀r o,w0.heap[r]?=σ o->fF o=true->R0 r)(aP:∀r,R0 r->r<w.heap.size)(C:j2 n)(ag:n.funs.length<=256):am x7 zE [Γ B] w (Oz w R0 n):=by
 have h:=aN.ext aw;have bW:=C.kK;have c0:=C.sizes.2.1;refine az func58 ?_;rw[dc mI.u];simp only[Z5,a1];refine(Oe (n:=3) Ω).mono ?_;rintro _ V _ ⟨ax,gT,rfl,bX⟩;rw[cZ (cs:=#[Γ B,Γ gT,.slice ν 0 0,.slice ν 0 0,.slice ν 0 0]) Ψ];refine bf λae aa c1 Q S=>?_;have S:af aa ae cq [Γ B,Γ gT,.slice ν 0 0,.slice ν 0 0,.slice ν 0 0]:=S;have c2:=ax.size;have c3:=Q.size;have c4:=S.lt;have bY:eL aa ae gT B (.slice ν 0 0) (.slice ν 0 0) (.slice ν 0 0) (λr=>r=ae\/(w.heap.size<=r/\r<V.heap.size)) R0 n ⟨0,[],[],[]⟩ ⟨p9 3 ⟨0,0⟩,[],[],0⟩:=by
  refine⟨⟨.inl rfl,λr q N=>?_,λr q=>?_,λr q=>?_⟩,0,0,0,[],[],λr=>w.heap.size<=r/\r<V.heap.size,w0,S,⟨aN,aw.trans (ax.trans Q),bh⟩,⟨(bX.cut).ext Q,λr q=>.inr q,λq=>?_,λr q=>?_⟩,av.nil _ _ _ _,⟨bi.nil _ _ _ _ _,rfl,λj x f J=>by simp at J⟩,bi.nil _ _ _ _ _,rfl,λj x f J=>by simp at J⟩
  .have N:=aP r N;rcases q with q|q<;>omega
  .have q:=aP r q;omega
  .rcases q with q|q<;>omega
  .omega
  .rcases q with q|q|q
   .obtain⟨a,c5,c,aR,c6⟩:=q;cases aR
   .exact (e4 q).elim
   .exact (e4 q).elim
 intro c7 W _ _;have bZ:=bY.ext W;rw[aQ cq.p 1 (S.ext W) rfl];refine(Om (h.ext ((ax.trans Q).trans W))).mono ?_;rintro _ c8 _ ⟨rfl,aA⟩;refine⟨.inl aA,?_⟩;have b0:=bZ.ext aA;obtain⟨aS,b1,b2⟩:=b0.rt;refine(tY (i:=0) (y:=0) b1 rfl Φ ⟨Ξ,Ξ,Ξ⟩).mono ?_;rintro _ bj _ ⟨_,b3,b4,b5⟩;obtain⟨b6,bk,aV⟩:=b2 b3 bj _ b4 b5;have aV:=aV.same (Dv ⟨0,[],[],[]⟩ n.zero);have z3:=W.size;have z4:=aA.size;have b7:=((ax.trans Q).trans W).trans aA;have bm:Ext w bj:=b7.then bk.1 λr q he=>by rcases he with he|he<;>omega
 refine(xc (h.ext bm)).mono ?_;rintro _ c9 _ ⟨rfl,bn⟩;refine ce.range n.sizes.length (λi aB=>∃A I t,Ext w aB/\eL aB ae gT B I (.slice ν 0 0) (.slice ν 0 0) A R0 n (eX n i 0) t/\t.bR=(eX n i 0).cells/\Plain t/\∀r,A r->w.heap.size<=r) Ω
  ⟨b6,_,_,bm.trans bn,aV.ext bn,?_,?_,λr q=>?_⟩ ?_ ?_
 .rw[aC.qF];rfl
 .exact Plain.set (t:=⟨p9 3 ⟨0,0⟩,[],[],0⟩) ⟨rfl,rfl,⟨rfl,rfl,λc G=>by rw[(List.mem_replicate.1 G).2];exact o4 _,X6 _⟩,rfl⟩ _ _
 .rcases bk.2.1 r q with he|he
  .rcases he with he|he<;>omega
  .omega
 .rintro i aB b8 hi ⟨A,I,t,O,aW,X,Y,aD⟩ b9;obtain⟨u,hu⟩:=aI (l:=n.unary) (i:=i) Ω;obtain⟨bo,bp⟩:=aI (l:=n.sizes) (i:=i) Ω;have da:u.length<=32:=by
   have db:=(C.unary i bo u bp hu).1;have dd:=C.sizes.2.2 bo (x5 bp);omega
  refine bH Ω ?_;refine(Ds (h.ext O) C).mono ?_;rintro df dg _ ⟨ca,_,cb⟩;obtain⟨dh,di,cd⟩:=cb u Ω (by rw[r9];exact hu);intro aX bq _ _;have aZ:=ca.trans bq;have br:=aW.ext aZ;obtain⟨⟨_,_,_,Z⟩,aY,bu,ge,L,E,aS,w0,aE,_⟩:=id br;have dj:=aZ.size;have dk:=O.size;rw[aQ cq.p 2 aE rfl];refine pn (l:=[0,0]) ay.u ao.i Ω rfl Ψ λcg dl dm dn aF bw=>?_;refine⟨.inl aF,?_⟩;refine gD ay.u ao.i rfl bw ((cd.ext bq).ls.ext aF) Θ Θ λch dp ci cj ck cl=>?_;have bx:∀r,leads cg r->aX.heap.size<=r:=λr q=>by obtain⟨aR,_⟩:=bQ bw q;omega
  have aG:Ext aX ci:=aF.then cl λr q he=>by have:=bx r he;omega
  refine⟨.inl aG,?_⟩;have cm:=br.ext aG;have cn:∀r,leads ch r->aX.heap.size<=r:=λr q=>by
   rcases ck r q with h|h
   .exact bx r h
   .have:=aF.size;omega
  have cp:t.cells.length<=2000000:=by
   have h1:=ud C ag i 0;rw[<-X]at h1;unfold aC.bR at h1;rwa [u9]at h1
  have cr:t.olds.length=0:=by rw[Y.2.1];rfl
  have cu:t.marks.length=0:=by rw[Y.1];rfl
  refine(DF cm cj.ls (λr q s=>by have:=Z r s;have:=cn r q;omega) Θ Θ Ω).mono ?_;rintro _ dq _ ⟨rfl,_,a2,a6,cw⟩;obtain⟨⟨bz,bA,cz,bB⟩,aY,bu,ge,L,E,aS,w0,aE,⟨cA,cB,bC⟩,⟨cC,bD,bE,aH⟩,cD,⟨cE,cF⟩,cG,cH⟩:=id cw;refine⟨.inr (uc (off:=2) (z:=2) aE (λK=>by rw[aU cq.p rfl]) Ψ rfl),?_⟩;refine ee (k:=.i64) an.u ah.i rfl λdr ds bF dt H cI=>?_;have a7:=aE.ext H;refine⟨.inr (uc (off:=2) (z:=2) a7 (λK=>by rw[aU cq.p rfl]) Ψ rfl),?_⟩;have bG:(iw (eX n i 0)).length=i:=by
   unfold iw eX;simp only[u9,List.length_range,n9];omega
  have bI:=cD.ext H;refine gD an.u ah.i rfl bI cI.ls (by rw[bG];simp;omega) (by rw[bG];simp;omega) λbJ cJ du ac cK bK=>?_;have bL:=a7.ab bK λhe=>cc bI a7 Φ he rfl;rw[bV,aU cq.p rfl];refine bl an.i ac.ls.cells.1 ac.ls.cells.2 bL Ξ λa8 ba dv bb=>?_;have bb:af a8 ae cq [Γ B,Γ gT,bJ,.slice ν 0 0,.slice ν 0 0]:=bb;rw[aO];have G:ai (λr=>leads I r\/r=ae) bF a8:=(bK.mono λr _ h=>.inl h).trans (ba.mono λr _ h=>.inr h);have dw:=aG.size;have z12:=a6.1.size;have dx:=H.size;have dy:=G.size;have bM:∀r,a2 r->w.heap.size<=r:=λr q=>(a6.2.1 r q).elim (aD r) λh=>Ω
  have bN:∀r,(leads I r\/r=ae)->a2 r:=λr q=>q.elim (λq=>(aH r (.inl q)).1) λq=>q▸bz;have cL:(eX n (i+1) 0).cells=(eX n i 0).cells++(0::0::u):=by rw[DG hu];exact Ox rfl
  have cM:t.cells.length=3+((eX n i 0).vars.flatMap hG).length:=by
   have h1:=congrArg S5 X;rw[rm]at h1;unfold aC.bR at h1;rw[u9]at h1;have:((eX n i 0).funs.flatMap fw).length=0:=by simp[eX]
   omega
  refine b9 _ ⟨λr=>a2 r\/(bF.heap.size<=r/\r<a8.heap.size),bJ,nc t ([0,0]++u),?_,⟨⟨.inl bz,λr q N=>?_,λr q=>by have:=cz r q;omega,λr q=>?_⟩,cJ,bu,ge,L,E,aS,w0,bb,⟨cA,ua (cB.trans H) G λr o q cN U=>bA r (bN r U) (bC r o q cN),bC⟩,⟨(cC.ext H).ab G λr q U=>?_,λr q=>.inl (bD r q),bE,λr q=>?_⟩,?_,⟨(cE.ext H).ab G λr q U=>?_,?_⟩,(cG.ext H).ab G λr q U=>?_,?_⟩,?_,Y.lay _,λr q=>?_⟩
  .exact ((O.trans (aZ.trans aG)).then a6.1 λr q he=>by have:=aD r he;omega).trans H |>.then G λr q U=>by have:=bM r (bN r U);omega
  .rcases q with q|q
   .exact bA r q N
   .have N:=aP r N;omega
  .rcases q with q|q
   .have:=bB r q;omega
   .exact q.2
  .rcases U with U|rfl
   .exact (aH r (.inl U)).2 q
   .exact bE q
  .rcases q with q|q|q
   .have dz:=(bQ ac q);rcases cK r q with h|h
    .exact⟨.inl (aH r (.inl h)).1,(aH r (.inl h)).2⟩
    .refine⟨.inr ⟨h,by have:=ba.size;omega⟩,λcO=>by have:=bB r (bD r cO);omega⟩
   .exact (e4 q).elim
   .exact (e4 q).elim
  .rw[DG hu,Ow,<-cM];exact bt ac ba λr q he=>by
    have he:r=ae:=he;subst he;exact cc ac bL Φ q rfl
  .exact (e4 q).elim
  .refine⟨cF.1,λj x f J bc=>?_⟩;have bc:((n.funs.take 0).map (kL n.sizes))[j]?=σ f:=bc;simp at bc
  .exact (e4 q).elim
  .refine⟨cH.1,λj x e J he=>?_⟩;have he:([]:List tZ)[j]?=σ e:=he;simp at he
  .rw[DD,cL,X];rfl
  .rcases q with q|q
   .exact bM r q
   .omega
 .rintro aB b8 ⟨A,I,t,O,aW,X,Y,aD⟩;refine ct Ω ?_;refine(Dr (h.ext O)).mono ?_;rintro _ dA _ ⟨rfl,bO⟩;refine ce.range n.funs.length (λj ad=>∃A R aL t,Ext w ad/\eL ad ae gT B I aL (.slice ν 0 0) A R n (eX n n.sizes.length j) t/\t.bR=(eX n n.sizes.length j).cells/\Plain t/\(∀r,A r->w.heap.size<=r)/\∀r,R r->R0 r\/w.heap.size<=r) Ω
   ⟨A,_,_,t,O.trans bO,aW.ext bO,X,Y,aD,λ_ h=>.inl h⟩ ?_ ?_
  .rintro j ad cP cQ ⟨A,R,aL,t,M,aj,P,al,ap,bd⟩ cR;obtain⟨g,aM⟩:=aI (l:=n.funs) cQ;have be:=(C.funs g (x5 aM)).1;refine bH Ω ?_;refine(On (h.ext M) C aM).mono ?_;rintro aK dC _ ⟨aq,gs,dD,bP⟩;refine(Oq aN (aw.trans (M.trans aq)) aM).mono ?_;rintro _ dE _ ⟨au,gt,dF,cS,rfl,dG,dH,cT,bS⟩;have z0:=aw.size;have cU:∀r,leads cS r->r<w.heap.size:=λr q=>by obtain⟨c,bg⟩:=bS r q;have:=bg.lt;omega
   have cV:=(aj.ext aq).ext au;have Z:∀r,A r->r<ad.heap.size:=aj.1.2.2.2;have dI:=aq.size;have cp:t.cells.length<=2000000:=by
    have h1:=ud C ag n.sizes.length j;rw[<-P]at h1;unfold aC.bR at h1;rwa [u9]at h1
   have cr:t.olds.length=0:=by rw[al.2.1];rfl
   have cu:t.marks.length=0:=by rw[al.1];rfl
   have dJ:g.2.length<=4096:=by have:=be.len;have:=be.small;omega
   have dK:g.1.length<=6:=be.scope.2;refine(Ov (sc:=g.1) cV P (bP.ls.ext au) (λr q s=>by have:=Z r s;obtain⟨aR,_⟩:=bQ bP q;omega) cT ⟨λs=>by have:=Z _ s;omega,λs=>by have:=Z _ s;omega,λr q s=>by have:=ap r s;have:=cU r q;omega⟩ Ω Ω Ω Ω ?_).mono ?_
   .show ((n.funs.take j).map (kL n.sizes)).length<=_;rw[u9,n9];omega
   rintro _ dL _ ⟨rfl,_,aT,R',cW,bT,cX,dM,cY⟩;rw[aO];have bU:=Oy (i:=n.sizes.length) aM;refine cR _ ⟨aT,R',cW,oy (eX n n.sizes.length j) t g.2,((M.trans aq).trans au).then bT.1 (λr q s=>by have:=ap r s;omega),?_,?_,al.put _,λr q=>?_,λr q=>?_⟩
   .rw[bU];exact cX
   .rw[bU];exact Ou P
   .rcases bT.2.1 r q with h|h
    .exact ap r h
    .have:=M.size;have:=au.size;omega
   .rcases cY r q with h|h|h
    .exact bd r h
    .exact .inl (by obtain⟨c,bg⟩:=bS r h;exact bh r _ bg rfl)
    .exact .inr (by have:=M.size;have:=aq.size;have:=au.size;omega)
  .rintro ad cP ⟨A,R,aL,t,M,aj,P,al,ap,bd⟩;refine ct Ω ?_;have e:eX n n.sizes.length n.funs.length=de n:=by rw[<-bW];exact xk n
   rw[e]at aj P;exact⟨M,ae,gT,A,R,t,rfl,⟨B,I,aL,_,aj⟩,P,al,ap,bd⟩
theorem OB(L:Bytes l)(U:l.length<=100000):am x7 Ir [bL l] w λv w'=>v=kE l/\Ext w w':=by
 refine az func189 ?_;refine jh (λad ae V=>Ext w V/\∃(m:Λ)(s:Int),ad=bL m/\ae=Δ s/\Bytes m/\m.length<=100000/\pw l m s) ?_ ?_
 .rintro _ _ V ⟨M,m,s,rfl,rfl,H,ax,I⟩;rw[n5 cS.u,be,al];refine⟨λN=>?_,λN=>?_⟩
  .have O:m=[]:=c8 Ω;exact⟨by rw[tb I (by rw[O];rfl)],M⟩
  have O:m≠[]:=λh=>N (by rw[h];rfl);refine ql.range m.length (λi _ _ P Q f=>Ext V f/\∃(n:Int)(a:Bool),P= .int .u64 n/\Q= .bool a/\mS n a ((m.take i).foldl e2 0)/\(m.take i).all gw=true) Ω ⟨Ext.refl _,0,false,rfl,rfl,J1,rfl⟩ ?_ ?_
  .rintro i af t3 _ _ f ah hi ⟨B,n,a,rfl,rfl,q,C⟩ ai;obtain⟨b,r⟩:=aI (l:=m) hi;have ay:=H b (x5 r);rw[n5 cS.u];refine bH Ω ?_;refine AO (λ_ _ P Q p=>Ext V p/\∃(n:Int)(a:Bool),P= .int .u64 n/\Q= .bool a/\mS n a ((m.take (i+1)).foldl e2 0)/\(m.take (i+1)).all gw=true) ?_ ?_
   .rintro aA aC a3 a4 p aj;rw[aO];exact ai _ _ _ _ _ aj
   intro aB z;refine aV (λv p=>f=p/\v= .bool (!gw b)) ?_ ?_
   rotate_left
   .intro R e;rw[qG rfl cS.u H r,aS,al];refine⟨λh=>e _ _ ⟨rfl,by unfold gw;rw[decide_eq_false Ω];rfl⟩,λh=>?_⟩;rw[qG rfl cS.u H r,bN];refine e _ _ ⟨rfl,?_⟩;unfold gw;congr 1;by_cases W:57<b
    .rw[decide_eq_true W,decide_eq_false Ω];rfl
    .rw[decide_eq_false W,decide_eq_true Ω];rfl
   rintro _ _ ⟨rfl,rfl⟩;cases S:gw b with
   |false=>
    rw[V0,bT];exact⟨by rw[tb I (BC r S)],M.trans B⟩
   |true=>
    rw[Y7,a1];have ak:=of_decide_eq_true S;have K:=J0 q ak;rw[BA r,Bz r,C,S]at z;have an:=q.1;have ap:=q.2.1;refine aV (λv p=>f=p/\v= .bool (a||decide (461168601842738790<n))) ?_ ?_
    rotate_left
    .intro R e;rw[bN,al];refine⟨λh=>e _ _ ⟨rfl,by rw[decide_eq_true h,Bool.or_true]⟩,λh=>e _ _ ⟨rfl,by rw[decide_eq_false h,Bool.or_false]⟩⟩
    rintro _ _ ⟨rfl,rfl⟩;by_cases E:a=true\/461168601842738790<n
    .have ag:(a||decide (461168601842738790<n))=true:=by rcases E with h|h<;>simp[h]
     rw[if_pos E,ag]at K;rw[ag,bE,Y7,a1];exact z _ _ _ _ _ ⟨B,n,true,rfl,rfl,K,rfl⟩
    .have ag:(a||decide (461168601842738790<n))=false:=by
      cases a with
      |true=>exact absurd (.inl rfl) E
      |false=>simp;omega
     rw[if_neg E,ag]at K;have aD:¬461168601842738790<n:=λh=>E (.inr h);rw[ag,bE,V0,bT,hS,qG rfl cS.u H r,dO,wrap_u8 Ω Ω,fm cK.u fJ.u,wrap_u64 Ω Ω,wrap_u64 Ω Ω,aO,wrap_u64 Ω Ω];exact z _ _ _ _ _ ⟨B,_,false,rfl,rfl,K,rfl⟩
  .rintro af t3 _ _ f ah ⟨B,n,a,rfl,rfl,q,C⟩;rw[o7]at C q;rw[n5 cS.u];refine ct Ω ?_;have X:=J2 q;have an:=q.1;have ap:=q.2.1;have aq:∀{x:Int},x=m.foldl e2 0->0<=x->x<=4611686018427387904->(ac x7 (convert fJ ao (.int .u64 x)) f λau=>
     ac x7 (aN .mul ao false false (Δ s) au) f λav=>(λv w'=>v=kE l/\Ext w w') (.tuple #[av,(Δ 0)]) f):=by
    intro x J N h1;rw[fm fJ.u ao.u,wrap_i64 Ω Ω,hS];have hw:X9.wrap (s*x)=s*x:=by
     rcases I.1 with rfl|rfl<;>exact wrap_i64 Ω Ω
    rw[hw];refine⟨?_,M.trans B⟩;rw[BF I (BB O C),J]
   refine aV (λv p=>f=p/\v= .int .u64 (m.foldl e2 0)) ?_ ?_
   .rintro _ _ ⟨rfl,rfl⟩;have Y:=sX (l:=m) (n:=0) C ⟨Int.le_refl _,Φ⟩;exact aq rfl Y.1 Y.2
   intro R e;refine aV (λv p=>f=p/\v= .bool (a||decide (4611686018427387904<n))) ?_ ?_
   .rintro _ _ ⟨rfl,rfl⟩;rw[bZ];refine⟨λh=>e _ _ ⟨rfl,?_⟩,λh=>e _ _ ⟨rfl,?_⟩⟩
    .have h':a=true\/4611686018427387904<n:=by simpa using h
     rw[X,if_pos h']
    .have h':¬(a=true\/4611686018427387904<n):=by
      intro G;rcases G with G|G
      .simp[G]at h
      .simp[G]at h
     rw[X,if_neg h']
   .intro aE Z;cases a with
    |true=>rw[bT];exact Z _ _ ⟨rfl,rfl⟩
    |false=>rw[a1,bN];exact Z _ _ ⟨rfl,by rw[Bool.false_or]⟩
 .intro aB z;refine aV (λv aa=>w=aa/\∃c:Bool,v= .bool c/\(c=true↔l[0]?=σ 45)) ?_ ?_
  .rintro _ _ ⟨rfl,c,rfl,ab⟩;rw[bZ];refine⟨λaw=>?_,λag=>?_⟩
   .obtain⟨m,rfl⟩:∃m,l=45::m:=by
     have:=ab.1 aw;cases l with
     |nil=>simp at this
     |cons x m=>exact⟨m,by simp at this;rw[this]⟩
    rw[AR (y:=1) (i:=1) rfl cS.u Ξ];exact z _ _ _ ⟨Ext.refl _,m,-1,rfl,rfl,λb A=>L b (.tail _ A),by simp at U;omega,BD⟩
   .refine z _ _ _ ⟨Ext.refl _,l,1,rfl,rfl,L,U,BE λb A he=>?_⟩;subst he;have:=ab.2 A;rw[ag]at this;cases this
  .intro R e;rw[n5 cS.u,bN,al];refine⟨λh=>?_,λh=>e _ _ ⟨rfl,false,rfl,?_⟩⟩
   .obtain⟨b,A⟩:=aI (l:=l) (i:=0) Ω;rw[qG (y:=0) (i:=0) rfl cS.u L A,be];refine e _ _ ⟨rfl,_,rfl,?_⟩;rw[decide_eq_true_eq,A];exact⟨λh=>by rw[h],λh=>Z0 h⟩
   .have:l=[]:=c8 Ω;subst this;simp
theorem OC{s:Go.Sem x1}(h:ac x7 s w λu=>u=v)(hk:K v):ac x7 s w K:=by
 obtain⟨u,h1,rfl⟩:=h;exact⟨u,h1,hk⟩
abbrev hd:Type:=Λ×Int
def fW(x:hd):List x1:=[bL x.1,Δ x.2]
theorem xm(x:hd):∀u∈fW x,u.oneCell'=true:=by
 intro u hu;simp[fW]at hu;rcases hu with rfl|rfl<;>rfl
def iY(w:x3)(v:x1)(L:List hd):Prop:=ci w 2 v L.length (L.flatMap fW)
theorem xn{g:Nat}{L:List hd}(h:bi fW 2 cr w g v L):iY w v L:=h.sl
theorem DH{L:List hd}(h:iY w v L):ac x7 (V2 #[fl] a #[v]) w K=K (Δ (L.length:Int)):=by
 obtain⟨_,_,_,_,_,rfl,_⟩:=h;exact hr fl.u
theorem OD{k n:Nat}(h:ci w k v n cs)(f:ai S w w')(p:∀r,leadsTo v r->¬S r):ci w' k v n cs:=by
 obtain⟨h1,b,o,base,cap,rfl,q,s,e,x⟩:=h;refine⟨h1,b,o,base,cap,rfl,q,s,e,?_⟩;rcases Q2 n with a|a
 .have:cs=[]:=c8 (by rw[h1,a,Nat.zero_mul]);subst this;intro j v ad;simp at ad
 .have y:=e a;exact iI f (p b ⟨⟨b,o,ν⟩,n,cap,by rw[y],rfl⟩) x
theorem iY.ab{L:List hd}(h:iY w v L)(a:ai S w w')(e:∀r,leadsTo v r->¬S r):iY w' v L:=OD h a e
theorem DI{x:hd}{L:List hd}(h:iY w v (x::L))(a:∀b o,w.rangeAt b o (fW x)->K (.pointer (σ ⟨b,o,ν⟩))):ac x7 (c9 fl v (Δ 0)) w K:=by
 obtain⟨_,b,o,base,cap,rfl,_,_,e,f⟩:=h;have:=fb (P:=x7) (w:=w) (K:=K) (k:=.i64) (c:=cap) fl.u cr.i (show 0<(x::L).length by simp) e;rw[show((0:Nat):Int)=0 from rfl]at this;rw[this];refine a _ _ λj u hu=>?_;have p:=(x4.1 hu).1;rw[Nat.zero_mul,Nat.add_zero];exact f j u (by rw[W0,Y9 p];exact hu)
theorem OE{x:hd}{L:List hd}(h:iY w v (x::L))(y:∀p,(∀w',iY w' v (x::L)->iY w' p L)->(∀r,leadsTo p r->leadsTo v r)->K p):ac x7 (U3 fl v (σ (Δ 1)) ν ν) w K:=by
 have C:=h;obtain⟨_,b,o,base,cap,rfl,E,_⟩:=h;rw[gW fl.u cr.i (nT 1 1 rfl) jl fc Ξ Ω (o4 _)];refine y _ (λw' z=>?_) λr A=>?_
 .have:=ci.part (l:=1) (h:=(x::L).length) (m:=cap) z Ξ (o4 _) Ω (o4 _);have e:(((x::L).flatMap fW).drop (1*2)).take (((x::L).length-1)*2)=L.flatMap fW:=by
   rw[W0];have B:(L.flatMap fW).length=L.length*2:=hX (k:=2) λ_ _=>rfl;show(L.flatMap fW).take _=_;rw[j6 (by rw[B,j9,Nat.add_sub_cancel];exact o4 _)]
  rw[e]at this;exact this
 .obtain⟨a,n,c,f,s⟩:=A;split at f
  .cases f;exact⟨_,_,_,rfl,s⟩
  .cases base with
   |none=>cases f
   |some q=>cases f;exact⟨_,_,_,rfl,s⟩
theorem OF{g n:Nat}{y:Int}{L:List hd}(z:y=(n:Int))(h:bi fW 2 cr w g v L)(A:n<=L.length)(B:∀s,iY w s (L.take n)->(∀r,leadsTo s r->leadsTo v r)->K s):ac x7 (U3 fl v ν (σ (Δ y)) ν) w K:=by
 have C:=xn h;obtain⟨_,b,o,base,cap,rfl,G,_⟩:=h.sl;rw[gW fl.u cr.i jk (nU n y z) fc (X6 _) Ω (o4 _)];refine B _ ?_ λr E=>?_
 .have:=ci.part (l:=0) (h:=n) (m:=cap) C (X6 _) A Ω (o4 _);have e:((L.flatMap fW).drop (0*2)).take ((n-0)*2)=(L.take n).flatMap fW:=by
   rw[Nat.zero_mul,List.drop_zero,Nat.sub_zero,pD (f:=fW) (k:=2) n λ_ _=>rfl]
  rw[e]at this;have F:(L.take n).length=n-0:=by rw[n9];omega
  unfold iY;rw[F];exact this
 .obtain⟨a,n,c,p,x⟩:=E;split at p
  .cases p;exact⟨_,_,_,rfl,x⟩
  .cases base with
   |none=>cases p
   |some q=>cases p;exact⟨_,_,_,rfl,x⟩
def OG(w:x3)(pl:Λ)(v:x1)(w':x3):Prop:=Ext w w'/\∃a L,∃bad:Int,v= .tuple #[a,Δ bad]/\iY w' a L/\L.map (·.1)=(lex pl).1/\(0<=bad↔(lex pl).2=false)/\(∀r,leadsTo a r->w.heap.size<=r)/\∀r,leadsTo a r->∃c,af w' r cr c
theorem OH{p:x1}(R:aH .u8 w p pl)(aA:Bytes pl)(bb:pl.length<=65536):am x7 HB [p] w (OG w pl):=by
 refine az func114 ?_;rw[aW cP.u R];refine ql.range pl.length (λi _ _ A I V=>Ext w V/\∃g L,∃(q:List (Λ))(B:Λ)(op:Bool),I= .bool op/\bi fW 2 cr V g A L/\L.map (·.1)=(if op then q++[B]else q)/\(op=true->B.length<=i)/\L.length<=i/\ij (pl.drop i) q B op=lex pl/\∀r,leadsTo A r->w.heap.size<=r) R.le
  ⟨Ext.refl _,0,[],[],[],false,rfl,bi.nil _ _ _ _ _,rfl,(λh=>by cases h),o4 _,Km pl,λr C=>(e4 C).elim⟩ ?_ ?_
 rotate_left
 .rintro aC t3 A I V aD ⟨G,g,L,q,B,op,rfl,E,z,_,_,s,H⟩;refine ct Ω ?_;rw[List.drop_length]at s;have s:(if op then q++[B]else q,true)=lex pl:=s;exact⟨G,A,L,-1,rfl,xn E,by rw[z,<-s],by rw[<-s];simp,H,λr C=>by obtain⟨rfl,c,Y⟩:=dS E C;exact⟨c,Y⟩⟩
 rintro i aC t3 A I V aD hi ⟨G,g,L,q,B,op,rfl,E,z,ak,bc,s,H⟩ aE;obtain⟨b,Z⟩:=aI (l:=pl) hi;have bd:=aA b (x5 Z);have an:pl.drop i=b::pl.drop (i+1):=by rw[W3 hi,(x4.1 Z).2]
 rw[an]at s;unfold ij at s;refine bH Ω ?_;refine AO (λ_ _ A I aa=>Ext w aa/\∃g L,∃(q:List (Λ))(B:Λ)(op:Bool),I= .bool op/\bi fW 2 cr aa g A L/\L.map (·.1)=(if op then q++[B]else q)/\(op=true->B.length<=i+1)/\L.length<=i+1/\ij (pl.drop (i+1)) q B op=lex pl/\∀r,leadsTo A r->w.heap.size<=r) ?_ ?_
 .rintro bf bg a3 a4 aa aF;rw[aO];exact aE _ _ _ _ _ aF
 intro aB ao;rw[bh cP.u cK.i Ψ (R.ext G) Z];refine aV (λv N=>V=N/\v= .bool (cA b)) ?_ ?_
 rotate_left
 .intro ab y;unfold cA at y;rw[be,al];refine⟨λh=>y _ _ ⟨rfl,by rw[decide_eq_true (.inl h)]⟩,λh1=>?_⟩;rw[be,al];refine⟨λh=>y _ _ ⟨rfl,by rw[decide_eq_true (.inr (.inl h))]⟩,λS=>?_⟩;rw[be,al];refine⟨λh=>y _ _ ⟨rfl,by rw[decide_eq_true (.inr (.inr (.inl h)))]⟩,λaG=>?_⟩;rw[be];refine y _ _ ⟨rfl,?_⟩;congr 1;rw[V9,decide_eq_true_eq,decide_eq_true_eq];exact⟨λh=>.inr (.inr (.inr h)),λh=>by rcases h with h|h|h|h;exact absurd h h1;exact absurd h S;exact absurd h aG;exact h⟩
 rintro _ _ ⟨rfl,rfl⟩;cases U:cA b with
 |true=>
  rw[bT];rw[if_pos U]at s;exact ao _ _ _ _ _ ⟨G,g,L,_,[],false,rfl,E,z,(λh=>by cases h),Ω,s,H⟩
 |false=>
  rw[a1];rw[if_neg (by rw[U];simp)]at s;refine aV (λv N=>V=N/\v= .bool (!bO b)) ?_ ?_
  rotate_left
  .intro ab y;unfold bO at y;rw[aS,al];refine⟨λh=>y _ _ ⟨rfl,by rw[decide_eq_false Ω];rfl⟩,λh=>?_⟩;rw[bN];refine y _ _ ⟨rfl,?_⟩;by_cases S:126<b
   .rw[decide_eq_true S,decide_eq_false Ω];rfl
   .rw[decide_eq_false S,decide_eq_true Ω];rfl
  rintro _ _ ⟨rfl,rfl⟩;cases hw:bO b with
  |false=>
   rw[V0,bT];rw[if_neg (by rw[hw];simp)]at s;refine aV (λv N=>V=N/\∃W,iY V v W/\W.map (·.1)=q/\(∀r,leadsTo v r->w.heap.size<=r)/\∀r,leadsTo v r->leadsTo A r) ?_ ?_
   .rintro v _ ⟨rfl,W,ad,aJ,X,aK⟩;exact⟨G,v,W,(i:Int),rfl,ad,by rw[aJ,<-s],by rw[<-s];simp,X,λr C=>by obtain⟨rfl,c,Y⟩:=dS E (aK r C);exact⟨c,Y⟩⟩
   .intro ab y;cases op with
    |false=>
     rw[a1];rw[if_neg Ξ]at z;exact y _ _ ⟨rfl,L,xn E,z,H,λ_ h=>h⟩
    |true=>
     rw[bT];rw[if_pos rfl]at z;have ae:L.length=q.length+1:=by have:=congrArg S5 z;simpa using this
     rw[ea fl.u E,dO,wrap_i64 Ω Ω];refine OF (n:=q.length) Ω E Ω λO ad X=>y _ _ ⟨rfl,_,ad,?_,λr C=>H r (X r C),X⟩;rw[List.map_take,z,List.take_left]
  |true=>
   rw[Y7,a1];rw[if_pos hw]at s;refine aV (λA af=>Ext w af/\∃g M,∃x:hd,bi fW 2 cr af g A (M++[x])/\M.map (·.1)=q/\x.1=(if op then B else[])/\(M++[x]).length<=i+1/\∀r,leadsTo A r->w.heap.size<=r) ?_ ?_
   .rintro bj af ⟨ap,aL,M,x,aM,aN,J,aP,aq⟩;intro ag ah _ _;have Q:=aM.ext ah;have au:(M++[x])[M.length]?=σ x:=Ξ
    have bk:(M++[x]).length=M.length+1:=Ξ
    rw[ea fl.u Q,dO,wrap_i64 Ω Ω,dj (i:=M.length) Ω fl.u cr.i Q Ω,aU cr.p rfl,aw (o:=M.length*2+0) Ψ (Q.range au 0 _ rfl),aO,wrap_i64 Ω Ω];obtain⟨bl,av⟩:∃O,aH .u8 ag O [b]/\ac x7 (U3 cP p (σ (Δ (i:Int))) (σ (Δ ((i:Int)+1))) ν) ag (λv=>v=O):=by
     have aQ:=R.ext (ap.trans ah);have:=sZ (P:=x7) (low:=σ (Δ (i:Int))) (high:=σ (Δ ((i:Int)+1))) (K:=λv=>aH .u8 ag v [b]) cP.u cK.i aQ (nT i _ rfl) (nU (i+1) ((i:Int)+1) Ω) Ω Ω λO ax=>by
      have e:((ints .u8 pl).drop (i*1)).take ((i+1-i)*1)=ints .u8 [b]:=by
       simp only[U7,show i+1-i=1 by omega];rw[ints,<-List.map_drop,<-List.map_take,an];rfl
      rw[e]at ax;exact aH.of (n:=i+1-i) ax
     obtain⟨v,aR,aT⟩:=this;exact⟨v,aT,v,aR,rfl⟩
    refine OC av.2 ?_;have bm:x.1.length<=65536:=by
     rw[J];cases op with
     |true=>rw[if_pos rfl];have:=ak rfl;omega
     |false=>simp
    rw[wb cP.u cK.u cS.u av.1,v8 Θ,dj (i:=M.length) Ω fl.u cr.i Q Ω,aU cr.p rfl];refine pF (f:=fW) (j:=0) (a:=x) (a':=(x.1++[b],x.2)) cS.i rfl rfl Q au rfl Ω λbn aX bo ay=>?_;have e:(M++[x]).set M.length (x.1++[b],x.2)=M++[(x.1++[b],x.2)]:=by
     rw[T8 _ _ (o4 _),U8];rfl
    rw[e]at ay;refine ao _ _ _ _ _ ⟨(ap.trans ah).then aX (λr C he=>by have:=aq r he;omega),aL,_,q,x.1++[b],true,rfl,ay,by rw[Z3,aN];rfl,λ_=>?_,by simp at aP ⊢;omega,?_,aq⟩
    .rw[r8,J];cases op with
     |true=>rw[if_pos rfl];have:=ak rfl;simp;omega
     |false=>simp
    .rw[<-s,J];cases op with
     |true=>rfl
     |false=>rfl
   .intro ab y;cases op with
    |true=>
     rw[bE,Y7,a1];rw[if_pos rfl]at z;have ae:L.length=q.length+1:=by have:=congrArg S5 z;simpa using this
     obtain⟨M,x,rfl⟩:∃M x,L=M++[x]:=by
      have:L≠[]:=λh=>by rw[h]at ae;simp at ae
      exact⟨L.dropLast,L.getLast this,(List.dropLast_concat_getLast this).symm⟩
     rw[Z3]at z;obtain⟨aY,ai⟩:=List.append_inj' z Ξ;refine y _ _ ⟨G,g,M,x,E,aY,?_,Ω,H⟩;rw[if_pos rfl];have ai:[x.1]=[B]:=ai;exact(List.cons.inj ai).1
    |false=>
     rw[bE,V0,bT];rw[if_neg Ξ]at z;rw[cZ (cs:=#[bL [],Δ (i:Int)]) Ψ];refine hD (f:=fW) (a:=(([],(i:Int)):hd)) fl.u cr.i Ω rfl rfl λv9 bp bq br aj aZ=>?_;have a2:=E.ext aj;refine io (f:=fW) (a:=(([],(i:Int)):hd)) fl.u cr.i rfl a2 (by simpa using aZ.sl) (xm _) Ω Ω λO a6 bt a7 a8 ba=>?_;have bu:=G.size;have z9:=aj.size;refine y _ _ ⟨(G.trans aj).then ba (λr C he=>by have:=H r he;omega),a6,L,_,a7,z,rfl,Θ,λr C=>?_⟩;rcases a8 r C with h|h
     .exact H r h
     .omega
structure xo where
 v:x1
 t:Λ
 c:Int
def oz(y:xo):List x1:=[y.v,Δ y.c]
def kM(w:x3)(g:Nat)(v:x1)(l:List (Λ×Int)):Prop:=∃L:List xo,bi oz 2 ca w g v L/\(∀y∈L,∃gy,av .i64 ao w gy y.v y.t)/\L.map (λy=>(y.t,y.c))=l
structure iZ where
 aK:x1
 szv:x1
 o:Int
 b4:x1
def eY(h:iZ):List x1:=[h.aK,h.szv,Δ h.o,h.b4]
def gO(w:x3)(h:iZ)(x:ck):Prop:=(∃g,av .i64 ao w g h.aK x.scope)/\(∃g,av .i64 ao w g h.szv x.sizes)/\h.o=x.other/\∃g,kM w g h.b4 x.lines
def hf(w:x3)(r:Nat):Prop:=∃e c,af w r e c/\e≠ao/\e≠ca
theorem eA{g:Nat}(h:av .i64 ao w g v l)(f:ai S w w')(p:∀r,S r->hf w r\/w.heap.size<=r):av .i64 ao w' g v l:=bt h f λr a U=>by
 rcases p r U with⟨e,c,q,s,_⟩|x
 .exact cc h q (λhe=>s he.symm) a rfl
 .obtain⟨y,z⟩:=bQ h a;omega
theorem xp{α:Type}{f:α->List x1}{k:Nat}{g:Nat}{L:List α}(h:bi f k e w g v L)(q:ai S w w')(s:∀r,S r->(∃a c,af w r a c/\a≠e)\/w.heap.size<=r):bi f k e w' g v L:=h.ab q λr p U=>by
 rcases s r U with⟨a,c,x,y⟩|z
 .exact cR h x (λhe=>y he.symm) p
 .obtain⟨A,B⟩:=h.leads p;omega
theorem kM.dK{g:Nat}{l:List (Λ×Int)}(h:kM w g v l)(a:ai S w w')(f:∀r,S r->hf w r\/w.heap.size<=r):kM w' g v l:=by
 obtain⟨L,h1,p,q⟩:=h;refine⟨L,xp h1 a λr s=>(f r s).imp (λ⟨e,c,x,_,z⟩=>⟨e,c,x,z⟩) id,λy A=>?_,q⟩;obtain⟨gy,hm⟩:=p y A;exact⟨gy,eA hm a f⟩
theorem gO.dK{h:iZ}{x:ck}(aA:gO w h x)(a:ai S w w')(e:∀r,S r->hf w r\/w.heap.size<=r):gO w' h x:=by
 obtain⟨⟨g1,h1⟩,⟨f,p⟩,q,s,y⟩:=aA;exact⟨⟨g1,eA h1 a e⟩,⟨f,eA p a e⟩,q,s,y.dK a e⟩
theorem gO.ext{h:iZ}{x:ck}(aA:gO w h x)(J:Ext w w'):gO w' h x:=aA.dK (J.ab λ_=>False) λ_ h=>h.elim
theorem gO.one{h:iZ}{x:ck}(aA:gO w h x):∀u∈eY h,u.oneCell'=true:=by
 obtain⟨⟨g1,h1⟩,⟨f,a⟩,p,q,L,e,_⟩:=aA;intro u hu;simp[eY]at hu;rcases hu with rfl|rfl|rfl|rfl
 .exact h1.ls.cells.2
 .exact a.ls.cells.2
 .rfl
 .exact (eK e.sl).2
def mo(w:x3)(a:x1)(f:List hd)(gs:Nat)(sv:x1)(L:List iZ)(e:List ck):Prop:=(iY w a f/\∀r,leadsTo a r->∃c,af w r cr c)/\bi eY 4 a7 w gs sv L/\e.length=L.length/\∀(i:Nat)h x,L[i]?=σ h->e[i]?=σ x->gO w h x
theorem mo.dK{q:x1}{z:List hd}{L:List iZ}{A:List ck}(h:mo w q z gs sv L A)(p:ai S w w')(s:∀r,S r->(∃e c,af w r e c/\e≠ao/\e≠ca/\e≠cr/\¬leadsTo sv r)\/w.heap.size<=r):mo w' q z gs sv L A:=by
 obtain⟨⟨h1,B⟩,C,F,G⟩:=h;have hw:∀r,leadsTo q r->¬S r:=λr a U=>by
  obtain⟨c,f⟩:=B r a;rcases s r U with⟨e,H,E,_,_,y,_⟩|I
  .exact y (eb E f)
  .have:=f.lt;omega
 refine⟨⟨h1.ab p hw,λr a=>?_⟩,C.ab p λr a U=>?_,F,λi aA x hi J=>(G i aA x hi J).dK p λr a=>(s r a).imp (λ⟨e,c,f,K,M,_⟩=>⟨e,c,f,K,M⟩) id⟩
 .obtain⟨c,f⟩:=B r a;exact⟨c,f.ab p (hw r a)⟩
 .rcases s r U with⟨e,H,E,_,_,_,y⟩|I
  .exact y a
  .obtain⟨N,O⟩:=C.leads a;omega
def gE(a:x1)(e f bad h big p told:Int)(sv:x1):List x1:=[a,Δ e,Δ f,Δ bad,Δ h,Δ big,Δ p,Δ told,sv]
def OI(N:Nat)(so:Option aE)(a:List hd)(e bad big told:Int)(L:List iZ)(f:List ck):Prop:=match so with
 |some s=>bad=0/\e≠0/\(big≠0↔s.big=true)/\(s.big=false->told=s.told)/\True/\a.map (·.1)=s.toks/\(∀t∈s.toks,Bytes t/\t.length<=65536)/\f.map (λx=>(x.sizes,x.lines))=s.shared/\L.length+a.length<=100000
 |none=>bad≠0/\L.length<=N
def bM(w:x3)(g B:Nat)(H:ak)(N:Nat)(so:Option aE):Prop:=100000<=N/\∃w0 a e gs sv L f,∃(p h bad q big s told:Int),w0.heap.size=B/\ai (λr=>r=g) w0 w/\(∃c,af w0 g bA c)/\af w g bA (gE a p h bad q big s told sv)/\mo w0 a e gs sv L f/\(∀r,leadsTo sv r->H r)/\OI N so e h bad big told L f
theorem mo.g{g:Nat}{e:x1}{f:List hd}{L:List iZ}{p:List ck}(h:mo w e f gs sv L p)(s:ai (λr=>r=g) w w')(x:∃c,af w g bA c):mo w' e f gs sv L p:=
 h.dK s λr a=>.inl (by
  have a:r=g:=a;subst a;obtain⟨c,q⟩:=x;exact⟨_,c,q,Φ,Φ,Φ,λy=>cR h.2.1 q Φ y⟩)
theorem bM.new{g:Nat}{H:ak}{so:Option aE}(h:bM w g B H N so)(a:ai S w w')(e:∀r,S r->B<=r):bM w' g B H N so:=by
 obtain⟨x,w0,y,z,gs,sv,L,A,C,E,bad,F,big,G,told,h1,f,p,I,J,K,M⟩:=h;have q:g<w0.heap.size:=by obtain⟨c,O⟩:=p;exact O.lt
 exact⟨x,w0,y,z,gs,sv,L,A,C,E,bad,F,big,G,told,h1,⟨Y8 f.size a.size,λr o s U q=>a.aZ r o (f.aZ r o s U q) U λP=>by
  have:=e r P;have:=(j4.1 s).1;omega⟩,p,I.ab a λU=>by have:=e g U;omega,J,K,M⟩
theorem bM.ext{g:Nat}{H:ak}{so:Option aE}(h:bM w g B H N so)(J:Ext w w'):bM w' g B H N so:=h.new (J.ab λ_=>False) λ_ h=>h.elim
theorem bM.base{g:Nat}{H:ak}{so:Option aE}(h:bM w g B H N so):bM w g w.heap.size H N so:=by
 obtain⟨e,w0,f,p,gs,sv,L,q,r,s,bad,x,big,y,told,h1,z,A,a,C,E,F⟩:=h;exact⟨e,w,f,p,gs,sv,L,q,r,s,bad,x,big,y,told,rfl,ai.refl _ _,⟨_,a⟩,a,C.g z A,E,F⟩
theorem bM.dK{g:Nat}{H:ak}{so:Option aE}(h:bM w g B H N so)(p:ai S w w')(q:∀r,S r->(∃e c,af w r e c/\e≠ao/\e≠ca/\e≠cr/\e≠bA/\¬H r)\/w.heap.size<=r):bM w' g w'.heap.size H N so:=by
 obtain⟨A,w0,s,x,gs,sv,L,y,C,E,bad,F,big,G,told,h1,I,J,f,K,z,M⟩:=h.base;have O:mo w s x gs sv L y:=K.g I J;have a:=f.ab p λU=>by
  rcases q g U with⟨e,c,a,_,_,_,P,_⟩|Z
  .exact P (eb a f)
  .have:=f.lt;omega
 refine⟨A,w',s,x,gs,sv,L,y,C,E,bad,F,big,G,told,rfl,ai.refl _ _,⟨_,a⟩,a,O.dK p λr Q=>(q r Q).imp (λ⟨e,c,a,R,V,W,_,X⟩=>⟨e,c,a,R,V,W,λY=>X (z r Y)⟩) id,z,M⟩
theorem bM.lt{g:Nat}{H:ak}{so:Option aE}(h:bM w g B H N so):g<B/\B<=w.heap.size:=by
 obtain⟨f,w0,p,q,gs,sv,L,r,s,x,bad,y,big,z,told,h1,a,⟨c,e⟩,_⟩:=h;have:=e.lt;have:=a.size;omega
theorem hZ{g:Nat}{H:ak}{so:Option aE}(h:bM w g B H N so):∃a,∃(e f bad p big q told:Int),∃sv,af w g bA (gE a e f bad p big q told sv)/\(so.isSome=true↔bad=0):=by
 obtain⟨y,w0,a,z,gs,sv,L,A,e,f,bad,p,big,q,told,h1,C,E,x,F,G,r⟩:=h;refine⟨a,e,f,bad,p,big,q,told,sv,x,?_⟩;cases so with
 |none=>exact⟨(λh=>by cases h),λh=>absurd h r.1⟩
 |some s=>exact⟨λ_=>r.1,λ_=>rfl⟩
theorem lC{g:Nat}{H:ak}{so:Option aE}(h:bM w g B H N so):ac x7 (bP (Γ g)) w (λa=>ac x7 (u6 bA a 3) w λt45=>ac x7 (u5 ah t45) w λt46=>ac x7 (aN .eql ah false true t46 (Δ 0)) w K)=K (.bool so.isSome):=by
 obtain⟨f,q,r,bad,s,big,x,told,sv,e,hi⟩:=hZ h;rw[aQ bA.p 3 e rfl,be];congr 2;rw[V9,decide_eq_true_eq];exact hi.symm
theorem rv{g:Nat}{H:ak}{so:Option aE}(h:bM w g B H N so):ac x7 (bP (Γ g)) w (λf=>ac x7 (u6 bA f 3) w λt45=>ac x7 (u5 ah t45) w λt46=>ac x7 (aN .neq ah false true t46 (Δ 0)) w K)=K (.bool (!so.isSome)):=by
 obtain⟨r,s,x,bad,y,big,z,told,sv,q,hi⟩:=hZ h;rw[aQ bA.p 3 q rfl,bD];congr 2;cases e:so.isSome with
 |true=>have a:=hi.1 e;simp[a]
 |false=>
  have a:bad≠0:=λa=>by rw[hi.2 a]at e;cases e
  simp[a]
def pS(w:x3)(g B:Nat)(H:ak)(N:Nat)(so:Option aE)(w':x3):Prop:=ai (λr=>r=g) w w'/\bM w' g B H N so
theorem oA{g:Nat}{H:ak}{so:Option aE}{e at_:Int}(h:bM w g B H N so)(he:e≠0):am x7 nN [Γ g,Δ e,Δ at_] w λ_ w'=>pS w g B H N ν w':=by
 refine az func119 ?_;rw[lC h];cases so with
 |none=>rw[R3,a1];exact⟨ai.refl _ _,h⟩
 |some s=>
  rw[S3,bT];obtain⟨z,w0,f,A,gs,sv,L,C,q,r,bad,R,big,x,told,h1,E,G,I,J,K,M⟩:=h;rw[bV,aU bA.p rfl];refine bl (g:=g) (o:=3) ah.i rfl rfl I (by simp[gE]) λV O S P=>?_;rw[bV,aU bA.p rfl];refine bl (g:=g) (o:=4) ah.i rfl rfl P (by simp[gE]) λaa Q U a=>?_;have a:af aa g bA (gE f q r e at_ big x told sv):=a;have y:=O.trans Q;obtain⟨_,_,_,_,_,_,_,_,W⟩:=M;exact⟨y,z,w0,f,A,gs,sv,L,C,q,r,e,at_,big,x,told,h1,E.trans y,G,a,J,K,he,Ω⟩
theorem nf{g:Nat}{H:ak}{so:Option aE}{b:Bool}{at_:Int}(h:bM w g B H N so):am x7 sA [Γ g,.bool b,Δ at_] w λ_ w'=>pS w g B H N (so.map (a8 b)) w':=by
 refine az func116 ?_;obtain⟨J,w0,e,K,gs,sv,L,M,f,q,bad,r,big,X,told,h1,O,P,x,Q,R,y⟩:=id h;refine aV (λv V=>w=V/\v= .bool (b&&decide (big=0)&&so.isSome)) ?_ ?_
 .rintro _ _ ⟨rfl,rfl⟩;rw[bZ];refine⟨λS=>?_,λag=>⟨ai.refl _ _,J,w0,e,K,gs,sv,L,M,f,q,bad,r,big,X,told,h1,O,P,x,Q,R,?_⟩⟩
  .rw[U1,U1]at S;obtain⟨⟨Y,ae⟩,Z⟩:=S;rw[bV,aU bA.p rfl];refine bl (g:=g) (o:=5) ah.i rfl rfl x (by simp[gE]) λV ab aj ac=>?_;rw[bV,aU bA.p rfl];refine bl (g:=g) (o:=6) ah.i rfl rfl ac (by simp[gE]) λaa ad an z=>?_;have z:af aa g bA (gE e f q bad r 5 at_ told sv):=z;have U:=ab.trans ad;refine⟨U,J,w0,e,K,gs,sv,L,M,f,q,bad,r,5,at_,told,h1,O.trans U,P,z,Q,R,?_⟩;cases so with
   |none=>cases Z
   |some s=>
    obtain⟨A,C,W,E,G⟩:=y;exact⟨A,C,⟨λ_=>by show(s.big||b)=true;rw[Y,Bool.or_true],λ_=>Ω⟩,λaA=>E (S7.1 aA).1,G⟩
  .cases so with
   |none=>exact y
   |some s=>
    obtain⟨A,C,W,E,G⟩:=y;refine⟨A,C,?_,λaA=>E (S7.1 aA).1,G⟩;show big≠0↔(s.big||b)=true;cases b with
    |false=>rw[Bool.or_false];exact W
    |true=>
     have a:big≠0:=by simpa using ag
     simp[a]
 .intro aB I;cases b with
  |false=>rw[a1];exact I _ _ ⟨rfl,Ξ⟩
  |true=>
   rw[bT,aQ bA.p 5 x rfl,be,al];refine⟨λa=>?_,λa=>I _ _ ⟨rfl,by rw[decide_eq_false a];simp⟩⟩;rw[lC h];exact I _ _ ⟨rfl,by rw[decide_eq_true a];simp⟩
def jy(so:Option aE):Option (Λ×aE):=so.bind dI
theorem DJ{g:Nat}{H:ak}{so:Option aE}(h:bM w g B H N so):am x7 HC [Γ g] w λv w'=>pS w g B H N ((jy so).map (·.2)) w'/\∃(t:Λ)(n:Int),v= .agg #[bL t,Δ n]/\Bytes t/\t.length<=65536/\∀q,jy so=σ q->t=q.1:=by
 have aH:=h.lt;refine az func115 ?_;refine bo cr.i λa V bn z A=>?_;have h1:=h.ext z;have zero:∀{f:x3},pS V g B H N ν f->af f a cr [.string ⟨#[]⟩,Δ 0]->jy so=ν->(ac x7 (Instr.build cr #[]) f λt9=>
   aD x7 (o9 cr (Γ a) t9) f λ(_:Unit)aa=>
   ac x7 (do loadVar cr (<-asAddr (Γ a))) aa λaI=>(λv w'=>pS w g B H N ((jy so).map (·.2)) w'/\∃(t:Λ)(n:Int),v= .agg #[bL t,Δ n]/\Bytes t/\t.length<=65536/\∀q,jy so=σ q->t=q.1) aI aa):=by
  intro f y J Q;rw[cZ (cs:=#[.string ⟨#[]⟩,Δ 0]) Ψ];refine cb (vs:=[.string ⟨#[]⟩,Δ 0]) cr.i rfl rfl (by intro v ad;simp at ad;rcases ad with rfl|rfl<;>rfl) J λaJ Y bp aK=>?_;rw[fO cr.p cr.i rfl aK.range,Q];have aL:=z.size;have bq:=aH;refine⟨⟨hz ((z.ab _).trans y.1) Y λr e he=>?_,y.2.new Y λr e=>?_⟩,[],0,rfl,(λb aM=>by cases aM),Ξ,λq R=>by cases R⟩
  .have he:r=a:=he;omega
  .have e:r=a:=e;omega
 rw[rv h1];cases so with
 |none=>
  rw[R3,V0,bT];exact zero ⟨ai.refl _ _,h1⟩ A rfl
 |some s=>
 rw[S3,Y7,a1];obtain⟨aN,w0,br,S,gs,sv,L,Z,ae,ag,bad,ah,big,aj,told,aO,an,ao,C,K,aP,aR⟩:=id h1;have aS:=K.g an ao;obtain⟨⟨M,bt⟩,_⟩:=id aS;obtain⟨aT,ap,aV,aW,aX,aq,au,aY,aZ⟩:=id aR;rw[aQ bA.p 0 C rfl,DH M,be,al];refine⟨λav=>?_,λav=>?_⟩
 .have a2:S=[]:=c8 Ω;have E:s.toks=[]:=by rw[<-aq,a2];rfl
  have Q:jy (σ s)=ν:=by show dI s=ν;unfold dI;rw[E]
  intro f O _ _;have J:=C.ext O;rw[aQ bA.p 2 J rfl,aQ bA.p 1 J rfl];refine(oA (h1.ext O) ap).mono ?_;rintro _ aJ _ y;have a6:=A.lt;exact zero ⟨(O.ab _).trans y.1,y.2⟩ ((A.ext O).ab y.1 λhe=>by have he:a=g:=he;omega) Q
 .obtain⟨x,G,rfl⟩:∃x l,S=x::l:=by
   cases S with
   |nil=>exact absurd rfl av
   |cons x l=>exact⟨x,l,rfl⟩
  have E:s.toks=x.1::G.map (·.1):=by rw[<-aq];rfl
  have a7:jy (σ s)=σ (x.1,{s with toks:=G.map (·.1)}):=by show dI s=_;unfold dI;rw[E]
  have aw:=au x.1 (by rw[E];exact .head _);rw[aQ bA.p 0 C rfl];refine DI M λb o a8=>?_;rw[bK cr.p cr.i rfl a8];refine bo cr.i λax bu bw ba bb=>?_;refine cb (vs:=fW x) cr.i rfl rfl (xm x) bb λbc bd bx ay=>?_;have P:Ext V bc:=ba.put bd Ω;have aA:=C.ext P;rw[aQ bA.p 0 aA rfl];refine OE (M.ab (P.ab λ_=>False) λ_ _ h=>h) λU aB bf=>?_;have aC:=aB V M;rw[bV,aU bA.p rfl];refine bl (g:=g) (o:=0) fl.i (eK aC).1 (eK aC).2 aA (by simp[gE]) λI W bz X=>?_;have X:af I g bA (gE U ae ag bad ah big aj told sv):=X;have a6:=C.lt;have bB:=ay.lt;have bC:=A.lt;have aL:=z.size;have bg:af I ax cr (fW x):=ay.ab W λhe=>by have he:ax=g:=he;omega
  rw[bK cr.p cr.i rfl bg.range];have bh:af I a cr [.string ⟨#[]⟩,Δ 0]:=(af.ext A P).ab W λhe=>by have he:a=g:=he;omega
  refine cb (vs:=fW x) cr.i rfl rfl (xm x) bh λbD aF bE bi=>?_;rw[fO cr.p cr.i rfl bi.range];have aG:ai (λr=>r=g) V I:=(P.ab _).trans W;rw[a7];refine⟨⟨hz ((z.ab _).trans aG) aF λr e he=>?_,?_⟩,x.1,x.2,rfl,aw.1,aw.2,λq R=>by cases R;rfl⟩
  .have he:r=a:=he;omega
  .have bj:mo w0 U G gs sv L Z:=⟨⟨aB w0 K.1.1,λr e=>K.1.2 r (bf r e)⟩,K.2⟩;have bk:bM I g B H N (σ {s with toks:=G.map (·.1)}):=⟨aN,w0,U,G,gs,sv,L,Z,ae,ag,bad,ah,big,aj,told,aO,an.trans aG,ao,X,bj,aP,aT,ap,aV,aW,aX,rfl,λt bm=>au t (by rw[E];exact .tail _ bm),aY,by simp at aZ;omega⟩;refine bk.new aF λr e=>?_;have e:r=a:=e;omega
theorem OJ{lo hi:Int}{so:Option aE}:bc lo hi so=match jy so with
  |none=>ν
  |some (w,s)=>match gx w with
   |none=>ν
   |some n=>if lo<=n/\n<=hi then σ (n,s)else ν:=by
 cases so with
 |none=>rfl
 |some s=>rfl
theorem kN{g:Nat}{H:ak}{so:Option aE}{lo hi:Int}(h:bM w g B H N so):am x7 l2 [Γ g,Δ lo,Δ hi] w λv w'=>pS w g B H N ((bc lo hi so).map (·.2)) w'/\∃n at_:Int,v= .tuple #[Δ n,Δ at_]/\(∀q,bc lo hi so=σ q->n=q.1)/\(bc lo hi so=ν->n=0):=by
 have ax:=h.lt;refine az func117 ?_;refine(DJ h).mono ?_;rintro _ V _ ⟨⟨M,h1⟩,t,at_,rfl,W,ay,O⟩;have aC:=h1.lt;refine bo cr.i λX aa aD Y Z=>?_;refine cb (vs:=[bL t,Δ at_]) cr.i rfl rfl (by intro v ad;simp at ad;rcases ad with rfl|rfl<;>rfl) Z λac ae aF P=>?_;have Q:Ext V ac:=Y.put ae Ω;have af:=h1.ext Q;rw[aM cr.p 0 P rfl];refine(OB W Ω).mono ?_;rintro _ E _ ⟨rfl,G⟩;have I:=af.ext G;have R:=P.ext G;have ag:=Q.trans G;have aG:=M.size;obtain⟨n,e,ah,J,aj⟩:∃n e:Int,kE t= .tuple #[Δ n,Δ e]/\(∀m,gx t=σ m->n=m/\e=0)/\(gx t=ν->e≠0):=by
  unfold kE;cases gx t with
  |none=>exact⟨0,4,rfl,(λm hm=>by cases hm),λ_=>Ω⟩
  |some m=>exact⟨m,0,rfl,(λm hm=>by cases hm;exact⟨rfl,rfl⟩),λh=>by cases h⟩
 rw[ah,bq,br];have a:=OJ (lo:=lo) (hi:=hi) (so:=so);have S:ai (λr=>r=g) w E:=M.trans (ag.ab _);refine c5 (λy=>ai (λr=>r=g) E y/\bM y g B H N ((bc lo hi so).map (·.2))) ?_ ?_
 .rintro y ⟨z,x⟩;rw[rv x];cases A:bc lo hi so with
  |none=>
   rw[A]at x;rw[Option.map_none,R3,V0,bT];exact⟨⟨S.trans z,x⟩,0,0,rfl,(λq A=>by cases A),λ_=>rfl⟩
  |some q=>
   rw[A]at x a;rw[Z7,S3,Y7,a1];intro aH K _ _;have an:=(R.ab z λhe=>by have he:X=g:=he;omega).ext K;rw[aM cr.p 1 an rfl];refine⟨⟨(S.trans z).trans (K.ab _),x.ext K⟩,n,at_,rfl,λaI ao=>?_,λh=>by cases h⟩;cases ao;cases s:jy so with
   |none=>rw[s]at a;cases a
   |some p=>
    obtain⟨bp,s1⟩:=p;have L:=O (bp,s1) s;subst L;rw[s]at a;simp only at a;cases f:gx t with
    |none=>rw[f]at a;cases a
    |some m=>
     rw[f]at a;simp only at a;split at a
     .cases a;exact(J m f).1
     .cases a
 .intro aB U;refine aV (λv y=>E=y/\∃c:Bool,v= .bool c/\(c=true->bc lo hi so=ν)/\(c=false->(bc lo hi so).map (·.2)=(jy so).map (·.2))) ?_ ?_
  .rintro _ _ ⟨rfl,c,rfl,ap,aq⟩;rw[bZ];refine⟨λh=>?_,λh=>U _ ⟨ai.refl _ _,by rw[aq h];exact I⟩⟩;rw[aM cr.p 1 R rfl];refine(oA I Ω).mono ?_;rintro _ y _ ⟨z,x⟩;exact U _ ⟨z,by rw[ap h];exact x⟩
  .intro aJ C;rw[lC I];cases s:jy so with
   |none=>
    rw[s]at a;simp only at a;rw[Option.map_none,R3,a1];exact C _ _ ⟨rfl,false,rfl,(λh=>by cases h),λ_=>by rw[a,s];rfl⟩
   |some p=>
    obtain⟨bp,s1⟩:=p;have L:=O (bp,s1) s;subst L;rw[s]at a;simp only at a;rw[Z7,S3,bT,bD,al];refine⟨λhe=>?_,λhe=>?_⟩
    .refine C _ _ ⟨rfl,true,rfl,λ_=>?_,λh=>by cases h⟩;cases f:gx t with
     |none=>rw[a,f]
     |some m=>exact absurd (J m f).2 he
    .have au:e=0:=Y0.1 he;cases f:gx t with
     |none=>exact absurd au (aj f)
     |some m=>
      rw[f]at a;simp only at a;have av:=(J m f).1;subst av;rw[aS,al];refine⟨λaw=>C _ _ ⟨rfl,true,rfl,λ_=>by rw[a,if_neg Ω],λh=>by cases h⟩,λaw=>?_⟩;rw[bN];refine C _ _ ⟨rfl,_,rfl,λaA=>?_,λaA=>?_⟩
      .rw[a,if_neg (by have:=of_decide_eq_true aA;omega)]
      .rw[a,if_pos (by have:=of_decide_eq_false aA;omega),s];rfl
theorem xq{bg bv:x1}{a b:Λ}(e:aH .i64 w bg a)(s:aH .i64 w bv b):am x7 sB [bg,bv] w λv w'=>v= .bool (decide (a=b))/\Ext w w':=by
 refine az func190 ?_;rw[aW ay.u e,aW ay.u s,bD,al];refine⟨λh=>⟨by rw[decide_eq_false];intro he;rw[he]at h;exact h rfl,Ext.refl _⟩,λh=>?_⟩;have z:a.length=b.length:=by have:=Y0.1 h;omega
 rw[aW ay.u e];refine b5.range a.length (λi _ V=>Ext w V/\a.take i=b.take i) e.le ⟨Ext.refl _,rfl⟩ ?_ ?_
 .rintro i _ V k hi ⟨q,f⟩ hk;obtain⟨x,J⟩:=aI (l:=a) hi;obtain⟨y,r⟩:=aI (l:=b) (i:=i) Ω;refine bH Ω ?_;intro aa A _ _;have p:=q.trans A;rw[bh ay.u ao.i Ψ (e.ext p) J,bh ay.u ao.i Ψ (s.ext p) r,bD,al];refine⟨λB=>⟨by rw[decide_eq_false];intro he;rw[he,r]at J;exact B (Z0 J).symm,p⟩,λhe=>?_⟩;rw[aO];refine hk _ _ ⟨p,?_⟩;rw[u7,u7,f,J,r,Y0.1 he]
 .rintro _ V k ⟨q,f⟩;rw[aS,al];refine⟨λh=>Ω,λ_=>⟨?_,q⟩⟩;rw[o7,z,o7]at f;rw[decide_eq_true f]
def hg(w:x3)(B a:Nat)(x:ck):Prop:=∃aK szv b4 g1 e f,af w a a7 [aK,szv,Δ x.other,b4]/\av .i64 ao w g1 aK x.scope/\av .i64 ao w e szv x.sizes/\kM w f b4 x.lines/\(∀r,leads aK r\/leads szv r->B<=r)/\(∀r,leads aK r->¬leads szv r)/\B<=a
def DK(w:x3)(r:Nat):Prop:=(∃e c,af w r e c/\e≠ao/\e≠ca/\e≠a7)\/w.heap.size<=r
theorem hg.dK{f:Nat}{x:ck}(h:hg w B f x)(a:ai S w w')(s:∀r,S r->DK w r):hg w' B f x:=by
 obtain⟨aK,szv,b4,g1,y,z,h1,A,C,E,F,G,H⟩:=h;have p:∀r,S r->hf w r\/w.heap.size<=r:=λr I=>(s r I).imp (λ⟨e,c,q,J,K,_⟩=>⟨e,c,q,J,K⟩) id;refine⟨aK,szv,b4,g1,y,z,h1.ab a λU=>?_,eA A a p,eA C a p,E.dK a p,F,G,H⟩;rcases s f U with⟨e,c,q,_,_,L⟩|M
 .exact L (eb q h1)
 .have:=h1.lt;omega
theorem hg.ext{a:Nat}{x:ck}(h:hg w B a x)(J:Ext w w'):hg w' B a x:=h.dK (J.ab λ_=>False) λ_ h=>h.elim
theorem kO{g:Nat}{H:ak}{so:Option aE}(h:bM w g B H N so):∀r,r=g->DK w r:=λr a=>by
 subst a;obtain⟨f,p,q,bad,s,big,x,told,sv,e,_⟩:=hZ h;exact .inl ⟨_,_,e,Φ,Φ,Φ⟩
def gP(g B:Nat):ak:=λr=>r=g\/B<=r
theorem OK{k:Nat}{acc:Λ}{s:aE}:cL (λacc s=>match bd 0 (n-1) s with
 |none=>ν
 |some (v,s)=>if v∈acc then ν else σ (v,s)) (k+1) acc s=match bd 0 (n-1) s with
  |none=>ν
  |some (v,s')=>if v∈acc then ν else cL (λacc s=>match bd 0 (n-1) s with
 |none=>ν
 |some (v,s)=>if v∈acc then ν else σ (v,s)) k (acc++[v]) s':=by
 rw[cL];cases bd 0 (n-1) s with
 |none=>rfl
 |some q=>
  obtain⟨v,s'⟩:=q;simp only;by_cases ad:v∈acc
  .rw[if_pos ad,if_pos ad]
  .rw[if_neg ad,if_neg ad]
def DL(n:Int)(k:Nat)(acc:Λ)(s:aE):Option (Λ×aE):=cL (λacc s=>match bd 0 (n-1) s with
 |none=>ν
 |some (v,s)=>if v∈acc then ν else σ (v,s)) k acc s
theorem DM{g f ar:Nat}{H:ak}{s:aE}{so:Option aE}{aa:x1}{aP aQ:x3->Prop}(aA:bM w g B H N so)(b3:so=σ s\/(so=ν/\ar=0))(b5:hg w B f ⟨[],[],0,[]⟩)(b6:∀c,af w f a7 c->c[3]?=σ (.slice ν 0 0))(bF:av .i64 ao w gz aa all)(b7:∀r,leads aa r->r<B)(dn:all.length<=100001)(dp:ar<=4611686018427387904)(aR:so=σ s->s.toks.length<=100000)(aq:so=σ s->∀w' x,ai (gP g B) w w'->eR all.length ar s=ν->bM w' g B H N ν->hg w' B f x->aP w')(b8:so=ν->aQ w)(aT:so=σ s->∀w' scope s',ai (gP g B) w w'->eR all.length ar s=σ (scope,s')->bM w' g B H N (σ s')->hg w' B f ⟨scope,scope.map λv=>all.getD v.toNat 0,0,[]⟩->(∀c,af w' f a7 c->c[3]?=σ (.slice ν 0 0))->aQ w'):
  ce (Δ 0) w λi z k=>
   cz (α:=x1->x3->Prop) (λ(b9:x1)(K:x3)=>
    Split b9 (ac x7 (V2 #[ay] ah #[aa]) K λt53=>
   ac x7 (aN .sub ao false true t53 (Δ 1)) K λca=>
   am x7 l2 [Γ g,(Δ 0),ca] K λt55 A=>
   ac x7 (Y1 t55 0) A λaX=>
   ac x7 (Y1 t55 1) A λcb=>
   ac x7 (bP (Γ g)) A λcd=>
   ac x7 (u6 bA cd 3) A λcg=>
   ac x7 (u5 ah cg) A λch=>
   ac x7 (aN .neq ah false true ch (Δ 0)) A λci=>
   Split ci (aP A)
    (ac x7 (u6 a7 (Γ f) 0) A λcj=>
   ac x7 (u5 ay cj) A λbG=>
   ac x7 (V2 #[ay] ah #[bG]) A λt66=>
   ce (Δ 0) A λaY E ck=>
    ac x7 (aN .lss ah false false aY t66) E λcl=>
    Split cl (ac x7 (c9 ay bG aY) E λcm=>
    ac x7 (u5 ao cm) E λt70=>
    ac x7 (aN .eql ao false false t70 aX) E λcn=>
    Split cn (am x7 nN [Γ g,(Δ 4),cb] E λt76 aZ=>aP aZ)
     (ac x7 (aN .add ah false true aY (Δ 1)) E λcp=>
    ck cp E))
     (ac x7 (u6 a7 (Γ f) 0) E λcq=>
   ac x7 (u5 ay cq) E λcr=>
   aD x7 (Y3 ay 1 #[(0,aX)]) E λct ae=>
   aD x7 (Z2 #[ay,ay] ay #[cr,ct]) ae λcu a2=>
   ac x7 (u6 a7 (Γ f) 0) a2 λcw=>
   aD x7 (o9 ay cw cu) a2 λ(_:Unit)P=>
   er P λR=>
   ac x7 (u6 a7 (Γ f) 1) R λa6=>
   ac x7 (u5 ay a6) R λbI=>
   ac x7 (c9 ay aa aX) R λcA=>
   ac x7 (u5 ao cA) R λcB=>
   aD x7 (Y3 ay 1 #[(0,cB)]) R λcC Z=>
    (Ext R Z\/cD x7 (u5 ay a6) bI Z/\cD x7 (u6 a7 (Γ f) 1) a6 Z/\True)/\
   aD x7 (Z2 #[ay,ay] ay #[bI,cC]) Z λcE a8=>
    ac x7 (u6 a7 (Γ f) 1) a8 λcF=>
    aD x7 (o9 ay cF cE) a8 λ(_:Unit)S=>
     ac x7 (aN .add ao false true i (Δ 1)) S λcG=>
   k cG S)))
     (aQ K)) λbJ=>
   ac x7 (aN .lss ao false false i (Δ (ar:Int))) z λcH=>
   Split cH (ac x7 (bP (Γ g)) z λcI=>
   ac x7 (u6 bA cI 3) z λcJ=>
   ac x7 (u5 ah cJ) z λt45=>
   ac x7 (aN .eql ah false true t45 (Δ 0)) z λt46=>
   bJ t46 z)
    (bJ (.bool false) z):=by
 have dq:=aA.lt;rcases b3 with rfl|⟨rfl,rfl⟩
 rotate_left
 .refine ce.range 0 (λ_ V=>w=V) Ω rfl (λi V k hi=>Ω) ?_;rintro _ k rfl;refine aV (λv K=>w=K/\v= .bool false) ?_ ?_
  .rintro _ _ ⟨rfl,rfl⟩;rw[a1];exact b8 rfl
  .intro aB ag;rw[aS,al];exact⟨λh=>Ω,λ_=>ag _ _ ⟨rfl,rfl⟩⟩
 have h:=aA;have aR:=aR rfl;have aq:=aq rfl;have aT:=aT rfl;refine ce.range ar (λi z=>∃scope M,ai (gP g B) w z/\bM z g B H N (σ M)/\hg z B f ⟨scope,scope.map λv=>all.getD v.toNat 0,0,[]⟩/\scope.length=i/\scope.length+M.toks.length<=100000/\eR all.length ar s=DL all.length (ar-i) scope M/\∀c,af z f a7 c->c[3]?=σ (.slice ν 0 0)) Ω ⟨[],s,ai.refl _ _,h,b5,rfl,by simpa using aR,rfl,b6⟩ ?_ ?_
 rotate_left
 .rintro z k ⟨scope,M,au,Q,aw,bK,cK,C,ba⟩;refine aV (λv K=>z=K/\v= .bool false) ?_ ?_
  .rintro _ _ ⟨rfl,rfl⟩;rw[a1];rw[U8]at C;exact aT z scope M au C Q aw ba
  .intro aB ag;rw[aS,al];exact⟨λh=>Ω,λ_=>ag _ _ ⟨rfl,rfl⟩⟩
 rintro i z k hi ⟨scope,M,au,Q,aw,bK,cK,C,ba⟩ hk;refine aV (λv K=>z=K/\v= .bool true) ?_ ?_
 rotate_left
 .intro aB ag;refine bH Ω ?_;rw[lC Q];exact ag _ _ ⟨rfl,rfl⟩
 rintro _ _ ⟨rfl,rfl⟩;rw[bT];have bL:∀{w':x3},ai (gP g B) w w'->av .i64 ao w' gz aa all:=λcL=>bt bF cL λr e U=>by
  rcases U with rfl|U
  .obtain⟨cM,G,aj,bad,cN,big,cO,told,sv,I,_⟩:=hZ h;exact cc bF I Φ e rfl
  .have:=b7 r e;omega
 rw[aW ay.u (bL au).ls,dO,wrap_i64 Ω Ω];refine(kN Q).mono ?_;rintro _ A _ ⟨⟨bb,J⟩,n,at_,rfl,bf,cP⟩;rw[bq,br,rv J];have bg:=aw.dK bb (kO Q);have bi:ai (gP g B) w A:=au.trans (bb.mono λr _ h=>.inl h);have cQ:=OK (n:=(all.length:Int)) (k:=ar-(i+1)) (acc:=scope) (s:=M);have cS:ar-i=(ar-(i+1))+1:=Ω
 rw[cS]at C;unfold DL at C;rw[cQ]at C;have cT:bc 0 ((all.length:Int)-1) (σ M)=bd 0 ((all.length:Int)-1) M:=rfl;rw[cT]at J bf cP ⊢;cases ax:bd 0 ((all.length:Int)-1) M with
 |none=>
  rw[ax]at J C;rw[Option.map_none,R3,V0,bT];exact aq A _ bi C J bg
 |some q=>
  obtain⟨v,bj⟩:=q;rw[ax]at J C bf;have cU:n=v:=bf _ rfl;subst cU;have dr:=(hU ax).1;have ds:=(dg ax).1;simp only at C;rw[Z7,S3,Y7,a1];have J:bM A g B H N (σ bj):=J;obtain⟨aK,szv,b4,g1,cV,bk,f1,f2,f3,f4,f5,f6,f7⟩:=id bg;rw[aM a7.p 0 f1 rfl,aW ay.u f2.ls];have dt:scope.length<=100000:=Ω
  refine ce.range scope.length (λj E=>A=E/\n∉scope.take j) Ω ⟨rfl,Ξ⟩ ?_ ?_
  .rintro j _ cW cX ⟨rfl,az⟩ cY;obtain⟨u,hu⟩:=aI (l:=scope) cX;rw[aS,al];refine⟨λ_=>?_,λh=>by simp only at h;omega⟩;rw[bh ay.u ao.i Ψ f2.ls hu,be,al];refine⟨λhe=>?_,λcZ=>?_⟩
   .refine (oA J Ω).mono ?_;rintro _ aZ _ ⟨bN,c0⟩;rw[if_pos (by rw[<-he];exact x5 hu)]at C;exact aq aZ _ (bi.trans (bN.mono λr _ h=>.inl h)) C c0 (bg.dK bN (kO J))
   .rw[aO];refine cY _ ⟨rfl,?_⟩;rw[u7,hu];intro hm;rcases o5.1 hm with hm|hm
    .exact az hm
    .simp at hm;exact cZ hm.symm
  .rintro _ cW ⟨rfl,az⟩;rw[o7]at az;rw[aS,al];refine⟨λh=>by simp only at h;omega,λ_=>?_⟩;rw[if_neg az]at C;rw[aM a7.p 0 f1 rfl];refine ee ay.u ao.i rfl λdu dv ae dw O c1=>?_;have dx:=J.lt;refine gD ay.u ao.i rfl (f2.ext O) c1.ls Θ Θ λW bm a2 aC c2 bO=>?_;have aF:=f1.ext O;have f113:=aF.ab bO λhe=>cc (f2.ext O) aF Φ he rfl;rw[aU a7.p rfl];refine bl (g:=f) (o:=0) ay.i aC.ls.cells.1 aC.ls.cells.2 f113 Ξ λP bR dy aG=>?_;have aG:af P f a7 [W,szv,Δ 0,b4]:=aG;intro R bn _ _;have an:ai (λr=>leads aK r\/r=f) ae P:=(bO.mono λr _ h=>.inl h).trans (bR.mono λr _ h=>.inr h);have bS:∀r,(leads aK r\/r=f)->gP g B r:=λr e=>.inr (e.elim (λe=>f5 r (.inl e)) λe=>e▸f7);have bU:ai (gP g B) w P:=(bi.trans (O.ab _)).trans (an.mono λr _ e=>bS r e);have c3:ai (gP g B) w R:=bU.trans (bn.ab _);have c4:av .i64 ao P cV szv _:=bt (f3.ext O) an λr e U=>by
    rcases U with U|rfl
    .exact f6 r U e
    .exact cc (f3.ext O) aF Φ e rfl
   have c5:av .i64 ao P bm W (scope++[n]):=bt aC bR λr e he=>by
    have he:r=f:=he;subst he;exact cc aC f113 Φ e rfl
   have c6:∀r,(leads aK r\/r=f)->(∃c,af ae r ao c)\/∃c,af ae r a7 c:=λr e=>by
    rcases e with e|rfl
    .obtain⟨G,_⟩:=bQ f2 e;obtain⟨_,⟨ad,_⟩|⟨_,cs,ad,I,_⟩⟩:=f2.ext O
     .rw[ad]at e;obtain⟨a,c8,c,G,aj⟩:=e;cases G
     .exact .inl ⟨cs,G▸I⟩
    .exact .inr ⟨_,aF⟩
   have da:kM P bk b4 []:=by
    obtain⟨L,X,db,bo⟩:=f4.dK (O.ab λ_=>False) λ_ h=>h.elim;have bp:L=[]:=List.map_eq_nil_iff.1 bo;subst bp;refine⟨[],X.ab an λr e U=>?_,λy bu=>(by cases bu),rfl⟩;rcases c6 r U with⟨c,I⟩|⟨c,I⟩
    .exact cR X I Φ e
    .exact cR X I Φ e
   have dc:bM P g B H N (σ bj):=(J.ext O).new an λr e=>by
    rcases bS r e with rfl|h
    .rcases e with e|e
     .exact f5 _ (.inl e)
     .exact e▸f7
    .exact h
   rw[aM a7.p 1 (aG.ext bn) rfl];have dd:all[n.toNat]?=σ (all.getD n.toNat 0):=by rw[u4,x6 Ω];rfl
   rw[fN (y:=n) (i:=n.toNat) Ω ay.u ao.i Ψ (bL c3).ls dd];refine ee ay.u ao.i rfl λdz dA Z dC bV de=>?_;refine⟨.inl bV,?_⟩;have Y:=bn.trans bV;have f316:=c4.ext Y;have bW:(scope.map λv=>all.getD v.toNat 0).length=scope.length:=u9 _;refine gD ay.u ao.i rfl f316 de.ls (by simp at bW ⊢;omega) (by simp at bW ⊢;omega) λbw df a8 aH bX bY=>?_;have aJ:=aG.ext Y;have bZ:=aJ.ab bY λhe=>cc f316 aJ Φ he rfl;rw[aU a7.p rfl];refine bl (g:=f) (o:=1) ay.i aH.ls.cells.1 aH.ls.cells.2 bZ Ξ λS b0 dD ap=>?_;have ap:af S f a7 [W,bw,Δ 0,b4]:=ap;rw[aO];have aL:ai (λr=>leads szv r\/r=f) Z S:=(bY.mono λr _ h=>.inl h).trans (b0.mono λr _ h=>.inr h);have b1:∀r,(leads szv r\/r=f)->B<=r:=λr e=>e.elim (λe=>f5 r (.inr e)) λe=>e▸f7;have bx:=c5.ext Y;have dE:=O.size;have dF:=an.size;have bz:∀r,leads W r->B<=r/\¬leads szv r:=λr e=>by
    rcases c2 r e with h|h
    .exact⟨f5 r (.inl h),f6 r h⟩
    .exact⟨Ω,λbB=>by obtain⟨G,aj⟩:=bQ f3 bB;omega⟩
   have dh:av .i64 ao S bm W (scope++[n]):=bt bx aL λr e U=>by
    rcases U with U|rfl
    .exact (bz r e).2 U
    .exact cc bx aJ Φ e rfl
   have di:=bt aH b0 λr e he=>by
    have he:r=f:=he;subst he;exact cc aH bZ Φ e rfl
   have dj:kM S bk b4 []:=by
    obtain⟨L,X,db,bo⟩:=da.dK (Y.ab λ_=>False) λ_ h=>h.elim;have bp:L=[]:=List.map_eq_nil_iff.1 bo;subst bp;refine⟨[],X.ab aL λr e U=>?_,λy bu=>(by cases bu),rfl⟩;rcases U with U|rfl
    .obtain⟨G,_⟩:=bQ f316 U;obtain⟨_,⟨ad,_⟩|⟨_,cs,ad,I,_⟩⟩:=f316
     .rw[ad]at U;obtain⟨a,c8,c,G,aj⟩:=U;cases G
     .exact cR X (G▸I) Φ e
    .exact cR X aJ Φ e
   refine hk _ ⟨scope++[n],bj,((bU.trans (Y.ab _)).trans (aL.mono λr _ e=>.inr (b1 r e))),(dc.ext Y).new aL b1,⟨W,bw,b4,bm,df,bk,ap,dh,by rw[Z3];exact di,dj,λr e=>?_,λr e bB=>?_,f7⟩,by rw[r8,bK];rfl,by rw[r8];simp;omega,C,λc bC=>?_⟩
   .rcases e with e|e
    .exact (bz r e).1
    .rcases bX r e with h|h
     .exact f5 r (.inr h)
     .have:=Y.size;omega
   .rcases bX r bB with h|h
    .exact (bz r e).2 h
    .obtain⟨G,aj⟩:=bQ bx e;omega
   .have dk:c=[W,bw,Δ 0,b4]:=by
     unfold af at bC ap;rw[ap]at bC;have:=(Obj.cells.inj (Z0 bC)).1;exact(Array.toList_inj.2 this).symm
    have dl:b4= .slice ν 0 0:=by
     obtain⟨dG,dH,dI,_,_,_,bD,_⟩:=aw;have b2:=ba _ bD;have bE:=bD.ab bb λhe=>by
      have he:f=g:=he;obtain⟨cM,G,aj,bad,cN,big,cO,told,sv,I,_⟩:=hZ Q;subst he;exact absurd (eb I bD) Φ
     unfold af at bE f1;rw[f1]at bE;have dm:=Array.toList_inj.2 (Obj.cells.inj (Z0 bE)).1;have Q:=congrArg (λl=>l[3]?) dm;simp at Q;simp at b2;rw[Q,b2]
    rw[dk,dl];rfl
theorem OL{y:x1->x3->Prop}(h:aH .i64 w sv l)(h1:∀z∈l,1<=z)(J:∀c:Int,(4096<c↔dk l=true)->y (Δ c) w):
  b5 (Δ 1) (Δ 0) w λA r a K=>
   ac x7 (aN .lss ah false false r (Δ (l.length:Int))) a λL=>
   Split L (cz (α:=x1->x3->Prop) (λ(M:x1)(B:x3)=>
    ac x7 (aN .add ah false true r (Δ 1)) B λN=>
    K M N B) λC=>
   ac x7 (c9 ay sv r) a λO=>
   ac x7 (u5 ao O) a λE=>
   cz (α:=x1->x3->Prop) (λ(P:x1)(f:x3)=>
    ac x7 (aN .mul ao false false A P) f λF=>
    ac x7 (aN .gtr ao false true F (Δ 4096)) f λQ=>
    Split Q (C (Δ 4097) f)
     (C F f)) λG=>
   ac x7 (aN .gtr ao false true E (Δ 4096)) a λR=>
   Split R (G (Δ 4097) a)
    (G E a))
    (y A a):=by
 refine b5.range l.length (λi c V=>w=V/\∃p:Int,p=aP ((l.take i).map λk=>min k 4097)/\1<=p/\c=Δ (if 4096<p then 4097 else p)) h.le ⟨rfl,1,by simp[aP],Ω,by rw[if_neg Ω]⟩ ?_ ?_
 .rintro i _ _ S hi ⟨rfl,p,q,U,rfl⟩ W;obtain⟨z,s⟩:=aI (l:=l) hi;have Y:=h1 z (x5 s);have e:aP ((l.take (i+1)).map λk=>min k 4097)=p*min z 4097:=by
   rw[q,u7,s,o8,Z3,T1,List.map_nil,BL]
  have Z:p*1<=p*min z 4097:=Int.mul_le_mul_of_nonneg_left Ω Ω;refine bH Ω ?_;refine aV (λv aa=>w=aa/\v=Δ (if 4096<p*min z 4097 then 4097 else p*min z 4097)) ?_ ?_
  .rintro _ _ ⟨rfl,rfl⟩;rw[aO];exact W _ _ ⟨rfl,_,e.symm,Ω,rfl⟩
  intro aB x;rw[bh ay.u ao.i Ψ h s];refine aV (λv aa=>w=aa/\v=Δ (min z 4097)) ?_ ?_
  .rintro _ _ ⟨rfl,rfl⟩;rw[hS];by_cases H:4096<p
   .rw[if_pos H];have X:(4097:Int)*1<=4097*min z 4097:=Int.mul_le_mul_of_nonneg_left Ω Ω;rw[wrap_i64 Ω Ω,bN,al];refine⟨λ_=>x _ _ ⟨rfl,by rw[if_pos Ω]⟩,λab=>Ω⟩
   .rw[if_neg H];have X:p*min z 4097<=4096*4097:=by
     have ad:=Int.mul_le_mul_of_nonneg_right (show p<=4096 by omega) (show 0<=min z 4097 by omega);have ae:=Int.mul_le_mul_of_nonneg_left (show min z 4097<=4097 by omega) (show(0:Int)<=4096 by omega);omega
    rw[wrap_i64 Ω Ω,bN,al];exact⟨λaA=>x _ _ ⟨rfl,by rw[if_pos aA]⟩,λaA=>x _ _ ⟨rfl,by rw[if_neg aA]⟩⟩
  .intro af I;rw[bN,al];exact⟨λaA=>I _ _ ⟨rfl,by congr 1;omega⟩,λaA=>I _ _ ⟨rfl,by congr 1;omega⟩⟩
 .rintro _ _ S ⟨rfl,p,q,U,rfl⟩;rw[o7]at q;rw[aS,al];refine⟨λh=>Ω,λ_=>J _ ?_⟩;unfold dk;rw[<-q,decide_eq_true_eq];split
  .exact⟨λ_=>Ω,λ_=>Ω⟩
  .exact Iff.rfl
theorem OM{g ap:Nat}{H:ak}{so:Option aE}{Y:x3->Prop}(h:bM w g B H N so)(C:av .i64 ao w gz szv sizes)(aF:∀z∈sizes,1<=z/\z<=ax)(bo:sizes.length<=100001)(Q:af w ap ca [.slice ν 0 0,Δ 0])(aG:B<=ap)(Z:∀t w' aL gt,t.length=sizes.length->ai (λr=>r=g\/r=ap\/w.heap.size<=r) w w'->af w' ap ca [aL,Δ 0]->av .i64 ao w' gt aL t->(∀r,leads aL r->w.heap.size<=r)->bM w' g B H N ((e6 sizes [] so).map (·.2))->(∀q,e6 sizes [] so=σ q->t=q.1)->Y w'):
  ce (Δ 0) w λR s aH=>
      ac x7 (aN .lss ah false false R (Δ (sizes.length:Int))) s λaJ=>
      Split aJ (ac x7 (c9 ay szv R) s λaK=>
      ac x7 (u5 ao aK) s λaP=>
      ac x7 (aN .sub ao false true aP (Δ 1)) s λaQ=>
      am x7 l2 [Γ g,(Δ 0),aQ] s λad E=>
      ac x7 (Y1 ad 0) E λaR=>
      ac x7 (Y1 ad 1) E λbp=>
      ac x7 (u6 ca (Γ ap) 0) E λaS=>
      ac x7 (u5 ay aS) E λaT=>
      aD x7 (Y3 ay 1 #[(0,aR)]) E λaV aW=>
      aD x7 (Z2 #[ay,ay] ay #[aT,aV]) aW λaX ae=>
      ac x7 (u6 ca (Γ ap) 0) ae λaY=>
      aD x7 (o9 ay aY aX) ae λ(_:Unit)ag=>
      ac x7 (aN .add ah false true R (Δ 1)) ag λaZ=>
      aH aZ ag)
       (Y s):=by
 have bu:=Q.lt;have bw:=h.lt;refine ce.range sizes.length (λj V=>∃t aL gt s1,t.length=j/\ai (λr=>r=g\/r=ap\/w.heap.size<=r) w V/\af V ap ca [aL,Δ 0]/\av .i64 ao V gt aL t/\(∀r,leads aL r->w.heap.size<=r)/\bM V g B H N s1/\e6 sizes [] so=e6 (sizes.drop j) t s1) C.ls.le
  ⟨[],_,0,so,rfl,ai.refl _ _,Q,av.nil _ _ _ _,(λr e=>by obtain⟨a,n,c,K,S⟩:=e;cases K),h,rfl⟩ ?_ ?_
 rotate_left
 .rintro V a1 ⟨t,aL,gt,s1,L,x,M,G,y,I,he⟩;refine ct Ω ?_;rw[List.drop_length]at he;cases s1 with
  |none=>
   have he:e6 sizes [] so=ν:=he;exact Z t V aL gt L x M G y (by rw[he];exact I) (λq f=>by rw[he]at f;cases f)
  |some s1=>
   have he:e6 sizes [] so=σ (t,s1):=he;exact Z t V aL gt L x M G y (by rw[he];exact I) (λq f=>by rw[he]at f;cases f;rfl)
 rintro j V a1 aj ⟨t,aL,gt,s1,L,x,M,G,y,I,he⟩ a2;obtain⟨z,W⟩:=aI (l:=sizes) aj;have a6:=aF z (x5 W);have bx:z<=4611686018427387904:=a6.2;have a7:av .i64 ao V gz szv sizes:=bt C x λr e U=>by
  rcases U with rfl|rfl|U
  .obtain⟨a8,K,S,bad,ba,big,bb,told,sv,J,_⟩:=hZ h;exact cc C J Φ e rfl
  .exact cc C Q Φ e rfl
  .obtain⟨K,S⟩:=bQ C e;omega
 refine bH Ω ?_;rw[bh ay.u ao.i Ψ a7.ls W,dO,wrap_i64 Ω Ω];refine(kN I).mono ?_;rintro _ aa _ ⟨⟨O,bd⟩,n,at_,rfl,be,bz⟩;rw[bq,br];have bf:ap≠g:=Ω
 have al:=M.ab O λhe=>bf he;have bg:∃c,af V g bA c:=by obtain⟨a8,K,S,bad,ba,big,bb,told,sv,J,_⟩:=hZ I;exact⟨_,J⟩
 have an:av .i64 ao aa gt aL t:=bt G O λr e he=>by
  have he:r=g:=he;obtain⟨c,J⟩:=bg;exact cc G J Φ e he
 rw[aM ca.p 0 al rfl];refine ee ay.u ao.i rfl λa3 bB bi bC A bj=>?_;refine gD ay.u ao.i rfl (an.ext A) bj.ls Θ Θ λaq bk bD P bm au=>?_;have aw:=al.ext A;have az:=aw.ab au λhe=>cc (an.ext A) aw Φ he rfl;rw[aU ca.p rfl];refine bl (g:=ap) (o:=0) ay.i P.ls.cells.1 P.ls.cells.2 az Ξ λaA aB bE X=>?_;have X:af aA ap ca [aq,Δ 0]:=X;rw[aO];have aC:ai (λr=>leads aL r\/r=ap) bi aA:=(au.mono λr _ h=>.inl h).trans (aB.mono λr _ h=>.inr h);have bF:=x.size;have bG:=O.size;have z3:=A.size;refine a2 _ ⟨t++[n],aq,bk,(bc 0 (z-1) s1).map (·.2),by simp[L],?_,X,bt P aB λr e he=>?_,λr e=>?_,?_,?_⟩
 .refine (x.trans (O.mono λr _ h=>.inl h)).trans ((A.ab _).trans (aC.mono λr _ h=>?_));exact h.elim (λh=>.inr (.inr (y r h))) λh=>.inr (.inl h)
 .have he:r=ap:=he;subst he;exact cc P az Φ e rfl
 .rcases bm r e with h|h
  .exact y r h
  .omega
 .refine (bd.ext A).new aC λr e=>?_;rcases e with e|rfl
  .have:=y r e;omega
  .exact aG
 .rw[he];have bn:sizes.drop j=z::sizes.drop (j+1):=by rw[W3 aj,(x4.1 W).2]
  rw[bn,Cn];cases f:bc 0 (z-1) s1 with
  |none=>rfl
  |some q=>
   obtain⟨v,bI⟩:=q;have:=be _ f;subst this;rfl
theorem xr{g:Nat}{t:Λ}{c:Int}(h:av .i64 ao w g v t):∀u∈oz ⟨v,t,c⟩,u.oneCell'=true:=by
 intro u hu;simp[oz]at hu;rcases hu with rfl|rfl
 .exact h.ls.cells.2
 .rfl
def ON(sizes:Λ)(cnt i:Nat)(s0:aE)(A:List (Λ×Int))(so:Option aE):Prop:=(∃s,so=σ s/\cL (dQ sizes) cnt [] s0=cL (dQ sizes) (cnt-i) A s/\A.length+s.toks.length<=100000)\/(so=ν/\cL (dQ sizes) cnt [] s0=ν)
theorem OO{g I g1 a8 W:Nat}{H:ak}{s0:aE}{aK b4:x1}{scope:Λ}{o:Int}{aC:List (Λ×Int)}{bZ:x3->Prop}(h:bM w g B H N (σ s0))(f1:af w I a7 [aK,szv,Δ o,b4])(f2:av .i64 ao w g1 aK scope)(f3:av .i64 ao w a8 szv sizes)(f4:kM w W b4 aC)(f5:∀r,leads aK r\/leads szv r->B<=r)(f6:∀r,leads aK r->¬leads szv r)(f7:B<=I)(cV:∀z∈sizes,1<=z/\z<=ax)(cW:sizes.length<=100001)(eV:n<=4611686018427387904)(bw:0<n->aC=[]/\∀r,¬leadsTo b4 r)(cX:s0.toks.length<=100000)(b0:∀w' A bx,ai (gP g B) w w'->hg w' B I ⟨scope,sizes,o,A⟩->bM w' g B H N bx->(n<=0->A=aC/\bx=σ s0)->(0<n->bx=(cL (dQ sizes) n.toNat [] s0).map (·.2)/\∀q,cL (dQ sizes) n.toNat [] s0=σ q->A=q.1)->bZ w'):
  ce (Δ 0) w λb1 ad cY=>
     cz (α:=x1->x3->Prop) (λ(cZ:x1)(b2:x3)=>
      Split cZ (aD x7 (Instr.alloc ca true (.tuple #[])) b2 λx X=>
     ac x7 (u6 a7 (Γ I) 1) X λc0=>
     ac x7 (u5 ay c0) X λb3=>
     ac x7 (V2 #[ay] ah #[b3]) X λc1=>
     ce (Δ 0) X λbz ae c2=>
      ac x7 (aN .lss ah false false bz c1) ae λc3=>
      Split c3 (ac x7 (c9 ay b3 bz) ae λc4=>
      ac x7 (u5 ao c4) ae λc6=>
      ac x7 (aN .sub ao false true c6 (Δ 1)) ae λc7=>
      am x7 l2 [Γ g,(Δ 0),c7] ae λb5 aF=>
      ac x7 (Y1 b5 0) aF λc8=>
      ac x7 (Y1 b5 1) aF λeW=>
      ac x7 (u6 ca x 0) aF λda=>
      ac x7 (u5 ay da) aF λdb=>
      aD x7 (Y3 ay 1 #[(0,c8)]) aF λdc dd=>
      aD x7 (Z2 #[ay,ay] ay #[db,dc]) dd λde b6=>
      ac x7 (u6 ca x 0) b6 λdf=>
      aD x7 (o9 ay df de) b6 λ(_:Unit)b7=>
      ac x7 (aN .add ah false true bz (Δ 1)) b7 λdh=>
      c2 dh b7)
       (am x7 l2 [Γ g,(Δ 0),(Δ 4611686018427387904)] ae λb8 E=>
     ac x7 (Y1 b8 0) E λdi=>
     ac x7 (Y1 b8 1) E λdk=>
     ac x7 (u6 a7 (Γ I) 3) E λdl=>
     ac x7 (u5 dW dl) E λb9=>
     ac x7 (V2 #[dW] ah #[b9]) E λdm=>
     ce (Δ 0) E λbB J dn=>
      ac x7 (aN .lss ah false false bB dm) J λdp=>
      Split dp (cz (α:=x3->Prop) (λ(au:x3)=>
       ac x7 (aN .add ah false true bB (Δ 1)) au λdq=>
       dn dq au) λcd=>
      ac x7 (c9 dW b9 bB) J λdr=>
      ac x7 (u5 ca dr) J λds=>
      aD x7 (Instr.alloc ca true (.tuple #[])) J λy cg=>
      aD x7 (o9 ca y ds) cg λ(_:Unit)K=>
      cz (α:=x1->x3->Prop) (λ(dt:x1)(aG:x3)=>
       Split dt (am x7 nN [Γ g,(Δ 4),dk] aG λeX ch=>
        cd ch)
        (cd aG)) λci=>
      ac x7 (bP (Γ g)) K λdu=>
      ac x7 (u6 bA du 3) K λdv=>
      ac x7 (u5 ah dv) K λdw=>
      ac x7 (aN .eql ah false true dw (Δ 0)) K λdx=>
      Split dx (ac x7 (u6 ca x 0) K λdy=>
       ac x7 (u5 ay dy) K λdz=>
      ac x7 (u6 ca y 0) K λdA=>
      ac x7 (u5 ay dA) K λdC=>
      am x7 sB [dz,dC] K λdD cj=>
      ci dD cj)
       (ci (.bool false) K))
       (ac x7 (u6 ca x 1) J λdE=>
     aD x7 (o9 ao dE di) J λ(_:Unit)Y=>
     ac x7 (u6 a7 (Γ I) 3) Y λdF=>
     ac x7 (u5 dW dF) Y λdG=>
     ac x7 (u5 ca x) Y λdH=>
     aD x7 (Y3 dW 1 #[(0,dH)]) Y λdI ba=>
     aD x7 (Z2 #[dW,dW] dW #[dG,dI]) ba λdJ bC=>
     ac x7 (u6 a7 (Γ I) 3) bC λdL=>
     aD x7 (o9 dW dL dJ) bC λ(_:Unit)Z=>
     ac x7 (aN .add ao false true b1 (Δ 1)) Z λdM=>
     cY dM Z)))
       (bZ b2)) λck=>
     ac x7 (aN .lss ao false false b1 (Δ n)) ad λdN=>
     Split dN (ac x7 (bP (Γ g)) ad λdO=>
     ac x7 (u6 bA dO 3) ad λdP=>
     ac x7 (u5 ah dP) ad λdR=>
     ac x7 (aN .eql ah false true dR (Δ 0)) ad λdT=>
     ck dT ad)
      (ck (.bool false) ad):=by
 have dU:=h.lt;refine ce.range n.toNat (λi V=>∃A so b4 W,ai (gP g B) w V/\af V I a7 [aK,szv,Δ o,b4]/\av .i64 ao V g1 aK scope/\av .i64 ao V a8 szv sizes/\kM V W b4 A/\(0<n->∀r,leadsTo b4 r->B<=r)/\bM V g B H N so/\(n<=0->A=aC/\so=σ s0)/\(0<n->ON sizes n.toNat i s0 A so)) Ω
  ⟨aC,σ s0,b4,W,ai.refl _ _,f1,f2,f3,f4,λQ r C=>absurd C ((bw Q).2 r),h,λ_=>⟨rfl,rfl⟩,λQ=>.inl ⟨s0,rfl,by rw[(bw Q).1];rfl,by rw[(bw Q).1];simpa using cX⟩⟩ ?_ ?_
 rotate_left
 .rintro V k ⟨A,so,b4,W,aH,az,bb,aJ,aP,bD,ag,cl,G⟩;refine aV (λv aa=>V=aa/\v= .bool false) ?_ ?_
  .rintro _ _ ⟨rfl,rfl⟩;rw[a1];refine b0 V A so aH ⟨aK,szv,b4,g1,a8,W,az,bb,aJ,aP,f5,f6,f7⟩ ag cl λQ=>?_;rcases G Q with⟨s,rfl,he,_⟩|⟨rfl,he⟩
   .rw[U8]at he;rw[he];exact⟨rfl,λq M=>by cases M;rfl⟩
   .rw[he];exact⟨rfl,λq M=>by cases M⟩
  .intro aB bE;rw[aS,al];exact⟨λh=>Ω,λ_=>bE _ _ ⟨rfl,rfl⟩⟩
 rintro i V k hi ⟨A,so,b4,W,aH,az,bb,aJ,aP,bD,ag,cl,G⟩ hk;have Q:0<n:=Ω
 refine aV (λv aa=>V=aa/\v= .bool so.isSome) ?_ ?_
 rotate_left
 .intro aB bE;refine bH Ω ?_;rw[lC ag];exact bE _ _ ⟨rfl,rfl⟩
 rintro _ _ ⟨rfl,rfl⟩;rcases G Q with⟨e9,rfl,he,eY⟩|⟨rfl,he⟩
 rotate_left
 .rw[R3,a1];refine b0 V A ν aH ⟨aK,szv,b4,g1,a8,W,az,bb,aJ,aP,f5,f6,f7⟩ ag (λh=>Ω) λ_=>?_;rw[he];exact⟨rfl,λq M=>by cases M⟩
 rw[S3,bT];have eZ:=ag.lt;refine bo ca.i λap X e0 aQ bF=>?_;have bF:af X ap ca [.slice ν 0 0,Δ 0]:=bF;have dV:=az.ext aQ;have cm:=aJ.ext aQ;have e1:=aQ.size;have e2:=az.lt;rw[aU a7.p rfl,aw Ψ (dV.cell (o:=0+1) rfl),aW ay.u cm.ls];refine OM (ag.ext aQ) cm cV cW bF Ω λt ae aL gt e3 dX dY dZ eb ec ed=>?_;refine(kN ec).mono ?_;rintro _ E _ ⟨⟨bG,be⟩,c,at_,rfl,ee,e4⟩;rw[bq,br];have bI:ap≠g:=Ω
 have cn:I≠g:=by have:=h.lt;omega
 have ef:ai (λr=>r=g\/r=ap\/X.heap.size<=r) X E:=dX.trans (bG.mono λr _ h=>.inl h);have cp:∀{S:Nat->Prop},(∀r,S r->r=g\/V.heap.size<=r)->∀r,S r->hf V r\/V.heap.size<=r:=λeg r C=>(eg r C).imp (λhe=>by
  subst he;obtain⟨cq,aR,aT,bad,cr,big,cu,told,sv,G,_⟩:=hZ ag;exact⟨_,_,G,Φ,Φ⟩) id
 have bf:ai (λr=>r=g\/V.heap.size<=r) V E:=(aQ.ab _).trans (ef.mono λr _ h=>h.elim .inl λh=>h.elim (λh=>.inr Ω) λh=>.inr Ω);have cw:af E I a7 [aK,szv,Δ o,b4]:=az.ab bf λh=>h.elim cn λh=>Ω
 obtain⟨L,bg,cA,bJ⟩:=aP.dK bf (cp λr C=>C);have cB:af E ap ca [aL,Δ 0]:=dY.ab bG λhe=>bI he;have cC:av .i64 ao E gt aL t:=bt dZ bG λr C he=>by
  have he:r=g:=he;have:=eb r C;omega
 have e5:L.length=A.length:=by rw[<-bJ,u9]
 rw[aM a7.p 3 cw rfl,ea dW.u bg];generalize cD:(bc 0 4611686018427387904 (V7 (λx=>x.snd) (e6 sizes [] (σ e9)))).map (·.2)=aj at be;have e7:=bf.size;refine ce.range L.length (λj J=>ai (λr=>r=g) E J/\bM J g B H N (if t∈(L.take j).map (·.t)then ν else aj)) bg.le ⟨ai.refl _ _,by simpa using be⟩ ?_ ?_
 .rintro j J eh cE ⟨O,aX⟩ ei;obtain⟨y,P⟩:=aI (l:=L) cE;have bL:∃c,af E g bA c:=by obtain⟨cq,aR,aT,bad,cr,big,cu,told,sv,G,_⟩:=hZ be;exact⟨_,G⟩
  have an:∀r,r=g->hf E r\/E.heap.size<=r:=λr C=>by
   subst C;obtain⟨c,G⟩:=bL;exact .inl ⟨_,c,G,Φ,Φ⟩
  have bh:=xp bg O λr C=>(an r C).imp (λ⟨e,c,G,_,aY⟩=>⟨e,c,G,aY⟩) id;obtain⟨e8,ej⟩:=cA y (x5 P);have cF:=eA ej O an;have bN:=eA cC O an;have bi:=cB.ab O λhe=>bI he;refine bH Ω ?_;have bO:t∈(L.take (j+1)).map (·.t)↔t∈(L.take j).map (·.t)\/t=y.t:=by
   rw[u7,P,o8,Z3,o5];simp
  refine c5 (λau=>ai (λr=>r=g) E au/\bM au g B H N (if t∈(L.take (j+1)).map (·.t)then ν else aj)) ?_ ?_
  .rintro au ek;rw[aO];exact ei _ ek
  intro fa cG;rw[dj rfl dW.u ca.i bh cE,bK ca.p ca.i rfl (bh.range P)];refine bo ca.i λgy cg fb em en=>?_;refine cb (vs:=oz y) ca.i rfl rfl (xr cF) en λK eo fc ep=>?_;have aZ:Ext J K:=em.put eo Ω;have cH:=aX.ext aZ;have cI:ai (λr=>r=g) E K:=O.trans (aZ.ab _);refine aV (λv aG=>∃b:Bool,v= .bool b/\Ext K aG/\(b=true->t=y.t)/\(b=false->t≠y.t\/(if t∈(L.take j).map (·.t)then ν else aj)=ν)) ?_ ?_
  .rintro _ aG ⟨b,rfl,bQ,er,es⟩;have aq:=cH.ext bQ;cases b with
   |true=>
    rw[bT];refine(oA aq Ω).mono ?_;rintro _ ch _ ⟨et,eu⟩;refine cG _ ⟨(cI.trans (bQ.ab _)).trans et,?_⟩;rw[if_pos (bO.2 (.inr (er rfl)))];exact eu
   |false=>
    rw[a1];refine cG _ ⟨cI.trans (bQ.ab _),?_⟩;by_cases hm:t∈(L.take j).map (·.t)
    .rw[if_pos (bO.2 (.inl hm))];rw[if_pos hm]at aq;exact aq
    .rw[if_neg hm]at aq;rcases es rfl with aY|cJ
     .rw[if_neg (λh=>(bO.1 h).elim hm aY)];exact aq
     .rw[if_neg hm]at cJ;rw[cJ]at aq ⊢;split<;>exact aq
  .intro fd cK;rw[lC cH];cases a2:(if t∈(L.take j).map (·.t)then ν else aj)with
   |none=>
    rw[R3,a1];exact cK _ _ ⟨false,rfl,Ext.refl _,(λh=>by cases h),λ_=>.inr a2⟩
   |some fe=>
    rw[S3,bT];have ev:=bi.ext aZ;rw[aM ca.p 0 ev rfl,aM ca.p 0 ep rfl];refine(xq (bN.ls.ext aZ) (cF.ls.ext aZ)).mono ?_;rintro _ cj _ ⟨rfl,ew⟩;exact cK _ _ ⟨_,rfl,ew,λh=>of_decide_eq_true h,λh=>.inl (of_decide_eq_false h)⟩
 .rintro J eh ⟨O,aX⟩;rw[o7]at aX;have ey:L.map (·.t)=A.map (·.1):=by rw[<-bJ,R4];rfl
  rw[ey]at aX;have bL:∃c,af E g bA c:=by obtain⟨cq,aR,aT,bad,cr,big,cu,told,sv,G,_⟩:=hZ be;exact⟨_,G⟩
  have an:∀r,r=g->hf E r\/E.heap.size<=r:=λr C=>by
   subst C;obtain⟨c,G⟩:=bL;exact .inl ⟨_,c,G,Φ,Φ⟩
  have cM:∀r,(r=g\/V.heap.size<=r)->hf V r\/V.heap.size<=r:=cp λr C=>C;have bj:ai (λr=>r=g\/V.heap.size<=r) V J:=bf.trans (O.mono λr _ h=>.inl h);have ez:=cw.ab O λhe=>cn he;have eB:=eA bb bj cM;have eC:=eA aJ bj cM;have bh:=xp bg O λr C=>(an r C).imp (λ⟨e,c,G,_,aY⟩=>⟨e,c,G,aY⟩) id;have eD:∀y∈L,∃gy,av .i64 ao J gy y.v y.t:=λy P=>by
   obtain⟨gy,hm⟩:=cA y P;exact⟨gy,eA hm O an⟩
  have bN:=eA cC O an;have bi:=cB.ab O λhe=>bI he;refine ct Ω ?_;rw[aU ca.p rfl];refine bl (g:=ap) (o:=1) ao.i rfl rfl bi Ξ λY aA ff bR=>?_;have bR:af Y ap ca [aL,Δ c]:=bR;have eE:I≠ap:=Ω
  have cN:=ez.ab aA λhe=>eE he;have fg:V.heap.size<=ap:=Ω
  have eF:∀r,leadsTo b4 r->r≠ap:=λr C=>by obtain⟨aR,aT⟩:=aP.choose_spec.1.leads C;omega
  have eH:=bh.ab aA λr C he=>eF r C he;rw[aM a7.p 3 cN rfl,bK ca.p ca.i rfl bR.range];let a:xo:=⟨aL,t,c⟩;have bk:∀{v:x1}{a6:Nat}{l:Λ},av .i64 ao J a6 v l->av .i64 ao Y a6 v l:=λhm=>bt hm aA λr C he=>by
   have he:r=ap:=he;exact cc hm bi Φ C he
  have cO:=bk bN;refine hD (f:=oz) (a:=a) dW.u ca.i Ω rfl rfl λv45 fh ba fi R eI=>?_;have bS:=eH.ext R;refine io (f:=oz) (a:=a) dW.u ca.i rfl bS (by simpa using eI.sl) (xr (cO.ext R)) Ω Ω λbU cP bC bm eJ cQ=>?_;have bV:=cN.ext R;have cS:=bV.ab cQ λhe=>cR bS bV Φ he;rw[aU a7.p rfl];refine bl (g:=I) (o:=3) dW.i (eK bm.sl).1 (eK bm.sl).2 cS Ξ λZ cT fj bW=>?_;have bW:af Z I a7 [aK,szv,Δ o,bU]:=bW;rw[aO];have bX:ai (λr=>leadsTo b4 r\/r=I) ba Z:=(cQ.mono λr _ h=>.inl h).trans (cT.mono λr _ h=>.inr h);have bn:∀{v:x1}{a6:Nat}{l:Λ},av .i64 ao ba a6 v l->av .i64 ao Z a6 v l:=λhm=>bt hm bX λr C U=>by
   rcases U with U|rfl
   .obtain⟨rfl,fk,G⟩:=dS bS U;exact cc hm G Φ C rfl
   .exact cc hm bV Φ C rfl
  have cU:∀r,(leadsTo b4 r\/r=I)->B<=r:=λr C=>C.elim (λC=>bD Q r C) λC=>C▸f7;have eL:bM Y g B H N (if t∈A.map (·.1)then ν else aj):=aX.new aA λr C=>by
   have C:r=ap:=C;omega
  have eM:=(eL.ext R).new bX cU;have eN:ai (gP g B) V Z:=((bj.mono λr _ h=>h.elim .inl λh=>.inr Ω).trans (aA.mono λr _ h=>.inr (by have h:r=ap:=h;omega))).trans ((R.ab _).trans (bX.mono λr _ h=>.inr (cU r h)));have eO:kM Z cP bU (A++[(t,c)]):=⟨L++[a],bm.ab cT λr C he=>by
   have he:r=I:=he;subst he;exact cR bm cS Φ C,λy P=>by
   rcases o5.1 P with P|P
   .obtain⟨gy,hm⟩:=eD y P;exact⟨gy,bn ((bk hm).ext R)⟩
   .rw[l9.1 P];exact⟨gt,bn (cO.ext R)⟩,by rw[Z3,bJ];rfl⟩
  refine hk _ ⟨A++[(t,c)],_,bU,cP,aH.trans eN,bW,bn ((bk eB).ext R),bn ((bk eC).ext R),eO,λ_ r C=>?_,eM,λh=>Ω,λ_=>?_⟩
  .rcases eJ r C with h|h
   .exact bD Q r h
   .have:=aH.size;have:=bj.size;have:=aA.size;have:=R.size;have:=dU.2;omega
  .have eP:n.toNat-i=(n.toNat-(i+1))+1:=Ω
   rw[eP]at he;obtain⟨eQ,eR⟩:=Cr (sizes:=sizes) (acc:=A) (st:=e9) (t:=t) (c:=c) ed ee;cases M:bc 0 ax ((e6 sizes [] (σ e9)).map (·.2))with
   |none=>
    have a2:aj=ν:=by rw[<-cD];show(bc 0 ax _).map _=ν;rw[M];rfl
    rw[pz (eQ M)]at he;refine .inr ⟨?_,he⟩;rw[a2];split<;>rfl
   |some q=>
    have a2:aj=σ q.2:=by rw[<-cD];show(bc 0 ax _).map _=_;rw[M];rfl
    have bu:=eR q M;by_cases hm:t∈A.map (·.1)
    .rw[if_pos hm]at bu;rw[pz bu]at he;exact .inr ⟨by rw[if_pos hm],he⟩
    .rw[if_neg hm]at bu;rw[tj bu]at he;refine .inl ⟨q.2,by rw[if_neg hm,a2],he,?_⟩;cases bY:e6 sizes [] (σ e9)with
     |none=>rw[bY]at M;cases M
     |some p=>
      rw[bY]at M;obtain⟨bp,s1⟩:=p;have aR:iL sizes [] e9=σ (bp,s1):=bY;obtain⟨u,_,_,eS⟩:=wu aR;have aT:bd 0 ax s1=σ q:=M;obtain⟨fm,fo⟩:=q;have eU:=dg aT;have:=eS.1;have:=eU.1;rw[r8];simp only[V6];omega
def j8(s:aE):Prop:=s.big=false->0<=s.told/\s.told<=16384
def ka(neg:Bool)(ar:Nat)(scope sizes:Λ)(e:Option aE):Option (ck×aE):=match bc 0 ax (e.map (a8 (decide (6<ar)||dk sizes)))with
 |none=>ν
 |some (other,f)=>match dA sizes f with
  |none=>ν
  |some (lines,a)=>σ (⟨scope,sizes,other,lines⟩,if neg=true then{a with shared:=a.shared++[(sizes,lines)]}else a)
theorem DN{s s':aE}{l:List (Λ×Int)}(h:dA sizes s=σ (l,s')):s'.toks.length+1<=s.toks.length/\s'.shared=s.shared:=by
 unfold dA at h;cases e:bd (-ax) ax s with
 |none=>rw[e]at h;cases h
 |some q=>
  obtain⟨n,s1⟩:=q;have r:=dg e;have A:=r.1;have w:=r.eqs.2.2;rw[e]at h;simp only at h;split at h
  .split at h
   .cases h
   .split at h
    .cases h;exact⟨Ω,w⟩
    .cases h
  .have h':cL (dQ sizes) n.toNat [] (a8 (decide (16384<min (s1.told+n) ax)) {s1 with told:=min (s1.told+n) ax})=σ (l,s'):=h;have:=iN (f:=dQ sizes) (λ_ t=>t.toks.length<=s1.toks.length/\t.shared=s1.shared) (λacc t a bp x z=>by
    obtain⟨_,_,_,y⟩:=oc z;have h1:=y.1;have p:=y.eqs.2.2;exact⟨by have:=x.1;omega,p.trans x.2⟩) n.toNat [] (a8 (decide (16384<min (s1.told+n) ax)) {s1 with told:=min (s1.told+n) ax}) l s' ⟨o4 _,rfl⟩ h'
   obtain⟨⟨h1,p⟩,_⟩:=this;exact⟨Ω,p.trans w⟩
theorem ue{g:Nat}{H:ak}{s:aE}(h:bM w g B H N (σ s)):s.toks.length<=100000/\s.shared.length+s.toks.length<=100000:=by
 obtain⟨p,w0,q,r,gs,sv,L,x,y,z,bad,A,big,C,told,h1,E,F,G,e,I,J,K,M,O,P,a,Q,f,R⟩:=h;have S:=e.2.2.1;refine⟨by rw[<-a,u9];omega,by rw[<-a,<-f,u9,u9];omega⟩
def DO(w:x3)(g h B:Nat)(H:ak)(e:Option (ck×aE))(v:x1)(w':x3):Prop:=∃f x a,ai (λr=>r=g\/H r\/r=h\/B<=r) w w'/\v= .agg (eY f).toArray/\gO w' f x/\bM w' g w'.heap.size a 100001 (e.map (·.2))/\(∀q,e=σ q->x=q.1)/\(∀r,H r->a r)/\(∀r,a r->H r\/B<=r)/\∀r,a r->r<w'.heap.size
theorem DP{g G ar:Nat}{H:ak}{R:Option aE}{neg:Bool}{dE:Int}{scope:Λ}{Q:x1->x3->Prop}(h:bM w g B H 100000 R)(dF:hg w B G ⟨scope,sizes,0,[]⟩)(fq:∀c,af w G a7 c->c[3]?=σ (.slice ν 0 0))(dG:∀z∈sizes,1<=z/\z<=ax)(fs:sizes.length<=100001)(dH:af w N a7 [.slice ν 0 0,.slice ν 0 0,Δ 0,.slice ν 0 0])(jB:N<B)(cH:¬H N)(cI:∀r,H r->r<B)(ft:∀aq,R=σ aq->j8 aq)(fu:∀v w',DO w g N B H (ka neg ar scope sizes R) v w'->Q v w'):
  ac x7 (u6 a7 (Γ G) 1) w λfv=>
  ac x7 (u5 ay fv) w λdI=>
  ac x7 (V2 #[ay] ah #[dI]) w λfw=>
  b5 (Δ 1) (Δ 0) w λdJ cZ aG fx=>
   ac x7 (aN .lss ah false false cZ fw) aG λfy=>
   Split fy (cz (α:=x1->x3->Prop) (λ(fz:x1)(dL:x3)=>
    ac x7 (aN .add ah false true cZ (Δ 1)) dL λfA=>
    fx fz fA dL) λdM=>
   ac x7 (c9 ay dI cZ) aG λfB=>
   ac x7 (u5 ao fB) aG λdN=>
   cz (α:=x1->x3->Prop) (λ(fD:x1)(cJ:x3)=>
    ac x7 (aN .mul ao false false dJ fD) cJ λdP=>
    ac x7 (aN .gtr ao false true dP (Δ 4096)) cJ λfE=>
    Split fE (dM (Δ 4097) cJ)
     (dM dP cJ)) λdR=>
   ac x7 (aN .gtr ao false true dN (Δ 4096)) aG λfF=>
   Split fF (dR (Δ 4097) aG)
    (dR dN aG))
    (cz (α:=x3->Prop) (λ(bY:x3)=>
   am x7 l2 [(Γ g),(Δ 0),(Δ 4611686018427387904)] bY λdT bD=>
   ac x7 (Y1 dT 0) bD λfG=>
   ac x7 (Y1 dT 1) bD λjC=>
   ac x7 (u6 a7 (Γ G) 2) bD λfH=>
   aD x7 (o9 ao fH fG) bD λ(_:Unit)bh=>
   am x7 l2 [(Γ g),(Δ (-4611686018427387904)),(Δ 4611686018427387904)] bh λdU O=>
   ac x7 (Y1 dU 0) O λbF=>
   ac x7 (Y1 dU 1) O λdV=>
   ac x7 (bP (Γ g)) O λfI=>
   ac x7 (u6 bA fI 3) O λfJ=>
   ac x7 (u5 ah fJ) O λfK=>
   ac x7 (aN .neq ah false true fK (Δ 0)) O λfL=>
   Split fL (ac x7 (u5 a7 (Γ G)) O λbZ=>
    aD x7 (o9 a7 (Γ N) bZ) O λ(_:Unit)bi=>
    ac x7 (do loadVar a7 (<-asAddr (Γ N))) bi λb0=>
 Q b0 bi)
    (cz (α:=x3->Prop) (λ(aX:x3)=>
    ce (Δ 0) aX λdX bp fM=>
     cz (α:=x1->x3->Prop) (λ(fN:x1)(b1:x3)=>
      Split fN (aD x7 (Instr.alloc ca true (.tuple #[])) b1 λx cK=>
     ac x7 (u6 a7 (Γ G) 1) cK λfP=>
     ac x7 (u5 ay fP) cK λdY=>
     ac x7 (V2 #[ay] ah #[dY]) cK λfQ=>
     ce (Δ 0) cK λc0 bG fR=>
      ac x7 (aN .lss ah false false c0 fQ) bG λfS=>
      Split fS (ac x7 (c9 ay dY c0) bG λfU=>
      ac x7 (u5 ao fU) bG λfV=>
      ac x7 (aN .sub ao false true fV (Δ 1)) bG λfW=>
      am x7 l2 [(Γ g),(Δ 0),fW] bG λdZ b2=>
      ac x7 (Y1 dZ 0) b2 λfX=>
      ac x7 (Y1 dZ 1) b2 λjD=>
      ac x7 (u6 ca x 0) b2 λfY=>
      ac x7 (u5 ay fY) b2 λfZ=>
      aD x7 (Y3 ay 1 #[(0,fX)]) b2 λgb gc=>
      aD x7 (Z2 #[ay,ay] ay #[fZ,gb]) gc λgd ec=>
      ac x7 (u6 ca x 0) ec λgf=>
      aD x7 (o9 ay gf gd) ec λ(_:Unit)ed=>
      ac x7 (aN .add ah false true c0 (Δ 1)) ed λgg=>
      fR gg ed)
       (am x7 l2 [(Γ g),(Δ 0),(Δ 4611686018427387904)] bG λee bH=>
     ac x7 (Y1 ee 0) bH λgh=>
     ac x7 (Y1 ee 1) bH λgi=>
     ac x7 (u6 a7 (Γ G) 3) bH λgj=>
     ac x7 (u5 dW gj) bH λef=>
     ac x7 (V2 #[dW] ah #[ef]) bH λgk=>
     ce (Δ 0) bH λc1 bI gl=>
      ac x7 (aN .lss ah false false c1 gk) bI λgm=>
      Split gm (cz (α:=x3->Prop) (λ(eg:x3)=>
       ac x7 (aN .add ah false true c1 (Δ 1)) eg λgn=>
       gl gn eg) λeh=>
      ac x7 (c9 dW ef c1) bI λgp=>
      ac x7 (u5 ca gp) bI λgq=>
      aD x7 (Instr.alloc ca true (.tuple #[])) bI λy gu=>
      aD x7 (o9 ca y gq) gu λ(_:Unit)aH=>
      cz (α:=x1->x3->Prop) (λ(gv:x1)(ei:x3)=>
       Split gv (am x7 nN [(Γ g),(Δ 4),gi] ei λjE gw=>
        eh gw)
        (eh ei)) λej=>
      ac x7 (bP (Γ g)) aH λgx=>
      ac x7 (u6 bA gx 3) aH λgA=>
      ac x7 (u5 ah gA) aH λgB=>
      ac x7 (aN .eql ah false true gB (Δ 0)) aH λgC=>
      Split gC (ac x7 (u6 ca x 0) aH λgD=>
       ac x7 (u5 ay gD) aH λgF=>
      ac x7 (u6 ca y 0) aH λgH=>
      ac x7 (u5 ay gH) aH λgI=>
      am x7 sB [gF,gI] aH λgJ gK=>
      ej gJ gK)
       (ej (.bool false) aH))
       (ac x7 (u6 ca x 1) bI λgL=>
     aD x7 (o9 ao gL gh) bI λ(_:Unit)cM=>
     ac x7 (u6 a7 (Γ G) 3) cM λgM=>
     ac x7 (u5 dW gM) cM λgN=>
     ac x7 (u5 ca x) cM λgQ=>
     aD x7 (Y3 dW 1 #[(0,gQ)]) cM λgR gS=>
     aD x7 (Z2 #[dW,dW] dW #[gN,gR]) gS λgU ek=>
     ac x7 (u6 a7 (Γ G) 3) ek λgV=>
     aD x7 (o9 dW gV gU) ek λ(_:Unit)em=>
     ac x7 (aN .add ao false true dX (Δ 1)) em λgW=>
     fM gW em)))
       (cz (α:=x3->Prop) (λ(ag:x3)=>
     ac x7 (u5 a7 (Γ G)) ag λgX=>
     aD x7 (o9 a7 (Γ N) gX) ag λ(_:Unit)en=>
     ac x7 (do loadVar a7 (<-asAddr (Γ N))) en λgY=>
 Q gY en) λeo=>
    Split (.bool neg) (er b1 λau=>
     ac x7 (bP (Γ g)) au λc2=>
     ac x7 (u6 bA c2 8) au λc3=>
     ac x7 (u5 dz c3) au λep=>
     ac x7 (u5 a7 (Γ G)) au λgZ=>
     aD x7 (Y3 dz 1 #[(0,gZ)]) au λg0 aY=>
     (Ext au aY\/cD x7 (u5 dz c3) ep aY/\cD x7 (u6 bA c2 8) c3 aY/\cD x7 (bP (Γ g)) c2 aY/\True)/\
     aD x7 (Z2 #[dz,dz] dz #[ep,g0]) aY λg2 cN=>
      ac x7 (bP (Γ g)) cN λg3=>
      ac x7 (u6 bA g3 8) cN λg4=>
      aD x7 (o9 dz g4 g2) cN λ(_:Unit)bt=>
      eo bt)
     (eo b1))) λes=>
     ac x7 (aN .lss ao false false dX bF) bp λg5=>
     Split g5 (ac x7 (bP (Γ g)) bp λg6=>
     ac x7 (u6 bA g6 3) bp λg7=>
     ac x7 (u5 ah g7) bp λg8=>
     ac x7 (aN .eql ah false true g8 (Δ 0)) bp λg9=>
     es g9 bp)
      (es (.bool false) bp)) λet=>
   ac x7 (aN .lss ao false true bF (Δ 0)) O λha=>
   Split ha (cz (α:=x1->x3->Prop) (λ(hb:x1)(Y:x3)=>
     Split hb (am x7 nN [(Γ g),(Δ 4),dV] Y λjF c4=>
     ac x7 (u5 a7 (Γ G)) c4 λhc=>
     aD x7 (o9 a7 (Γ N) hc) c4 λ(_:Unit)eu=>
     ac x7 (do loadVar a7 (<-asAddr (Γ N))) eu λhd=>
 Q hd eu)
     (ac x7 (bP (Γ g)) Y λhh=>
    ac x7 (u6 bA hh 8) Y λhj=>
    ac x7 (u5 dz hj) Y λhl=>
    ac x7 (Op.unary .neg bF) Y λhn=>
    ac x7 (aN .sub ao false true hn (Δ 1)) Y λho=>
    ac x7 (c9 dz hl ho) Y λhp=>
    ac x7 (u6 a7 hp 3) Y λhq=>
    ac x7 (u5 dW hq) Y λhr=>
    ac x7 (u6 a7 (Γ G) 3) Y λhs=>
    aD x7 (o9 dW hs hr) Y λ(_:Unit)ev=>
    et ev)) λew=>
    er O λP=>
    ac x7 (Op.unary .neg bF) P λht=>
    ac x7 (bP (Γ g)) P λhy=>
    ac x7 (u6 bA hy 8) P λhz=>
    ac x7 (u5 dz hz) P λhA=>
    ac x7 (V2 #[dz] ah #[hA]) P λhB=>
    ac x7 (aN .gtr ao false false ht hB) P λhC=>
    Split hC (ew (.bool true) P)
    (ac x7 (bP (Γ g)) P λhE=>
    ac x7 (u6 bA hE 8) P λhF=>
    ac x7 (u5 dz hF) P λhG=>
    ac x7 (Op.unary .neg bF) P λhH=>
    ac x7 (aN .sub ao false true hH (Δ 1)) P λhI=>
    ac x7 (c9 dz hG hI) P λhJ=>
    ac x7 (u6 a7 hJ 1) P λhK=>
    ac x7 (u5 ay hK) P λhL=>
    ac x7 (u6 a7 (Γ G) 1) P λhM=>
    ac x7 (u5 ay hM) P λhN=>
    am x7 sB [hL,hN] P λhO c6=>
    ac x7 (Op.unary .not hO) c6 λhP=>
    ew hP c6))
    (ac x7 (bP (Γ g)) O λhQ=>
    ac x7 (u6 bA hQ 7) O λhR=>
    ac x7 (u5 ao hR) O λhS=>
    ac x7 (aN .add ao false false hS bF) O λhT=>
    ac x7 (bP (Γ g)) O λhV=>
    ac x7 (u6 bA hV 7) O λhW=>
    aD x7 (o9 ao hW hT) O λ(_:Unit)aJ=>
    cz (α:=x3->Prop) (λ(aL:x3)=>
     ac x7 (bP (Γ g)) aL λhX=>
     ac x7 (u6 bA hX 7) aL λhY=>
     ac x7 (u5 ao hY) aL λh0=>
     ac x7 (aN .gtr ao false true h0 (Δ 16384)) aL λh2=>
     am x7 sA [(Γ g),h2,dV] aL λjG c8=>
     et c8) λey=>
    ac x7 (bP (Γ g)) aJ λh3=>
    ac x7 (u6 bA h3 7) aJ λh4=>
    ac x7 (u5 ao h4) aJ λh5=>
    ac x7 (aN .gtr ao false true h5 (Δ 4611686018427387904)) aJ λh6=>
    Split h6 (ac x7 (bP (Γ g)) aJ λh7=>
    ac x7 (u6 bA h7 7) aJ λh8=>
    aD x7 (o9 ao h8 (Δ 4611686018427387904)) aJ λ(_:Unit)ez=>
    ey ez)
    (ey aJ)))) λeB=>
  ac x7 (aN .gtr ao false true (Δ (ar:Int)) (Δ 6)) aG λh9=>
  Split h9 (am x7 sA [(Γ g),(.bool true),(Δ dE)] aG λjH ia=>
  eB ia)
   (ac x7 (aN .gtr ao false true dJ (Δ 4096)) aG λib=>
  am x7 sA [(Γ g),ib,(Δ dE)] aG λjI ic=>
  eB ic)):=by
 have ie:=h.lt;have eC:N≠g:=λhe=>by
  obtain⟨az,aa,ad,bad,aA,big,aC,told,sv,E,_⟩:=hZ h;subst he;exact absurd (eb E dH) Φ
 obtain⟨aK,szv,b4,g1,cO,cP,f1,f2,f3,f4,f5,f6,f7⟩:=id dF;have b3:G≠g:=Ω
 have ret:∀{I:x3}{x:ck}{S:ak},hg I B G x->af I N a7 [.slice ν 0 0,.slice ν 0 0,Δ 0,.slice ν 0 0]->ai (λr=>r=g\/H r\/B<=r) w I->bM I g I.heap.size S 100001 ((ka neg ar scope sizes R).map (·.2))->(∀q,ka neg ar scope sizes R=σ q->x=q.1)->¬S N->(∀r,H r->S r)->(∀r,S r->H r\/B<=r)->(∀r,S r->r<I.heap.size)->
   (ac x7 (u5 a7 (Γ G)) I λbZ=>
    aD x7 (o9 a7 (Γ N) bZ) I λ(_:Unit)bi=>
    ac x7 (do loadVar a7 (<-asAddr (Γ N))) bi λb0=>Q b0 bi):=by
  intro I x S da db ig ih J ii dc ij ik;obtain⟨aK,szv,b4,g1,cO,cP,dd,de,df,dh,di,eD,eE⟩:=da;let ae:iZ:=⟨aK,szv,x.other,b4⟩;have b6:gO I ae x:=⟨⟨g1,de⟩,⟨cO,df⟩,rfl,cP,dh⟩;rw[bK a7.p a7.i rfl (show I.rangeAt G 0 (eY ae)from dd.range)];refine cb (vs:=eY ae) a7.i rfl rfl b6.one db λjJ dl il im=>?_;rw[fO a7.p a7.i rfl im.range];have ip:∀r,r=N->hf I r\/I.heap.size<=r:=λr C=>by subst C;exact .inl ⟨_,_,db,Φ,Φ⟩
  refine fu _ _ ⟨ae,x,S,(ig.mono λr _ h=>?_).trans (dl.mono λr _ h=>.inr (.inr (.inl h))),rfl,b6.dK dl ip,ih.dK dl λr C=>.inl ?_,J,dc,ij,λr C=>by rw[il];exact ik r C⟩
  .exact h.elim .inl λh=>h.elim (λh=>.inr (.inl h)) λh=>.inr (.inr (.inr h))
  .have C:r=N:=C;subst C;exact⟨_,_,db,Φ,Φ,Φ,Φ,ii⟩
 have dm:∀{I:x3},ai (gP g B) w I->af I N a7 [.slice ν 0 0,.slice ν 0 0,Δ 0,.slice ν 0 0]:=λaZ=>dH.ab aZ λU=>U.elim eC λh=>Ω
 have dn:∀{I:x3},ai (gP g B) w I->ai (λr=>r=g\/H r\/B<=r) w I:=λaZ=>aZ.mono λr _ h=>h.elim .inl λh=>.inr (.inr h);have eF:∀{I:x3}{eH:Nat}{S:ak}{so:Option aE},bM I g eH S 100000 so->bM I g eH S 100001 so:=λC=>by
  obtain⟨b7,w0,az,bj,gs,sv,L,aF,aa,ad,bad,aA,big,aC,told,h1,iq,ir,it,iu,dp,dq⟩:=C;refine⟨Ω,w0,az,bj,gs,sv,L,aF,aa,ad,bad,aA,big,aC,told,h1,iq,ir,it,iu,dp,?_⟩;rename_i so;cases so with
  |none=>exact⟨dq.1,by have:=dq.2;omega⟩
  |some s=>exact dq
 have eI:∀{I:x3}{x:ck},hg I B G x->ai (gP g B) w I->bM I g B H 100000 ν->ka neg ar scope sizes R=ν->(ac x7 (u5 a7 (Γ G)) I λbZ=>
    aD x7 (o9 a7 (Γ N) bZ) I λ(_:Unit)bi=>
    ac x7 (do loadVar a7 (<-asAddr (Γ N))) bi λb0=>Q b0 bi):=λda aZ C eJ=>
  ret da (dm aZ) (dn aZ) (by rw[eJ];exact eF C.base) (λq W=>by rw[eJ]at W;cases W) cH (λ_ h=>h) (λ_ h=>.inl h) λr C=>by have:=cI r C;have:=aZ.size;omega
 rw[aM a7.p 1 f1 rfl,aW ay.u f3.ls];refine OL f3.ls (λz iv=>(dG z iv).1) λc aZ=>?_;refine c5 (λbY=>ai (λr=>r=g) w bY/\bM bY g B H 100000 (R.map (a8 (decide (6<ar)||dk sizes)))) ?_ ?_
 rotate_left
 .intro aB a2;rw[bN,al];refine⟨λdp=>?_,λdp=>?_⟩
  .refine (nf h).mono ?_;rintro _ V _ a6;refine a2 _ ⟨a6.1,?_⟩;rw[decide_eq_true (show 6<ar by omega),Bool.true_or];exact a6.2
  .rw[bN];refine(nf h).mono ?_;rintro _ V _ a6;refine a2 _ ⟨a6.1,?_⟩;have e:dk sizes=decide (4096<c):=by rw[V9,decide_eq_true_eq];exact aZ.symm
   rw[decide_eq_false (show¬6<ar by omega),Bool.false_or,e];exact a6.2
 rintro bY ⟨iw,ix⟩;refine(kN ix).mono ?_;rintro _ bD _ ⟨⟨iy,iz⟩,o,jK,rfl,iA,jL⟩;rw[bq,br];have bJ:ai (λr=>r=g) w bD:=iw.trans iy;have jM:=dF.dK bJ (kO h);have f123:=f1.ab bJ λhe=>b3 he;rw[aU a7.p rfl];refine bl (g:=G) (o:=2) ao.i rfl rfl f123 Ξ λbh b8 jN bL=>?_;have bL:af bh G a7 [aK,szv,Δ o,b4]:=bL;have dr:∀r,r=g->hf w r\/w.heap.size<=r:=λr C=>(kO h r C).imp (λ⟨e,c,E,ba,bb,_⟩=>⟨e,c,E,ba,bb⟩) id;have bO:∀{I:x3}{c:List x1},af I G a7 c->∀r,r=G->hf I r\/I.heap.size<=r:=λE r C=>by subst C;exact .inl ⟨_,_,E,Φ,Φ⟩
 have f224:=eA (eA f2 bJ dr) b8 (bO f123);have f324:=eA (eA f3 bJ dr) b8 (bO f123);have eL:=(f4.dK bJ dr).dK b8 (bO f123);have bQ:=iz.new b8 λr C=>by have C:r=G:=C;omega
 have eM:ai (gP g B) w bh:=(bJ.mono λr _ h=>.inl h).trans (b8.mono λr _ h=>.inr (by have h:r=G:=h;omega));refine(kN bQ).mono ?_;rintro _ O _ ⟨⟨bk,be⟩,n,jO,rfl,iB,eN⟩;rw[bq,br,rv be];have eO:ai (gP g B) w O:=eM.trans (bk.mono λr _ h=>.inl h);have iC:hg bh B G ⟨scope,sizes,o,[]⟩:=⟨aK,szv,b4,g1,cO,cP,bL,f224,f324,eL,f5,f6,f7⟩;have eP:=iC.dK bk (kO bQ);cases bf:bc (-4611686018427387904) 4611686018427387904 (V7 (λx=>x.snd) (bc 0 4611686018427387904 (R.map (a8 (decide (6<ar)||dk sizes)))))with
 |none=>
  rw[bf]at be;rw[Option.map_none,R3,V0,bT];refine eI eP eO be ?_;unfold ka;cases X:bc 0 ax (R.map (a8 (decide (6<ar)||dk sizes)))with
  |none=>rfl
  |some p=>
   obtain⟨o',M⟩:=p;have iD:bc 0 4611686018427387904 (R.map (a8 (decide (6<ar)||dk sizes)))=σ (o',M):=X;rw[iD]at bf;have e:bd (-ax) ax M=ν:=bf;simp only;unfold dA;rw[e]
 |some q=>
 obtain⟨jP,K⟩:=q;have iE:=iB _ bf;subst iE;rw[bf]at be;have be:bM O g B H 100000 (σ K):=be;rw[Z7,S3,Y7,a1];obtain⟨M,X,ds⟩:∃M,bc 0 ax (R.map (a8 (decide (6<ar)||dk sizes)))=σ (o,M)/\bd (-ax) ax M=σ (n,K):=by
  cases X:bc 0 4611686018427387904 (R.map (a8 (decide (6<ar)||dk sizes)))with
  |none=>rw[X]at bf;cases bf
  |some p=>
   obtain⟨o',M⟩:=p;have:=iA _ X;subst this;rw[X]at bf;exact⟨M,X,bf⟩
 have b9:ka neg ar scope sizes R=match dA sizes M with
   |none=>ν
   |some (lines,K)=>σ (⟨scope,sizes,o,lines⟩,if neg=true then{K with shared:=K.shared++[(sizes,lines)]}else K):=by
  unfold ka;rw[X]
 have iF:=(hU ds).1;have iG: -4611686018427387904<=n/\n<=4611686018427387904:=iF;have eQ:dA sizes M=(if n<0 then match K.shared[(-n-1).toNat]? with
   |none=>ν
   |some (z,l)=>if z=sizes then σ (l,K)else ν
  else cL (dQ sizes) n.toNat [] (a8 (decide (16384<min (K.told+n) ax)) {K with told:=min (K.told+n) ax})):=by
  unfold dA;rw[ds];rfl
 have iH:j8 K:=by
  cases bR:R with
  |none=>rw[bR]at X;cases X
  |some aq=>
   rw[bR]at X;have dt:bd 0 ax (a8 (decide (6<ar)||dk sizes) aq)=σ (o,M):=X;have cQ:=(dg dt).eqs;have cc:=(dg ds).eqs;intro E;rw[cc.2.1,cQ.2.1]at E;rw[cc.1,cQ.1];exact ft aq bR (S7.1 E).1
 refine c5 (λaX=>ai (gP g B) w aX/\∃bu cd cS bm,af aX G a7 [aK,szv,Δ o,bu]/\av .i64 ao aX g1 aK scope/\av .i64 ao aX cO szv sizes/\kM aX cd bu cS/\bM aX g B H 100000 (σ bm)/\(0<n->cS=[]/\∀r,¬leadsTo bu r)/\dA sizes M=(if n<=0 then σ (cS,bm)else cL (dQ sizes) n.toNat [] bm)) ?_ ?_
 .rintro aX ⟨iI,bu,cd,cS,bm,dd,de,df,dh,di,eD,eE⟩;refine OO di dd de df dh f5 f6 f7 dG fs iG.2 eD (ue di).1 λb1 A du iJ eR eS iK cg=>?_;have bS:=iI.trans iJ;have bw:du=(dA sizes M).map (·.2)/\∀q,dA sizes M=σ q->A=q.1:=by
   rw[eE];by_cases dv:n<=0
   .obtain⟨aa,ad⟩:=iK dv;rw[if_pos dv];exact⟨ad,λq W=>by cases W;exact aa⟩
   .rw[if_neg dv];exact cg Ω
  obtain⟨bw,a6⟩:=bw;cases neg with
  |false=>
   refine c5 (λag=>b1=ag) ?_ ?_
   .rintro _ rfl;refine ret eR (dm bS) (dn bS) ?_ ?_ cH (λ_ h=>h) (λ_ h=>.inl h) λr C=>by have:=cI r C;have:=bS.size;omega
    .have:(ka false ar scope sizes R).map (·.2)=du:=by
      rw[b9,bw];cases dA sizes M with
      |none=>rfl
      |some p=>rfl
     rw[this];exact eF eS.base
    .intro q W;rw[b9]at W;cases aj:dA sizes M with
     |none=>rw[aj]at W;cases W
     |some p=>
      rw[aj]at W;have:=a6 p aj;cases W;rw[this]
   .intro aB a2;rw[a1];exact a2 _ rfl
  |true=>
   refine c5 (λag=>∃S,ai (λr=>r=g\/H r\/B<=r) w ag/\hg ag B G ⟨scope,sizes,o,A⟩/\af ag N a7 [.slice ν 0 0,.slice ν 0 0,Δ 0,.slice ν 0 0]/\bM ag g ag.heap.size S 100001 ((ka true ar scope sizes R).map (·.2))/\¬S N/\(∀r,H r->S r)/\(∀r,S r->H r\/B<=r)/\∀r,S r->r<ag.heap.size) ?_ ?_
   .rintro ag ⟨S,iL,iM,a3,a4,a5,iN,iO,iP⟩;refine ret iM a3 iL a4 ?_ a5 iN iO iP;intro q W;rw[b9]at W;cases aj:dA sizes M with
    |none=>rw[aj]at W;cases W
    |some p=>
     rw[aj]at W;have:=a6 p aj;cases W;rw[this]
   .intro aB a2;rw[bT];intro au ch _ _;have iQ:=eS.ext ch;have iR:=eR.ext ch;have iS:=(dm bS).ext ch;obtain⟨b7,w0,az,bj,gs,sv,L,aF,aa,ad,bad,aA,big,aC,told,cT,bx,bz,an,bB,bn,bC⟩:=id iQ;have iT:=bB.g bx bz;obtain⟨⟨iU,eU⟩,aP,ci,cj⟩:=id iT;have iV:∀r,leadsTo sv r->r<B:=λr C=>cI r (bn r C);rw[aQ bA.p 8 an rfl];obtain⟨eV,eW,bu,eX,eZ,cd,e0,e1,e2,e3,iW,iX,iY⟩:=id iR;let ae:iZ:=⟨eV,eW,o,bu⟩;let x:ck:=⟨scope,sizes,o,A⟩;have b6:gO au ae x:=⟨⟨eX,e1⟩,⟨eZ,e2⟩,rfl,cd,e3⟩;rw[bK a7.p a7.i rfl (show au.rangeAt G 0 (eY ae)from e0.range)];refine hD (f:=eY) (a:=ae) dz.u a7.i Ω rfl rfl λjQ jR aY jS Z i0=>?_;refine⟨.inl Z,?_⟩;have jT:L.length<=100000:=by
     cases du with
     |none=>exact bC.2
     |some s=>have:=bC.2.2.2.2.2.2.2.2;omega
    have dw:=aP.ext Z;refine io (f:=eY) (a:=ae) dz.u a7.i rfl dw (by simpa using i0.sl) (b6.ext Z).one Ω Ω λe5 i1 cN cl i2 e6=>?_;have dx:=an.ext Z;have e7:=dx.ab e6 λhe=>cR dw dx Φ he;rw[bV,aU bA.p rfl];refine bl (g:=g) (o:=8) dz.i (eK cl.sl).1 (eK cl.sl).2 e7 (by simp[gE]) λbt dy jU cU=>?_;have cU:af bt g bA (gE az aa ad bad aA big aC told e5):=cU;have aR:ai (λr=>leadsTo sv r\/r=g) aY bt:=(e6.mono λr _ h=>.inl h).trans (dy.mono λr _ h=>.inr h);have cV:∀r,(leadsTo sv r\/r=g)->hf aY r\/aY.heap.size<=r:=λr C=>by
     rcases C with C|rfl
     .obtain⟨rfl,c,E⟩:=dS dw C;exact .inl ⟨_,c,E,Φ,Φ⟩
     .exact .inl ⟨_,_,dx,Φ,Φ⟩
    have e8:∀{ae x},gO au ae x->gO bt ae x:=λhe=>(he.ext Z).dK aR cV;have z50:=ch.size;have jV:=Z.size;have z53:=aR.size;have jW:=bS.size;have jX:=ie.2;refine a2 _ ⟨λr=>H r\/(au.heap.size<=r/\r<bt.heap.size),?_,?_,?_,?_,?_,λr C=>.inl C,λr C=>C.imp id λC=>Ω,λr C=>?_⟩
    .refine (((dn bS).trans (ch.ab _)).trans (Z.ab _)).trans (aR.mono λr _ C=>?_);exact C.elim (λC=>.inr (.inl (bn r C))) .inl
    .have i3:=e0.ext Z;refine⟨eV,eW,bu,eX,eZ,cd,i3.ab aR λC=>?_,eA (e1.ext Z) aR cV,eA (e2.ext Z) aR cV,(e3.dK (Z.ab λ_=>False) λ_ h=>h.elim).dK aR cV,iW,iX,iY⟩;rcases C with C|C
     .have:=iV _ C;omega
     .exact b3 C
    .exact (iS.ext Z).ab aR λC=>C.elim (λC=>cH (bn _ C)) eC
    .refine⟨Ω,bt,az,bj,i1,e5,L++[ae],aF++[x],aa,ad,bad,aA,big,aC,told,rfl,ai.refl _ _,⟨_,cU⟩,cU,⟨⟨?_,λr C=>?_⟩,cl.ab dy λr C he=>?_,by rw[r8,r8,ci];rfl,λi i4 i5 hi cm=>?_⟩,λr C=>?_,?_⟩
     .refine (iU.ab (Z.ab λ_=>False) λ_ _ h=>h).ab aR λr C U=>?_;obtain⟨c,E⟩:=eU r C;rcases U with U|rfl
      .obtain⟨rfl,i6,dC⟩:=dS aP U;exact absurd (eb E dC) Φ
      .exact absurd (eb E an) Φ
     .obtain⟨c,E⟩:=eU r C;refine⟨c,(E.ext Z).ab aR λU=>?_⟩;rcases U with U|rfl
      .obtain⟨rfl,i6,dC⟩:=dS aP U;exact absurd (eb E dC) Φ
      .exact absurd (eb E an) Φ
     .have he:r=g:=he;subst he;exact cR cl e7 Φ C
     .by_cases i7:i<L.length
      .rw[Y9 i7]at hi;rw[Y9 Ω]at cm;exact e8 (cj i i4 i5 hi cm)
      .rw[X0 Ω]at hi;rw[X0 Ω]at cm;have i8:i-L.length=0:=by have:=(x4.1 hi).1;simp at this;omega
       have dc:i-aF.length=0:=Ω
       rw[i8]at hi;rw[dc]at cm;cases hi;cases cm;exact e8 b6
     .rcases i2 r C with h|h
      .exact .inl (bn r h)
      .have:=(cl.leads C);have:=dy.size;exact .inr ⟨Ω,Ω⟩
     .rw[b9];cases aj:dA sizes M with
      |none=>
       rw[aj]at bw;rw[bw]at bC;exact⟨bC.1,by rw[r8];simp;have:=bC.2;omega⟩
      |some p=>
       obtain⟨lines,bm⟩:=p;rw[aj]at bw;rw[bw]at bC;have i9:=a6 _ aj;obtain⟨cn,cp,cq,cr,ct,bU,cu,aT,cW⟩:=id bC;have e9:=DN aj;refine⟨cn,cp,cq,cr,ct,bU,cu,?_,?_⟩
       .show (aF++[x]).map _=bm.shared++[(sizes,lines)];rw[Z3,aT];simp only[x,T1,List.map_nil];rw[i9]
       .have jY:M.shared.length+M.toks.length<=100000:=by
         cases bR:R with
         |none=>rw[bR]at X;cases X
         |some aq=>
          rw[bR]at X h;have dt:bd 0 ax (a8 (decide (6<ar)||dk sizes) aq)=σ (o,M):=X;have t9:=dg dt;have cQ:=t9.1;have cc:=t9.eqs.2.2;have t3:=(ue h).2;have fa:(a8 (decide (6<ar)||dk sizes) aq).toks=aq.toks:=rfl;have fb:(a8 (decide (6<ar)||dk sizes) aq).shared=aq.shared:=rfl;rw[fa]at cQ;rw[fb]at cc;rw[cc];omega
        have fc:L.length=bm.shared.length:=by rw[<-aT,u9,ci]
        have ja:bj.length=bm.toks.length:=by rw[<-bU,u9]
        rw[e9.2]at fc;rw[r8,fc,ja];simp only[V6];have:=e9.1;omega
    .rintro (C|C)
     .exact cH C
     .omega
    .rcases C with C|C
     .have:=cI r C;omega
     .exact C.2
 .intro aB a2;rw[aS,al];refine⟨λjb=>?_,λjc=>?_⟩
  .
   refine aV (λv Y=>Ext O Y/\∃b:Bool,v= .bool b/\(b=true->dA sizes M=ν)/\(b=false->∃lines,dA sizes M=σ (lines,K)/\K.shared[(-n-1).toNat]?=σ (sizes,lines))) ?_ ?_
   .rintro _ Y ⟨bW,b,rfl,jd,je⟩;have cX:=be.ext bW;have jf:=eP.ext bW;have fd:=eO.trans (bW.ab _);cases b with
    |true=>
     rw[bT];refine(oA cX Ω).mono ?_;rintro _ c4 _ ⟨fe,jg⟩;exact eI (jf.dK fe (kO cX)) (fd.trans (fe.mono λr _ h=>.inl h)) jg (by rw[b9,jd rfl])
    |false=>
     rw[a1];obtain⟨lines,jh,bX⟩:=je rfl;obtain⟨b7,w0,az,bj,gs,sv,L,aF,aa,ad,bad,aA,big,aC,told,cT,bx,bz,an,bB,bn,cn,cp,cq,cr,ct,bU,cu,aT,cW⟩:=id cX;obtain⟨_,aP,ci,cj⟩:=bB.g bx bz;have cw:(-n-1).toNat<L.length:=by
      have h1:=(x4.1 bX).1;rw[<-aT,u9]at h1;omega
     obtain⟨hk,cA⟩:∃h,L[(-n-1).toNat]?=σ h:=⟨_,x6 cw⟩;obtain⟨bg,cB⟩:=aI (l:=aF) (i:=(-n-1).toNat) Ω;obtain⟨_,_,_,ji,ap⟩:=cj _ hk bg cA cB;have jj:bg.lines=lines:=by
      rw[<-aT,x8,cB]at bX;have:=Z0 bX;exact(Q3.inj this).2
     rw[aQ bA.p 8 an rfl,l7,wrap_i64 Ω Ω,dO,wrap_i64 Ω Ω,dj (i:=(-n-1).toNat) Ω dz.u a7.i aP cw,aU a7.p rfl,aw Ψ (aP.range cA 3 _ rfl)];obtain⟨jZ,ff,j1,j2⟩:=id ap;have cY:af Y G a7 [aK,szv,Δ o,b4]:=(bL.ab bk λhe=>b3 he).ext bW;have jk:=(eA f224 bk λr C=>(kO bQ r C).imp (λ⟨e,c,E,ba,bb,_⟩=>⟨e,c,E,ba,bb⟩) id).ext bW;have jl:=(eA f324 bk λr C=>(kO bQ r C).imp (λ⟨e,c,E,ba,bb,_⟩=>⟨e,c,E,ba,bb⟩) id).ext bW;rw[aU a7.p rfl];refine bl (g:=G) (o:=3) dW.i (eK ff.sl).1 (eK ff.sl).2 cY Ξ λev cC j3 jm=>?_;refine a2 _ ⟨fd.trans (cC.mono λr _ h=>.inr (by have h:r=G:=h;omega)),hk.b4,ji,lines,K,jm,eA jk cC (bO cY),eA jl cC (bO cY),?_,cX.new cC λr C=>by have C:r=G:=C;omega,λh=>Ω,by rw[jh,if_pos Ω]⟩;rw[<-jj];exact ap.dK cC (bO cY)
   .intro j4 fg;intro P cE _ _;have jn:=be.ext cE;obtain⟨b7,w0,az,bj,gs,sv,L,aF,aa,ad,bad,aA,big,aC,told,cT,bx,bz,an,bB,bn,cn,cp,cq,cr,ct,bU,cu,aT,cW⟩:=id jn;obtain⟨_,aP,ci,cj⟩:=bB.g bx bz;have j5:K.shared.length=L.length:=by rw[<-aT,u9,ci]
    have ap:=eQ;rw[if_pos jb]at ap;rw[l7,wrap_i64 Ω Ω,aQ bA.p 8 an rfl,ea dz.u aP,bN,al];refine⟨λcg=>fg _ _ ⟨cE,true,rfl,λ_=>?_,λh=>by cases h⟩,λcg=>?_⟩
    .rw[ap,Z4 Ω]
    have cw:(-n-1).toNat<L.length:=Ω
    obtain⟨hk,cA⟩:∃h,L[(-n-1).toNat]?=σ h:=⟨_,x6 cw⟩;obtain⟨bg,cB⟩:=aI (l:=aF) (i:=(-n-1).toNat) Ω;obtain⟨_,⟨gz,jo⟩,_,_⟩:=cj _ hk bg cA cB;have bX:K.shared[(-n-1).toNat]?=σ (bg.sizes,bg.lines):=by rw[<-aT,x8,cB];rfl
    rw[bX]at ap;simp only at ap;rw[aQ bA.p 8 an rfl,l7,wrap_i64 Ω Ω,dO,wrap_i64 Ω Ω,dj (i:=(-n-1).toNat) Ω dz.u a7.i aP cw,aU a7.p rfl,aw Ψ (aP.range cA 1 _ rfl)];have jp:af P G a7 [aK,szv,Δ o,b4]:=(bL.ab bk λhe=>b3 he).ext cE;have jq:=(eA f324 bk λr C=>(kO bQ r C).imp (λ⟨e,c,E,ba,bb,_⟩=>⟨e,c,E,ba,bb⟩) id).ext cE;rw[aM a7.p 1 jp rfl];refine(xq jo.ls jq.ls).mono ?_;rintro _ c6 _ ⟨rfl,jr⟩;rw[bE];refine fg _ _ ⟨cE.trans jr,_,rfl,λE=>?_,λE=>?_⟩
    .have js:bg.sizes≠sizes:=by simpa using E
     rw[ap,if_neg js]
    .have fh:bg.sizes=sizes:=by simpa using E
     exact⟨bg.lines,by rw[ap,if_pos fh],by rw[bX,fh]⟩
  .
   have ap:=eQ;rw[if_neg jc]at ap;obtain⟨b7,w0,az,bj,gs,sv,L,aF,aa,ad,bad,aA,big,aC,told,cT,bx,bz,an,bB,bn,cn,cp,cq,cr,ct,bU,cu,aT,cW⟩:=id be;rw[aQ bA.p 7 an rfl,aO];generalize jt:X9.wrap (told+n)=bo;have fi:K.big=false->bo=K.told+n/\0<=bo:=λE=>by
    obtain⟨fa,fb⟩:=iH E;have ju:=cr E;rw[<-jt,ju,wrap_i64 Ω Ω];exact⟨rfl,Ω⟩
   rw[bV,aU bA.p rfl];refine bl (g:=g) (o:=7) ao.i rfl rfl an (by simp[gE]) λaJ fj j6 cF=>?_;have cF:af aJ g bA (gE az aa ad bad aA big aC bo sv):=cF;refine c5 (λaL=>ai (λr=>r=g) O aL/\af aL g bA (gE az aa ad bad aA big aC (min bo ax) sv)) ?_ ?_
   rotate_left
   .intro j7 fk;rw[aQ bA.p 7 cF rfl,bN,al];refine⟨λcg=>?_,λcg=>fk _ ⟨fj,?_⟩⟩
    .rw[bV,aU bA.p rfl];refine bl (g:=g) (o:=7) ao.i rfl rfl cF (by simp[gE]) λez jv j9 jw=>?_;refine fk _ ⟨fj.trans jv,?_⟩;have e:min bo ax=4611686018427387904:=by unfold ax;omega
     rw[e];exact jw
    .have e:min bo ax=bo:=by unfold ax;omega
     rw[e];exact cF
   rintro aL ⟨fm,fo⟩;have jx:bM aL g B H 100000 (σ {K with told:=min (K.told+n) ax}):=⟨b7,w0,az,bj,gs,sv,L,aF,aa,ad,bad,aA,big,aC,_,cT,bx.trans fm,bz,fo,bB,bn,cn,cp,cq,λE=>by
    have E:K.big=false:=E;rw[(fi E).1],ct,bU,cu,aT,cW⟩
   rw[aQ bA.p 7 fo rfl,bN];refine(nf jx).mono ?_;rintro _ c8 _ ⟨jy,fp⟩;have jz:(σ {K with told:=min (K.told+n) ax}).map (a8 (decide (16384<min bo ax)))=σ (a8 (decide (16384<min (K.told+n) ax)) {K with told:=min (K.told+n) ax}):=by
    show σ (a8 _ _)=_;congr 1;unfold a8;cases E:K.big with
    |true=>simp
    |false=>rw[(fi E).1]
   rw[jz]at fp;have cG:ai (λr=>r=g) bh c8:=(bk.trans fm).trans jy;have dD:∀r,r=g->hf bh r\/bh.heap.size<=r:=λr C=>(kO bQ r C).imp (λ⟨e,c,E,ba,bb,_⟩=>⟨e,c,E,ba,bb⟩) id;have jA:b4= .slice ν 0 0:=by
    have:=fq _ f1;simpa using this
   refine a2 _ ⟨eM.trans (cG.mono λr _ h=>.inl h),b4,cP,[],_,bL.ab cG λhe=>b3 he,eA f224 cG dD,eA f324 cG dD,eL.dK cG dD,fp,λ_=>⟨rfl,λr C=>by rw[jA]at C;exact e4 C⟩,?_⟩;rw[ap];by_cases eN:n<=0
   .have:n=0:=Ω
    subst this;rw[if_pos (Int.le_refl _)];rfl
   .rw[if_neg eN]
theorem DQ{s:aE}:c0 all s=match bd (-ax) ax s with
  |none=>ν
  |some (a,s1)=>match eR all.length a.natAbs s1 with
   |none=>ν
   |some (scope,e)=>ka (decide (a<0)) a.natAbs scope (scope.map λv=>all.getD v.toNat 0) (σ e):=by
 unfold c0;cases bd (-ax) ax s with
 |none=>rfl
 |some q=>
  obtain⟨a,s1⟩:=q;simp only;cases eR all.length a.natAbs s1 with
  |none=>rfl
  |some p=>
   obtain⟨scope,e⟩:=p;simp only;unfold ka;show _=match bd 0 ax (a8 (decide (6<a.natAbs)||dk (scope.map λv=>all.getD v.toNat 0)) e)with
    |none=>ν
    |some (other,f)=>_
   cases bd 0 ax (a8 (decide (6<a.natAbs)||dk (scope.map λv=>all.getD v.toNat 0)) e)with
   |none=>rfl
   |some r=>
    obtain⟨o,f⟩:=r;simp only;cases dA (scope.map λv=>all.getD v.toNat 0) f with
    |none=>rfl
    |some w=>
     obtain⟨ls,x⟩:=w;by_cases h:a<0
     .simp[h]
     .simp[h]
def xt(w:x3)(g:Nat)(H:ak)(e:Option (ck×aE))(v:x1)(w':x3):Prop:=∃f x a,ai (λr=>r=g\/H r) w w'/\v= .agg (eY f).toArray/\gO w' f x/\bM w' g w'.heap.size a 100001 (e.map (·.2))/\(∀q,e=σ q->x=q.1)/\(∀r,H r->a r)/\(∀r,a r->H r\/w.heap.size<=r)/\∀r,a r->r<w'.heap.size
theorem DR{k:Nat}{s s':aE}(h:eR n k s=σ (l,s')):s'.toks.length+l.length<=s.toks.length/\s'.told=s.told/\s'.big=s.big/\s'.shared=s.shared/\∀v∈l,0<=v/\v<n:=by
 have:=iN (f:=kF n) (λ(acc:Λ)t=>t.toks.length+acc.length<=s.toks.length/\t.told=s.told/\t.big=s.big/\t.shared=s.shared/\∀v∈acc,0<=v/\v<n) (λacc t a bp p e=>by
  unfold kF at e;cases w:bd 0 (n-1) t with
  |none=>rw[w]at e;cases e
  |some q=>
   obtain⟨v,C⟩:=q;rw[w]at e;simp only at e;split at e
   .cases e
   .cases e;have x:=dg w;have E:=(hU w).1;obtain⟨z,A,B⟩:=x.eqs;have t0:=x.1;refine⟨by have:=p.1;rw[r8];simp only[V6];omega,z.trans p.2.1,A.trans p.2.2.1,B.trans p.2.2.2.1,λy r=>?_⟩;rcases o5.1 r with r|r
    .exact p.2.2.2.2 y r
    .rw[l9.1 r];omega) k [] s l s' ⟨Ξ,rfl,rfl,rfl,λv ad=>by cases ad⟩ h
 exact this.1
theorem OP{g B0:Nat}{H:ak}{s:aE}{O:x1}(h:bM w g B0 H 100000 (σ s))(ae:av .i64 ao w gz O all)(ag:∀z∈all,1<=z/\z<=ax)(aT:all.length<=100001)(P:∀r,H r->r<w.heap.size)(bl:j8 s):
  am x7 zL [Γ g,O] w (xt w g H (c0 all s)):=by
 have bX:=h.lt;refine az func118 ?_;refine bo a7.i λI V bY Q R=>?_;have R:af V I a7 [.slice ν 0 0,.slice ν 0 0,Δ 0,.slice ν 0 0]:=R;refine bo a7.i λK aa bZ S W=>?_;have W:af aa K a7 [.slice ν 0 0,.slice ν 0 0,Δ 0,.slice ν 0 0]:=W;have h1:=(h.ext Q).base;have ah:=h1.ext S;have b0:=Q.size;have aU:=R.lt;have b1:=W.lt;refine(kN ah).mono ?_;rintro _ G _ ⟨⟨X,A⟩,a,b2,rfl,aj,an⟩;rw[bq,br,aS];have bm:K≠g:=Ω
 have ap:I≠g:=Ω
 have aq:=W.ab X λhe=>bm he;have au:=(R.ext S).ab X λhe=>ap he;have aW:av .i64 ao G gz O all:=bt ((ae.ext Q).ext S) X λr e he=>by
  have he:r=g:=he;obtain⟨aX,C,J,bad,aY,big,aZ,told,sv,Y,_⟩:=hZ h;subst he;exact cc ae Y Φ e rfl
 have a1:∀r,leads O r->r<V.heap.size:=λr e=>by obtain⟨C,J⟩:=bQ ae e;omega
 have aw:hg G V.heap.size K ⟨[],[],0,[]⟩:=⟨_,_,_,0,0,0,aq,av.nil _ _ _ _,av.nil _ _ _ _,⟨[],bi.nil _ _ _ _ _,λy bn=>(by cases bn),rfl⟩,(λr e=>by rcases e with⟨a,n,c,C,J⟩|⟨a,n,c,C,J⟩<;>cases C),(λr e=>by obtain⟨a,n,c,C,J⟩:=e;cases C),Ω⟩;have ay:∀c,af G K a7 c->c[3]?=σ (.slice ν 0 0):=λc aC=>by
  unfold af at aC aq;rw[aq]at aC;have:=Array.toList_inj.2 (Obj.cells.inj (Z0 aC)).1;simp at this;rw[<-this];rfl
 have a2:ai (λr=>r=g) V G:=(S.ab _).trans X;have b3:V.heap.size<=G.heap.size:=a2.size;have aF:∀{f:x3}{aG:Option (ck×aE)}{v:x1}{w':x3},ai (gP g V.heap.size) G f->aG=c0 all s->DO f g I V.heap.size H aG v w'->xt w g H (c0 all s) v w':=by
  rintro f aG v w' E rfl ⟨N,x,bp,aH,aI,aJ,aL,a6,a8,ba,bu⟩;refine⟨N,x,bp,?_,aI,aJ,aL,a6,a8,λr e=>(ba r e).imp id λh=>Ω,bu⟩;refine hz (hz ((Q.ab _).trans (a2.mono λr _ h=>.inl h)) E λr e he=>?_) aH λr e he=>?_
  .exact he.elim .inl λhe=>Ω
  .rcases he with he|he|he|he
   .exact .inl he
   .exact .inr he
   .omega
   .omega
 have bw:∀{f:x3}{x:ck},ai (gP g V.heap.size) G f->c0 all s=ν->bM f g V.heap.size H 100000 ν->hg f V.heap.size K x->
   (ac x7 (u5 a7 (Γ K)) f λbx=>
    aD x7 (o9 a7 (Γ I) bx) f λ(_:Unit)bb=>
    ac x7 (do loadVar a7 (<-asAddr (Γ I))) bb λbz=>xt w g H (c0 all s) bz bb):=by
  intro f x E be aM bA;obtain⟨aK,szv,b4,g1,bB,bC,aH,aI,aJ,aL,a6,a8,ba⟩:=bA;let N:iZ:=⟨aK,szv,x.other,b4⟩;have bf:gO f N x:=⟨⟨g1,aI⟩,⟨bB,aJ⟩,rfl,bC,aL⟩;have aN:=au.ab E λU=>U.elim ap λh=>Ω
  rw[bK a7.p a7.i rfl (show f.rangeAt K 0 (eY N)from aH.range)];refine cb (vs:=eY N) a7.i rfl rfl bf.one aN λb5 aO b6 bD=>?_;rw[fO a7.p a7.i rfl bD.range];have bE:∀r,r=I->hf f r\/f.heap.size<=r:=λr e=>by subst e;exact .inl ⟨_,_,aN,Φ,Φ⟩
  have b7:=E.size;refine aF E rfl ⟨N,x,H,aO.mono λr _ h=>.inr (.inr (.inl h)),rfl,bf.dK aO bE,?_,(λq B=>by rw[be]at B;cases B),λ_ h=>h,λ_ h=>.inl h,λr e=>by have:=P r e;omega⟩;rw[be];have bF:bM f g V.heap.size H 100001 ν:=by
   obtain⟨b8,w0,aX,bG,gs,sv,L,bH,C,J,bad,aY,big,aZ,told,h1,ah,A,bI,bJ,aP,bg⟩:=aM;exact⟨Ω,w0,aX,bG,gs,sv,L,bH,C,J,bad,aY,big,aZ,told,h1,ah,A,bI,bJ,aP,bg.1,by have:=bg.2;omega⟩
  refine bF.dK aO λr e=>.inl ?_;have e:r=I:=e;subst e;exact⟨_,_,aN,Φ,Φ,Φ,Φ,λaA=>by have:=P _ aA;omega⟩
 have M:=DQ (all:=all) (s:=s);have bL:bc (-4611686018427387904) 4611686018427387904 (σ s)=bd (-ax) ax s:=rfl;rw[bL]at A aj an;have b9: -4611686018427387904<=a/\a<=4611686018427387904:=by
  cases B:bd (-ax) ax s with
  |none=>have:=an B;omega
  |some q=>have:=aj q B;rw[this];exact(hU (n:=q.1) (s':=q.2) B).1
 refine aV (λv bN=>G=bN/\v=Δ (a.natAbs:Int)) ?_ ?_
 rotate_left
 .intro aB bh;rw[al];refine⟨λca=>?_,λcd=>bh _ _ ⟨rfl,by congr 1;omega⟩⟩;rw[l7,wrap_i64 Ω Ω];exact bh _ _ ⟨rfl,by congr 1;omega⟩
 rintro _ _ ⟨rfl,rfl⟩;have bj:∀r,H r->r<V.heap.size:=λr e=>by have:=P r e;omega
 have bk:¬H I:=λaA=>by have:=P _ aA;omega
 have bO:∀{scope:Λ},(∀v∈scope,0<=v/\v<(all.length:Int))->∀z∈scope.map (λv=>all.getD v.toNat 0),1<=z/\z<=ax:=λad z bP=>by
  obtain⟨v,bR,rfl⟩:=j5.1 bP;have:=ad v bR;refine ag _ ?_;rw[u4,x6 Ω];exact T2 _
 cases B:bd (-ax) ax s with
 |none=>
  rw[B]at A M;have bS:=an B;subst bS;refine DM (s:=s) (ar:=(0:Int).natAbs) A (.inr ⟨rfl,rfl⟩) aw ay aW a1 aT Φ (λh=>by cases h) ?_ ?_ ?_
  .intro h;cases h
  .intro _;exact DP (neg:=decide ((0:Int)<0)) A aw ay (λz ag=>by cases ag) Ξ au aU bk bj (λbT U=>by cases U) λv w' aQ=>aF (ai.refl _ _) (by rw[M];rfl) aQ
  .intro h;cases h
 |some q=>
  obtain⟨a',s1⟩:=q;rw[B]at A M;have:=aj _ B;subst this;simp only at M;have A:bM G g V.heap.size H 100000 (σ s1):=A;have bU:=dg B;refine DM (s:=s1) (ar:=a.natAbs) A (.inl rfl) aw ay aW a1 aT Ω (λ_=>(ue A).1) ?_ ?_ ?_
  .intro _ f x E Z aM aR;exact bw E (by rw[M,Z]) aM aR
  .intro h;cases h
  .intro _ f scope s' E Z aP aR bV;obtain⟨ce,bW,t3,t4,t5⟩:=DR Z;rw[Z]at M;obtain⟨C,J,cg⟩:=bU.eqs;refine DP (neg:=decide (a<0)) aP aR bV (bO t5) ?_ (au.ab E λU=>U.elim ap λh=>Ω) aU bk bj (λbT U=>?_) λv w' aQ=>aF E M.symm aQ
   .rw[u9];have:=(ue A).1;omega
   .cases U;intro Y;rw[t3,J]at Y;rw[bW,C];exact bl Y
theorem OQ{s s':aE}{l:List (Λ×Int)}(h:dA sizes s=σ (l,s'))(w:j8 s):j8 s':=by
 unfold dA at h;cases p:bd (-ax) ax s with
 |none=>rw[p]at h;cases h
 |some q=>
  obtain⟨n,s1⟩:=q;obtain⟨x,y,t3⟩:=(dg p).eqs;have r:j8 s1:=λe=>by rw[x];exact w (by rw[<-y];exact e)
  rw[p]at h;simp only at h;split at h
  .split at h
   .cases h
   .split at h
    .cases h;exact r
    .cases h
  .rename_i H;have h':cL (dQ sizes) n.toNat [] (a8 (decide (16384<min (s1.told+n) ax)) {s1 with told:=min (s1.told+n) ax})=σ (l,s'):=h;have:=iN (f:=dQ sizes) (λ_ t=>j8 t) (λacc t a bp z A=>by
    obtain⟨_,_,_,B⟩:=oc A;obtain⟨C,E,I⟩:=B.eqs;intro e;rw[C];exact z (by rw[<-E];exact e)) n.toNat [] (a8 (decide (16384<min (s1.told+n) ax)) {s1 with told:=min (s1.told+n) ax}) l s' (λe=>by
     obtain⟨F,G⟩:=S7.1 e;have J:=r F;have K:=of_decide_eq_false G;show 0<=min (s1.told+n) ax/\min (s1.told+n) ax<=16384;unfold ax at*;omega) h'
   exact this.1
theorem OR{s s':aE}{x:ck}(h:c0 all s=σ (x,s')):s'.toks.length+1<=s.toks.length/\(j8 s->j8 s'):=by
 rw[DQ]at h;cases w:bd (-ax) ax s with
 |none=>rw[w]at h;cases h
 |some q=>
  obtain⟨a,s1⟩:=q;rw[w]at h;simp only at h;have B:=dg w;cases U:eR all.length a.natAbs s1 with
  |none=>rw[U]at h;cases h
  |some p=>
   obtain⟨scope,f⟩:=p;rw[U]at h;simp only at h;obtain⟨T,G,t3,_⟩:=DR U;unfold ka at h;have e:bc 0 ax ((σ f).map (a8 (decide (6<a.natAbs)||dk (scope.map λv=>all.getD v.toNat 0))))=bd 0 ax (a8 (decide (6<a.natAbs)||dk (scope.map λv=>all.getD v.toNat 0)) f):=rfl;rw[e]at h;cases y:bd 0 ax (a8 (decide (6<a.natAbs)||dk (scope.map λv=>all.getD v.toNat 0)) f)with
   |none=>rw[y]at h;cases h
   |some H=>
    obtain⟨o,C⟩:=H;rw[y]at h;simp only at h;have E:=dg y;cases r:dA (scope.map λv=>all.getD v.toNat 0) C with
    |none=>rw[r]at h;cases h
    |some I=>
     obtain⟨ls,z⟩:=I;rw[r]at h;simp only[Y2,T5]at h;obtain⟨_,J⟩:=h;have V:=DN r;have K:(a8 (decide (6<a.natAbs)||dk (scope.map λv=>all.getD v.toNat 0)) f).toks=f.toks:=rfl;have L:=E.1;rw[K]at L;have W:=B.1;obtain⟨M,N,_⟩:=B.eqs;obtain⟨f1,f2,_⟩:=E.eqs;have A:s'.toks=z.toks/\s'.told=z.told/\s'.big=z.big:=by
      rw[<-J];split<;>exact⟨rfl,rfl,rfl⟩
     refine⟨by rw[A.1];omega,λO=>?_⟩;have P:j8 C:=λF=>by
      rw[f2]at F;rw[f1];have Q:f.big=false:=(S7.1 F).1;show 0<=f.told/\f.told<=16384;rw[G,M];exact O (by rw[<-N,<-t3];exact Q)
     have R:=OQ r P;intro S;rw[A.2.1];exact R (by rw[<-A.2.2];exact S)
theorem bM.shrink{g:Nat}{H:ak}{so:Option aE}(h:bM w g B H N so):∃a,bM w g B a N so/\(∀r,a r->H r)/\∀r,a r->∃c,af w r a7 c:=by
 obtain⟨x,w0,y,z,gs,sv,L,A,C,E,bad,F,big,G,told,h1,f,p,I,q,J,K⟩:=h;refine⟨λr=>leadsTo sv r,⟨x,w0,y,z,gs,sv,L,A,C,E,bad,F,big,G,told,h1,f,p,I,q,λr e=>e,K⟩,J,λr e=>?_⟩;obtain⟨rfl,c,s⟩:=dS q.2.1 e;refine⟨c,s.ab f λhe=>?_⟩;obtain⟨O,M⟩:=p;subst he;exact absurd (eb s M) Φ
theorem bM.low{g:Nat}{H:ak}{s:aE}(h:bM w g B H N (σ s)):bM w g B H 100000 (σ s):=by
 obtain⟨G,w0,a,e,gs,sv,L,f,p,q,bad,r,big,x,told,h1,y,z,A,C,E,F⟩:=h;exact⟨o4 _,w0,a,e,gs,sv,L,f,p,q,bad,r,big,x,told,h1,y,z,A,C,E,F⟩
theorem bM.up{g M:Nat}{H:ak}{so:Option aE}(h:bM w g B H N so)(G:N<=M):bM w g B H M so:=by
 obtain⟨I,w0,e,f,gs,sv,L,p,q,r,bad,x,big,y,told,h1,z,A,C,E,F,a⟩:=h;refine⟨Ω,w0,e,f,gs,sv,L,p,q,r,bad,x,big,y,told,h1,z,A,C,E,F,?_⟩;cases so with
 |none=>exact⟨a.1,by have:=a.2;omega⟩
 |some s=>exact a
def lD{α:Type}(f:List α->aE->Option (α×aE))(cnt i:Nat)(a:Option aE)(A:List α)(so:Option aE):Prop:=a.bind (cL f cnt [])=(match so with
 |none=>ν
 |some s=>cL f (cnt-i) A s)
theorem lD.step{α:Type}{f:List α->aE->Option (α×aE)}{cnt i:Nat}{p:Option aE}{A:List α}{s:aE}{a:α}{r:Option aE}(h:lD f cnt i p A (σ s))(hi:i<cnt)(h1:r=(f A s).map (·.2))(w:∀q,f A s=σ q->a=q.1):lD f cnt (i+1) p (A++[a]) r:=by
 unfold lD at*;rw[h,show cnt-i=(cnt-(i+1))+1 by omega];simp only;cases e:f A s with
 |none=>rw[pz e,h1,e];rfl
 |some q=>
  obtain⟨a',s'⟩:=q;have:=w _ e;subst this;rw[tj e,h1,e];rfl
theorem OS{s0:aE}{t acc:Λ}{most r:Int}{G:List ck}{y z A B H so6 e:Option aE}(h1:y=((dI s0).map (·.2)).map (a8 (decide (64<t.length))))(Q:∀q,dI s0=σ q->t=q.1)(w:z=((bc 1 ax y).map (·.2)).map (a8 (decide (64<n))))(N:∀q,bc 1 ax y=σ q->n=q.1)(h:A=(bc 1 ax z).map (·.2))(hm:∀q,bc 1 ax z=σ q->most=q.1)(f:B=((bc 0 ax A).map (·.2)).map (a8 (decide (256<r))))(O:∀q,bc 0 ax A=σ q->r=q.1)(a:H=((bc 1 ax B).map (·.2)).map (a8 (decide (2147483648<k))))(hk:∀q,bc 1 ax B=σ q->k=q.1)(x:H.bind (cL (fe most) n.toNat [])=so6.map λs=>(acc,s))(p:so6.bind (cL (λ_ s=>c0 acc s) r.toNat [])=e.map λs=>(G,s)):gY s0=e.map λs=>(⟨t,k,acc,G⟩,s):=by
 unfold gY;cases I:dI s0 with
 |none=>
  rw[I]at h1;subst h1;subst w;subst h;subst f;subst a;have:so6=ν:=by cases so6 with|none=>rfl|some s=>cases x
  subst this;cases e with|none=>rfl|some s=>cases p
 |some R=>
 obtain⟨bp,s1⟩:=R;have:=Q _ I;subst this;rw[I]at h1;have h1:y=σ (a8 (decide (64<t.length)) s1):=h1;subst h1;simp only;have S:bc 1 ax (σ (a8 (decide (64<t.length)) s1))=bd 1 ax (a8 (decide (64<t.length)) s1):=rfl;rw[S]at w N;cases J:bd 1 ax (a8 (decide (64<t.length)) s1)with
 |none=>
  rw[J]at w;subst w;subst h;subst f;subst a;have:so6=ν:=by cases so6 with|none=>rfl|some s=>cases x
  subst this;cases e with|none=>rfl|some s=>cases p
 |some T=>
 obtain⟨ab,C⟩:=T;have:=N _ J;subst this;rw[J]at w;have w:z=σ (a8 (decide (64<n)) C):=w;subst w;simp only;have U:bc 1 ax (σ (a8 (decide (64<n)) C))=bd 1 ax (a8 (decide (64<n)) C):=rfl;rw[U]at h hm;cases K:bd 1 ax (a8 (decide (64<n)) C)with
 |none=>
  rw[K]at h;subst h;subst f;subst a;have:so6=ν:=by cases so6 with|none=>rfl|some s=>cases x
  subst this;cases e with|none=>rfl|some s=>cases p
 |some V=>
 obtain⟨cg,E⟩:=V;have:=hm _ K;subst this;rw[K]at h;have h:A=σ E:=h;subst h;simp only;have W:bc 0 ax (σ E)=bd 0 ax E:=rfl;rw[W]at f O;cases L:bd 0 ax E with
 |none=>
  rw[L]at f;subst f;subst a;have:so6=ν:=by cases so6 with|none=>rfl|some s=>cases x
  subst this;cases e with|none=>rfl|some s=>cases p
 |some X=>
 obtain⟨ac,F⟩:=X;have:=O _ L;subst this;rw[L]at f;have f:B=σ (a8 (decide (256<r)) F):=f;subst f;simp only;have Y:bc 1 ax (σ (a8 (decide (256<r)) F))=bd 1 ax (a8 (decide (256<r)) F):=rfl;rw[Y]at a hk;cases M:bd 1 ax (a8 (decide (256<r)) F)with
 |none=>
  rw[M]at a;subst a;have:so6=ν:=by cases so6 with|none=>rfl|some s=>cases x
  subst this;cases e with|none=>rfl|some s=>cases p
 |some Z=>
 obtain⟨ad,P⟩:=Z;have:=hk _ M;subst this;rw[M]at a;have a:H=σ (a8 (decide (2147483648<k)) P):=a;subst a;simp only;have x:cL (fe most) n.toNat [] (a8 (decide (2147483648<k)) P)=so6.map λs=>(acc,s):=x;rw[x];cases so6 with
 |none=>cases e with|none=>rfl|some s=>cases p
 |some aa=>
  simp only[Z7];have p:cL (λ_ s=>c0 acc s) r.toNat [] aa=e.map λs=>(G,s):=p;rw[p];cases e<;>rfl
def pT(w:x3)(gr:Nat)(e:x1)(a:List ck):Prop:=∃L,bi eY 4 a7 w gr e L/\a.length=L.length/\∀(i:Nat)h x,L[i]?=σ h->a[i]?=σ x->gO w h x
def oB(w:x3)(e:Nat)(f:bY):Prop:=∃szv gz a gr,af w e dE [bL f.name,Δ f.k,szv,a]/\av .i64 ao w gz szv f.sizes/\pT w gr a f.funs
theorem pT.ext{gr:Nat}{a:x1}{e:List ck}(h:pT w gr a e)(J:Ext w w'):pT w' gr a e:=by
 obtain⟨L,h1,f,p⟩:=h;exact⟨L,h1.ext J,f,λi aA x hi q=>(p i aA x hi q).ext J⟩
theorem oB.ext{a:Nat}{f:bY}(h:oB w a f)(J:Ext w w'):oB w' a f:=by
 obtain⟨szv,gz,e,gr,h1,p,q⟩:=h;exact⟨szv,gz,e,gr,h1.ext J,p.ext J,q.ext J⟩
def OT(w:x3)(pl:Λ)(v:x1)(w':x3):Prop:=Ext w w'/\∃n e:Int,(fp pl=ν->v= .tuple #[.pointer ν,Δ n,Δ e])/\∀f,fp pl=σ f->∃a,v= .tuple #[Γ a,Δ n,Δ e]/\oB w' a f
theorem OU{w0:x3}{g A:Nat}{so6:Option aE}{t acc:Λ}{R bad:Int}{p:x1}{Q:x1->x3->Prop}(de:ai (λr=>w0.heap.size<=r) w0 w)(b1:af w A dE [bL t,Δ k,szv,.slice ν 0 0])(df:av .i64 ao w gz szv acc)(h:bM w g B bB 100000 so6)(dg:∀s,so6=σ s->j8 s/\s.toks.length<=100000/\(∀z∈acc,1<=z/\z<=ax)/\acc.length<=100001)(fe:w0.heap.size<=g)(ff:w0.heap.size<=A)(dh:aH .u8 w0 p pl)(fg:0<=R/\R<=4611686018427387904)(bk:∀v w' M bm,Ext w0 w'->so6.bind (cL (λ_ s=>c0 acc s) R.toNat [])=bm.map (λs=>(M,s))->
   (∀s,bm=σ s->s.toks=[]/\¬0<=bad/\s.big=false->v= .tuple #[Γ A,Δ (pl.length:Int),Δ 0]/\oB w' A ⟨t,k,acc,M⟩)->
   ((∀s,bm=σ s->¬(s.toks=[]/\¬0<=bad/\s.big=false))->∃n e:Int,v= .tuple #[.pointer ν,Δ n,Δ e])->Q v w'):
  ce (Δ 0) w λb2 E di=>
   cz (α:=x1->x3->Prop) (λ(dj:x1)(N:x3)=>
    Split dj (er N λI=>
   ac x7 (bP (Γ A)) I λaI=>
   ac x7 (u6 dE aI 3) I λaJ=>
   ac x7 (u5 dz aJ) I λbn=>
   ac x7 (bP (Γ A)) I λdk=>
   ac x7 (u6 dE dk 2) I λdl=>
   ac x7 (u5 ay dl) I λdm=>
   am x7 zL [(Γ g),dm] I λdn ag=>
    (Ext I ag\/cD x7 (u5 dz aJ) bn ag/\cD x7 (u6 dE aI 3) aJ ag/\cD x7 (bP (Γ A)) aI ag/\True)/\
   aD x7 (Y3 dz 1 #[(0,dn)]) ag λdp S=>
    (Ext I S\/cD x7 (u5 dz aJ) bn S/\cD x7 (u6 dE aI 3) aJ S/\cD x7 (bP (Γ A)) aI S/\True)/\
    aD x7 (Z2 #[dz,dz] dz #[bn,dp]) S λdq aZ=>
     ac x7 (bP (Γ A)) aZ λdr=>
     ac x7 (u6 dE dr 3) aZ λds=>
     aD x7 (o9 dz ds dq) aZ λ(_:Unit)aK=>
     ac x7 (aN .add ao false true b2 (Δ 1)) aK λdt=>
   di dt aK)
     (cz (α:=x3->Prop) (λ(P:x3)=>
   cz (α:=x3->Prop) (λ(G:x3)=>
    ac x7 (bP (Γ g)) G λdu=>
    ac x7 (u6 bA du 3) G λdv=>
    ac x7 (u5 ah dv) G λdw=>
    ac x7 (aN .neq ah false true dw (Δ 0)) G λdx=>
    Split dx (er G λZ=>
     ac x7 (bP (Γ g)) Z λdy=>
     ac x7 (u6 bA dy 4) Z λdA=>
     ac x7 (u5 ah dA) Z λdC=>
     ac x7 (bP (Γ g)) Z λdD=>
     ac x7 (u6 bA dD 3) Z λdF=>
     ac x7 (u5 ah dF) Z λdG=>
     Q (.tuple #[(.pointer ν),dC,dG]) Z)
     (ac x7 (bP (Γ g)) G λdH=>
    ac x7 (u6 bA dH 5) G λdI=>
    ac x7 (u5 ah dI) G λdJ=>
    ac x7 (aN .neq ah false true dJ (Δ 0)) G λdL=>
    Split dL (er G λaa=>
     ac x7 (bP (Γ g)) aa λdM=>
     ac x7 (u6 bA dM 6) aa λdN=>
     ac x7 (u5 ah dN) aa λdO=>
     ac x7 (bP (Γ g)) aa λdP=>
     ac x7 (u6 bA dP 5) aa λdQ=>
     ac x7 (u5 ah dQ) aa λdR=>
     Q (.tuple #[(.pointer ν),dO,dR]) aa)
     (ac x7 (V2 #[cP] ah #[p]) G λdT=>
    Q (.tuple #[(Γ A),dT,(Δ 0)]) G))) λb3=>
   cz (α:=x1->x3->Prop) (λ(dU:x1)(a2:x3)=>
    Split dU (am x7 nN [(Γ g),(Δ 11),(Δ bad)] a2 λfh b4=>
     b3 b4)
     (b3 a2)) λb5=>
   ac x7 (bP (Γ g)) P λdV=>
   ac x7 (u6 bA dV 3) P λdW=>
   ac x7 (u5 ah dW) P λdX=>
   ac x7 (aN .eql ah false true dX (Δ 0)) P λdY=>
   Split dY (ac x7 (aN .geq ah false true (Δ bad) (Δ 0)) P λdZ=>
   b5 dZ P)
    (b5 (.bool false) P)) λb6=>
  cz (α:=x1->x3->Prop) (λ(ea:x1)(V:x3)=>
   Split ea (ac x7 (bP (Γ g)) V λec=>
    ac x7 (u6 bA ec 0) V λed=>
    ac x7 (u5 fl ed) V λee=>
    ac x7 (c9 fl ee (Δ 0)) V λef=>
    ac x7 (u6 cr ef 1) V λeg=>
    ac x7 (u5 ah eg) V λeh=>
    am x7 nN [(Γ g),(Δ 4),eh] V λfi bo=>
    b6 bo)
    (b6 V)) λb7=>
  ac x7 (bP (Γ g)) N λei=>
  ac x7 (u6 bA ei 3) N λej=>
  ac x7 (u5 ah ej) N λek=>
  ac x7 (aN .eql ah false true ek (Δ 0)) N λem=>
  Split em (ac x7 (bP (Γ g)) N λen=>
  ac x7 (u6 bA en 0) N λeo=>
  ac x7 (u5 fl eo) N λep=>
  ac x7 (V2 #[fl] ah #[ep]) N λes=>
  ac x7 (aN .gtr ah false true es (Δ 0)) N λet=>
  b7 et N)
   (b7 (.bool false) N))) λb8=>
   ac x7 (aN .lss ao false false b2 (Δ R)) E λeu=>
   Split eu (ac x7 (bP (Γ g)) E λev=>
   ac x7 (u6 bA ev 3) E λew=>
   ac x7 (u5 ah ew) E λey=>
   ac x7 (aN .eql ah false true ey (Δ 0)) E λez=>
   b8 ez E)
    (b8 (.bool false) E):=by
 have b9:A≠g:=λhe=>by
  obtain⟨aj,ad,ae,bad,an,big,ap,told,sv,C,_⟩:=hZ h;subst he;exact absurd (eb C b1) Φ
 refine⟨λbp E=>∃i:Nat,bp=Δ (i:Int)/\i<=R.toNat/\ai (λr=>w0.heap.size<=r) w0 E/\∃O gr M so,∃H:ak,af E A dE [bL t,Δ k,szv,O]/\av .i64 ao E gz szv acc/\pT E gr O M/\(∀r,leadsTo O r->w0.heap.size<=r/\¬H r)/\¬H A/\(∀r,leads szv r->¬H r)/\(∀r,H r->w0.heap.size<=r)/\bM E g E.heap.size H 100001 so/\lD (λ_ s=>c0 acc s) R.toNat i so6 M so/\
   ∀s,so=σ s->j8 s/\M.length+s.toks.length<=100000/\(∀z∈acc,1<=z/\z<=ax)/\acc.length<=100001,λbp _=>R.toNat-(bU bp).toNat,
  ⟨0,rfl,X6 _,de,_,0,[],so6,bB,b1,df,⟨[],bi.nil _ _ _ _ _,rfl,λi h x hi=>by simp at hi⟩,λr y=>(e4 y).elim,id,λr _ h=>h,λr h=>h.elim,h.base.up Ω,?_,λs U=>?_⟩,?_⟩
 .unfold lD;cases so6<;>rfl
 .obtain⟨eB,eC,a3,a4⟩:=dg s U;exact⟨eB,by simpa using eC,a3,a4⟩
 rintro _ E ⟨i,rfl,hi,a6,O,gr,M,so,H,cb,cc,cd,aL,bq,eD,cg,Y,br,eE⟩;refine aV (λv N=>E=N/\((v= .bool true/\i<R.toNat/\∃s,so=σ s)\/(v= .bool false/\(so=ν\/i=R.toNat)))) ?_ ?_
 rotate_left
 .intro aB bt;rw[aS,al];refine⟨λch=>?_,λfj=>bt _ _ ⟨rfl,.inr ⟨rfl,.inr Ω⟩⟩⟩;rw[lC Y];cases so with
  |none=>exact bt _ _ ⟨rfl,.inr ⟨rfl,.inl rfl⟩⟩
  |some s=>exact bt _ _ ⟨rfl,.inl ⟨rfl,Ω,s,rfl⟩⟩
 rintro _ _ ⟨rfl,⟨rfl,ch,s,rfl⟩|⟨rfl,eF⟩⟩
 .
  rw[bT];intro I aq _ _;obtain⟨ci,fk,cj,ck⟩:=eE s rfl;have aM:=cb.ext aq;obtain⟨eH,cl,aP,cm⟩:=(Y.ext aq).low.shrink;have bu:=cc.ext aq;have eI:=cd.ext aq;rw[aQ dE.p 3 aM rfl,aQ dE.p 2 aM rfl];refine(OP cl bu cj ck (λr y=>by obtain⟨c,C⟩:=cm r y;exact C.lt) ci).mono ?_;rintro _ ag _ ⟨bw,x,cp,au,rfl,cq,eJ,eL,fm,ct,eM⟩;have cu:∃c,af I g bA c:=by obtain⟨aj,ad,ae,bad,an,big,ap,told,sv,C,_⟩:=hZ cl;exact⟨_,C⟩
  have cw:∀r,(r=g\/eH r)->hf I r\/I.heap.size<=r:=λr y=>by
   rcases y with rfl|y
   .obtain⟨c,C⟩:=cu;exact .inl ⟨_,c,C,Φ,Φ⟩
   .obtain⟨c,C⟩:=cm r y;exact .inl ⟨_,c,C,Φ,Φ⟩
  have bx:=aM.ab au λy=>y.elim (λhe=>b9 he) λy=>bq (aP _ y);have st:∀{w':x3},af w' A dE [bL t,Δ k,szv,O]->cD x7 (u5 dz (.pointer (σ ⟨A,0+3,ν⟩))) O w'/\cD x7 (u6 dE (Γ A) 3) (.pointer (σ ⟨A,0+3,ν⟩)) w'/\cD x7 (bP (Γ A)) (Γ A) w'/\True:=λC=>
   ⟨md Ψ (C.cell (o:=0+3) rfl),jw (by rw[aU dE.p rfl]),jw (by rw[bV]),trivial⟩
  refine⟨.inr (st bx),?_⟩;refine hD (f:=eY) (a:=bw) dz.u a7.i Ω rfl rfl λfo fp S fq W eN=>?_;refine⟨.inr (st (bx.ext W)),?_⟩;obtain⟨L,az,bz,bC⟩:=id eI;have eO:bi eY 4 a7 ag gr O L:=az.ab au λr y U=>U.elim (λhe=>by
   obtain⟨c,C⟩:=cu;subst he;exact cR az C Φ y) λU=>(aL r y).2 (aP r U)
  have bE:=eO.ext W;refine io (f:=eY) (a:=bw) dz.u a7.i rfl bE (by simpa using eN.sl) (cq.ext W).one Ω Ω λcA eP aZ a8 eQ cB=>?_;have bF:=bx.ext W;have cC:=bF.ab cB λhe=>cR bE bF Φ he;rw[bV,aU dE.p rfl];refine bl (g:=A) (o:=3) dz.i (eK a8.sl).1 (eK a8.sl).2 cC Ξ λaK cE fs bG=>?_;have bG:af aK A dE [bL t,Δ k,szv,cA]:=bG;have ft:i<=4611686018427387904:=Ω
  rw[aO,wrap_i64 Ω Ω];have aC:ai (λr=>leadsTo O r\/r=A) S aK:=(cB.mono λr _ h=>.inl h).trans (cE.mono λr _ h=>.inr h);have cF:∀r,(leadsTo O r\/r=A)->∃e c,af S r e c/\e≠ao/\e≠ca/\e≠cr/\e≠bA:=λr y=>by
   rcases y with y|rfl
   .obtain⟨rfl,c,C⟩:=dS bE y;exact⟨_,c,C,Φ,Φ,Φ,Φ⟩
   .exact⟨_,_,bF,Φ,Φ,Φ,Φ⟩
  have bH:∀r,(leadsTo O r\/r=A)->hf S r\/S.heap.size<=r:=λr y=>by
   obtain⟨e,c,C,bI,bJ,_⟩:=cF r y;exact .inl ⟨e,c,C,bI,bJ⟩
  have fu:=aq.size;have fv:=au.size;have fw:=W.size;have fx:=aC.size;have cG:∀r,leadsTo O r->r<I.heap.size:=λr y=>by obtain⟨ad,ae⟩:=az.leads y;omega
  have aR:∀r,r<I.heap.size->¬H r->¬cp r:=λr y eR bK=>(ct r bK).elim (λh=>eR (aP r h)) λh=>Ω
  have eS:∀r,leads szv r->r<I.heap.size:=λr y=>by obtain⟨ad,ae⟩:=bQ bu y;omega
  refine⟨⟨i+1,rfl,Ω,?_,cA,eP,M++[x],_,cp,bG,eA ((eA bu au cw).ext W) aC bH,⟨L++[bw],a8.ab cE λr y he=>?_,by rw[r8,r8,bz];rfl,λj cH eU aF aT=>?_⟩,λr y=>?_,aR A aM.lt bq,λr y=>aR r (eS r y) (eD r y),λr y=>?_,?_,br.step ch rfl λq K=>eL q K,λs' X=>?_⟩,by simp only[bU];omega⟩
  .refine (((a6.trans (aq.ab _)).trans (au.mono λr _ h=>?_)).trans (W.ab _)).trans (aC.mono λr _ h=>?_)
   .exact h.elim (λh=>Ω) λh=>cg r (aP r h)
   .exact h.elim (λh=>(aL r h).1) λh=>Ω
  .have he:r=A:=he;subst he;exact cR a8 cC Φ y
  .by_cases eV:j<L.length
   .rw[Y9 eV]at aF;rw[Y9 Ω]at aT;exact(((bC j cH eU aF aT).dK au cw).ext W).dK aC bH
   .rw[X0 Ω]at aF;rw[X0 Ω]at aT;have eW:j-L.length=0:=by have:=(x4.1 aF).1;simp at this;omega
    have eX:j-M.length=0:=Ω
    rw[eW]at aF;rw[eX]at aT;cases aF;cases aT;exact(cq.ext W).dK aC bH
  .rcases eQ r y with h|h
   .exact⟨(aL r h).1,aR r (cG r h) (aL r h).2⟩
   .exact⟨by have:=a6.size;omega,λbK=>by have:=eM r bK;omega⟩
  .rcases ct r y with h|h
   .exact cg r (aP r h)
   .have:=a6.size;omega
  .refine (eJ.ext W).dK aC λr y=>.inl ?_;obtain⟨e,c,C,bI,bJ,eZ,e0⟩:=cF r y;refine⟨e,c,C,bI,bJ,eZ,e0,?_⟩;rcases y with y|rfl
   .exact aR r (cG r y) (aL r y).2
   .exact aR _ aM.lt bq
  .cases bO:c0 acc s with
   |none=>rw[bO]at X;cases X
   |some q=>
    obtain⟨fy,cI⟩:=q;rw[bO]at X;cases X;obtain⟨fz,e1⟩:=OR bO;refine⟨e1 ci,?_,cj,ck⟩;rw[r8];simp only[V6];omega
 .
  rw[a1];have bR:so6.bind (cL (λ_ s=>c0 acc s) R.toNat [])=so.map λs=>(M,s):=by
   unfold lD at br;rw[br];cases so with
   |none=>rfl
   |some s=>
    rcases eF with h|rfl
    .cases h
    .simp only[U8];rfl
  have row:∀{w':x3},ai (λr=>r=g) E w'->pT w' gr O M/\af w' A dE [bL t,Δ k,szv,O]/\av .i64 ao w' gz szv acc:=λba=>by
   obtain⟨aj,ad,ae,bad,an,big,ap,told,sv,C,_⟩:=hZ Y;have cJ:∀r,r=g->hf E r\/E.heap.size<=r:=λr y=>by subst y;exact .inl ⟨_,_,C,Φ,Φ⟩
   obtain⟨L,az,bz,bC⟩:=id cd;refine⟨⟨L,az.ab ba λr y he=>?_,bz,λi h x hi J=>(bC i h x hi J).dK ba cJ⟩,cb.ab ba λhe=>b9 he,eA cc ba cJ⟩;have he:r=g:=he;subst he;exact cR az C Φ y
  refine c5 (λP=>ai (λr=>r=g) E P/\bM P g E.heap.size H 100001 (so.bind λs=>if s.toks=[]then σ s else ν)) ?_ ?_
  rotate_left
  .intro fA cK;refine aV (λv V=>E=V/\∃b:Bool,v= .bool b/\(b=true->∃s,so=σ s/\s.toks≠[])/\(b=false->∀s,so=σ s->s.toks=[])) ?_ ?_
   .rintro _ _ ⟨rfl,b,rfl,bS,bW⟩;cases b with
    |true=>
     obtain⟨s,rfl,bb⟩:=bS rfl;rw[bT];obtain⟨cM,cN,aj,aX,gs,sv,L,cO,ad,ae,bX,an,big,ap,told,cQ,bc,bd,aG,be,cS,cT,cU,bf,cV,cW,bg,cX,cY,cZ⟩:=id Y;obtain⟨⟨bY,e2⟩,_⟩:=be.g bc bd;obtain⟨x,fB,rfl⟩:∃x l,aX=x::l:=by
      cases aX with
      |nil=>exact absurd bg.symm (by simpa using bb)
      |cons x l=>exact⟨x,l,rfl⟩
     rw[aQ bA.p 0 aG rfl];refine DI bY λb o e3=>?_;rw[aU cr.p rfl,aw Ψ (e3 1 _ rfl)];refine(oA Y Ω).mono ?_;rintro _ bo _ ⟨e5,e6⟩;refine cK _ ⟨e5,?_⟩;show bM bo g _ H 100001 (if s.toks=[]then σ s else ν);rw[if_neg bb];exact e6
    |false=>
     rw[a1];refine cK _ ⟨ai.refl _ _,?_⟩;cases so with
     |none=>exact Y
     |some s=>
      show bM _ g _ H 100001 (if s.toks=[]then σ s else ν);rw[if_pos (bW rfl s rfl)];exact Y
   .intro fD c1;rw[lC Y];cases so with
    |none=>
     rw[R3,a1];exact c1 _ _ ⟨rfl,false,rfl,(λh=>by cases h),λ_ s U=>by cases U⟩
    |some s=>
     rw[S3,bT];obtain⟨cM,cN,aj,aX,gs,sv,L,cO,ad,ae,bX,an,big,ap,told,cQ,bc,bd,aG,be,cS,cT,cU,bf,cV,cW,bg,cX,cY,cZ⟩:=id Y;obtain⟨⟨bY,e2⟩,_⟩:=be.g bc bd;rw[aQ bA.p 0 aG rfl,DH bY,bN];have fE:aX.length=s.toks.length:=by rw[<-bg,u9]
     refine c1 _ _ ⟨rfl,_,rfl,λh=>⟨s,rfl,λaY=>?_⟩,λh s' X=>?_⟩
     .have:=of_decide_eq_true h;have cH:s.toks.length=0:=by rw[aY];rfl
      omega
     .cases X;have:=of_decide_eq_false h;exact c8 Ω
  rintro P ⟨c2,bZ⟩;refine c5 (λG=>ai (λr=>r=g) E G/\bM G g E.heap.size H 100001 (so.bind λs=>if s.toks=[]/\¬0<=bad then σ s else ν)) ?_ ?_
  rotate_left
  .intro fF c3;refine aV (λv a2=>P=a2/\∃b:Bool,v= .bool b/\(b=true->(so.bind λs=>if s.toks=[]/\¬0<=bad then σ s else ν)=ν)/\(b=false->(so.bind λs=>if s.toks=[]/\¬0<=bad then σ s else ν)=so.bind λs=>if s.toks=[]then σ s else ν)) ?_ ?_
   .rintro _ _ ⟨rfl,b,rfl,bS,bW⟩;cases b with
    |true=>
     rw[bT];refine(oA bZ Ω).mono ?_;rintro _ b4 _ ⟨e7,e8⟩;exact c3 _ ⟨c2.trans e7,by rw[bS rfl];exact e8⟩
    |false=>
     rw[a1];exact c3 _ ⟨c2,by rw[bW rfl];exact bZ⟩
   .intro fG c4;rw[lC bZ];cases K:(so.bind λs=>if s.toks=[]then σ s else ν)with
    |none=>
     rw[R3,a1];refine c4 _ _ ⟨rfl,false,rfl,(λh=>by cases h),λ_=>?_⟩;cases so with
     |none=>rfl
     |some s=>
      have K:(if s.toks=[]then σ s else ν)=ν:=K;show(if s.toks=[]/\¬0<=bad then σ s else ν)=(if s.toks=[]then σ s else ν);rw[K];split at K
      .cases K
      .rename_i bb;rw[if_neg (λh=>bb h.1)]
    |some s=>
     rw[S3,bT,cn];refine c4 _ _ ⟨rfl,_,rfl,λh=>?_,λh=>?_⟩
     .have aY:=of_decide_eq_true h;cases so with
      |none=>rfl
      |some s=>exact if_neg λh=>h.2 aY
     .have aY:=of_decide_eq_false h;cases so with
      |none=>rfl
      |some s=>
       show(if s.toks=[]/\¬0<=bad then σ s else ν)=(if s.toks=[]then σ s else ν);by_cases U:s.toks=[]
       .rw[if_pos U,if_pos ⟨U,aY⟩]
       .rw[if_neg U,if_neg λh=>U h.1]
  rintro G ⟨c6,bh⟩;obtain⟨e9,fa,fb⟩:=row c6;have fc:ai (λr=>w0.heap.size<=r) w0 G:=a6.trans (c6.mono λr _ h=>by have h:r=g:=h;omega);have bj:Ext w0 G:=fc.ext λr y he=>Ω
  rw[rv bh];cases K:(so.bind λs=>if s.toks=[]/\¬0<=bad then σ s else ν)with
  |none=>
   rw[R3,V0,bT];intro Z c7 _ _;obtain⟨aj,ad,ae,bX,an,big,ap,told,sv,C,_⟩:=hZ (bh.ext c7);rw[aQ bA.p 4 C rfl,aQ bA.p 3 C rfl];refine bk _ _ M so (bj.trans c7) bR (λs U aA=>?_) λ_=>⟨_,_,rfl⟩;subst U;have K:(if s.toks=[]/\¬0<=bad then σ s else ν)=ν:=K;rw[if_pos ⟨aA.1,aA.2.1⟩]at K;cases K
  |some s=>
   rw[K]at bh;rw[S3,Y7,a1];obtain⟨s',rfl,X⟩:∃s',so=σ s'/\(if s'.toks=[]/\¬0<=bad then σ s' else ν)=σ s:=by
    cases so with
    |none=>cases K
    |some s'=>exact⟨s',rfl,K⟩
   split at X
   .rename_i da;cases X;obtain⟨cM,cN,aj,aX,gs,sv,L,cO,ad,ae,bX,an,big,ap,told,cQ,bc,bd,aG,be,cS,cT,cU,bf,cV,cW,bg,cX,cY,cZ⟩:=id bh;rw[aQ bA.p 5 aG rfl,bD,al];refine⟨λb0=>?_,λb0=>?_⟩
    .intro aa db _ _;have dc:=aG.ext db;rw[aQ bA.p 6 dc rfl,aQ bA.p 5 dc rfl];refine bk _ _ M _ (bj.trans db) bR (λcI dd aA=>?_) λ_=>⟨_,_,rfl⟩;cases dd;rw[bf.1 b0]at aA;cases aA.2.2
    .rw[aW cP.u (dh.ext bj)];refine bk _ _ M _ bj bR (λcI dd aA=>⟨rfl,szv,gz,O,gr,fa,fb,e9⟩) λfd=>?_;refine absurd ⟨da.1,da.2,?_⟩ (fd s rfl);cases C:s.big with
     |false=>rfl
     |true=>exact absurd (bf.2 C) b0
   .cases X
def Zero(so:Option aE):Prop:=∀s,so=σ s->s.told=0/\s.toks.length<=100000
theorem Zero.big{so:Option aE}(h:Zero so)(b:Bool):Zero (so.map (a8 b)):=λs U=>by
 cases so with
 |none=>cases U
 |some s0=>cases U;exact h s0 rfl
theorem zero_num{lo hi:Int}{so:Option aE}(h:Zero so):Zero ((bc lo hi so).map (·.2)):=λs U=>by
 cases so with
 |none=>cases U
 |some s0=>
  have U:V7 (λx=>x.2) (bd lo hi s0)=σ s:=U;cases a:bd lo hi s0 with
  |none=>rw[a]at U;cases U
  |some q=>
   obtain⟨n,s1⟩:=q;rw[a]at U;cases U;have e:=dg a;have:=e.1;obtain⟨h1,f⟩:=h s0 rfl;exact⟨e.eqs.1.trans h1,by show s1.toks.length<=100000;omega⟩
theorem OV{so:Option aE}(h:Zero so):Zero ((jy so).map (·.2)):=λs U=>by
 cases so with
 |none=>cases U
 |some s0=>
  have U:V7 (λx=>x.2) (dI s0)=σ s:=U;cases a:dI s0 with
  |none=>rw[a]at U;cases U
  |some q=>
   obtain⟨n,s1⟩:=q;rw[a]at U;cases U;obtain⟨V,aa⟩:=qR a;obtain⟨h1,e⟩:=h s0 rfl;have:s0.toks.length=s1.toks.length+1:=by rw[V];rfl
   exact⟨by show s1.told=0;rw[aa];exact h1,by show s1.toks.length<=100000;omega⟩
theorem OW{so:Option aE}{f:bY}(h:gY ⟨(lex pl).1,0,false,[]⟩=so.map λs=>(f,s))(a:¬65536<pl.length):fp pl=so.bind λs=>if s.toks=[]/\(lex pl).2=true/\s.big=false then σ f else ν:=by
 unfold fp;rw[if_neg a,h]<;>cases so<;>rfl
theorem OX(a:pl.length<=60000):(∀t∈(lex pl).1,Bytes t/\t.length<=65536)/\(lex pl).1.length<=60000:=by
 refine⟨λt e=>?_,Y8 (pm pl.length pl (o4 _)) a⟩;obtain⟨_,f,p⟩:=sW pl.length pl (o4 _) t e;refine⟨λb h=>?_,Ω⟩;have:=of_decide_eq_true (f b h);omega
theorem DS{p:x1}(aq:aH .u8 w p pl)(cB:Bytes pl)(cC:pl.length<=60000):am x7 G0 [p] w (OT w pl):=by
 obtain⟨cD,dQ⟩:=OX cC;refine az func56 ?_;rw[aW cP.u aq,bN,al];refine⟨λh=>Ω,λ_=>?_⟩;refine(OH aq cB Ω).mono ?_;rintro _ V _ ⟨aK,au,bk,bad,rfl,bm,bn,cE,dR,bp⟩;rw[bq,br,aW cP.u (aq.ext aK),cZ (cs:=#[au,Δ (pl.length:Int),Δ 4,Δ 0,Δ 0,Δ 0,Δ 0,Δ 0,.slice ν 0 0]) (by obtain⟨_,_,_,_,_,rfl,_⟩:=bm;kernel_rfl)];refine bf λg aa dS aw W=>?_;have W:af aa g bA (gE au (pl.length:Int) 4 0 0 0 0 0 (.slice ν 0 0)):=W;have dT:=aK.size;have dU:=aw.size;have dV:=W.lt;refine c5 (λE=>Ext w E/\ai (λr=>r=g) aa E/\∃X Y:Int,Y≠0/\af E g bA (gE au X Y 0 0 0 0 0 (.slice ν 0 0))) ?_ ?_
 rotate_left
 .intro aB R;have bu:=aK.trans aw;rw[cn,al];refine⟨λ_=>?_,λ_=>R _ ⟨bu,ai.refl _ _,_,_,Ω,W⟩⟩;rw[bV,aU bA.p rfl];refine bl (g:=g) (o:=1) ah.i rfl rfl W (by simp[gE]) λdW cF dX cG=>?_;rw[bV,aU bA.p rfl];refine bl (g:=g) (o:=2) ah.i rfl rfl cG (by simp[gE]) λdY cH dZ cI=>?_;have G:=cF.trans cH;exact R _ ⟨bu.then G λr A he=>by have he:r=g:=he;omega,G,bad,11,Ω,cI⟩
 rintro E ⟨bw,aL,X,Y,cJ,bx⟩;have z3:=aL.size;have cK:bM E g E.heap.size bB 100000 (σ ⟨(lex pl).1,0,false,[]⟩):=by
  refine⟨o4 _,E,au,bk,0,_,[],[],X,Y,0,0,0,0,0,rfl,ai.refl _ _,⟨_,bx⟩,bx,⟨⟨?_,λr A=>?_⟩,bi.nil _ _ _ _ _,rfl,λi h x hi=>by simp at hi⟩,λr A=>e4 A,rfl,cJ,Ξ,λ_=>rfl,trivial,bn,cD,rfl,?_⟩
  .refine (bm.ab (aw.ab λ_=>False) λ_ _ h=>h).ab aL λr A he=>?_;have he:r=g:=he;obtain⟨c,M⟩:=bp r A;have:=M.lt;omega
  .obtain⟨c,M⟩:=bp r A;exact⟨c,(M.ext aw).ab aL λhe=>by have he:r=g:=he;have:=M.lt;omega⟩
  .have:bk.length=(lex pl).1.length:=by rw[<-bn,u9]
   simp only[List.length_nil];omega
 have ea:∀{Q:x3}{cM N:Nat}{H:ak}{so:Option aE},bM Q g cM H N so->True:=λ_=>trivial;rw[cZ (cs:=#[bL [],Δ 0,.slice ν 0 0,.slice ν 0 0]) Ψ];refine bf λB cN eb aN aC=>?_;have aC:af cN B dE [bL [],Δ 0,.slice ν 0 0,.slice ν 0 0]:=aC;have ec:E.heap.size<=B:=Ω
 have ed:=aC.lt;have cO:B≠g:=Ω
 have I:∀{Q Z:x3}{c:List x1},af Q B dE c->ai (λr=>r=g) Q Z->af Z B dE c:=λM G=>M.ab G λhe=>cO he;refine(DJ (cK.ext aN)).mono ?_;rintro _ cQ _ ⟨⟨aP,cR⟩,t,bz,rfl,ef,eg,cT⟩;refine bo cr.i λbC eh ei cU cV=>?_;refine cb (vs:=[bL t,Δ bz]) cr.i rfl rfl (by intro v ad;simp at ad;rcases ad with rfl|rfl<;>rfl) cV λcW cX ej bD=>?_;have aD:Ext cQ cW:=cU.put cX Ω;have cY:=(I aC aP).ext aD;rw[aM cr.p 0 bD rfl,bV,aU dE.p rfl];refine bl (g:=B) (o:=0) cS.i rfl rfl cY Ξ λaR aT ek aX=>?_;have aX:af aR B dE [bL t,Δ 0,.slice ν 0 0,.slice ν 0 0]:=aX;have c0:=(cR.ext aD).new aT λr A=>by have A:r=B:=A;omega
 have z4:=aN.size;have z5:=aP.size;have em:=aD.size;have bE:af aR bC cr [bL t,Δ bz]:=bD.ab aT λhe=>by have he:bC=B:=he;omega
 rw[aM cr.p 0 bE rfl,n5 cS.u,bN,aM cr.p 1 bE rfl];have c1:ai (λr=>w.heap.size<=r) w aR:=((((bw.ab _).trans (aN.ab _)).trans (aP.mono λr _ h=>by have h:r=g:=h;omega)).trans (aD.ab _)).trans (aT.mono λr _ h=>by have h:r=B:=h;omega);have up:∀{Q Z:x3},ai (λr=>w.heap.size<=r) w Q->ai (λr=>r=g) Q Z->ai (λr=>w.heap.size<=r) w Z:=λh k=>h.trans (k.mono λr _ h=>by have h:r=g:=h;omega);refine(nf c0).mono ?_;rintro _ en _ ⟨bF,ac⟩;have c2:=up c1 bF;have c3:=I aX bF;generalize aY:(((jy (σ ⟨(lex pl).1,0,false,[]⟩)).map (·.2)).map (a8 (decide ((64:Int)<(t.length:Int)))))=aZ at ac;refine(kN ac).mono ?_;rintro _ eo _ ⟨⟨bG,c4⟩,n,ep,rfl,bH,c6⟩;rw[bq,br,bN];refine(nf c4).mono ?_;rintro _ er _ ⟨bI,bJ⟩;have c7:=up (up c2 bG) bI;have c8:=I (I c3 bG) bI;generalize bK:((bc 1 4611686018427387904 aZ).map (·.2)).map (a8 (decide (64<n)))=a2 at bJ;refine(kN bJ).mono ?_;rintro _ es _ ⟨⟨bO,bP⟩,most,et,rfl,hm,c9⟩;rw[bq,br];generalize bQ:(bc 1 4611686018427387904 a2).map (·.2)=a6 at bP;refine(kN bP).mono ?_;rintro _ eu _ ⟨⟨bR,da⟩,a7,ev,rfl,bS,db⟩;rw[bq,br,bN];refine(nf da).mono ?_;rintro _ ew _ ⟨bW,bX⟩;generalize bY:((bc 0 4611686018427387904 a6).map (·.2)).map (a8 (decide (256<a7)))=bZ at bX;refine(kN bX).mono ?_;rintro _ ey _ ⟨⟨b0,dc⟩,k,ez,rfl,hk,eB⟩;rw[bq,br,bN];refine(nf dc).mono ?_;rintro _ eC _ ⟨b1,b2⟩;generalize b3:((bc 1 4611686018427387904 bZ).map (·.2)).map (a8 (decide (2147483648<k)))=ae at b2;have dd:=up (up (up (up (up c7 bO) bR) bW) b0) b1;have de:=I (I (I (I (I c8 bO) bR) bW) b0) b1;rw[bV,aU dE.p rfl];refine bl (g:=B) (o:=1) ao.i rfl rfl de Ξ λb4 b5 eD ba=>?_;have ba:af b4 B dE [bL t,Δ k,.slice ν 0 0,.slice ν 0 0]:=ba;have df:=b2.new b5 λr A=>by have A:r=B:=A;omega
 have b6:ai (λr=>w.heap.size<=r) w b4:=dd.trans (b5.mono λr _ h=>by have h:r=B:=h;omega);have eE:0<=n/\n<=4611686018427387904:=by
  cases C:bc 1 4611686018427387904 aZ with
  |none=>have:=c6 C;omega
  |some q=>have ac:=bH q C;have:=m4 (n:=q.1) (s':=q.2) C;omega
 have eF:0<=most/\most<=4611686018427387904:=by
  cases C:bc 1 4611686018427387904 a2 with
  |none=>have:=c9 C;omega
  |some q=>have ac:=hm q C;have:=m4 (n:=q.1) (s':=q.2) C;omega
 have dh:0<=a7/\a7<=4611686018427387904:=by
  cases C:bc 0 4611686018427387904 a6 with
  |none=>have:=db C;omega
  |some q=>have ac:=bS q C;have:=m4 (n:=q.1) (s':=q.2) C;omega
 have di:Zero (σ (⟨(lex pl).1,0,false,[]⟩:aE)):=λs U=>by cases U;exact⟨rfl,by simp only;omega⟩
 have dj:Zero aZ:=by rw[<-aY];exact(OV di).big _
 have dk:Zero a2:=by rw[<-bK];exact(zero_num dj).big _
 have dl:Zero a6:=by rw[<-bQ];exact zero_num dk
 have dm:Zero bZ:=by rw[<-bY];exact(zero_num dl).big _
 have b7:Zero ae:=by rw[<-b3];exact(zero_num dm).big _
 have eH:=b6.size;refine⟨λbb O=>∃i:Nat,bb=Δ (i:Int)/\i<=n.toNat/\ai (λr=>w.heap.size<=r) w O/\∃szv gz acc so,af O B dE [bL t,Δ k,szv,.slice ν 0 0]/\av .i64 ao O gz szv acc/\(∀r,leads szv r->E.heap.size<=r)/\bM O g E.heap.size bB 100000 so/\lD (fe most) n.toNat i ae acc so/\∀s,so=σ s->s.told=0/\acc.length+s.toks.length<=100000/\∀z∈acc,1<=z/\z<=ax,λbb _=>n.toNat-(bU bb).toNat,
  ⟨0,rfl,X6 _,b6,_,0,[],ae,ba,av.nil _ _ _ _,(λr A=>by obtain⟨a,aF,c,X,Y⟩:=A;cases X),df,?_,λs U=>⟨(b7 s U).1,by simpa using(b7 s U).2,λz dn=>by cases dn⟩⟩,?_⟩
 .unfold lD;cases ae<;>rfl
 rintro _ O ⟨i,rfl,hi,be,szv,gz,acc,so,b8,b9,ca,aj,bg,cd⟩;refine aV (λv dp=>O=dp/\((v= .bool true/\i<n.toNat/\∃s,so=σ s)\/(v= .bool false/\(so=ν\/i=n.toNat)))) ?_ ?_
 rotate_left
 .intro aB R;rw[aS,al];refine⟨λce=>?_,λeI=>R _ _ ⟨rfl,.inr ⟨rfl,.inr Ω⟩⟩⟩;rw[lC aj];cases so with
  |none=>exact R _ _ ⟨rfl,.inr ⟨rfl,.inl rfl⟩⟩
  |some s=>exact R _ _ ⟨rfl,.inl ⟨rfl,Ω,s,rfl⟩⟩
 rintro _ _ ⟨rfl,⟨rfl,ce,s,rfl⟩|⟨rfl,dq⟩⟩
 .rw[bT];obtain⟨dr,eJ,ds⟩:=cd s rfl;refine(kN aj).mono ?_;rintro _ eK _ ⟨⟨dt,du⟩,z,eL,rfl,bh,eM⟩;rw[bq,br,bN];refine(nf du).mono ?_;rintro _ eN _ ⟨dv,dw⟩;have aG:=dt.trans dv;have cg:=I b8 aG;have dx:∀r,r=g->hf O r\/O.heap.size<=r:=λr A=>(kO aj r A).imp (λ⟨e,c,M,dy,dz,_⟩=>⟨e,c,M,dy,dz⟩) id;have ch:=eA b9 aG dx;rw[aQ dE.p 2 cg rfl];refine ee ay.u ao.i rfl λa22 eO dA eP S dC=>?_;refine gD ay.u ao.i rfl (ch.ext S) dC.ls Θ Θ λci dD eQ aI dF cj=>?_;have ck:=cg.ext S;have cl:=ck.ab cj λhe=>cc (ch.ext S) ck Φ he rfl;rw[bV,aU dE.p rfl];refine bl (g:=B) (o:=2) ay.i aI.ls.cells.1 aI.ls.cells.2 cl Ξ λcm cp eR bj=>?_;have bj:af cm B dE [bL t,Δ k,ci,.slice ν 0 0]:=bj;rw[aO,wrap_i64 Ω Ω];have cq:ai (λr=>leads szv r\/r=B) dA cm:=(cj.mono λr _ h=>.inl h).trans (cp.mono λr _ h=>.inr h);have ct:∀r,(leads szv r\/r=B)->E.heap.size<=r:=λr A=>A.elim (ca r) λA=>Ω
  have eS:w.heap.size<=E.heap.size:=bw.size;have eU:=aG.size;have z22:=S.size;have eV:=be.size;have eW:=aj.lt;refine⟨⟨i+1,rfl,Ω,((up be aG).trans (S.ab _)).trans (cq.mono λr _ h=>by have:=ct r h;omega),ci,dD,acc++[z],((bc 1 most (σ s)).map (·.2)).map (a8 (decide (32<z))),bj,bt aI cp λr A he=>?_,λr A=>?_,(dw.ext S).new cq ct,?_,λs' K=>?_⟩,by simp only[bU];omega⟩
  .have he:r=B:=he;subst he;exact cc aI cl Φ A rfl
  .rcases dF r A with h|h
   .exact ca r h
   .omega
  .refine bg.step ce ?_ λq C=>?_
   .show (V7 _ (bd 1 most s)).map _=_;unfold fe;cases C:bd 1 most s with
    |none=>rfl
    |some q=>
     have:=bh q C;obtain⟨cu,aJ⟩:=q;subst this;rfl
   .unfold fe at C;cases L:bd 1 most s with
    |none=>rw[L]at C;cases C
    |some an=>
     rw[L]at C;have:=bh an L;obtain⟨cu,aJ⟩:=an;cases C;exact this
  .cases L:bd 1 most s with
   |none=>
    have K:(V7 (λx=>x.2) (bd 1 most s)).map (a8 (decide (32<z)))=σ s':=K;rw[L]at K;cases K
   |some an=>
    have K:(V7 (λx=>x.2) (bd 1 most s)).map (a8 (decide (32<z)))=σ s':=K;rw[L]at K;have dG:=bh an L;obtain⟨cu,aJ⟩:=an;cases K;have cw:=dg L;have h0:=(hU L).1;have eX:=cw.1;refine⟨by show aJ.told=0;rw[cw.eqs.1];exact dr,?_,λy ap=>?_⟩
    .rw[r8];show acc.length+1+aJ.toks.length<=100000;omega
    .rcases o5.1 ap with ap|ap
     .exact ds y ap
     .rw[l9.1 ap,dG];exact⟨h0.1,by unfold ax;have:=h0.2;simp only at*;omega⟩
 .rw[a1];have dH:ae.bind (cL (fe most) n.toNat [])=so.map λs=>(acc,s):=by
   unfold lD at bg;rw[bg];cases so with
   |none=>rfl
   |some s=>
    rcases dq with h|rfl
    .cases h
    .simp only[U8];rfl
  refine OU be b8 b9 aj (λs U=>?_) Ω Ω aq dh λv w' dI dJ J dK dL cz=>?_
  .obtain⟨dM,eY,a3⟩:=cd s U;exact⟨λ_=>by rw[dM];omega,Ω,a3,Ω⟩
  .have dN:(decide ((64:Int)<(t.length:Int)))=decide (64<t.length):=by rw[V9,decide_eq_true_eq,decide_eq_true_eq];omega
   rw[dN]at aY;have dO:=OS (s0:=⟨(lex pl).1,0,false,[]⟩) aY.symm (λq C=>cT q C) bK.symm bH bQ.symm hm bY.symm bS b3.symm hk dH dK;have P:=OW dO Ω;have cA:¬0<=bad↔(lex pl).2=true:=by
    rw[cE];cases (lex pl).2<;>simp
   cases dJ with
   |none=>
    obtain⟨aF,e,rfl⟩:=cz λs U=>by cases U
    exact⟨J,aF,e,λ_=>rfl,λf ag=>by rw[P]at ag;cases ag⟩
   |some s=>
    have P:fp pl=if s.toks=[]/\(lex pl).2=true/\s.big=false then σ ⟨t,k,acc,dI⟩else ν:=P;by_cases G:s.toks=[]/\(lex pl).2=true/\s.big=false
    .rw[if_pos G]at P;obtain⟨rfl,dP⟩:=dL s rfl ⟨G.1,cA.2 G.2.1,G.2.2⟩;exact⟨J,_,_,(λag=>by rw[P]at ag;cases ag),λf ag=>⟨B,rfl,by rw[P]at ag;cases ag;exact dP⟩⟩
    .rw[if_neg G]at P;obtain⟨aF,e,rfl⟩:=cz λs' K aA=>by
      cases K;exact G ⟨aA.1,cA.1 aA.2.1,aA.2.2⟩
     exact⟨J,aF,e,λ_=>rfl,λf ag=>by rw[P]at ag;cases ag⟩
theorem DT{a b:Int}:am x7 II [Δ a,Δ b] w λv w'=>v=Δ (min a b)/\Ext w w':=by
 refine az func215 ?_;rw[aS,al];exact⟨λh=>⟨by congr 1;omega,Ext.refl _⟩,λh=>⟨by congr 1;omega,Ext.refl _⟩⟩
theorem OY{z:iZ}{x:ck}{aL:x1}{t:Λ}(h:gO w z x)(O:(x.lines.map (·.1)).Nodup)(P:aH .i64 w aL t):am x7 Jd [.agg (eY z).toArray,aL,Δ k] w λv w'=>v=Δ (jX x k t)/\Ext w w':=by
 obtain⟨⟨g1,Q⟩,⟨au,R⟩,S,av,L,f,U,G⟩:=id h;refine az func265 ?_;refine bf λW V aw A a=>?_;have a:af V W a7 (eY z):=by
  obtain⟨_,_,_,X⟩:=cU Q.ls;obtain⟨_,_,_,Y⟩:=cU R.ls;obtain⟨_,_,_,_,_,Z,_⟩:=f.sl;simp only[eY,X,Y,Z]at a ⊢;exact a
 have ab:=f.ext A;have ac:L.length=x.lines.length:=by rw[<-G,u9]
 rw[aM a7.p 2 a rfl,aM a7.p 3 a rfl,ea dW.u ab,S];refine b5.range L.length (λi q aa=>Ext V aa/\∃c:Int,q=Δ c/\min c k=lx x k i t) f.le ⟨Ext.refl _,x.other,rfl,(CJ x k t).symm⟩ ?_ ?_
 .rintro i _ aa ad hi ⟨e,c,rfl,r⟩ ae;obtain⟨y,B⟩:=aI (l:=L) hi;obtain⟨gy,H⟩:=U y (x5 B);have C:=A.trans e;have ag:x.lines[i]?=σ (y.t,y.c):=by rw[<-G,x8,B];rfl
  have I:=CL (k:=k) O ag t;refine bH Ω ?_;refine aV (λq J=>Ext V J/\∃c:Int,q=Δ c/\min c k=lx x k (i+1) t) ?_ ?_
  .rintro q J ah;rw[aO];exact ae _ _ ah
  intro aB K;have M:=f.ext C;rw[dj rfl dW.u ca.i M hi,bK ca.p ca.i rfl (M.range B)];refine bo ca.i λap ax ay ai aj=>?_;refine cb (vs:=oz y) ca.i rfl rfl (xr H) aj λak an aA N=>?_;have s:Ext aa ak:=ai.put an Ω;rw[aM ca.p 0 N rfl];refine(xq ((H.ls.ext C).ext s) ((P.ext C).ext s)).mono ?_;rintro _ aC _ ⟨rfl,E⟩;rw[al];refine⟨λhe=>?_,λao=>?_⟩
  .rw[aM ca.p 1 (N.ext E) rfl];refine K _ _ ⟨(e.trans s).trans E,y.c,rfl,?_⟩;rw[I,if_pos he.symm]
  .refine K _ _ ⟨(e.trans s).trans E,c,rfl,?_⟩;rw[I,if_neg λhe=>ao he.symm,r]
 .rintro _ aa ad ⟨e,c,rfl,r⟩;rw[ac,CK]at r;refine ct Ω ?_;refine DT.mono ?_;rintro _ aD _ ⟨rfl,aq⟩;exact⟨by rw[r],(A.trans e).trans aq⟩
theorem OZ{cO:x1}(h:aH .i64 w cO l)(L:l.Nodup)(ag:l.length<=64):am x7 Jc [cO] w λv w'=>Ext w w'/\∃g,av .i64 ah w' g v (bn l)/\∀r,leads v r->w.heap.size<=r:=by
 refine az func264 ?_;have M:∀i,i<=64->(((X3 i).map λ(v:Nat)=>(v:Int)).filter λv=>decide (v∈l)).length<=i:=λi _=>by
  have:=T9 (λv=>decide (v∈l)) ((X3 i).map λ(v:Nat)=>(v:Int));simp at this;omega
 refine b5.range 64 (λi e V=>Ext w V/\∃g,av .i64 ah V g e (((X3 i).map λ(v:Nat)=>(v:Int)).filter λv=>decide (v∈l))/\∀r,leads e r->w.heap.size<=r) Ω ⟨Ext.refl _,0,av.nil _ _ _ _,λr y=>by obtain⟨a,n,c,N,ai⟩:=y;cases N⟩ ?_ ?_
 .rintro i e V k hi ⟨z,g,hm,C⟩ hk;refine bH Ω ?_;rw[aW ay.u (h.ext z)];have O:=M i Ω;generalize P:(((X3 i).map λ(v:Nat)=>(v:Int)).filter λv=>decide (v∈l))=A at hm O;refine b5.range l.length (λj e aa=>Ext w aa/\∃g,av .i64 ah aa g e (A++(if(i:Int)∈l.take j then[(i:Int)]else[]))/\∀r,leads e r->w.heap.size<=r) h.le ⟨z,g,by simpa using hm,C⟩ ?_ ?_
  .rintro j Q aa R S ⟨q,E,f,s⟩ U;obtain⟨x,J⟩:=aI (l:=l) S;refine bH Ω ?_;refine aV (λe B=>Ext w B/\∃g,av .i64 ah B g e (A++(if(i:Int)∈l.take (j+1)then[(i:Int)]else[]))/\∀r,leads e r->w.heap.size<=r) ?_ ?_
   .rintro aj B W;rw[aO];exact U _ _ W
   intro aB K;have G:(i:Int)∈l.take (j+1)↔(i:Int)∈l.take j\/(i:Int)=x:=by
    rw[u7,J,o8,o5,l9]
   rw[bh ay.u ao.i Ψ (h.ext q) J,be,al];refine⟨λhe=>?_,λX=>?_⟩
   .have Y:(i:Int)∉l.take j:=λhm=>by
     obtain⟨p,H⟩:=X7.1 hm;have Z:p<j:=by have:=(x4.1 H).1;rw[n9]at this;omega
     rw[Z9 Z,<-he]at H;have:=kG L H J;omega
    rw[if_neg Y,X5]at f;refine ee (k:=.i64) an.u ah.i rfl λa3 ak B ap I ab=>?_;refine gD an.u ah.i rfl (f.ext I) ab.ls Θ Θ λaq ac au ad ae af=>?_;have aw:=q.size;have z3:=I.size;refine K _ _ ⟨(q.trans I).then af λr y he=>by have:=s r he;omega,ac,?_,λr y=>(ae r y).elim (s r) λh=>Ω⟩;rw[if_pos (G.2 (.inr he.symm))];exact ad
   .refine K _ _ ⟨q,E,?_,s⟩;have:((i:Int)∈l.take (j+1))=((i:Int)∈l.take j):=propext ⟨λaA=>(G.1 aA).resolve_right λhe=>X he.symm,λaA=>G.2 (.inl aA)⟩;simp only[this];exact f
  .rintro Q aa R ⟨q,E,f,s⟩;rw[o7]at f;refine ct Ω ?_;rw[aO];refine hk _ _ ⟨q,E,?_,s⟩;rw[List.range_succ,Z3,List.filter_append,P];by_cases hm:(i:Int)∈l
   .rw[if_pos hm]at f;simpa[hm]using f
   .rw[if_neg hm]at f;simpa[hm]using f
 .rintro e V k ⟨z,g,hm,C⟩;rw[aS,al];exact⟨λh=>Ω,λ_=>⟨z,g,hm,C⟩⟩
structure fx where
 aK:x1
 szv:x1
 a6:x1
 sc:Λ
 cs:Λ
def dn(h:fx):List x1:=[h.aK,h.szv,h.a6]
def pU(h:fx)(r:Nat):Prop:=leads h.a6 r\/leads h.aK r\/leads h.szv r
def fX(w:x3)(sizes:Λ)(h:fx):Prop:=(∃g,av .i64 ah w g h.aK h.sc)/\(∃g,av .i64 ah w g h.szv (bW sizes h.sc))/\∃g,av .i64 ao w g h.a6 h.cs
theorem fX.ext{h:fx}(aA:fX w sizes h)(J:Ext w w'):fX w' sizes h:=by
 obtain⟨⟨g1,h1⟩,⟨a,e⟩,f,p⟩:=aA;exact⟨⟨g1,h1.ext J⟩,⟨a,e.ext J⟩,f,p.ext J⟩
theorem fX.one{h:fx}(aA:fX w sizes h):∀u∈dn h,u.oneCell'=true:=by
 obtain⟨⟨g1,h1⟩,⟨f,a⟩,p,e⟩:=aA;intro u hu;simp[dn]at hu;rcases hu with rfl|rfl|rfl
 .exact h1.ls.cells.2
 .exact a.ls.cells.2
 .exact e.ls.cells.2
theorem DU{f:bY}{x:ck}{ac:iZ}(h:gO w ac x)(aF:e3 N f)(bN:x∈f.funs)(cA:av .i64 ao w gz sv f.sizes):
  am x7 IG [.agg (eY ac).toArray,sv,Δ f.k] w λv w'=>Ext w w'/\∃c:fx,v= .agg (dn c).toArray/\c.sc=bn x.scope/\c.cs=(hV f.sizes f.k x).2/\fX w' f.sizes c/\∀r,pU c r->w.heap.size<=r:=by
 obtain⟨ae,cB,dP⟩:=aF.funs x bN;have ad:=tD ae aF.sizes.2.1;have bO:=tC ad ae.scope.1;have cC:(bn x.scope).length<=6:=by rw[bO.length_eq];exact cB
 have cD:=pK aF bN;have bP:=CA x.scope;obtain⟨⟨g1,aG⟩,⟨dQ,cE⟩,dR,dS,cF⟩:=id h;refine az func212 ?_;refine bf λbd V dT bR ag=>?_;have ag:af V bd a7 (eY ac):=by
  obtain⟨L,cG,_⟩:=cF;obtain⟨_,_,_,E⟩:=cU aG.ls;obtain⟨_,_,_,I⟩:=cU cE.ls;obtain⟨_,_,_,_,_,cH,_⟩:=cG.sl;simp only[eY,E,I,cH]at ag ⊢;exact ag
 refine bo bb.i λbS aa dU bg bi=>?_;have bk:=bR.trans bg;rw[aM a7.p 0 (ag.ext bg) rfl];refine(OZ (aG.ls.ext bk) ae.scope.1 Ω).mono ?_;rintro aK bT _ ⟨aH,gr,bm,cI⟩;rw[cZ (cs:=#[aK,.slice ν 0 0,.slice ν 0 0]) (by obtain⟨_,_,_,rfl⟩:=cU bm.ls;kernel_rfl)];refine bo bb.i λB dV cJ cK cL=>?_;refine cb (vs:=[aK,.slice ν 0 0,.slice ν 0 0]) bb.i rfl rfl (by intro u hu;simp at hu;rcases hu with rfl|rfl;exact bm.ls.cells.2;rfl) cL λJ cM dW W=>?_;have aJ:Ext bT J:=cK.put cM Ω;have bU:=(bk.trans aH).trans aJ;have R:=bm.ext aJ;have bp:=((ag.ext bg).ext aH).ext aJ;have bV:=(bi.ext aH).ext aJ;have dX:=bk.size;have z3:=aH.size;have dY:=bU.size;have dZ:=W.lt;have ea:B=bT.heap.size:=cJ;rw[aM bb.p 0 W rfl,aW an.u R.ls];have bX:∀v∈bn x.scope,0<=v/\v<f.sizes.length:=λv hm=>ae.scope.2 v ((q7 ad).1 hm);have bq:∀{w':x3},ai (λr=>r=B\/J.heap.size<=r) J w'->Ext w w':=λbr=>bU.then br λr s he=>Ω
 have bu:(bW f.sizes (bn x.scope)).length=(bn x.scope).length:=by simp[bW]
 refine ce.range (bn x.scope).length (λi K=>ai (λr=>r=B\/J.heap.size<=r) J K/\∃szv gs,af K B bb [aK,szv,.slice ν 0 0]/\av .i64 ah K gs szv ((bW f.sizes (bn x.scope)).take i)/\∀r,leads szv r->J.heap.size<=r) Ω
  ⟨ai.refl _ _,_,0,W,av.nil _ _ _ _,λr s=>by obtain⟨a,n,c,E,I⟩:=s;cases E⟩ ?_ ?_
 .rintro i K cN hi ⟨M,szv,gs,cO,aj,aN⟩ cP;obtain⟨v,bw⟩:=aI (l:=(bn x.scope)) hi;have ec:=bX v (x5 bw);have cQ:av .i64 ah K gr aK (bn x.scope):=bt R M λr s U=>by
   rcases U with rfl|U
   .exact cc R W Φ s rfl
   .obtain⟨E,I⟩:=bQ R s;omega
  refine bH Ω ?_;rw[bh an.u ah.i Ψ cQ.ls bw];intro ed ak _ _;have bZ:=cO.ext ak;have cR:f.sizes[v.toNat]?=σ (f.sizes.getD v.toNat 0):=by rw[u4,x6 Ω];rfl
  rw[aM bb.p 1 bZ rfl,fN (y:=v) (i:=v.toNat) Ω ay.u ao.i Ψ (cA.ext ((bq M).trans ak)).ls cR];refine ee (k:=.i64) an.u ah.i rfl λef eg cS eh ap cT=>?_;refine⟨.inl ap,?_⟩;have b0:=(aj.ext ak).ext ap;refine gD an.u ah.i rfl b0 cT.ls Θ Θ λcV cW ei aQ cX b1=>?_;have b2:=bZ.ext ap;have b4:=b2.ab b1 λhe=>cc b0 b2 Φ he rfl;rw[aU bb.p rfl];refine bl (g:=B) (o:=1) an.i aQ.ls.cells.1 aQ.ls.cells.2 b4 Ξ λcY b6 ej c0=>?_;rw[aO];have c1:ai (λr=>leads szv r\/r=B) cS cY:=(b1.mono λr _ h=>.inl h).trans (b6.mono λr _ h=>.inr h);have c2:=M.size;have ek:=(ak.trans ap).size;refine cP _ ⟨((M.trans (ak.ab _)).trans (ap.ab _)).trans (c1.mono λr _ h=>h.elim (λh=>.inr (aN r h)) .inl),cV,cW,c0,?_,λr s=>(cX r s).elim (aN r) λh=>Ω⟩;have e:(bW f.sizes (bn x.scope)).take (i+1)=(bW f.sizes (bn x.scope)).take i++[f.sizes.getD v.toNat 0]:=by
   unfold bW;rw[<-List.map_take,<-List.map_take,u7,bw,o8,Z3];rfl
  rw[e];exact bt aQ b6 λr s he=>by
   have he:r=B:=he;subst he;exact cc aQ b4 Φ s rfl
 rintro K cN ⟨M,szv,gs,bx,aj,aN⟩;rw[<-bu,o7]at aj;refine ct Ω ?_;have em:=bq M;have aR:b3 (bW f.sizes (bn x.scope)):=⟨by rw[bu];exact cC,m8 aF.sizes.2.2 bX⟩;have c3:=cD.small;rw[aM bb.p 1 bx rfl];refine(A7 _ aj.ls aR).mono ?_;rintro c4 C _ ⟨aS,b7⟩;have en:=iK aR.2;have eo:=mg aR.2;have ep:aP (bW f.sizes (bn x.scope))<=4096:=c3;rw[jq dx.u b7];have aT:ai (λr=>r=B\/J.heap.size<=r) J C:=M.trans (aS.ab _);have au:=bx.ext aS;have b8:=aj.ext aS;have c2:=M.size;have er:=aS.size;have bz:av .i64 ah C gr aK (bn x.scope):=bt R aT λr s U=>by
  rcases U with rfl|U
  .exact cc R W Φ s rfl
  .obtain⟨E,I⟩:=bQ R s;omega
 have bA:af C bd a7 (eY ac):=bp.ab aT λU=>U.elim (λhe=>by subst he;exact absurd (eb bp W) Φ) λh=>by have:=bp.lt;omega
 have b9:=bV.ab aT λU=>U.elim (λhe=>by have:=bi.lt;omega) λh=>by have:=bV.lt;omega
 have ca:∀{w':x3},ai (λr=>r=B\/C.heap.size<=r) C w'->Ext w w':=λbr=>(bq aT).then br λr s he=>by
  have he:r=B\/C.heap.size<=r:=he;omega
 have es:B<C.heap.size:=au.lt;refine ce.range (bj (bW f.sizes (bn x.scope))).length (λq z=>ai (λr=>r=B\/C.heap.size<=r) C z/\∃a6 aw,af z B bb [aK,szv,a6]/\av .i64 ao z aw a6 (((bj (bW f.sizes (bn x.scope))).take q).map λt=>jX x f.k (px x.scope (bn x.scope) t))/\∀r,leads a6 r->C.heap.size<=r) Ω
  ⟨ai.refl _ _,_,0,au,av.nil _ _ _ _,λr s=>by obtain⟨a,n,c,E,I⟩:=s;cases E⟩ ?_ ?_
 .rintro q z c5 c6 ⟨G,a6,aw,ax,aC,aX⟩ c7;obtain⟨t,aY⟩:∃t,(bj (bW f.sizes (bn x.scope)))[q]?=σ t:=⟨_,x6 c6⟩;have et:t.length=(bn x.scope).length:=by
   have c8:=pu aR.2 (i:=q) Ω;rw[c8]at aY;cases aY;rw[jr,bu]
  have bC:=ca G;have c9:aq.rep (α:=List (Λ)) true (eH K.heap.size) bB z [c4] (bj (bW f.sizes (bn x.scope))):=aq.ab b7 G λr s h U=>by
   rcases h with h|h
   .have h:K.heap.size<=r:=h;have:=bx.lt;rcases U with U|U<;>omega
   .exact h
  have X:∀{O:Nat}{P:x1}{Q:Λ},av .i64 ah C O P Q->av .i64 ah z O P Q:=λhm=>bt hm G λr s U=>by
   rcases U with rfl|U
   .exact cc hm au Φ s rfl
   .obtain⟨E,I⟩:=bQ hm s;omega
  have cd:=X bz;have cg:af z bd a7 (eY ac):=bA.ab G λU=>U.elim (λhe=>by subst he;exact absurd (eb bA au) Φ) λh=>by have:=bA.lt;omega
  refine bH Ω ?_;refine mQ (α:=Λ) rfl rfl dx.u an.i Ψ c9 aY λaL da=>?_;have db:=eG da;rw[aM a7.p 0 cg rfl,aW ay.u (aG.ls.ext bC)];have z12:=G.size;refine b5.range x.scope.length (λp H a1=>Ext z a1/\∃go,av .i64 ao a1 go H ((x.scope.take p).map λv=>t.getD ((bn x.scope).idxOf v) 0)/\∀r,leads H r->z.heap.size<=r) Ω ⟨Ext.refl _,0,av.nil _ _ _ _,λr s=>by obtain⟨a,n,c,E,I⟩:=s;cases E⟩ ?_ ?_
  .rintro p H a1 dc dd ⟨Y,go,aD,ch⟩ de;obtain⟨v,bD⟩:=aI (l:=x.scope) dd;have df:v∈bn x.scope:=bO.mem_iff.2 (x5 bD);refine bH Ω ?_;have dg:=bC.trans Y;have dh:=ax.ext Y;have di:=cd.ext Y;rw[bh ay.u ao.i Ψ (aG.ls.ext dg) bD,aM bb.p 0 dh rfl,aW an.u di.ls];generalize ci:((x.scope.take p).map λv=>t.getD ((bn x.scope).idxOf v) 0)=A at aD;have eu:A.length=p:=by rw[<-ci,u9,n9];omega
   refine b5.range (bn x.scope).length (λj H a2=>Ext z a2/\∃go,av .i64 ao a2 go H (A++if v∈(bn x.scope).take j then[t.getD ((bn x.scope).idxOf v) 0]else[])/\∀r,leads H r->z.heap.size<=r) Ω ⟨Y,go,by simpa using aD,ch⟩ ?_ ?_
   .rintro j dj a2 dk dl ⟨S,bE,Z,aE⟩ dm;obtain⟨u,hu⟩:=aI (l:=(bn x.scope)) dl;have dp:=cd.ext S;refine bH Ω ?_;refine aV (λH bF=>Ext z bF/\∃go,av .i64 ao bF go H (A++if v∈(bn x.scope).take (j+1)then[t.getD ((bn x.scope).idxOf v) 0]else[])/\∀r,leads H r->z.heap.size<=r) ?_ ?_
    .rintro ev bF dq;rw[aO];exact dm _ _ dq
    intro aB cj;have bG:v∈(bn x.scope).take (j+1)↔v∈(bn x.scope).take j\/v=u:=by
     rw[u7,hu,o8,o5,l9]
    rw[bh an.u ah.i Ψ dp.ls hu,be,al];refine⟨λhe=>?_,λbI=>?_⟩
    .have dr:v∉(bn x.scope).take j:=λhm=>by
      obtain⟨ds,bJ⟩:=X7.1 hm;have dt:ds<j:=by have:=(x4.1 bJ).1;rw[n9]at this;omega
      rw[Z9 dt,<-he]at bJ;have:=kG bP bJ hu;omega
     rw[if_neg dr,X5]at Z;have du:t[j]?=σ (t.getD ((bn x.scope).idxOf v) 0):=by
      have:(bn x.scope).idxOf v=j:=q8 bP (by rw[hu,he]);rw[this,u4,x6 (show j<t.length by omega)];rfl
     rw[bh an.u ah.i Ψ (db.ext S) du];refine ee ay.u ao.i rfl λew ey ez eA bL dv=>?_;refine gD ay.u ao.i rfl (Z.ext bL) dv.ls Θ Θ λeB dw eC dy dz dA=>?_;have eD:=S.size;have eE:=bL.size;refine cj _ _ ⟨(S.trans bL).then dA λr s he=>by have:=aE r he;omega,dw,?_,λr s=>(dz r s).elim (aE r) λh=>Ω⟩;rw[if_pos (bG.2 (.inr he.symm))];exact dy
    .refine cj _ _ ⟨S,bE,?_,aE⟩;have:(v∈(bn x.scope).take (j+1))=(v∈(bn x.scope).take j):=propext ⟨λaA=>(bG.1 aA).resolve_right λhe=>bI he.symm,λaA=>bG.2 (.inl aA)⟩;simp only[this];exact Z
   .rintro dj a2 dk ⟨S,bE,Z,aE⟩;rw[o7,if_pos df]at Z;refine ct Ω ?_;rw[aO];refine de _ _ ⟨S,bE,?_,aE⟩;rw[u7,bD,o8,Z3,ci];exact Z
  .rintro H a1 dc ⟨Y,go,aD,ch⟩;rw[o7]at aD;refine ct Ω ?_;intro eF cl _ _;have a8:=Y.trans cl;have dC:=ax.ext a8;have dD:=cg.ext a8;rw[aM bb.p 2 dC rfl,bK a7.p a7.i rfl dD.range];refine(OY (h.ext (bC.trans a8)) ae.lines.1 (aD.ls.ext cl)).mono ?_;rintro _ eI _ ⟨rfl,bM⟩;refine⟨.inl bM,?_⟩;refine ee ay.u ao.i rfl λeJ eK dE eL cm dF=>?_;refine⟨.inl (bM.trans cm),?_⟩;have ba:=(a8.trans bM).trans cm;have cn:=aC.ext ba;refine gD ay.u ao.i rfl cn dF.ls Θ Θ λdG dH eM bc dI cp=>?_;have cq:=ax.ext ba;have cr:=cq.ab cp λhe=>cc cn cq Φ he rfl;rw[aU bb.p rfl];refine bl (g:=B) (o:=2) ay.i bc.ls.cells.1 bc.ls.cells.2 cr Ξ λdJ cu eN dK=>?_;rw[aO];have dL:ai (λr=>leads a6 r\/r=B) dE dJ:=(cp.mono λr _ h=>.inl h).trans (cu.mono λr _ h=>.inr h);have eO:=ba.size;refine c7 _ ⟨(G.trans (ba.ab _)).trans (dL.mono λr _ h=>h.elim (λh=>.inr (aX r h)) .inl),dG,dH,dK,?_,λr s=>(dI r s).elim (aX r) λh=>Ω⟩;rw[u7,aY,o8,Z3];exact bt bc cu λr s he=>by
    have he:r=B:=he;subst he;exact cc bc cr Φ s rfl
 .rintro z c5 ⟨G,a6,aw,ax,aC,aX⟩;rw[o7]at aC;refine ct Ω ?_;have X:∀{O:Nat}{P:x1}{Q:Λ},av .i64 ah C O P Q->av .i64 ah z O P Q:=λhm=>bt hm G λr s U=>by
   rcases U with rfl|U
   .exact cc hm au Φ s rfl
   .obtain⟨E,I⟩:=bQ hm s;omega
  let c:fx:=⟨aK,szv,a6,bn x.scope,(hV f.sizes f.k x).2⟩;have dM:fX z f.sizes c:=⟨⟨gr,X bz⟩,⟨gs,X b8⟩,aw,aC⟩;rw[bK bb.p bb.i rfl (show z.rangeAt B 0 (dn c)from ax.range)];have cw:=b9.ab G λU=>U.elim (λhe=>by have:=bi.lt;omega) λh=>by have:=b9.lt;omega
  refine cb (vs:=dn c) bb.i rfl rfl dM.one cw λdN cz eP dO=>?_;rw[fO bb.p bb.i rfl dO.range];have aZ:∀{O:Nat}{P:x1}{Q:Λ}{e:p8},e≠bb->av .i64 e z O P Q->av .i64 e dN O P Q:=λbI hm=>bt hm cz λr s he=>by
   have he:r=bS:=he;exact cc hm cw bI s he
  refine⟨(ca G).then cz λr s he=>by have he:r=bS:=he;have:=bR.size;omega,c,rfl,rfl,rfl,⟨⟨gr,aZ Φ (X bz)⟩,⟨gs,aZ Φ (X b8)⟩,aw,aZ Φ aC⟩,λr s=>?_⟩;rcases s with s|s|s
  .have:=aX r s;omega
  .have:=cI r s;omega
  .have:=aN r s;omega
theorem DV{h:fx}{g:Nat}(e:fX w sizes h)(a:af w' g bb (x1.agg (dn h).toArray).cells.toList):af w' g bb (dn h):=by
 obtain⟨⟨g1,h1⟩,⟨x,f⟩,y,p⟩:=e;obtain⟨_,_,_,q⟩:=cU h1.ls;obtain⟨_,_,_,r⟩:=cU f.ls;obtain⟨_,_,_,s⟩:=cU p.ls;simp only[dn,q,r,s]at a ⊢;exact a
theorem O0{a b:fx}(Q:fX w sizes a)(R:fX w sizes b)(W:jx a.sc)(X:jx b.sc):am x7 zW [.agg (dn a).toArray,.agg (dn b).toArray] w λv w'=>v= .bool (decide (dd a.sc<dd b.sc))/\Ext w w':=by
 obtain⟨⟨ga,S⟩,_⟩:=id Q;obtain⟨⟨av,Y⟩,_⟩:=id R;have H:=(wP W X).1;refine az func213 ?_;refine bf λg1 V aw Z I=>?_;refine bf λab aa ax U L=>?_;have I:=(DV Q I).ext U;have L:=DV R L;have q:=Z.trans U;have r:=S.ls.ext q;have A:=Y.ls.ext q;have s:∀{w':x3},Ext aa w'->∀{K:x1->Prop},ac x7 (u6 bb (Γ g1) 0) w' (λt=>ac x7 (u5 an t) w' K)=K a.aK:=λJ K=>by
  rw[aM bb.p 0 (I.ext J) rfl]
 have B:∀{w':x3},Ext aa w'->∀{K:x1->Prop},ac x7 (u6 bb (Γ ab) 0) w' (λt=>ac x7 (u5 an t) w' K)=K b.aK:=λJ K=>by
  rw[aM bb.p 0 (L.ext J) rfl]
 rw[s (Ext.refl _),aW an.u r,B (Ext.refl _),aW an.u A,bD,al];refine⟨λad=>?_,λae=>?_⟩
 .rw[s (Ext.refl _),aW an.u r,B (Ext.refl _),aW an.u A,aS];refine⟨?_,q⟩;congr 1;rw[V9,decide_eq_true_eq,decide_eq_true_eq,H];exact⟨λh=>.inl Ω,λh=>by rcases h with h|h<;>omega⟩
 have af:a.sc.length=b.sc.length:=by have:=Y0.1 ae;omega
 rw[s (Ext.refl _),aW an.u r];refine b5.range a.sc.length (λi _ M=>Ext aa M/\∀(j:Nat)(x y:Int),j<i->a.sc[j]?=σ x->b.sc[j]?=σ y->x=y) S.ls.le ⟨Ext.refl _,λj x y ag=>Ω⟩ ?_ ?_
 .rintro i _ M k hi ⟨N,C⟩ hk;obtain⟨x,J⟩:=aI (l:=a.sc) hi;obtain⟨y,E⟩:=aI (l:=b.sc) (i:=i) Ω;have e:gd a.sc b.sc=gd (a.sc.drop i) (b.sc.drop i):=tP C Ω Ω;have ai:a.sc.drop i=x::a.sc.drop (i+1):=by rw[W3 hi,(x4.1 J).2]
  have aj:b.sc.drop i=y::b.sc.drop (i+1):=by rw[W3 (show i<b.sc.length by omega),(x4.1 E).2]
  rw[ai,aj]at e;simp only[gd]at e;refine bH Ω ?_;intro ay ak _ _;have f:=N.trans ak;rw[s f,bh an.u ah.i Ψ (r.ext f) J,B f,bh an.u ah.i Ψ (A.ext f) E,bD,al];refine⟨λad=>?_,λhe=>?_⟩
  .intro aA ao _ _;have z:=f.trans ao;rw[s z,bh an.u ah.i Ψ (r.ext z) J,B z,bh an.u ah.i Ψ (A.ext z) E,aS];refine⟨?_,q.trans z⟩;congr 1;rw[V9,decide_eq_true_eq,decide_eq_true_eq,H,e];by_cases G:x<y
   .rw[if_pos G];exact⟨λ_=>.inr ⟨af,Ω⟩,λ_=>G⟩
   .rw[if_neg G,if_pos (show y<x by omega)];exact⟨λh=>absurd h G,λh=>by rcases h with h|h<;>omega⟩
  .rw[aO];refine hk _ _ ⟨f,λj ap aq ag O P=>?_⟩;by_cases au:j=i
   .subst au;rw[J]at O;rw[E]at P;cases O;cases P;exact Y0.1 he
   .exact C j ap aq Ω O P
 .rintro _ M k ⟨N,C⟩;rw[aS,al];refine⟨λh=>Ω,λ_=>⟨?_,q.trans N⟩⟩;congr 1;symm;rw[decide_eq_false_iff_not,H];have e:gd a.sc b.sc=gd (a.sc.drop a.sc.length) (b.sc.drop a.sc.length):=tP C (o4 _) Ω;rw[List.drop_length,show b.sc.drop a.sc.length=[]from List.drop_eq_nil_of_le Ω]at e;rw[e];simp only[gd];omega
def du(h:fx):cM:=(h.sc,h.cs)
def kP(w:x3)(B g:Nat)(v:x1)(sizes:Λ)(L:List fx):Prop:=bi dn 3 bb w g v L/\(∀h∈L,fX w sizes h/\∀r,pU h r->B<=r)/\(∀(i j:Nat)x y,L[i]?=σ x->L[j]?=σ y->i≠j->∀r,leads x.a6 r->¬leads y.a6 r)/\∀r,leadsTo v r->B<=r
theorem ng{h:fx}(z:fX w sizes h)(s:ai S w w')(x:∀r,S r->(∃e c,af w r e c/\e≠ah/\e≠ao)\/w.heap.size<=r\/((∃c,af w r ao c)/\¬leads h.a6 r)):fX w' sizes h:=by
 obtain⟨⟨g1,h1⟩,⟨A,B⟩,C,p⟩:=z;have y:∀{g:Nat}{v:x1}{l:Λ},av .i64 ah w g v l->av .i64 ah w' g v l:=λhm=>bt hm s λr a U=>by
  rcases x r U with⟨e,c,f,q,_⟩|E|⟨⟨c,f⟩,_⟩
  .exact cc hm f (λhe=>q he.symm) a rfl
  .obtain⟨F,G⟩:=bQ hm a;omega
  .exact cc hm f Φ a rfl
 refine⟨⟨g1,y h1⟩,⟨A,y B⟩,C,bt p s λr a U=>?_⟩;rcases x r U with⟨e,c,f,_,q⟩|E|⟨_,H⟩
 .exact cc p f (λhe=>q he.symm) a rfl
 .obtain⟨F,G⟩:=bQ p a;omega
 .exact H a
theorem kP.ext{g:Nat}{L:List fx}(h:kP w B g v sizes L)(J:Ext w w'):kP w' B g v sizes L:=⟨h.1.ext J,λx a=>⟨(h.2.1 x a).1.ext J,(h.2.1 x a).2⟩,h.2.2⟩
section
variable{α:Type}{f:α->List x1}{k:Nat}{P:W8}{w:x3}{e:p8}{g:Nat}{v:x1}{L:List α}
theorem O1{M:List α}(h:bi f k e w g v L)(ag:L.map f=M.map f):bi f k e w g v M:=by
 have p:L.length=M.length:=by have:=congrArg S5 ag;simpa using this
 have hm:L.flatMap f=M.flatMap f:=by rw[List.flatMap_def,List.flatMap_def,ag]
 refine⟨by rw[<-p,<-hm];exact h.1,λa q=>?_⟩;obtain⟨b,r,he⟩:=j5.1 (show f a∈L.map f by rw[ag];exact j5.2 ⟨a,q,rfl⟩);rw[<-he];exact h.2 b r
theorem DW{b l h':Nat}{low high:Option x1}(s:P.underlying t=σ (.slice e))(hi:aR P e k b z)(h:bi f k e w g v L)(h1:ma low l)(x:mb high L.length h')(q:l<=h')(aA:h'<=L.length)(y:∀r,(∀w',bi f k e w' g v L->ci w' k r ((L.drop l).take (h'-l)).length (((L.drop l).take (h'-l)).flatMap f))->K r):ac P (U3 t v low high ν) w K:=by
 have A:=h.sl;obtain⟨_,C,o,base,cap,rfl,E,_⟩:=A;rw[gW s hi h1 x fc q Ω (o4 _)];refine y _ λw' p=>?_;have:=ci.part (l:=l) (h:=h') (m:=cap) p.sl q aA Ω (o4 _);rw[ts l p.2,pD (h'-l) (λa B=>p.2 a (List.mem_of_mem_drop B))]at this;have el:((L.drop l).take (h'-l)).length=h'-l:=by rw[n9,List.length_drop];omega
 rw[el];exact this
theorem uf{O:p8}{b:Nat}{x:x1}{M:List α}{K:x1->x3->Prop}(A:P.underlying t=σ (.slice e))(hi:aR P e k b z)(G:z.cells.size=k)(h:bi f k e w g v L)(J:ci w k x M.length (M.flatMap f))(Q:∀a∈M,(f a).length=k)(h1:∀a∈M,∀u∈f a,u.oneCell'=true)(B:(L.length+M.length)*b<=140737488355328)(H:L.length+M.length<=9223372036854775807)(I:∀p q w',bi f k e w' q p (L++M)->(∀r,leadsTo p r->leadsTo v r\/w.heap.size<=r)->ai (λr=>leadsTo v r) w w'->K p w'):aD P (Z2 #[t,t] O #[v,x]) w K:=by
 have N:∀u∈M.flatMap f,u.oneCell'=true:=λu hu=>by
  obtain⟨a,R,hu⟩:=R2.1 hu;exact h1 a R u hu
 have C:∀p q w',bX w' q e k p (L.length+M.length) (L.flatMap f++M.flatMap f)->bi f k e w' q p (L++M):=λp q w' hm=>⟨by simpa using hm,λb B=>by
  rcases o5.1 B with h'|h'
  .exact h.2 b h'
  .exact Q b h'⟩
 rcases h.1.2 with⟨ad,S⟩|⟨cap,cs,ad,T,_⟩
 .have hm:bX w w.heap.size e k v L.length (L.flatMap f):=⟨h.1.1,.inl ⟨ad,S⟩⟩;subst ad;refine nX A A hi G hm J N (by simpa using B) (by simpa[maxLen]using H) λp q w' E s F=>I p q w' (C _ _ _ s) (λr y=>.inr ?_) (F.mono λr y h=>Ω);have:=((C _ _ _ s).leads y).1;omega
 .refine nX A A hi G h.1 J N (by simpa using B) (by simpa[maxLen]using H) λp q w' E s F=>I p q w' (C _ _ _ s) (λr y=>?_) (F.mono λr y h=>⟨_,_,_,ad,h.symm⟩);have:=((C _ _ _ s).leads y).1;rcases E with E|E
  .exact .inl ⟨_,_,_,ad,by show g=r;omega⟩
  .exact .inr Ω
theorem O2{b:Nat}{K:x1->x3->Prop}(a:P.underlying t=σ (.slice e))(hi:aR P e k b z)(h:∀v g w',g=w.heap.size->Ext w w'->bi f k e w' g v []->K v w'):aD P (Y3 t 0 #[]) w K:=
 kw a hi Ω (cs:=#[]) (by simp[Instr.fill]) λg w' p q r=>by
  exact h _ g w' p q ⟨by simpa using bX.full (k:=k) (n:=0) r Ξ (by simp[maxLen]),λc s=>by cases s⟩
end
theorem xu{α:Type}{A B:List α}{s:Nat}{a:α}(U:s<B.length)(e:A[s]?=σ a):(A.take s++B.drop s).set s a=A.take (s+1)++B.drop (s+1):=by
 have f:=(x4.1 e).1;have h1:(A.take s).length=s:=by rw[n9];omega
 rw[T8 _ _ Ω,h1,U8,W3 U,List.set_cons_zero,u7,e,o8,Y6];rfl
theorem DX{α:Type}{A B:List α}{s:Nat}(U:s<=A.length):(A.take s++B.drop s)[s]?=B[s]?:=by
 have h1:(A.take s).length=s:=by rw[n9];omega
 rw[X0 Ω,h1,U8,List.getElem?_drop,Nat.add_zero]
theorem DY{g:cM}:∀{l:List cM}{i:Nat},(∀p<i,∀x,l[p]?=σ x->dd x.1<dd g.1)->i<=l.length->(∀x,l[i]?=σ x->¬dd x.1<dd g.1)->hB g l=l.take i++g::l.drop i
 |[],i,_,a,_=>by
  have:i=0:=by simpa using a
  subst this;rfl
 |x::l,0,_,_,e=>by
  unfold hB;rw[if_neg (e x rfl)];rfl
 |x::l,i+1,h1,a,e=>by
  unfold hB;rw[if_pos (h1 0 Ω x rfl),DY (i:=i) (λp h y f=>h1 (p+1) Ω y f) (by simpa using a) (λy f=>e y f)];rfl
theorem O3{g:Nat}{L:List fx}{h:fx}{s:Nat}{K:Unit->x3->Prop}(f:kP w B g v sizes L)(F:L[j]?=σ h)(U:s<h.cs.length)(X:∀w',ai (λr=>leads h.a6 r) w w'->(∀r,leads h.a6 r->∃c,af w r ao c)->kP w' B g v sizes (L.set j {h with cs:=h.cs.set s n})->K () w'):
  ac x7 (c9 ay h.a6 (Δ (s:Int))) w λt=>aD x7 (o9 ao t (Δ n)) w K:=by
 obtain⟨h1,O,P,Y⟩:=f;have M:=(x4.1 F).1;obtain⟨Q,Z⟩:=O h (x5 F);obtain⟨_,_,R,G⟩:=id Q;have H:∀r,leads h.a6 r->∃c,af w r ao c:=λr f=>by
  obtain⟨rfl,_⟩:=bQ G f;obtain⟨_,⟨ad,_⟩|⟨cap,full,_,A,_⟩⟩:=G
  .obtain⟨a,n,c,e,_⟩:=f;rw[ad]at e;cases e
  .exact⟨_,A⟩
 have aa:∀r,r=R->leads h.a6 r:=λr he=>by
  subst he;obtain⟨_,⟨_,ax⟩|⟨cap,full,e,A,_⟩⟩:=G
  .omega
  .exact⟨_,_,_,e,rfl⟩
 rw[hx rfl ay.u ao.i G U];refine hy ao.i G U λw' C az ae=>?_;have C:=C.mono (T:=λr=>leads h.a6 r) λr _ he=>aa r he;refine X w' C H ⟨?_,λx J=>?_,λp q x y J ag ah r aj ak=>?_,Y⟩
 .refine O1 (h1.ab C λr f U=>?_) ?_
  .obtain⟨c,A⟩:=H r U;exact cR h1 A Φ f
  .rw[U9];symm;refine Y5 λp=>?_;rw[X2,x8];by_cases z:j=p
   .subst z;rw[if_pos rfl,if_pos (by simpa using M),F];rfl
   .rw[if_neg z]
 .have al:x={h with cs:=h.cs.set s n}\/∃p,p≠j/\L[p]?=σ x:=by
   obtain⟨p,z⟩:=X7.1 J;rw[X2]at z;by_cases E:j=p
   .subst E;rw[if_pos rfl,if_pos M]at z;exact .inl (Z0 z).symm
   .rw[if_neg E]at z;exact .inr ⟨p,λh=>E h.symm,z⟩
  rcases al with rfl|⟨p,am,z⟩
  .obtain⟨⟨g1,S⟩,⟨an,V⟩,_⟩:=Q;refine⟨⟨⟨g1,bt S C λr f U=>?_⟩,⟨an,bt V C λr f U=>?_⟩,R,ae⟩,Z⟩
   .obtain⟨c,A⟩:=H r U;exact cc S A Φ f rfl
   .obtain⟨c,A⟩:=H r U;exact cc V A Φ f rfl
  .obtain⟨ap,aq⟩:=O x (x5 z);refine⟨ng ap C λr f=>.inr (.inr ⟨H r f,λN=>P p j x h z F am r N f⟩),aq⟩
 .have W:∀{p:Nat}{x:fx},(L.set j {h with cs:=h.cs.set s n})[p]?=σ x->∃I,L[p]?=σ I/\I.a6=x.a6:=λ{p x}J=>by
   rw[X2]at J;by_cases E:j=p
   .subst E;rw[if_pos rfl,if_pos M]at J;cases J;exact⟨h,F,rfl⟩
   .rw[if_neg E]at J;exact⟨x,J,rfl⟩
  obtain⟨I,N,ex⟩:=W J;obtain⟨au,av,aw⟩:=W ag;exact P p q I au N av ah r (by rw[ex];exact aj) (by rw[aw];exact ak)
def lE(f:bY)(j:Nat):List cM:=(((ff f).take j).filter ft).foldl (λl g=>hB g l) []
theorem DZ{f:bY}{x:cM}(h:(ff f)[j]?=σ x):lE f (j+1)=if ft x then hB x (lE f j)else lE f j:=by
 unfold lE;rw[u7,h,o8,List.filter_append,List.foldl_append];cases U:ft x with
 |true=>rw[List.filter_cons_of_pos U];rfl
 |false=>rw[List.filter_cons_of_neg (by simp[U])];rfl
theorem O4(f:bY):lE f (ff f).length=fu f:=by unfold lE fu;rw[o7]
theorem D0(g:cM):∀l,(hB g l).length=l.length+1
 |[]=>rfl
 |h::l=>by
  unfold hB;split
  .rw[j9,D0 g l,j9]
  .rfl
theorem O5{f:bY}(e:j<=(ff f).length):(lE f j).length<=j:=by
 induction j with
 |zero=>simp[lE]
 |succ j a=>
  have:=a Ω;rw[DZ (x:=(ff f)[j]) (x6 Ω)];split
  .rw[D0];omega
  .omega
theorem O6{g:Nat}{l:x1}{f:bY}{L:List fx}{Q:x1->x3->Prop}(az:e3 N f)(z:kP w B g l f.sizes L)(aC:L.map du=ff f)(bP:∀out w' go s,Ext w w'->bi dn 3 bb w' go out s->(∀h∈s,h∈L)->(∀h∈s,fX w' f.sizes h)->s.map du=fu f->(∀r,leadsTo out r->w.heap.size<=r)->Q out w'):
  ac x7 (V2 #[cW] ah #[l]) w λbQ=>
 b5 (.slice ν 0 0) (Δ 0) w λout aE P bR=>
  ac x7 (aN .lss ah false false aE bQ) P λbS=>
  Split bS (cz (α:=x1->x3->Prop) (λ(bV:x1)(R:x3)=>
   ac x7 (aN .add ah false true aE (Δ 1)) R λbW=>
   bR bV bW R) λbe=>
  ac x7 (c9 cW l aE) P λbX=>
  ac x7 (u5 bb bX) P λb0=>
  aD x7 (Instr.alloc bb true (.tuple #[])) P λak bf=>
  aD x7 (o9 bb ak b0) bf λ(_:Unit)I=>
  ac x7 (u6 bb ak 2) I λb1=>
  ac x7 (u5 ay b1) I λbg=>
  ac x7 (V2 #[ay] ah #[bg]) I λb2=>
  b5 (.bool false) (Δ 0) I λbj aF A b3=>
   ac x7 (aN .lss ah false false aF b2) A λb4=>
   Split b4 (cz (α:=x1->x3->Prop) (λ(b6:x1)(Y:x3)=>
    ac x7 (aN .add ah false true aF (Δ 1)) Y λb7=>
    b3 b6 b7 Y) λbk=>
   ac x7 (c9 ay bg aF) A λb8=>
   ac x7 (u5 ao b8) A λb9=>
   Split bj (bk (.bool true) A)
    (ac x7 (aN .gtr ao false true b9 (Δ 0)) A λca=>
   bk ca A))
    (ac x7 (Op.unary .not bj) A λcc=>
  Split cc (be out A)
   (ce (Δ 0) A λi an cd=>
   cz (α:=x1->x3->Prop) (λ(cg:x1)(S:x3)=>
    Split cg (ac x7 (aN .add ah false true i (Δ 1)) S λch=>
   cd ch S)
     (er S λE=>
  ac x7 (u5 bb ak) E λci=>
  ac x7 (U3 cW out (σ i) ν ν) E λbl=>
  aD x7 (Y3 cW 1 #[(0,ci)]) E λcj Z=>
   (Ext E Z\/cD x7 (U3 cW out (σ i) ν ν) bl Z/\True)/\
  aD x7 (Z2 #[cW,cW] cW #[cj,bl]) Z λck aG=>
   aD x7 (Y3 cW 0 #[]) aG λcl ap=>
  ac x7 (U3 cW out ν (σ i) ν) ap λcm=>
  aD x7 (Z2 #[cW,cW] cW #[cl,cm]) ap λcn aH=>
  aD x7 (Z2 #[cW,cW] cW #[cn,ck]) aH λcp aJ=>
  be cp aJ)) λbm=>
   er an λG=>
   ac x7 (V2 #[cW] ah #[out]) G λcq=>
   ac x7 (aN .lss ah false false i cq) G λcr=>
   Split cr (ac x7 (c9 cW out i) G λcu=>
   ac x7 (u5 bb cu) G λcw=>
   ac x7 (u5 bb ak) G λcA=>
   am x7 zW [cw,cA] G λcB bn=>
    bm cB bn)
    (bm (.bool false) G))))
   (Q out P):=by
 have cC:L.length=(ff f).length:=by rw[<-aC,u9]
 have di:L.length<=256:=by have:=(kJ az).2.2;have:=az.ln;omega
 have bp:=(kJ az).1;rw[ea cW.u z.1];refine b5.range L.length (λj out V=>∃go s,Ext w V/\bi dn 3 bb V go out s/\(∀h∈s,h∈L)/\s.map du=lE f j/\∀r,leadsTo out r->w.heap.size<=r) z.1.le
  ⟨0,[],Ext.refl _,bi.nil _ _ _ _ _,λh aA=>(by cases aA),rfl,λr z=>(e4 z).elim⟩ ?_ ?_
 rotate_left
 .rintro out V cE ⟨go,s,bq,aa,K,ad,aK⟩;rw[aS,al];refine⟨λh=>Ω,λ_=>bP _ _ go s bq aa K (λh aA=>((z.ext bq).2.1 h (K h aA)).1) ?_ aK⟩;rw[ad,cC,O4]
 rintro j out P cE br ⟨go,s,aq,aa,K,ad,aK⟩ cF;obtain⟨h,aA⟩:=aI (l:=L) br;have hm:(ff f)[j]?=σ (du h):=by rw[<-aC,x8,aA];rfl
 have cG:=bp _ (x5 hm);have dk:s.length<=256:=by
  have:=O5 (f:=f) (j:=j) Ω;rw[<-ad,u9]at this;omega
 have ae:=z.ext aq;obtain⟨aP,_⟩:=ae.2.1 h (x5 aA);obtain⟨_,_,dl,cH⟩:=id aP;refine bH Ω ?_;refine aV (λaQ R=>∃aR af,Ext w R/\bi dn 3 bb R aR aQ af/\(∀h∈af,h∈L)/\af.map du=lE f (j+1)/\∀r,leadsTo aQ r->w.heap.size<=r) ?_ ?_
 .rintro aQ R ⟨aR,af,h1,cI,cJ,cK,cL⟩;rw[aO];exact cF _ _ ⟨aR,af,h1,cI,cJ,cK,cL⟩
 intro aB ai;rw[dj rfl cW.u bb.i ae.1 br,bK bb.p bb.i rfl (ae.1.range aA)];refine bo bb.i λbt bf dm cM cN=>?_;refine cb (vs:=dn h) bb.i rfl rfl aP.one cN λI cO dp bu=>?_;have bw:Ext P I:=cM.put cO Ω;have aT:=cH.ext bw;rw[aM bb.p 2 bu rfl,aW ay.u aT.ls];refine b5.range h.cs.length (λq sv A=>Ext I A/\sv= .bool ((h.cs.take q).any λc=>decide (0<c))) aT.ls.le ⟨Ext.refl _,rfl⟩ ?_ ?_
 .rintro q _ A cP cQ ⟨W,rfl⟩ cR;obtain⟨c,bx⟩:=aI (l:=h.cs) cQ;have e:(h.cs.take (q+1)).any (λc=>decide (0<c))=((h.cs.take q).any (λc=>decide (0<c))||decide (0<c)):=by
   rw[u7,bx,o8,List.any_append];simp
  refine bH Ω ?_;refine aV (λsv Y=>Ext I Y/\sv= .bool ((h.cs.take (q+1)).any λc=>decide (0<c))) ?_ ?_
  .rintro _ Y ⟨cS,rfl⟩;rw[aO];exact cR _ _ ⟨cS,rfl⟩
  intro aB ai;rw[bh ay.u ao.i Ψ (aT.ext W).ls bx,bZ];refine⟨λcT=>ai _ _ ⟨W,by rw[e,cT];rfl⟩,λag=>?_⟩;rw[bN];exact ai _ _ ⟨W,by rw[e,ag];rfl⟩
 rintro _ A cP ⟨W,rfl⟩;have bz:=bu.ext W;have O:=bw.trans W;rw[o7];refine ct Ω ?_;rw[bE,bZ];have au:=DZ hm;have cU:(h.cs.any λc=>decide (0<c))=ft (du h):=rfl;rw[cU];refine⟨λaU=>?_,λU=>?_⟩
 .have aU:ft (du h)=false:=by simpa using aU
  rw[aU]at au;exact ai _ _ ⟨go,s,aq.trans O,aa.ext O,K,by rw[ad,au];rfl,aK⟩
 have U:ft (du h)=true:=by simpa using U
 rw[U,if_pos rfl]at au;refine⟨λaX an=>∃i:Nat,aX=Δ (i:Int)/\i<=s.length/\Ext A an/\∀p<i,∀x,s[p]?=σ x->dd x.sc<dd h.sc,λaX _=>s.length-(bU aX).toNat,⟨0,rfl,X6 _,Ext.refl _,λp aY=>Ω⟩,?_⟩;rintro _ an ⟨i,rfl,hi,cV,aZ⟩;refine aV (λaL S=>Ext A S/\((aL= .bool true/\i<s.length/\∀x,s[i]?=σ x->dd x.sc<dd h.sc)\/(aL= .bool false/\∀x,s[i]?=σ x->¬dd x.sc<dd h.sc))) ?_ ?_
 rotate_left
 .intro dq a2;intro G cX _ _;have X:=cV.trans cX;have a6:=aa.ext (O.trans X);rw[ea cW.u a6,aS,al];refine⟨λaZ=>?_,λdr=>a2 _ _ ⟨X,.inr ⟨rfl,λx J=>absurd (x4.1 J).1 Ω⟩⟩⟩;obtain⟨x,J⟩:=aI (l:=s) (i:=i) Ω;have bA:=K x (x5 J);have cY:jx x.sc:=(bp (du x) (by rw[<-aC];exact j5.2 ⟨x,bA,rfl⟩)).scope;have bB:=ae.ext (O.trans X);rw[dj rfl cW.u bb.i a6 Ω,bK bb.p bb.i rfl (a6.range J),bK bb.p bb.i rfl (show G.rangeAt bt 0 (dn h)from(bz.ext X).range)];refine(O0 (bB.2.1 x bA).1 (bB.2.1 h (x5 aA)).1 cY cG.scope).mono ?_;rintro _ bn _ ⟨rfl,bC⟩;by_cases av:dd x.sc<dd h.sc
  .rw[decide_eq_true av];exact a2 _ _ ⟨X.trans bC,.inl ⟨rfl,Ω,λy C=>by rw[J]at C;cases C;exact av⟩⟩
  .rw[decide_eq_false av];exact a2 _ _ ⟨X.trans bC,.inr ⟨rfl,λy C=>by rw[J]at C;cases C;exact av⟩⟩
 rintro _ S ⟨bD,⟨rfl,ds,cZ⟩|⟨rfl,c0⟩⟩
 .rw[bT,aO,wrap_i64 Ω Ω];refine⟨⟨i+1,rfl,Ω,bD,λp aY x J=>?_⟩,by simp only[bU];omega⟩;by_cases c1:p=i
  .subst c1;exact cZ x J
  .exact aZ p Ω x J
 .rw[a1];intro E c2 _ _;have aj:=bD.trans c2;have aw:=aa.ext (O.trans aj);have c3:=ae.ext (O.trans aj);have a7:∀x∈s,∀u∈dn x,u.oneCell'=true:=λx J=>(c3.2.1 x (K x J)).1.one;have c4:∀u∈dn h,u.oneCell'=true:=aP.one;rw[bK bb.p bb.i rfl (show E.rangeAt bt 0 (dn h)from(bz.ext aj).range)];refine DW (h':=s.length) cW.u bb.i aw (nT i _ rfl) jl hi (o4 _) λdt bF=>?_;refine hD (f:=dn) (k:=3) (a:=h) cW.u bb.i Ω rfl rfl λdv dw Z dx a8 bG=>?_;refine⟨.inl a8,?_⟩;have c5:(s.drop i).take (s.length-i)=s.drop i:=j6 (by rw[List.length_drop];omega);rw[c5]at bF;refine uf (M:=s.drop i) cW.u bb.i rfl bG (bF Z (aw.ext a8)) (λ_ _=>rfl) (λa H=>a7 a (List.mem_of_mem_drop H)) Θ Θ λdy dz aG ba dA c6=>?_;have bI:Ext E aG:=a8.then c6 λr z he=>by have:=(bG.leads he).1;omega
  refine O2 (f:=dn) (k:=3) cW.u bb.i λdC dD ap dE bc ax=>?_;have bd:=bI.trans bc;refine DW (h':=i) cW.u bb.i (aw.ext bd) jk (nU i _ rfl) (X6 _) hi λdF bJ=>?_;rw[List.drop_zero,Nat.sub_zero]at bJ;refine uf (M:=s.take i) cW.u bb.i rfl ax (bJ ap (aw.ext bd)) (λ_ _=>rfl) (λa H=>a7 a (S0 H)) Θ Θ λc7 dG aH c8 da bL=>?_;have dH:=bI.size;have dI:=bc.size;have db:=(ba.ext bc).ab bL λr z U=>by have:=(ba.leads z).1;have:=(ba.leads z).2;have:=(ax.leads U).1;omega
  refine uf (M:=[h]++s.drop i) cW.u bb.i rfl c8 db.sl (λ_ _=>rfl) (λa H=>?_) Θ Θ λdJ dc aJ de df dg=>?_
  .rcases o5.1 H with H|H
   .rw[l9.1 H];exact c4
   .exact a7 a (List.mem_of_mem_drop H)
  have bM:Ext E aH:=bd.then bL λr z he=>by have:=(ax.leads he).1;omega
  have bO:∀r,leadsTo c7 r->E.heap.size<=r:=λr z=>(da r z).elim (λh=>by have:=(ax.leads h).1;omega) λh=>Ω
  have dh:Ext E aJ:=bM.then dg λr z he=>by have:=bO r he;omega
  have dK:=(aq.trans (O.trans aj)).size;have dL:=bM.size;refine ai _ _ ⟨dc,_,(aq.trans (O.trans aj)).trans dh,de,λx J=>?_,?_,λr z=>(df r z).elim (λh=>by have:=bO r h;omega) λh=>Ω⟩
  .rcases o5.1 J with J|J
   .exact K x (S0 (by simpa using J))
   .rcases o5.1 J with J|J
    .rw[l9.1 J];exact x5 aA
    .exact K x (List.mem_of_mem_drop J)
  .rw[au,<-ad,DY (i:=i) (λp aY x J=>?_) (by simpa using hi) (λx J=>?_)]
   .simp
   .rw[x8]at J;cases C:s[p]? with
    |none=>rw[C]at J;cases J
    |some y=>rw[C]at J;cases J;exact aZ p aY y C
   .rw[x8]at J;cases C:s[i]? with
    |none=>rw[C]at J;cases J
    |some y=>rw[C]at J;cases J;exact c0 y C
def O7(w:x3)(f:bY)(v:x1)(w':x3):Prop:=Ext w w'/\∃go a,bi dn 3 bb w' go v a/\(∀h∈a,fX w' f.sizes h/\∀r,pU h r->w.heap.size<=r)/\a.map du=fu f/\∀r,leadsTo v r->w.heap.size<=r
def lF(k:Int)(sc cs:Λ)(h:cM):cM:=if h.1=sc then(h.1,dV k h.2 cs)else h
theorem O8{bJ:Nat}{f:bY}(cH:oB w bJ f)(Q:e3 N f):am x7 HM [Γ bJ] w (O7 w f):=by
 have hk:=Q.k;obtain⟨szv,gz,av,gr,a2,bL,cI⟩:=id cH;obtain⟨bM,a8,cJ,cK⟩:=id cI;refine az func132 ?_;rw[aQ dE.p 3 a2 rfl,ea dz.u a8];refine b5.range bM.length (λi l V=>∃g L,Ext w V/\kP V w.heap.size g l f.sizes L/\L.map du=eJ f i) a8.le
  ⟨0,[],Ext.refl _,⟨bi.nil _ _ _ _ _,λh aA=>(by cases aA),λi j x y J=>(by simp at J),λr C=>(e4 C).elim⟩,rfl⟩ ?_ ?_
 rotate_left
 .rintro l V cL ⟨g,L,R,C,S⟩;rw[<-cJ,Dh]at S;rw[aS,al];refine⟨λh=>Ω,λ_=>O6 Q C S λout w' go cM J ba cN W cO cP=>?_⟩;have cQ:=R.size;exact⟨R.trans J,go,cM,ba,λh aA=>⟨W h aA,(C.2.1 h (cN h aA)).2⟩,cO,λr C=>by have:=cP r C;omega⟩
 rintro i l V cL hi ⟨g,L,R,C,S⟩ cR;obtain⟨bc,bN⟩:=aI (l:=bM) hi;obtain⟨x,bd⟩:=aI (l:=f.funs) (i:=i) Ω;have be:=x5 bd;have bf:=cK i bc x bN bd;have bO:=pK Q be;obtain⟨cS,dK,dL⟩:=Dg Q i;have bP:L.length=(eJ f i).length:=by rw[<-S,u9]
 have dM:=Q.ln;have bR:=a8.ext R;refine bH Ω ?_;refine aV (λl' aa=>∃g L,Ext w aa/\kP aa w.heap.size g l' f.sizes L/\L.map du=eJ f (i+1)) ?_ ?_
 .rintro l' aa bg;rw[aO];exact cR _ _ bg
 intro aB bS;rw[dj rfl dz.u a7.i bR hi,bK a7.p a7.i rfl (bR.range bN)];refine bo a7.i λap dN dO cT cU=>?_;refine cb (vs:=eY bc) a7.i rfl rfl bf.one cU λcV cX dP cY=>?_;have bT:Ext V cV:=cT.put cX Ω;have dQ:=bT.size;refine aV (λaY ax=>∃G c,aY=Γ G/\Ext V ax/\af ax G bb (dn c)/\c.sc=bn x.scope/\c.cs=(hV f.sizes f.k x).2/\fX ax f.sizes c/\V.heap.size<=G/\∀r,pU c r->V.heap.size<=r) ?_ ?_
 rotate_left
 .intro dR bU;intro cZ bV _ _;have aC:=bT.trans bV;have aD:=R.trans aC;have c0:=cY.ext bV;have bX:=a2.ext aD;have dT:=aC.size;rw[bK a7.p a7.i rfl (show cZ.rangeAt ap 0 (eY bc)from c0.range),aQ dE.p 2 bX rfl,aQ dE.p 1 bX rfl];refine⟨?_,?_⟩
  .refine (DU (bf.ext aD) Q be (bL.ext aD)).mono ?_;rintro _ dU _ ⟨bj,c,rfl,h1,bk,W,M⟩;refine bo bb.i λG dW b0 bl aE=>?_;refine⟨.inl (bj.trans bl),?_⟩;refine cb (vs:=dn c) bb.i rfl rfl W.one aE λdX b1 dY c1=>?_;have dZ:=bj.size;refine bU _ _ ⟨G,c,rfl,(aC.trans bj).trans (bl.then b1 λr C he=>by have he:r=G:=he;omega),c1,h1,bk,?_,Ω,λr C=>by have:=M r C;omega⟩;exact ng (W.ext bl) b1 λr C=>.inl ⟨_,_,by have C:r=G:=C;subst C;exact aE,Φ,Φ⟩
  .refine bo bb.i λG ec b0 aF aE=>?_;refine⟨.inl aF,?_⟩;have b2:=aD.trans aF;refine(DU (bf.ext b2) Q be (bL.ext b2)).mono ?_;rintro _ ed _ ⟨b3,c,rfl,h1,bk,W,M⟩;have b4:=aE.ext b3;have ee:=aF.size;refine cb (vs:=dn c) bb.i rfl rfl W.one b4 λef b6 eg c2=>?_;refine bU _ _ ⟨G,c,rfl,aC.trans ((aF.trans b3).then b6 λr C he=>by have he:r=G:=he;omega),c2,h1,bk,?_,Ω,λr C=>by have:=M r C;omega⟩;exact ng W b6 λr C=>.inl ⟨_,_,by have C:r=G:=C;subst C;exact b4,Φ,Φ⟩
 rintro _ ax ⟨G,c,rfl,bm,c3,ai,aG,c4,b0,M⟩;have b7:=C.ext bm;have c5:∀h∈L,∀r,leads h.a6 r->r<V.heap.size:=λh aA r c6=>by
  obtain⟨⟨_,_,c8,b9⟩,_⟩:=C.2.1 h aA;have:=bQ b9 c6;omega
 have c9:∀{j:Nat},decide (c.sc∈(L.take j).map (·.sc))=decide (bn x.scope∈((eJ f i).take j).map (·.1)):=λ{j}=>by
  rw[ai,<-S,<-List.map_take,R4];rfl
 have cQ:=R.size;rw[ea cW.u b7.1];refine b5.range L.length (λj av O=>∃E,av= .bool (decide (c.sc∈(L.take j).map (·.sc)))/\Ext w O/\V.heap.size<=O.heap.size/\kP O w.heap.size g l f.sizes E/\E.map du=((eJ f i).map (lF f.k c.sc c.cs)).take j++(eJ f i).drop j/\af O G bb (dn c)/\fX O f.sizes c/\∀h∈E,∀r,leads h.a6 r->r<V.heap.size) C.1.le
  ⟨L,Ξ,R.trans bm,bm.size,b7,by simpa using S,c3,c4,c5⟩ ?_ ?_
 .rintro j _ O da ca ⟨E,rfl,aj,db,aH,K,bp,bq,X⟩ dc;have dd:E.length=L.length:=by
   have:=congrArg S5 K;simp only[u9,r8,n9,List.length_drop]at this;omega
  obtain⟨h,aA⟩:=aI (l:=E) (i:=j) Ω;have aJ:(eJ f i)[j]?=σ (du h):=by
   have cc:(E.map du)[j]?=σ (du h):=by rw[x8,aA];rfl
   rw[K,DX (by rw[u9];omega)]at cc;exact cc
  have aL:((eJ f i).map (lF f.k c.sc c.cs))[j]?=σ (lF f.k c.sc c.cs (du h)):=by rw[x8,aJ];rfl
  have de:∃y,L[j]?=σ y/\y.sc=h.sc:=by
   refine⟨_,x6 ca,?_⟩;rw[<-S,x8,x6 ca]at aJ;exact congrArg Prod.fst (Z0 aJ)
  obtain⟨y,I,df⟩:=de;have br:(c.sc∈(L.take (j+1)).map (·.sc))↔c.sc∈(L.take j).map (·.sc)\/h.sc=c.sc:=by
   rw[u7,I,o8,Z3,o5,List.map_singleton,l9,df];exact or_congr Iff.rfl ⟨λe=>e.symm,λe=>e.symm⟩
  have cd:fT f.sizes f.k (du h):=cS _ (x5 aJ);refine bH Ω ?_;refine aV (λav P=>∃E,av= .bool (decide (c.sc∈(L.take (j+1)).map (·.sc)))/\Ext w P/\V.heap.size<=P.heap.size/\kP P w.heap.size g l f.sizes E/\E.map du=((eJ f i).map (lF f.k c.sc c.cs)).take (j+1)++(eJ f i).drop (j+1)/\af P G bb (dn c)/\fX P f.sizes c/\∀h∈E,∀r,leads h.a6 r->r<V.heap.size) ?_ ?_
  .rintro eh P bg;rw[aO];exact dc _ _ bg
  intro ei cg;intro dg ak _ _;have aN:=aH.ext ak;have ch:=bp.ext ak;have ci:=bq.ext ak;obtain⟨dh,ej⟩:=aN.2.1 h (x5 aA);obtain⟨⟨g1,h1⟩,_,c8,b9⟩:=id dh;obtain⟨⟨ek,di⟩,_,em,cj⟩:=id ci;rw[dj rfl cW.u bb.i aN.1 Ω,aU bb.p rfl,aw (v:=h.aK) Ψ (aN.1.range aA 0 _ rfl),aM bb.p 0 ch rfl];refine(Kx h1.ls di.ls).mono ?_;rintro _ en _ ⟨rfl,ac⟩;have ck:=aN.ext ac;have bt:=ch.ext ac;have cl:=ci.ext ac;have cm:=(aj.trans ak).trans ac;have z9:=(ak.trans ac).size;rw[al];refine⟨λbu=>?_,λcn=>?_⟩
  rotate_left
  .refine cg _ _ ⟨E,?_,cm,Ω,ck,?_,bt,cl,X⟩
   .congr 1;exact decide_eq_decide.2 ⟨λh=>br.2 (.inl h),λh=>(br.1 h).resolve_right cn⟩
   .have e:lF f.k c.sc c.cs (du h)=du h:=if_neg cn;rw[e]at aL;rw[<-xu Ω aL,<-K];symm;refine Y5 λp=>?_;rw[X2];by_cases an:j=p
    .subst an;rw[if_pos rfl,if_pos Θ,x8,aA];rfl
    .rw[if_neg an]
  have dk:h.cs.length=c.cs.length:=by
   have dl:h.cs.length=_:=cd.len;have dm:c.cs.length=(aP (bW f.sizes (hV f.sizes f.k x).1)).toNat:=by rw[aG];exact bO.len
   rw[dl,dm,show(du h).1=h.sc from rfl,bu,ai];rfl
  have eo:(dV f.k h.cs c.cs).length=h.cs.length:=by unfold dV;rw[List.length_zipWith];omega
  rw[aM bb.p 2 bt rfl,aW ay.u (cj.ext ac).ls];refine ce.range c.cs.length (λs Y=>Ext w Y/\V.heap.size<=Y.heap.size/\kP Y w.heap.size g l f.sizes (E.set j {h with cs:=(dV f.k h.cs c.cs).take s++h.cs.drop s})/\af Y G bb (dn c)/\fX Y f.sizes c) cj.ls.le
   ⟨cm,Ω,?_,bt,cl⟩ ?_ ?_
  .have e:E.set j {h with cs:=(dV f.k h.cs c.cs).take 0++h.cs.drop 0}=E:=by
    refine Y5 λp=>?_;rw[X2];by_cases an:j=p
    .subst an;rw[if_pos rfl,if_pos Ω,aA];rfl
    .rw[if_neg an]
   rw[e];exact ck
  .rintro s Y dp U ⟨bw,cp,aR,bx,bz⟩ dq;refine bH Ω ?_;intro ep aq _ _;have ad:=aR.ext aq;have cq:=bx.ext aq;have cr:=bz.ext aq;have cu:=bw.trans aq;have aT:(E.set j {h with cs:=(dV f.k h.cs c.cs).take s++h.cs.drop s})[j]?=σ {h with cs:=(dV f.k h.cs c.cs).take s++h.cs.drop s}:=by
    rw[X2,if_pos rfl,if_pos Ω]
   have cw:j<(E.set j {h with cs:=(dV f.k h.cs c.cs).take s++h.cs.drop s}).length:=by rw[b8];omega
   obtain⟨⟨_,_,dr,bA⟩,ds⟩:=ad.2.1 _ (x5 aT);obtain⟨_,_,er,dt⟩:=id cr;obtain⟨a,bB⟩:=aI (l:=h.cs) (i:=s) Ω;obtain⟨b,au⟩:=aI (l:=c.cs) U;have dv:s<({h with cs:=(dV f.k h.cs c.cs).take s++h.cs.drop s}:fx).cs.length:=by show s<((dV f.k h.cs c.cs).take s++h.cs.drop s).length;rw[r8,n9,List.length_drop];omega
   have dw:((dV f.k h.cs c.cs).take s++h.cs.drop s)[s]?=σ a:=by rw[DX Ω];exact bB
   have bC:(dV f.k h.cs c.cs)[s]?=σ (min (a+b) f.k):=by
    unfold dV;rw[List.getElem?_zipWith,bB,au]
   have es:=cd.hY a (x5 bB);have et:=bO.hY b (by rw[<-aG];exact x5 au);have dx:=a2.ext cu;rw[dj rfl cW.u bb.i ad.1 cw,aU bb.p rfl,aw (v:=h.a6) Ψ (ad.1.range aT 2 _ rfl),dj rfl cW.u bb.i ad.1 cw,aU bb.p rfl,aw (v:=h.a6) Ψ (ad.1.range aT 2 _ rfl),bh ay.u ao.i Ψ bA.ls dw,aM bb.p 2 cq rfl,bh ay.u ao.i Ψ dt.ls au,aQ dE.p 1 dx rfl];refine(pA Ω Ω).mono ?_;rintro _ eu _ ⟨rfl,ae⟩;refine⟨.inl ae,?_⟩;have z12:=(aq.trans ae).size;refine O3 (h:={h with cs:=(dV f.k h.cs c.cs).take s++h.cs.drop s}) (ad.ext ae) aT dv λev aX cz bD=>?_;rw[aO];have dy:=cr.ext ae;have cA:=cq.ext ae;have ew:=aX.size;refine dq _ ⟨(cu.trans ae).then aX λr C he=>by have:=ds r (.inl he);omega,Ω,?_,?_,?_⟩
   .rw[List.set_set]at bD;have e:=xu (A:=dV f.k h.cs c.cs) (B:=h.cs) (s:=s) Ω bC;simp only[e]at bD;exact bD
   .exact cA.ab aX λU=>by
     obtain⟨ey,dA⟩:=cz _ U;exact absurd (eb cA dA) Φ
   .refine ng dy aX λr C=>.inr (.inr ⟨cz r C,λdC=>?_⟩);have:=M r (.inl dC);have:=X h (x5 aA) r C;omega
  .rintro Y dp ⟨bw,cp,aR,bx,bz⟩;refine ct Ω ?_;have e:(dV f.k h.cs c.cs).take c.cs.length++h.cs.drop c.cs.length=dV f.k h.cs c.cs:=by
    rw[<-dk,List.drop_length,X5,j6 Ω]
   simp only[e]at aR;refine cg _ _ ⟨_,?_,bw,cp,aR,?_,bx,bz,λz H r C=>?_⟩
   .congr 1;symm;exact decide_eq_true (br.2 (.inr bu))
   .have dD:lF f.k c.sc c.cs (du h)=du {h with cs:=dV f.k h.cs c.cs}:=if_pos bu;rw[dD]at aL;rw[U9,K,xu Ω aL]
   .rcases W5 H with H|rfl
    .exact X z H r C
    .exact X h (x5 aA) r C
 rintro _ O da ⟨E,rfl,aj,db,aH,K,bp,bq,X⟩;refine ct Ω ?_;rw[c9,bP,o7,bE,bZ];have cB:=w6 bd;have bC:((eJ f i).map (lF f.k c.sc c.cs)).take L.length++(eJ f i).drop L.length=(eJ f i).map (lF f.k c.sc c.cs):=by
  rw[bP,List.drop_length,X5,j6 (by rw[u9];exact o4 _)]
 rw[bC]at K;have dd:E.length=L.length:=by
  have:=congrArg S5 K;rw[u9,u9]at this;omega
 refine⟨λaZ=>?_,λag=>?_⟩
 .have aZ:bn x.scope∉(eJ f i).map (·.1):=by simpa using aZ
  have dF:(eJ f i).map (lF f.k c.sc c.cs)=eJ f i:=by
   refine(List.map_congr_left λz H=>?_).trans (List.map_id _);exact if_neg λhe=>aZ (j5.2 ⟨z,H,by rw[he,ai]⟩)
  rw[dF]at K;rw[bK bb.p bb.i rfl (show O.rangeAt G 0 (dn c)from bp.range)];refine hD (f:=dn) (k:=3) (a:=c) cW.u bb.i Ω rfl rfl λez dr P eA a1 bA=>?_;have Z:=aH.ext a1;have cC:=bq.ext a1;refine io (f:=dn) (a:=c) cW.u bb.i rfl Z.1 (by simpa using bA.sl) cC.one Ω Ω λeB dG dg ba dH bF=>?_;have cD:∀r,leadsTo l r->∃e c,af P r e c/\e≠ah/\e≠ao:=λr C=>by
   obtain⟨rfl,c,au⟩:=dS Z.1 C;exact⟨_,c,au,Φ,Φ⟩
  have eC:=a1.size;have eD:=aj.size;refine bS _ _ ⟨dG,E++[c],(aj.trans a1).then bF λr C he=>by have:=Z.2.2.2 r he;omega,⟨ba,λz H=>?_,λp q y z I H dI r bG bI=>?_,λr C=>(dH r C).elim (Z.2.2.2 r) λh=>Ω⟩,?_⟩
  .rcases o5.1 H with H|H
   .exact⟨ng (Z.2.1 z H).1 bF λr C=>.inl (cD r C),(Z.2.1 z H).2⟩
   .rw[l9.1 H];exact⟨ng cC bF λr C=>.inl (cD r C),λr C=>by have:=M r C;omega⟩
  .have cE:∀{p:Nat}{y:fx},(E++[c])[p]?=σ y->E[p]?=σ y\/(p=E.length/\y=c):=λ{p y}I=>by
    rw[List.getElem?_append]at I;split at I
    .exact .inl I
    .by_cases dJ:p-E.length=0
     .rw[dJ]at I;cases I;exact .inr ⟨Ω,rfl⟩
     .rw[Z4 Θ]at I;cases I
   rcases cE I with cF|⟨eE,rfl⟩<;>rcases cE H with cG|⟨eq,rfl⟩
   .exact Z.2.2.1 p q y z cF cG dI r bG bI
   .have:=X y (x5 cF) r bG;have:=M r (.inl bI);omega
   .have:=X z (x5 cG) r bI;have:=M r (.inl bG);omega
   .omega
  .rw[Z3,K,cB,Df λz H he=>aZ (j5.2 ⟨z,H,he⟩)];show _++[(c.sc,c.cs)]=_;rw[ai,aG];rfl
 .have ag:bn x.scope∈(eJ f i).map (·.1):=by simpa using ag
  refine bS _ _ ⟨g,E,aj,aH,?_⟩;rw[K,cB];unfold il;rw[if_pos (show(hV f.sizes f.k x).1∈_ from ag)];refine List.map_congr_left λz _=>?_;unfold lF;rw[ai,aG];rfl
def xv(w:x3)(B:Nat)(v:x1)(n:aJ):Prop:=∃szv gz a f aX e gr L,v= .agg #[Δ n.k,szv,Δ n.zero,a,e]/\av .i64 ah w gz szv n.sizes/\hF w f a aX/\aX.map (·.l)=n.unary/\bi dn 3 bb w gr e L/\(∀h∈L,fX w n.sizes h)/\L.map du=n.funs/\(∀r,leads szv r->B<=r)/\∀h∈L,∀r,pU h r->B<=r
def z9:List x1:=[Δ 0,.slice ν 0 0,Δ 0,.slice ν 0 0,.slice ν 0 0]
def nh(w:x3)(C gt gs go:Nat)(szv a6:x1)(f:bY)(a:List fx)(w':x3):Prop:=Ext w w'/\C<=w'.heap.size/\af w' gt dD z9/\av .i64 ah w' gs szv f.sizes/\bi dn 3 bb w' go a6 a/\(∀r,leadsTo a6 r->r<C)/\∀h∈a,fX w' f.sizes h
theorem nh.ext{C gt go:Nat}{a6:x1}{f:bY}{a:List fx}(h:nh w C gt gs go szv a6 f a w')(J:Ext w' aa):nh w C gt gs go szv a6 f a aa:=by
 obtain⟨h1,z,e,p,q,r,s⟩:=h;have:=J.size;exact⟨h1.trans J,Ω,e.ext J,p.ext J,q.ext J,r,λx y=>(s x y).ext J⟩
def O9(w w':x3)(C gt:Nat)(r:Nat):Prop:=w.heap.size<=r/\r≠gt/\((∃c,af w' r dD c)\/(∃c,af w' r ay c)\/((∃c,af w' r bb c)/\C<=r))
theorem nh.ab{C gt go:Nat}{a6:x1}{f:bY}{z:List fx}(h:nh w C gt gs go szv a6 f z w')(q:ai S w' aa)(s:∀r,S r->O9 w w' C gt r):nh w C gt gs go szv a6 f z aa:=by
 obtain⟨h1,I,F,A,y,B,G⟩:=h;have:=q.size;have E:∀r,S r->∃e c,af w' r e c/\e≠ah/\e≠ao:=λr p=>by
  obtain⟨_,_,⟨c,a⟩|⟨c,a⟩|⟨⟨c,a⟩,_⟩⟩:=s r p
  .exact⟨_,c,a,Φ,Φ⟩
  .exact⟨_,c,a,Φ,Φ⟩
  .exact⟨_,c,a,Φ,Φ⟩
 refine⟨h1.then q λr p U=>by have:=(s r U).1;omega,Ω,F.ab q λU=>(s _ U).2.1 rfl,bt A q λr p U=>?_,y.ab q λr p U=>?_,B,λx J=>ng (G x J) q λr p=>.inl (E r p)⟩
 .obtain⟨e,c,a,H,_⟩:=E r U;exact cc A a (λhe=>H he.symm) p rfl
 .obtain⟨_,_,⟨c,a⟩|⟨c,a⟩|⟨_,K⟩⟩:=s r U
  .exact cR y a Φ p
  .exact cR y a Φ p
  .have:=B r p;omega
def D1(w:x3)(C f:Nat)(szv:x1)(k:Int)(n:aJ)(p:List fx)(w':x3):Prop:=∃a q aX e gr L,af w' f dD [Δ k,szv,Δ n.zero,a,e]/\hF w' q a aX/\aX.map (·.l)=n.unary/\(∀r,leadsTo a r->w.heap.size<=r)/\bi dn 3 bb w' gr e L/\(∀h∈L,h∈p)/\L.map du=n.funs/\∀r,leadsTo e r->C<=r
theorem D2{b0:Nat}{f:bY}(b1:oB w b0 f)(P:e3 N f):am x7 G3 [Γ b0] w λv w'=>Ext w w'/\xv w' w.heap.size v (cT f):=by
 have hk:=P.k;have dC:=P.sizes.2.1;obtain⟨dF,dH,dI,dJ,b2,b3,dK⟩:=id b1;refine az func60 ?_;refine bo dD.i λgt V dL aT aV=>?_;have aV:af V gt dD z9:=aV;rw[aQ dE.p 1 (b2.ext aT) rfl,cZ (cs:=#[Δ f.k,.slice ν 0 0,Δ 0,.slice ν 0 0,.slice ν 0 0]) Ψ];refine bo dD.i λA aa dM b4 cK=>?_;refine cb (vs:=[Δ f.k,.slice ν 0 0,Δ 0,.slice ν 0 0,.slice ν 0 0]) dD.i rfl rfl (by intro u hu;simp at hu;rcases hu with rfl|rfl|rfl|rfl<;>rfl) cK λcL b5 dN cM=>?_;have bz:Ext w cL:=(aT.trans b4).then b5 λr q he=>by have he:r=A:=he;have:=aT.size;omega
 have dO:=aV.lt;have E:A≠gt:=Ω
 have cN:=(aV.ext b4).ab b5 λhe=>by have he:gt=A:=he;omega
 rw[aQ dE.p 2 (b2.ext bz) rfl,aW ay.u (b3.ext bz).ls];have dP:=aT.size;refine ce.range f.sizes.length (λi S=>Ext w S/\af S gt dD z9/\∃szv gs B H aX,af S A dD [Δ f.k,szv,Δ 0,B,.slice ν 0 0]/\av .i64 ah S gs szv (f.sizes.take i)/\(∀r,leads szv r->w.heap.size<=r)/\hF S H B aX/\aX.map (·.l)=(f.sizes.take i).map (λz=>p9 z.toNat 0)/\∀r,leadsTo B r->w.heap.size<=r) Ω
  ⟨bz,cN,_,0,_,0,[],cM,av.nil _ _ _ _,(λr q=>by obtain⟨a,n,c,cO,dQ⟩:=q;cases cO),⟨bi.nil _ _ _ _ _,λx J=>(by cases J)⟩,rfl,λr q=>(e4 q).elim⟩ ?_ ?_
 .rintro i S cP hi ⟨W,bA,szv,gs,B,H,aX,aF,aY,aZ,bB,aG,a1⟩ cQ;obtain⟨z,C⟩:=aI (l:=f.sizes) hi;have dR:=P.sizes.2.2 z (x5 C);have dT:aX.length=i:=by have:=congrArg S5 aG;simp only[u9,n9]at this;omega
  refine bH Ω ?_;rw[bh ay.u ao.i Ψ (b3.ext W).ls C,aM dD.p 1 aF rfl];refine ee (k:=.i64) an.u ah.i rfl λa5 dU b6 dV ak cS=>?_;have aH:=aY.ext ak;refine gD an.u ah.i rfl aH cS.ls Θ Θ λbC b7 dW a2 cU b8=>?_;have bD:=aF.ext ak;have b9:=bA.ext ak;have ca:=bD.ab b8 λhe=>cc aH bD Φ he rfl;rw[aU dD.p rfl];refine bl (g:=A) (o:=1) an.i a2.ls.cells.1 a2.ls.cells.2 ca Ξ λa7 cd dX a8=>?_;have a8:af a7 A dD [Δ f.k,bC,Δ 0,B,.slice ν 0 0]:=a8;have bE:ai (λr=>leads szv r\/r=A) b6 a7:=(b8.mono λr _ h=>.inl h).trans (cd.mono λr _ h=>.inr h);have cV:av .i64 ah a7 b7 bC (f.sizes.take (i+1)):=by
   rw[u7,C];exact bt a2 cd λr q he=>by
    have he:r=A:=he;subst he;exact cc a2 ca Φ q rfl
  have ap:∀r,(leads szv r\/r=A)->∃e c,af b6 r e c/\e≠ao/\e≠ay:=λr q=>by
   rcases q with q|rfl
   .obtain⟨rfl,_⟩:=bQ aH q;obtain⟨_,⟨ad,_⟩|⟨cap,full,_,s,_⟩⟩:=aH
    .obtain⟨a,n,c,e,_⟩:=q;rw[ad]at e;cases e
    .exact⟨_,_,s,Φ,Φ⟩
   .exact⟨_,_,bD,Φ,Φ⟩
  have cX:=(bB.ext ak).ab bE ap;have z4:=W.size;have z5:=ak.size;have cg:Ext w a7:=(W.trans ak).then bE λr q he=>by
   rcases he with he|he
   .have:=aZ r he;omega
   .omega
  have cY:=b9.ab bE λU=>by
   rcases U with U|U
   .exact cc aH b9 Φ U rfl
   .omega
  intro dY ch _ _;have c0:=a8.ext ch;rw[aM dD.p 3 c0 rfl];obtain⟨X,rfl⟩:∃n:Nat,z=n:=⟨z.toNat,Ω⟩;refine jS (k:=.i64) ay.u ao.i Ω Ω λba c1 dZ bF c2=>?_;refine⟨.inl bF,?_⟩;have c3:av .i64 ao c1 ba (.slice (σ ⟨ba,0,ν⟩) X X) (p9 X 0):=av.of (bX.full (k:=1) (n:=X) c2 Ξ (by simp[maxLen];omega));let a:lz:=⟨.slice (σ ⟨ba,0,ν⟩) X X,p9 X 0⟩;refine hD (f:=oo) (a:=a) eE.u ay.i Ω rfl rfl λec ed bG ef bI c4=>?_;refine⟨.inl (bF.trans bI),?_⟩;have aq:=(ch.trans bF).trans bI;have aJ:=cX.ext aq;refine io (f:=oo) (a:=a) eE.u ay.i rfl aJ.1 (by simpa using c4.sl) (λu hu=>by rw[l9.1 (show u∈[a.v]from hu)];rfl) Ω Ω λbJ bL eg I bM ci=>?_;have au:∀{r:Nat},leadsTo B r->∃c,af bG r ay c:=λq=>by
   obtain⟨rfl,c,s⟩:=dS aJ.1 q;exact⟨c,s⟩
  have bN:=a8.ext aq;have cj:=bN.ab ci λhe=>cR aJ.1 bN Φ he;rw[aU dD.p rfl];refine bl eE.i (eK I.sl).1 (eK I.sl).2 cj Ξ λc6 ck eh c7=>?_;rw[aO];have Q:ai (λr=>leadsTo B r\/r=A) bG c6:=(ci.mono λr _ h=>.inl h).trans (ck.mono λr _ h=>.inr h);have bO:∀r,(leadsTo B r\/r=A)->∃e c,af bG r e c/\e≠ao/\e≠ah:=λr q=>by
   rcases q with q|rfl
   .obtain⟨c,s⟩:=au q;exact⟨_,c,s,Φ,Φ⟩
   .exact⟨_,_,bN,Φ,Φ⟩
  have cl:=cV.ext aq;have ei:=cg.size;have ej:=aq.size;have cm:=cY.ext aq;refine cQ _ ⟨(cg.trans aq).then Q (λr q he=>?_),cm.ab Q (λU=>?_),bC,b7,bJ,bL,aX++[a],c7,bt cl Q (λr q U=>?_),λr q=>?_,⟨I.ab ck λr q he=>?_,λy K=>?_⟩,?_,λr q=>?_⟩
  .rcases he with he|rfl
   .have:=a1 r he;omega
   .omega
  .rcases U with U|U
   .exact cR aJ.1 cm Φ U
   .omega
  .obtain⟨e,c,s,_,E⟩:=bO r U;exact cc cl s (λhe=>E he.symm) q rfl
  .rcases cU r q with h|h
   .exact aZ r h
   .omega
  .have he:r=A:=he;subst he;exact cR I cj Φ q
  .rcases o5.1 K with K|K
   .exact aJ.rj Q (λr q=>by obtain⟨e,c,s,E,_⟩:=bO r q;exact⟨e,c,s,E⟩) y K
   .rw[l9.1 K];have cn:=c3.ext bI;exact⟨ba,bt cn Q λr q U=>by
     obtain⟨e,c,s,E,_⟩:=bO r U;exact cc cn s (λhe=>E he.symm) q rfl⟩
  .rw[Z3,aG,u7,C,o8,Z3];rfl
  .rcases bM r q with h|h
   .exact a1 r h
   .omega
 rintro S cP ⟨W,bA,szv,gs,B,H,aX,aF,aY,aZ,bB,aG,a1⟩;refine ct Ω ?_;rw[o7]at aY aG;refine(O8 (b1.ext W) P).mono ?_;rintro a6 bc _ ⟨ax,go,M,I,cp,cq,ek⟩;have cr:M.length=(fu f).length:=by rw[<-cq,u9]
 have em:M.length<=256:=by
  have h1:=(pL P).2.length_eq;have bd:=(kJ P).2.2;have en:=T9 ft (ff f);have eo:=P.ln;omega
 have z4:=W.size;have ep:=ax.size;have er:=aF.lt;rw[ea cW.u I];refine ce.range M.length (λi Y=>nh w bc.heap.size gt gs go szv a6 f M Y/\D1 w bc.heap.size A szv f.k (dG f i) M Y) I.le
  ⟨⟨W.trans ax,o4 _,bA.ext ax,aY.ext ax,I,λr q=>by have:=I.leads q;omega,λh aA=>(cp h aA).1⟩,B,H,aX,_,0,[],aF.ext ax,bB.ext ax,aG,a1,bi.nil _ _ _ _ _,λx J=>(by cases J),rfl,λr q=>(e4 q).elim⟩ ?_ ?_
 rotate_left
 .rintro Y c9 ⟨aC,B,H,aX,Z,gr,L,bf,bg,ac,aK,aL,aD,ae,aN⟩;obtain⟨da,es,cu,bP,et,eu,db⟩:=id aC;have bj:=ou f M.length;rw[cr,rl]at bj;rw[cr,rl]at bf ac ae;refine ct Ω ?_;rw[bK dD.p dD.i rfl (show Y.rangeAt A 0 [Δ f.k,szv,Δ (cT f).zero,B,Z]from bf.range)];refine cb (vs:=[Δ f.k,szv,Δ (cT f).zero,B,Z]) dD.i rfl rfl (λu hu=>?_) cu λev aR ew dc=>?_
  .simp at hu;rcases hu with rfl|rfl|rfl|rfl|rfl
   .rfl
   .exact bP.ls.cells.2
   .rfl
   .exact (eK bg.1.sl).2
   .exact (eK aL.sl).2
  rw[fO dD.p dD.i rfl dc.range];have ap:∀r,r=gt->∃e c,af Y r e c/\e≠ao/\e≠ay/\e≠ah/\e≠bb:=λr q=>by
   subst q;exact⟨_,_,cu,Φ,Φ,Φ,Φ⟩
  refine⟨da.then aR λr q he=>by have he:r=gt:=he;omega,szv,gs,B,H,aX,Z,gr,L,?_,?_,bg.ab aR (λr q=>?_),ac,aL.ab aR (λr q U=>?_),λh aA=>?_,ae,aZ,λh aA r q=>by have:=(cp h (aD h aA)).2 r q;omega⟩
  .rw[bj.1]
  .rw[bj.2.1];refine bt bP aR λr q U=>?_;obtain⟨e,c,s,_,_,E,_⟩:=ap r U;exact cc bP s (λhe=>E he.symm) q rfl
  .obtain⟨e,c,s,h1,bd,_⟩:=ap r q;exact⟨e,c,s,h1,bd⟩
  .obtain⟨e,c,s,_,_,_,E⟩:=ap r U;exact cR aL s (λhe=>E he.symm) q
  .rw[bj.2.1];exact ng (db h (aD h aA)) aR λr q=>by
    obtain⟨e,c,s,h1,_,bd,_⟩:=ap r q;exact .inl ⟨e,c,s,bd,h1⟩
 rintro i Y c9 hi ⟨aC,B,H,aX,Z,gr,L,bf,bg,ac,aK,aL,aD,ae,aN⟩ dd;obtain⟨y,K⟩:=aI (l:=M) hi;have bk:=x5 K;have cw:(fu f)[i]?=σ (du y):=by rw[<-cq,x8,K];rfl
 have bR:fT f.sizes f.k (du y):=tE P _ (x5 cw);have bS:=w8 cw;obtain⟨ey,ez,eA,eB⟩:=ou f i;refine bH Ω ?_;refine c5 (λbT=>nh w bc.heap.size gt gs go szv a6 f M bT/\D1 w bc.heap.size A szv f.k (dG f (i+1)) M bT) ?_ ?_
 .rintro bT h;rw[aO];exact dd _ h
 intro aB bU;rw[dj rfl cW.u bb.i aC.2.2.2.2.1 hi,bK bb.p bb.i rfl (aC.2.2.2.2.1.range K)];refine bo bb.i λde eC eD df dg=>?_;refine cb (vs:=dn y) bb.i rfl rfl (aC.2.2.2.2.2.2 y bk).one dg λcz dh eF bm=>?_;have bn:Ext Y cz:=df.put dh Ω;have bp:=aC.ext bn;have ag:=bf.ext bn;have bV:=bg.ext bn;have bq:=aL.ext bn;obtain⟨eH,eI,cA,eJ,eL,eM,cB⟩:=id bp;obtain⟨⟨eN,cC⟩,_,di,cD⟩:=cB y bk;rw[aM bb.p 0 bm rfl,aW an.u cC.ls];have eO:aX.length=f.sizes.length:=by have:=congrArg S5 ac;rw[u9]at this;omega
 have eP:L.length<=256:=by have:=congrArg S5 ae;rw[u9]at this;omega
 rw[be,al];refine⟨λeQ=>?_,λeR=>?_⟩
 .
  have aj:y.sc=[]:=c8 Ω;have G:dG f (i+1)={dG f i with zero:=y.cs.getD 0 0}:=by rw[bS];unfold iU;simp only[du,aj]
  have eS:y.cs.length=1:=by have:=bR.len;simpa[du,aj,bW,aP]using this
  have dk:y.cs[0]?=σ (y.cs.getD 0 0):=by rw[u4,x6 Ω];rfl
  rw[aM bb.p 2 bm rfl,fN (y:=0) (i:=0) rfl ay.u ao.i Ψ cD.ls dk,aU dD.p rfl];refine bl ao.i rfl rfl ag Ξ λdl O dm dp=>?_;refine bU _ ⟨bp.ab O λr q=>?_,B,H,aX,Z,gr,L,?_,bV.ab O (λr q=>?_),by rw[G];exact ac,aK,bq.ab O (λr q U=>?_),aD,by rw[G];exact ae,aN⟩
  .have q:r=A:=q;subst q;exact⟨Ω,E,.inl ⟨_,ag⟩⟩
  .rw[G];exact dp
  .have q:r=A:=q;subst q;exact⟨_,_,ag,Φ,Φ⟩
  .have U:r=A:=U;subst U;exact cR bq ag Φ q
 rw[be,al];refine⟨λh1=>?_,λeU=>?_⟩
 .
  obtain⟨v,aj⟩:∃v,y.sc=[v]:=W9.1 Ω;have eV:=bR.scope.1 v (by show v∈y.sc;rw[aj];exact .head _);have eW:=bR.vars v (by show v∈y.sc;rw[aj];exact .head _);have G:dG f (i+1)={dG f i with unary:=(dG f i).unary.set v.toNat y.cs}:=by rw[bS];unfold iU;simp only[du,aj]
  intro dq R _ _;have bZ:=ag.ext R;have cE:=bm.ext R;have aS:=bV.ext R;have dr:=bp.ext R;have cF:=bq.ext R;rw[aM dD.p 3 bZ rfl,aM bb.p 0 cE rfl];refine po (y:=0) (i:=0) rfl an.u ah.i (cC.ls.ext R) (show y.sc[0]?=σ v by rw[aj];rfl) λb o ds=>?_;rw[aw Ψ ds,aM bb.p 2 cE rfl];obtain⟨u,hu⟩:=aI (l:=aX) (i:=v.toNat) Ω;rw[dj (i:=v.toNat) Ω eE.u ay.i aS.1 Ω];let a:lz:=⟨y.a6,y.cs⟩;have br:=cD.ext R;refine pF (f:=oo) (j:=0) (a:=u) (a':=a) ay.i br.ls.cells.1 br.ls.cells.2 aS.1 hu rfl Ω λdl O dm dt=>?_;have au:∀{r:Nat},leadsTo B r->∃c,af dq r ay c:=λq=>by
   obtain⟨rfl,c,s⟩:=dS aS.1 q;exact⟨c,s⟩
  refine bU _ ⟨dr.ab O λr q=>?_,B,H,aX.set v.toNat a,Z,gr,L,?_,⟨dt,λz C=>?_⟩,?_,aK,cF.ab O (λr q U=>?_),aD,by rw[G];exact ae,aN⟩
  .obtain⟨c,s⟩:=au q;exact⟨aK r q,λhe=>(by subst he;exact absurd (eb s (cA.ext R)) Φ),.inr (.inl ⟨c,s⟩)⟩
  .rw[G];exact bZ.ab O λhe=>cR aS.1 bZ Φ he
  .rcases W5 C with C|rfl
   .exact aS.rj O (λr q=>by obtain⟨c,s⟩:=au q;exact⟨_,c,s,Φ⟩) z C
   .exact⟨di,bt br O λr q U=>by
     obtain⟨c,s⟩:=au U;exact cc br s Φ q rfl⟩
  .rw[G,U9,ac]
  .obtain⟨c,s⟩:=au U;exact cR cF s Φ q
 .
  have G:dG f (i+1)={dG f i with funs:=(dG f i).funs++[du y]}:=by
   rw[bS];unfold iU;have cG:2<=(du y).1.length:=by show 2<=y.sc.length;omega
   generalize du y=g at cG ⊢;obtain⟨sc,cs⟩:=g
   match sc,cG with
   |_::_::_,_=>rfl
  rw[aM dD.p 4 ag rfl,bK bb.p bb.i rfl (show cz.rangeAt de 0 (dn y)from bm.range)];refine hD (f:=dn) (k:=3) (a:=y) cW.u bb.i Ω rfl rfl λeX eY dv eZ aE dw=>?_;have bu:=bq.ext aE;have dx:=bV.ext aE;have bw:=ag.ext aE;have dy:=bp.ext aE;refine io (f:=dn) (a:=y) cW.u bb.i rfl bu (by simpa using dw.sl) (cB y bk).one Ω Ω λbJ bL e0 bx bM cH=>?_;have cI:=bw.ab cH λhe=>cR bu bw Φ he;rw[aU dD.p rfl];refine bl cW.i (eK bx.sl).1 (eK bx.sl).2 cI Ξ λdz cJ e1 dA=>?_;have Q:ai (λr=>leadsTo Z r\/r=A) dv dz:=(cH.mono λr _ h=>.inl h).trans (cJ.mono λr _ h=>.inr h);have e2:=aE.size;refine bU _ ⟨dy.ab Q λr q=>?_,B,H,aX,bJ,bL,L++[y],?_,dx.ab Q (λr q=>?_),by rw[G];exact ac,aK,bx.ab cJ (λr q U=>?_),λz C=>?_,?_,λr q=>?_⟩
  .rcases q with q|rfl
   .obtain⟨rfl,c,s⟩:=dS bu q;have:=aN _ q;refine⟨Ω,λhe=>?_,.inr (.inr ⟨⟨c,s⟩,this⟩)⟩;subst he;exact absurd (eb s (cA.ext aE)) Φ
   .exact⟨Ω,E,.inl ⟨_,bw⟩⟩
  .rw[G];exact dA
  .rcases q with q|rfl
   .obtain⟨rfl,c,s⟩:=dS bu q;exact⟨_,c,s,Φ,Φ⟩
   .exact⟨_,_,bw,Φ,Φ⟩
  .have U:r=A:=U;subst U;exact cR bx cI Φ q
  .rcases o5.1 C with C|C
   .exact aD z C
   .rw[l9.1 C];exact bk
  .rw[G,Z3,ae];rfl
  .rcases bM r q with h|h
   .exact aN r h
   .omega
def rx(w:x3)(S:Nat->Prop)(e:p8):Prop:=∀r,S r->∃c,af w r e c
theorem xw{k:o6}{g:Nat}(h:av k a w g v l)(f:ai S w w')(p:rx w S e)(q:a≠e):av k a w' g v l:=bt h f λr s U=>by
 obtain⟨c,x⟩:=p r U;exact cc h x q s rfl
theorem D3{α:Type}{f:α->List x1}{k:Nat}{g:Nat}{L:List α}(h:bi f k a w g v L)(p:ai S w w')(q:rx w S e)(s:a≠e):bi f k a w' g v L:=h.ab p λr x U=>by
 obtain⟨c,y⟩:=q r U;exact cR h y s x
theorem xx{r:Nat}{c:List x1}(h:af w r a c)(f:ai S w w')(p:rx w S e)(q:a≠e):af w' r a c:=h.ab f λU=>by
 obtain⟨c,s⟩:=p r U;exact q (eb h s)
theorem D4{g:Nat}{c:List x1}(h:af w g e c):rx w (λr=>r=g) e:=λr a=>by
 have a:r=g:=a;subst a;exact⟨c,h⟩
theorem ry{k:o6}{g:Nat}(h:av k e w g v l):rx w (λr=>leads v r) e:=λr f=>by
 have f:leads v r:=f;obtain⟨rfl,_⟩:=bQ h f;obtain⟨_,⟨ad,_⟩|⟨cap,full,_,q,_⟩⟩:=h
 .obtain⟨a,n,c,p,_⟩:=f;rw[ad]at p;cases p
 .exact⟨_,q⟩
def aF(x:bJ):Λ:=((X3 x.un.length).map λv:Nat=>(v:Int)).filter λv=>!dropped x.mask v
theorem xy{P:W8}{k:o6}{b:Nat}{K:x1->x3->Prop}(a:P.underlying t=σ (.slice e))(hi:aR P e 1 b z)(f:∀v g w',g=w.heap.size->Ext w w'->av k e w' g v []->K v w'):aD P (Y3 t 0 #[]) w K:=
 kw a hi Ω (cs:=#[]) (by simp[Instr.fill]) λg w' h p q=>f _ g w' h p (av.of (n:=0) (bX.full (by simpa using q) Ξ (by simp[maxLen])))
theorem Pa{n:aJ}(h:xv w B v n){g:Nat}(p:af w' g dD v.cells.toList):∃szv gz a f aX e gr L,af w' g dD [Δ n.k,szv,Δ n.zero,a,e]/\av .i64 ah w gz szv n.sizes/\hF w f a aX/\aX.map (·.l)=n.unary/\bi dn 3 bb w gr e L/\(∀h∈L,fX w n.sizes h)/\L.map du=n.funs/\(∀r,leads szv r->B<=r)/\∀h∈L,∀r,pU h r->B<=r:=by
 obtain⟨szv,gz,a,f,aX,e,gr,L,rfl,q,s,y,x,z,A⟩:=h;obtain⟨_,_,_,C⟩:=cU q.ls;obtain⟨_,_,_,_,_,E,_⟩:=s.1.sl;obtain⟨_,_,_,_,_,F,_⟩:=x.sl;refine⟨szv,gz,a,f,aX,e,gr,L,?_,q,s,y,x,z,A⟩;rw[C,E,F]at p ⊢;exact p
def z12:List x1:=[Δ 0,.slice ν 0 0,Δ 0,.slice ν 0 0,.slice ν 0 0,.slice ν 0 0,.slice ν 0 0,.slice ν 0 0]
end Go.Proofs.YtikkpokkcdocoabGreatDoor
namespace Go.Vc
open Go Go.RowKit
section
variable{P:W8}{w:x3}{α:Type}[aq α]{S R:ak}
theorem D5{k:Nat}{vs:List (List x1)}{i:Nat}{c:List x1}(h:∀x∈vs,x.length=k)(e:c.length=k)(hi:i<vs.length):over vs.flatten (i*k) c=(vs.set i c).flatten:=by
 have:=wC (f:=id) (k:=k) (L:=vs) (i:=i) (a:=c) h e hi;rw[List.flatMap_id,List.flatMap_id]at this;exact this
theorem Pb{l:List α}{i:Nat}(h:bG S R w [v] l)(P:i<l.length):∃g cap full p,v= .slice (σ ⟨g,0,ν⟩) l.length cap/\af w g p full/\S g/\i*aq.n α+aq.n α<=full.length/\
  ∀{A:ak}{cs:List x1}{a:α},bG A R w cs a->(∀r,r<w.heap.size->S r->¬A r/\¬R r)->∀w',ai (λr=>r=g) w w'->af w' g p (over full (i*aq.n α) cs)->bG (λr=>S r\/A r) R w' [v] (l.set i a):=by
 obtain⟨vs,g,F,s,he,U,hm⟩:=jo h;obtain⟨Q,p,T⟩:=hm rfl;obtain⟨ad,⟨rfl,ae⟩|⟨cap,full,rfl,E,H,V,ag,W⟩⟩:=id T
 .omega
 have I:vs.length=l.length:=he.1;have X:(i+1)*aq.n α<=l.length*aq.n α:=X1 _ P;have Y:l.length*aq.n α<=full.length:=by rw[ag];exact X1 _ H
 rw[U4,Nat.one_mul]at X;have y:S g:=Q.resolve_left Ξ;refine⟨g,cap,full,p,rfl,E,y,Ω,λ{A cs a}J z w' K Z=>?_⟩;have L:=aq.len J;have M:¬A g:=(z g E.lt y).1;have N:¬R g:=(z g E.lt y).2;have aa:∀c∈vs.set i cs,c.length=aq.n α:=λc x=>by
  rcases W5 x with e|rfl
  .exact he.len c e
  .exact L
 have O:bX w' g p (aq.n α) (.slice (σ ⟨g,0,ν⟩) l.length cap) (l.set i a).length (vs.set i cs).flatten:=by
  refine⟨by rw[ky aa,b8,b8,I],.inr ⟨cap,_,by rw[b8],Z,by rw[b8];exact H,V,by rw[ld,ag],?_⟩⟩;rw[b8,tt Ω Y,W,D5 he.len L Ω]
 refine⟨_,rfl,vs.set i cs,g,λj r=>if j=i then A r/\r<w.heap.size else F j r/\r<w.heap.size,⟨λj r f=>?_,λ_ j f=>?_,λ_ j q r ac h1 e=>?_⟩,⟨by simp[I],λj c a' x B=>?_⟩,?_,λ_=>⟨.inr (.inl y),p,O⟩⟩
 .split at f
  .exact .inr f.1
  .exact .inl (s.sub j r f.1)
 .split at f
  .exact M f.1
  .exact s.top rfl j f.1
 .split at h1<;>split at e
  .omega
  .exact (z r e.2 (s.sub q r e.1)).1 h1.1
  .exact (z r h1.2 (s.sub j r h1.1)).1 e.1
  .exact s.gI rfl j q r ac h1.1 e.1
 .by_cases C:j=i
  .subst C;rw[b9 Ω]at x B;cases x;cases B;have G:bG (λr=>if j=j then A r/\r<w.heap.size else F j r/\r<w.heap.size) R w cs a:=aq.mono J (λr f h=>by rw[if_pos rfl];exact⟨h,f⟩) λ_ _ h=>h;refine aq.ab G K λr f h1 e=>?_;have e:r=g:=e;subst e;rcases h1 with h1|h1
   .simp only[if_true]at h1;exact M h1.1
   .exact N h1
  .rw[Y4 (Ne.symm C)]at x B;have G:bG (λr=>if j=i then A r/\r<w.heap.size else F j r/\r<w.heap.size) R w c a':=aq.mono (he.2 j c a' x B) (λr f h=>by rw[if_neg C];exact⟨h,f⟩) λ_ _ h=>h;refine aq.ab G K λr f h1 e=>?_;have e:r=g:=e;subst e;rcases h1 with h1|h1
   .simp only[if_neg C]at h1;exact s.top rfl j h1.1
   .exact N h1
 .have:=ph (S:=λr=>(S r\/A r)\/R r) O (.inr (.inl (.inl y)));exact this
theorem D6{E:o6}{i b:Nat}{y:Int}{x:x1}{l:List α}{a:α}{A:ak}{K:Unit->x3->Prop}(q:aq.n α=1)(F:y=(i:Int))(G:P.underlying t=σ (.slice e))(hi:aR P e 1 b z)(h:bG S R w [v] l)(s:i<l.length)(J:x.cells= #[x])(B:bG A R w [x] a)(H:∀r,r<w.heap.size->S r->¬A r/\¬R r)(I:∀w',ai S w w'->bG (λr=>S r\/A r) R w' [v] (l.set i a)->K () w'):ac P (c9 t v (.int E y)) w λp=>aD P (o9 e p x) w K:=by
 subst F;obtain⟨g,cap,full,T,rfl,L,M,N,O⟩:=Pb h s;rw[q]at N;rw[fb G hi s λ_=>rfl];refine bl (o:=0+i*1) hi J (aq.one B x (.head _)) L Ω λw' C _ Q=>I w' (C.mono λr _ f=>by have f:r=g:=f;subst f;exact M) (O B H w' C ?_);rw[q,X8]at*;exact Q
end
end Go.Vc
namespace Go.Proofs.YtikkpokkcdocoabGreatDoor
open Go Go.Vc Go.RowKit Go.Proofs Go.Proofs.Tryz
set_option maxRecDepth 100000
abbrev jz:Type:=(Rd (Λ)×Rd (Λ)×Λ)×Bool
abbrev oC:Type:=Int×Rd (Λ)×Rd (Λ)
def ix(f:b7):jz:=((f.sc,f.aj,f.cs),decide (f.live≠0))
def D7(e:tZ):oC:=(e.v,e.sc,e.pP)
def cd(m:Bool)(A:Nat->ak)(R:ak)(w:x3)(cs:List x1)(k:Int)(sizes:Λ)(zero:Int)(D:List (Λ))(G:List Bool)(aX:List (Λ))(H:List jz)(E:List oC):Prop:=
 ∃szv a e f h p,cs=[Δ k,szv,Δ zero,a,e,f,h,p]/\Seen R w [szv] sizes/\
 aq.rep m (A 0) R w [a] D/\aq.rep m (A 1) R w [e] G/\aq.rep m (A 2) R w [f] aX/\aq.rep m (A 3) R w [h] H/\aq.rep m (A 4) R w [p] E/\
 (m=true->(∀i j r,i≠j->A i r->¬A j r)/\∀i r,A i r->¬R r)
abbrev iy(m:Bool)(A:Nat->ak)(R:ak)(w:x3)(cs:List x1)(k:Int)(sizes:Λ)(s:au):Prop:=
 cd m A R w cs k sizes s.zero (s.vars.map aF) (s.vars.map λx=>decide (x.gone≠0)) (s.vars.map (·.un)) (s.funs.map ix) (s.eg.map D7)
def jA(w:x3)(v:x1)(k:Int)(sizes:Λ)(s:au):Prop:=∃cs,v= .agg cs.toArray/\iy false (λ_ _=>False) fo w cs k sizes s
def iz(A:Nat->ak)(i:Nat)(B:ak):Nat->ak:=λj=>if j=i then B else A j
section
variable{m:Bool}{A:Nat->ak}{R:ak}{w w':x3}{cs:List x1}{k zero:Int}{sizes:Λ}{D:List (Λ)}{G:List Bool}{aX:List (Λ)}{H:List jz}{E:List oC}{s:au}
theorem cd.len(h:cd m A R w cs k sizes zero D G aX H E):cs.length=8/\∀u∈cs,u.oneCell'=true:=by
 obtain⟨szv,r,s,x,y,z,rfl,h1,a,e,f,p,q,_⟩:=h;refine⟨rfl,λu hu=>?_⟩;simp only[V4,List.not_mem_nil,or_false]at hu;rcases hu with rfl|rfl|rfl|rfl|rfl|rfl|rfl|rfl
 .rfl
 .exact jp h1
 .rfl
 .exact jp a
 .exact jp e
 .exact jp f
 .exact jp p
 .exact jp q
theorem cd.ab{T:ak}(h:cd m A R w cs k sizes zero D G aX H E)(a:ai T w w')(f:∀r,r<w.heap.size->(∃i,A i r)\/R r->¬T r):cd m A R w' cs k sizes zero D G aX H E:=by
 obtain⟨szv,p,q,s,x,y,rfl,h1,z,B,C,F,I,J⟩:=h;have aA:∀i r,r<w.heap.size->A i r\/R r->¬T r:=λi r e h=>f r e (h.imp (λh=>⟨i,h⟩) id);exact⟨szv,p,q,s,x,y,rfl,aq.ab h1 a λr e h=>f r e (h.elim False.elim .inr),aq.ab z a (aA 0),aq.ab B a (aA 1),aq.ab C a (aA 2),aq.ab F a (aA 3),aq.ab I a (aA 4),J⟩
theorem cd.ext(h:cd m A R w cs k sizes zero D G aX H E)(J:Ext w w'):cd m A R w' cs k sizes zero D G aX H E:=h.ab (J.ab λ_=>False) λ_ _ _ h=>h
theorem iy.D8(h:iy m A R w cs k sizes s):jA w (.agg cs.toArray) k sizes s:=by
 obtain⟨szv,a,e,f,p,q,rfl,h1,r,x,y,z,B,C⟩:=h;exact⟨_,rfl,szv,a,e,f,p,q,rfl,jT h1,jT r,jT x,jT y,jT z,jT B,λh=>by cases h⟩
theorem cd.old(h:cd true A R w cs k sizes zero D G aX H E):cd true (λi r=>A i r/\r<w.heap.size) R w cs k sizes zero D G aX H E:=by
 obtain⟨szv,f,p,q,s,x,rfl,h1,a,y,z,B,C,e⟩:=h;obtain⟨e,F⟩:=e rfl;have hm:∀i r,r<w.heap.size->A i r->A i r/\r<w.heap.size:=λi r I h=>⟨h,I⟩;exact⟨szv,f,p,q,s,x,rfl,h1,aq.mono a (hm 0) λ_ _ h=>h,aq.mono y (hm 1) λ_ _ h=>h,aq.mono z (hm 2) λ_ _ h=>h,aq.mono B (hm 3) λ_ _ h=>h,aq.mono C (hm 4) λ_ _ h=>h,
  λ_=>⟨λi j r J h1 a=>e i j r J h1.1 a.1,λi r h=>F i r h.1⟩⟩
theorem ug{i:Nat}{B:ak}(h:∀i j r,i≠j->A i r->¬A j r)(e:∀j r,j≠i->B r->¬A j r):∀p q r,p≠q->iz A i B p r->¬iz A i B q r:=λp q r f h1 a=>by
 unfold iz at h1 a;split at h1<;>split at a
 .omega
 .exact e q r (by assumption) h1 a
 .exact e p r (by assumption) a h1
 .exact h p q r f h1 a
theorem uh{i:Nat}{B:ak}(h:∀i r,A i r->¬R r)(a:∀r,B r->¬R r):∀p r,iz A i B p r->¬R r:=λp r h1=>by
 unfold iz at h1;split at h1
 .exact a r h1
 .exact h p r h1
theorem cd.D9{B:ak}{x:x1}{D':List (Λ)}(h:cd true A R w cs k sizes zero D G aX H E){T:ak}(e:ai T w w')(p:∀r,T r->A 0 r\/(∀j,¬A j r)/\¬R r)(y:bG B R w' [x] D')(z:∀j r,j≠0->B r->¬A j r)(C:∀r,B r->¬R r):cd true (iz A 0 B) R w' (cs.set 3 x) k sizes zero D' G aX H E:=by
 obtain⟨szv,Q,F,I,J,K,rfl,h1,a,L,M,N,O,f⟩:=h;obtain⟨f,q⟩:=f rfl;have s:∀r,R r->¬T r:=λr h a=>(p r a).elim (λa=>q 0 r a h) λa=>a.2 h;have aA:∀j r,j≠0->r<w.heap.size->A j r\/R r->¬T r:=λj r P _ h a=>h.elim (λh=>(p r a).elim (λa=>f j 0 r P h a) λa=>a.1 j h) λh=>s r h a;refine⟨szv,x,F,I,J,K,rfl,aq.ab h1 e λr _ h=>h.elim False.elim (s r),?_,?_,?_,?_,?_,λ_=>⟨ug f z,uh q C⟩⟩
 .exact y
 .exact aq.ab L e λr=>aA 1 r Ω
 .exact aq.ab M e λr=>aA 2 r Ω
 .exact aq.ab N e λr=>aA 3 r Ω
 .exact aq.ab O e λr=>aA 4 r Ω
theorem cd.Pc{B:ak}{x:x1}{p:List Bool}(h:cd true A R w cs k sizes zero D G aX H E){T:ak}(e:ai T w w')(q:∀r,T r->A 1 r\/(∀j,¬A j r)/\¬R r)(z:bG B R w' [x] p)(C:∀j r,j≠1->B r->¬A j r)(F:∀r,B r->¬R r):cd true (iz A 1 B) R w' (cs.set 4 x) k sizes zero D p aX H E:=by
 obtain⟨szv,I,Q,J,K,L,rfl,h1,a,S,M,N,O,f⟩:=h;obtain⟨f,s⟩:=f rfl;have y:∀r,R r->¬T r:=λr h a=>(q r a).elim (λa=>s 1 r a h) λa=>a.2 h;have aA:∀j r,j≠1->r<w.heap.size->A j r\/R r->¬T r:=λj r P _ h a=>h.elim (λh=>(q r a).elim (λa=>f j 1 r P h a) λa=>a.1 j h) λh=>y r h a;refine⟨szv,I,x,J,K,L,rfl,aq.ab h1 e λr _ h=>h.elim False.elim (y r),?_,?_,?_,?_,?_,λ_=>⟨ug f C,uh s F⟩⟩
 .exact aq.ab a e λr=>aA 0 r Ω
 .exact z
 .exact aq.ab M e λr=>aA 2 r Ω
 .exact aq.ab N e λr=>aA 3 r Ω
 .exact aq.ab O e λr=>aA 4 r Ω
theorem cd.kQ{B:ak}{x:x1}{p:List (Λ)}(h:cd true A R w cs k sizes zero D G aX H E){T:ak}(e:ai T w w')(q:∀r,T r->A 2 r\/(∀j,¬A j r)/\¬R r)(z:bG B R w' [x] p)(C:∀j r,j≠2->B r->¬A j r)(F:∀r,B r->¬R r):cd true (iz A 2 B) R w' (cs.set 5 x) k sizes zero D G p H E:=by
 obtain⟨szv,I,J,Q,K,L,rfl,h1,a,M,S,N,O,f⟩:=h;obtain⟨f,s⟩:=f rfl;have y:∀r,R r->¬T r:=λr h a=>(q r a).elim (λa=>s 2 r a h) λa=>a.2 h;have aA:∀j r,j≠2->r<w.heap.size->A j r\/R r->¬T r:=λj r P _ h a=>h.elim (λh=>(q r a).elim (λa=>f j 2 r P h a) λa=>a.1 j h) λh=>y r h a;refine⟨szv,I,J,x,K,L,rfl,aq.ab h1 e λr _ h=>h.elim False.elim (y r),?_,?_,?_,?_,?_,λ_=>⟨ug f C,uh s F⟩⟩
 .exact aq.ab a e λr=>aA 0 r Ω
 .exact aq.ab M e λr=>aA 1 r Ω
 .exact z
 .exact aq.ab N e λr=>aA 3 r Ω
 .exact aq.ab O e λr=>aA 4 r Ω
theorem cd.kR{B:ak}{x:x1}{p:List jz}(h:cd true A R w cs k sizes zero D G aX H E){T:ak}(e:ai T w w')(q:∀r,T r->A 3 r\/(∀j,¬A j r)/\¬R r)(z:bG B R w' [x] p)(C:∀j r,j≠3->B r->¬A j r)(F:∀r,B r->¬R r):cd true (iz A 3 B) R w' (cs.set 6 x) k sizes zero D G aX p E:=by
 obtain⟨szv,I,J,K,Q,L,rfl,h1,a,M,N,S,O,f⟩:=h;obtain⟨f,s⟩:=f rfl;have y:∀r,R r->¬T r:=λr h a=>(q r a).elim (λa=>s 3 r a h) λa=>a.2 h;have aA:∀j r,j≠3->r<w.heap.size->A j r\/R r->¬T r:=λj r P _ h a=>h.elim (λh=>(q r a).elim (λa=>f j 3 r P h a) λa=>a.1 j h) λh=>y r h a;refine⟨szv,I,J,K,x,L,rfl,aq.ab h1 e λr _ h=>h.elim False.elim (y r),?_,?_,?_,?_,?_,λ_=>⟨ug f C,uh s F⟩⟩
 .exact aq.ab a e λr=>aA 0 r Ω
 .exact aq.ab M e λr=>aA 1 r Ω
 .exact aq.ab N e λr=>aA 2 r Ω
 .exact z
 .exact aq.ab O e λr=>aA 4 r Ω
theorem cd.Pd{z:Int}(h:cd m A R w cs k sizes zero D G aX H E):cd m A R w (cs.set 2 (Δ z)) k sizes z D G aX H E:=by
 obtain⟨szv,a,e,f,p,q,rfl,h1,r,s,x,y,B,C⟩:=h;exact⟨szv,a,e,f,p,q,rfl,h1,r,s,x,y,B,C⟩
end
theorem ui{α:Type}[aq α]{st J:p8}{pl:List (Nat×Nat)}{c q b L:Nat}{M y:x1}{box:List x1}{S A R:ak}{l:List α}{a:α}{K:x3->Prop}(N:bI x7 st pl)(O:pl[c]?=σ (c,q+1))(P:x7.underlying t=σ (.slice e))(Q:aR x7 t 1 L M)(hi:aR x7 e (aq.n α) b z)(T:z.cells.size=aq.n α)(E:af w gs st box)(ad:box[c]?=σ v)(h:bG S R w [v] l)(U:ci w (aq.n α) y 1 cs)(V:bG A R w cs a)(W:∀r,r<w.heap.size->S r->¬A r/\¬R r)(s:¬S gs/\¬A gs/\¬R gs)(ag:(l.length+1)*b<=140737488355328)(ah:l.length+1<=1000000)(X:∀p w',ai (λr=>S r\/r=gs) w w'->af w' gs st (box.set c p)->bG (λr=>S r\/A r\/w.heap.size<=r) R w' [p] (l++[a])->K w'):
  aD x7 (Z2 #[t,t] J #[v,y]) w λp aa=>ac x7 (u6 st (Γ gs) c) aa λY=>aD x7 (o9 t Y p) aa λ_ x=>K x:=by
 have Z:=(x4.1 ad).1;refine n0 (A:=A) P hi T h U V (λr F U f=>?_) Ω Ω λp aa B G=>?_
 .have:=W r F U;exact f.elim this.1 this.2
 have ae:af aa gs st box:=E.ab G s.1;rw[aU N O];refine bl (o:=0+c) Q (qC B) (jp B) ae (by rw[X8];exact Z) λx H aj I=>?_;refine X p x ((G.mono λr _ h=>.inl h).trans (H.mono λr _ h=>.inr h)) (by rw[X8]at I;exact I) (aq.ab B H λr F f C=>?_);have C:r=gs:=C;subst C;have al:=E.lt;rcases f with f|f
 .rcases f with f|f|f
  .exact s.1 f
  .exact s.2.1 f
  .omega
 .exact s.2.2 f
section
variable{A:Nat->ak}{B R:ak}{w:x3}{cs xs:List x1}{gs:Nat}{y v:x1}{k zero:Int}{sizes:Λ}{D:List (Λ)}{G:List Bool}{aX:List (Λ)}{H:List jz}{E:List oC}{K:x3->Prop}
theorem cd.Pe{a:Λ}(h:cd true A R w cs k sizes zero D G aX H E)(F:af w gs ba cs)(ad:cs[3]?=σ v)(f:∀j r,A j r->gs<r)(s:∀r,R r->r<gs)(U:ci w 1 y 1 xs)(Q:bG B R w xs a)(q:∀r,r<w.heap.size->B r->(∀j,¬A j r)/\gs<r)(aj:D.length<=1000)(S:∀aT b6 w',ai (λr=>gs<=r) w w'->af w' gs ba b6->cd true aT R w' b6 k sizes zero (D++[a]) G aX H E->(∀j r,aT j r->gs<r)->(∀j,j≠3->b6[j]?=cs[j]?)->K w'):
  aD x7 (Z2 #[dx,dx] P #[v,y]) w λI aa=>ac x7 (u6 ba (Γ gs) 3) aa λV=>aD x7 (o9 dx V I) aa λ_ x=>K x:=by
 have J:=h.old;have W:=F.lt;obtain⟨szv,X,ak,al,am,L,Y,h1,Z,ao,ap,au,av,z⟩:=id J;obtain⟨z,M⟩:=z rfl;have L:v=X:=by rw[Y]at ad;exact(Z0 ad).symm
 subst L;have ab:bG (λr=>B r/\r<w.heap.size) R w xs a:=aq.mono Q (λr e h=>⟨h,e⟩) λ_ _ h=>h;refine ui (pl:=_) (l:=D) ba.p rfl dx.u dx.i an.i rfl F ad Z U ab (λr e N=>⟨λae=>(q r e ae.1).1 0 N.1,M 0 r N⟩) ⟨λh=>by have:=f 0 gs h.1;omega,λh=>by have:=(q gs W h.1).2;omega,λh=>by have:=s gs h;omega⟩ Ω Ω λI x O ag ah=>?_;refine S _ _ x (O.mono λr _ h=>h.elim (λh=>by have:=f 0 r h.1;omega) λh=>Ω) ag (J.D9 O (λr e=>?_) ah (λj r C e=>?_) λr e=>?_) (λj r e=>?_) λj C=>?_
 .rcases e with e|rfl
  .exact .inl e
  .exact .inr ⟨λj h=>by have:=f j r h.1;omega,λh=>by have:=s r h;omega⟩
 .rcases e with e|e|e
  .exact z 0 j r (Ne.symm C) e
  .exact λh=>(q r e.2 e.1).1 j h.1
  .exact λh=>by have:=h.2;omega
 .rcases e with e|e|e
  .exact M 0 r e
  .exact λh=>by have:=(q r e.2 e.1).2;have:=s r h;omega
  .exact λh=>by have:=s r h;omega
 .unfold iz at e;split at e
  .rcases e with e|e|e
   .exact f 0 r e.1
   .exact (q r e.2 e.1).2
   .omega
  .exact f j r e.1
 .rw[Y4 (Ne.symm C)]
theorem cd.Pf{a:Bool}(h:cd true A R w cs k sizes zero D G aX H E)(F:af w gs ba cs)(ad:cs[4]?=σ v)(f:∀j r,A j r->gs<r)(s:∀r,R r->r<gs)(U:ci w 1 y 1 xs)(Q:bG B R w xs a)(q:∀r,r<w.heap.size->B r->(∀j,¬A j r)/\gs<r)(aj:G.length<=1000)(S:∀aT b6 w',ai (λr=>gs<=r) w w'->af w' gs ba b6->cd true aT R w' b6 k sizes zero D (G++[a]) aX H E->(∀j r,aT j r->gs<r)->(∀j,j≠4->b6[j]?=cs[j]?)->K w'):
  aD x7 (Z2 #[kv,kv] P #[v,y]) w λI aa=>ac x7 (u6 ba (Γ gs) 4) aa λV=>aD x7 (o9 kv V I) aa λ_ x=>K x:=by
 have J:=h.old;have W:=F.lt;obtain⟨szv,ak,X,al,am,L,Y,h1,an,Z,ao,ap,au,z⟩:=id J;obtain⟨z,M⟩:=z rfl;have L:v=X:=by rw[Y]at ad;exact(Z0 ad).symm
 subst L;have ab:bG (λr=>B r/\r<w.heap.size) R w xs a:=aq.mono Q (λr e h=>⟨h,e⟩) λ_ _ h=>h;refine ui (pl:=_) (l:=G) ba.p rfl kv.u kv.i eh.i rfl F ad Z U ab (λr e N=>⟨λae=>(q r e ae.1).1 1 N.1,M 1 r N⟩) ⟨λh=>by have:=f 1 gs h.1;omega,λh=>by have:=(q gs W h.1).2;omega,λh=>by have:=s gs h;omega⟩ Ω Ω λI x O ag ah=>?_;refine S _ _ x (O.mono λr _ h=>h.elim (λh=>by have:=f 1 r h.1;omega) λh=>Ω) ag (J.Pc O (λr e=>?_) ah (λj r C e=>?_) λr e=>?_) (λj r e=>?_) λj C=>?_
 .rcases e with e|rfl
  .exact .inl e
  .exact .inr ⟨λj h=>by have:=f j r h.1;omega,λh=>by have:=s r h;omega⟩
 .rcases e with e|e|e
  .exact z 1 j r (Ne.symm C) e
  .exact λh=>(q r e.2 e.1).1 j h.1
  .exact λh=>by have:=h.2;omega
 .rcases e with e|e|e
  .exact M 1 r e
  .exact λh=>by have:=(q r e.2 e.1).2;have:=s r h;omega
  .exact λh=>by have:=s r h;omega
 .unfold iz at e;split at e
  .rcases e with e|e|e
   .exact f 1 r e.1
   .exact (q r e.2 e.1).2
   .omega
  .exact f j r e.1
 .rw[Y4 (Ne.symm C)]
theorem cd.Pg{a:Λ}(h:cd true A R w cs k sizes zero D G aX H E)(F:af w gs ba cs)(ad:cs[5]?=σ v)(f:∀j r,A j r->gs<r)(s:∀r,R r->r<gs)(U:ci w 1 y 1 xs)(Q:bG B R w xs a)(q:∀r,r<w.heap.size->B r->(∀j,¬A j r)/\gs<r)(aj:aX.length<=1000)(S:∀aT b6 w',ai (λr=>gs<=r) w w'->af w' gs ba b6->cd true aT R w' b6 k sizes zero D G (aX++[a]) H E->(∀j r,aT j r->gs<r)->(∀j,j≠5->b6[j]?=cs[j]?)->K w'):
  aD x7 (Z2 #[eE,eE] P #[v,y]) w λI aa=>ac x7 (u6 ba (Γ gs) 5) aa λV=>aD x7 (o9 eE V I) aa λ_ x=>K x:=by
 have J:=h.old;have W:=F.lt;obtain⟨szv,ak,al,X,am,L,Y,h1,an,ao,Z,ap,au,z⟩:=id J;obtain⟨z,M⟩:=z rfl;have L:v=X:=by rw[Y]at ad;exact(Z0 ad).symm
 subst L;have ab:bG (λr=>B r/\r<w.heap.size) R w xs a:=aq.mono Q (λr e h=>⟨h,e⟩) λ_ _ h=>h;refine ui (pl:=_) (l:=aX) ba.p rfl eE.u eE.i ay.i rfl F ad Z U ab (λr e N=>⟨λae=>(q r e ae.1).1 2 N.1,M 2 r N⟩) ⟨λh=>by have:=f 2 gs h.1;omega,λh=>by have:=(q gs W h.1).2;omega,λh=>by have:=s gs h;omega⟩ Ω Ω λI x O ag ah=>?_;refine S _ _ x (O.mono λr _ h=>h.elim (λh=>by have:=f 2 r h.1;omega) λh=>Ω) ag (J.kQ O (λr e=>?_) ah (λj r C e=>?_) λr e=>?_) (λj r e=>?_) λj C=>?_
 .rcases e with e|rfl
  .exact .inl e
  .exact .inr ⟨λj h=>by have:=f j r h.1;omega,λh=>by have:=s r h;omega⟩
 .rcases e with e|e|e
  .exact z 2 j r (Ne.symm C) e
  .exact λh=>(q r e.2 e.1).1 j h.1
  .exact λh=>by have:=h.2;omega
 .rcases e with e|e|e
  .exact M 2 r e
  .exact λh=>by have:=(q r e.2 e.1).2;have:=s r h;omega
  .exact λh=>by have:=s r h;omega
 .unfold iz at e;split at e
  .rcases e with e|e|e
   .exact f 2 r e.1
   .exact (q r e.2 e.1).2
   .omega
  .exact f j r e.1
 .rw[Y4 (Ne.symm C)]
theorem cd.Ph{a:jz}(h:cd true A R w cs k sizes zero D G aX H E)(F:af w gs ba cs)(ad:cs[6]?=σ v)(f:∀j r,A j r->gs<r)(s:∀r,R r->r<gs)(U:ci w 4 y 1 xs)(Q:bG B R w xs a)(q:∀r,r<w.heap.size->B r->(∀j,¬A j r)/\gs<r)(aj:H.length<=1000)(S:∀aT b6 w',ai (λr=>gs<=r) w w'->af w' gs ba b6->cd true aT R w' b6 k sizes zero D G aX (H++[a]) E->(∀j r,aT j r->gs<r)->(∀j,j≠6->b6[j]?=cs[j]?)->K w'):
  aD x7 (Z2 #[fI,fI] P #[v,y]) w λI aa=>ac x7 (u6 ba (Γ gs) 6) aa λV=>aD x7 (o9 fI V I) aa λ_ x=>K x:=by
 have J:=h.old;have W:=F.lt;obtain⟨szv,ak,al,am,X,L,Y,h1,an,ao,ap,Z,au,z⟩:=id J;obtain⟨z,M⟩:=z rfl;have L:v=X:=by rw[Y]at ad;exact(Z0 ad).symm
 subst L;have ab:bG (λr=>B r/\r<w.heap.size) R w xs a:=aq.mono Q (λr e h=>⟨h,e⟩) λ_ _ h=>h;refine ui (pl:=_) (l:=H) ba.p rfl fI.u fI.i eO.i rfl F ad Z U ab (λr e N=>⟨λae=>(q r e ae.1).1 3 N.1,M 3 r N⟩) ⟨λh=>by have:=f 3 gs h.1;omega,λh=>by have:=(q gs W h.1).2;omega,λh=>by have:=s gs h;omega⟩ Ω Ω λI x O ag ah=>?_;refine S _ _ x (O.mono λr _ h=>h.elim (λh=>by have:=f 3 r h.1;omega) λh=>Ω) ag (J.kR O (λr e=>?_) ah (λj r C e=>?_) λr e=>?_) (λj r e=>?_) λj C=>?_
 .rcases e with e|rfl
  .exact .inl e
  .exact .inr ⟨λj h=>by have:=f j r h.1;omega,λh=>by have:=s r h;omega⟩
 .rcases e with e|e|e
  .exact z 3 j r (Ne.symm C) e
  .exact λh=>(q r e.2 e.1).1 j h.1
  .exact λh=>by have:=h.2;omega
 .rcases e with e|e|e
  .exact M 3 r e
  .exact λh=>by have:=(q r e.2 e.1).2;have:=s r h;omega
  .exact λh=>by have:=s r h;omega
 .unfold iz at e;split at e
  .rcases e with e|e|e
   .exact f 3 r e.1
   .exact (q r e.2 e.1).2
   .omega
  .exact f j r e.1
 .rw[Y4 (Ne.symm C)]
end
theorem Pj(u:Λ):aF (newVar u)=(X3 u.length).map λv:Nat=>(v:Int):=by
 unfold aF newVar dropped;rw[List.filter_eq_self.2];intro a _;simp
theorem ni{R:ak}{g:Nat}(h:av .i64 e w g v l):bG (λr=>leads v r) R w [v] l:=by
 have h1:=n1 (R:=R) h;by_cases f:v= .slice ν 0 0
 .subst f;have:l=[]:=by
   obtain⟨p,⟨_,a⟩|⟨_,_,a,_⟩⟩:=h
   .exact c8 a
   .cases a
  subst this;exact ht
 .obtain⟨p,⟨a,_⟩|⟨cap,cs,a,_⟩⟩:=id h
  .exact absurd a f
  .refine aq.mono h1 (λr _ q=>?_) λ_ _ h=>h;rw[a];exact⟨_,_,_,rfl,q.symm⟩
theorem xz{R:ak}{g:Nat}(e:∀r c,B<=r->af w r ah c->R r)(h:av .i64 ah w g v l)(ad:∀r,leads v r->B<=r):Seen R w [v] l:=qB (ni (R:=λ_=>False) h) λr p a=>by
 rcases a with a|a
 .obtain⟨c,f⟩:=ry h r a;exact e r c (ad r a) f
 .exact a.elim
theorem Pk{R:ak}{zero:Int}(h:Seen R w [szv] sizes):cd true (λ_ _=>False) R w [Δ k,szv,Δ zero,.slice ν 0 0,.slice ν 0 0,.slice ν 0 0,.slice ν 0 0,.slice ν 0 0] k sizes zero [] [] [] [] []:=
 ⟨_,_,_,_,_,_,rfl,h,ht,ht,ht,ht,ht,λ_=>⟨λ_ _ _ _ h=>h.elim,λ_ _ h=>h.elim⟩⟩
theorem cd.at{m:Bool}{A:Nat->ak}{R:ak}{zero:Int}{D:List (Λ)}{G:List Bool}{aX:List (Λ)}{H:List jz}{E:List oC}(h:cd m A R w cs k sizes zero D G aX H E)(c:Nat)(a:c<8):∃v,cs[c]?=σ v:=⟨_,x6 (by rw[h.len.1];exact a)⟩
def Pl(R:ak)(w:x3)(e gt gs:Nat)(n:aJ)(f:List x1)(i j:Nat)(a:x3):Prop:=Ext w a/\af a e dD f/\af a gt ba z12/\∃A cs,af a gs ba cs/\(∀q r,A q r->gs<r)/\
 cd true A R a cs n.k n.sizes n.zero ((n.unary.take i).map λu=>aF (newVar u)) (p9 i false) (n.unary.take i) ((n.funs.take j).map λg=>ix (kL n.sizes g)) []
theorem Ea{bD:x1}{n:aJ}{R:ak}(aA:∀r,R r->r<w.heap.size)(a2:∀r c,B<=r->af w r ah c->R r)(cz:xv w B bD n)(ac:j2 n)(ag:n.funs.length<=256):am x7 G2 [bD] w λv w'=>Ext w w'/\∃A cs,v= .agg cs.toArray/\iy true A R w' cs n.k n.sizes (de n)/\∀q r,A q r->w.heap.size<=r:=by
 have eb:=ac.sizes.2.1;have cA:=ac.kK;refine az func59 ?_;refine bf λg1 V ec a6 cB=>?_;obtain⟨szv,gz,cC,ed,bE,cD,ef,a7,aB,aC,cE,bF,a8,cF,bI,cG,bJ⟩:=Pa cz cB;refine bo ba.i λgt aa eg aD aE=>?_;have aE:af aa gt ba z12:=aE;have bc:=aB.ext aD;rw[aM dD.p 0 bc rfl,aM dD.p 1 bc rfl,aM dD.p 2 bc rfl,
  cZ (cs:=#[Δ n.k,szv,Δ n.zero,.slice ν 0 0,.slice ν 0 0,.slice ν 0 0,.slice ν 0 0,.slice ν 0 0]) (by obtain⟨_,_,_,e⟩:=cU aC.ls;rw[e];kernel_rfl)]
 refine bo ba.i λgs ei ej aG cH=>?_;have cI:Seen R w [szv] n.sizes:=xz a2 aC cG;have ek:=a6.size;have em:=aD.size;have z3:=aG.size;have cJ:=(a6.trans aD).trans aG;have bL:=Pk (k:=n.k) (zero:=n.zero) (b0 cI cJ);refine cb (vs:=[Δ n.k,szv,Δ n.zero,.slice ν 0 0,.slice ν 0 0,.slice ν 0 0,.slice ν 0 0,.slice ν 0 0]) ba.i rfl rfl bL.len.2 cH λcK bd en cL=>?_;have eo:=aE.lt;have ep:=aB.lt;have cM:gt≠gs:=Ω
 have be:Ext V cK:=(aD.trans aG).put bd Ω;have bM:=a6.trans be;have cN:=(aE.ext aG).ab bd λhe=>cM he;have er:w.heap.size<gs:=Ω
 rw[aM dD.p 1 (aB.ext be) rfl,aW an.u (aC.ext bM).ls];have cO:=bL.ab bd λr f h he=>by
  have he:r=gs:=he;rcases h with⟨_,h⟩|h
  .exact h
  .have:=aA r h;omega
 refine ce.range n.sizes.length (λi O=>Pl R w g1 gt gs n [Δ n.k,szv,Δ n.zero,cC,cD] i 0 O) Ω ⟨bM,aB.ext be,cN,_,_,cL,(λ_ _ h=>h.elim),cO⟩ ?_ ?_
 .rintro i O cP hi ⟨P,bg,bi,A,cs,ad,bj,aH⟩ cQ;obtain⟨z,bk⟩:=aI (l:=n.sizes) hi;obtain⟨u,hu⟩:=aI (l:=n.unary) (i:=i) Ω;have es:=ac.sizes.2.2 z (x5 bk);obtain⟨et,_⟩:=ac.unary i z u bk hu;refine bH Ω ?_;rw[bh an.u ah.i Ψ (aC.ext P).ls bk];obtain⟨bN,rfl⟩:∃m:Nat,z=m:=⟨z.toNat,Ω⟩;refine b5.range bN (λj ae aL=>Ext O aL/\∃g,av .i64 ah aL g ae ((X3 j).map λv:Nat=>(v:Int))/\∀r,leads ae r->O.heap.size<=r) Ω
   ⟨Ext.refl _,0,av.nil _ _ _ _,λr f=>by obtain⟨a,n,c,I,Q⟩:=f;cases I⟩ ?_ ?_
  .rintro j ae aL bl bm ⟨K,cR,S,aN⟩ bn;refine bH Ω ?_;refine ee (k:=.i64) an.u ah.i rfl λeu ev cS ew H cT=>?_;refine gD an.u ah.i rfl (S.ext H) cT.ls Θ Θ λey cV cX cY c0 U=>?_;rw[aO];have c1:=K.size;have c2:=H.size;refine bn _ _ ⟨(K.trans H).then U λr f he=>by have:=aN r he;omega,cV,?_,λr f=>(c0 r f).elim (aN r) λh=>Ω⟩;rw[List.range_succ,Z3];exact cY
  rintro ae aL bl ⟨K,cR,S,aN⟩;refine ct Ω ?_;have c3:(X3 bN).map (λv:Nat=>(v:Int))=aF (newVar u):=by rw[Pj];congr 2;omega
  rw[c3]at S;have c1:=K.size;have ez:=P.size;have eA:=ad.lt;have aj:∀r,R r->r<gs:=λr f=>by have:=aA r f;omega
  have low:∀{s C:x3}{b:Nat}{e:p8}{c:List x1},ai (λr=>gs<=r) s C->b<gs->af s b e c->af C b e c:=λL c4 h=>h.ab L λW=>by have W:gs<=_:=W;omega
  have al:∀{s C:x3},Ext w s->ai (λr=>gs<=r) s C->Ext w C:=λJ L=>J.then L λr f h=>by have h:gs<=r:=h;omega
  have bO:=aH.old.ext K;have c5:∀q r,(A q r/\r<O.heap.size)->gs<r:=λq r h=>bj q r h.1;obtain⟨eB,bP⟩:=bO.at 3 Ω;rw[aM ba.p 3 (ad.ext K) bP];refine kA dx.u an.i Φ (a:=aF (newVar u)) (cs:=[ae]) S.ls.cells.1 (ni (R:=R) S) λeC cS H _ c6=>?_;have c2:=H.size;have aP:=K.trans H;refine cd.Pe (bO.ext H) (ad.ext aP) bP c5 aj c6 (b0 (ni (R:=R) S) H) (λr f h=>?_) Θ λeD eF cX U bR bS c8 _=>?_
  .have:=aN r h;exact⟨λj h=>Ω,Ω⟩
  have eH:=U.size;obtain⟨eI,bT⟩:=bS.at 4 Ω;rw[aM ba.p 4 bR bT];refine kA (a:=false) (cs:=[.bool false]) (A:=λ_=>False) (R:=R) kv.u eh.i Φ rfl rfl λeJ eK X _ c9=>?_;refine cd.Pf (a:=false) (xs:=[.bool false]) (B:=λ_=>False) (bS.ext X) (bR.ext X) bT c8 aj c9 rfl (λr f h=>h.elim) Θ λda eL bU aQ bV db dc _=>?_;have z9:=X.size;have eM:=aQ.size;have dd:Ext w bU:=al ((al (P.trans aP) U).trans X) aQ;have df:=low aQ Ω ((low U Ω (bg.ext aP)).ext X);have dg:=low aQ Ω ((low U Ω (bi.ext aP)).ext X);intro bp Y _ _;have bW:=bV.ext Y;have bX:=df.ext Y;have bY:=dd.trans Y;obtain⟨oD,aR⟩:∃oD,bE[i]?=σ oD:=⟨_,x6 (by have:=congrArg S5 bF;rw[u9]at this;omega)⟩;have dh:oD.l=u:=by
   have bZ:(bE.map (·.l))[i]?=σ oD.l:=by rw[x8,aR];rfl
   rw[bF,hu]at bZ;exact(Z0 bZ).symm
  have bq:=cE.ext bY;obtain⟨eN,b1⟩:=bq.2 oD (x5 aR);rw[dh]at b1;have b2:=db.old.ext Y;have di:∀q r,(da q r/\r<bU.heap.size)->gs<r:=λq r h=>dc q r h.1;obtain⟨eP,b3⟩:=b2.at 5 Ω;rw[aM ba.p 5 bW b3,aM dD.p 3 bX rfl,dj rfl eE.u ay.i bq.1 (x4.1 aR).1,aw (v:=oD.v) (o:=i*1) Ψ (bq.1.range aR 0 _ rfl)];refine xy (k:=.i64) ay.u ao.i λdk eQ eR eS aS b4=>?_;refine⟨.inl aS,?_⟩;refine gD ay.u ao.i rfl b4 (b1.ext aS).ls Θ Θ λb6 eU dl aT dm dp=>?_;rw[List.nil_append]at aT;have eV:=Y.size;have eW:=aS.size;have b7:∀r,leads dk r->bp.heap.size<=r:=λr f=>by have:=(bQ b4 f).1;omega
  have dq:∀r,leads b6 r->bp.heap.size<=r:=λr f=>(dm r f).elim (b7 r) λh=>Ω
  have br:Ext bp dl:=aS.then dp λr f he=>by have:=b7 r he;omega
  refine⟨.inl br,?_⟩;have eX:=br.size;refine kA eE.u ay.i Φ (a:=u) (cs:=[b6]) aT.ls.cells.1 (ni (R:=R) aT) λeY eZ bt _ dr=>?_;have e0:=bt.size;have Z:=br.trans bt;refine⟨.inl Z,?_⟩;refine cd.Pg (b2.ext Z) (bW.ext Z) b3 di aj dr (b0 (ni (R:=R) aT) bt) (λr f h=>?_) Θ λds dt e1 bu dv dw dy _=>?_
  .have:=dq r h;have:=bV.lt;exact⟨λj h=>Ω,Ω⟩
  rw[aO];refine cQ _ ⟨al (bY.trans Z) bu,low bu Ω (bX.ext Z),low bu Ω ((dg.ext Y).ext Z),ds,dt,dv,dy,?_⟩;rw[u7,hu,o8,Z3,T1,List.map_nil,List.replicate_succ'];exact dw
 rintro O cP ⟨P,bg,bi,A,cs,ad,bj,aH⟩;refine ct Ω ?_;rw[j6 Ω]at aH;have e2:a7.length=n.funs.length:=by rw[<-bI,u9]
 have dz:=a8.ext P;rw[aM dD.p 4 bg rfl,ea cW.u dz];have aj:∀r,R r->r<gs:=λr f=>by have:=aA r f;omega
 have low:∀{s C:x3}{b:Nat}{e:p8}{c:List x1},ai (λr=>gs<=r) s C->b<gs->af s b e c->af C b e c:=λL c4 h=>h.ab L λW=>by have W:gs<=_:=W;omega
 have al:∀{s C:x3},Ext w s->ai (λr=>gs<=r) s C->Ext w C:=λJ L=>J.then L λr f h=>by have h:gs<=r:=h;omega
 refine ce.range a7.length (λj G=>Ext w G/\af G gt ba z12/\∃A cs,af G gs ba cs/\(∀q r,A q r->gs<r)/\
  cd true A R G cs n.k n.sizes n.zero (n.unary.map λu=>aF (newVar u)) (p9 n.sizes.length false) n.unary ((n.funs.take j).map λg=>ix (kL n.sizes g)) []) a8.le ⟨P,bi,A,cs,ad,bj,aH⟩ ?_ ?_
 .rintro j G bl bm ⟨M,bw,bx,aU,aV,aX,ap⟩ bn;obtain⟨y,aq⟩:=aI (l:=a7) bm;have b8:n.funs[j]?=σ (du y):=by rw[<-bI,x8,aq];rfl
  have b9:=(ac.funs (du y) (x5 b8)).1;have e3:y.cs.length<=4096:=by
   have h1:y.cs.length=_:=b9.len;have W:=b9.small;omega
  have ca:=cF y (x5 aq);have cc:=ca.ext M;have cg:=a8.ext M;refine bH Ω ?_;rw[dj rfl cW.u bb.i cg bm,bK bb.p bb.i rfl (cg.range aq)];refine bo bb.i λe4 e5 e6 dA dC=>?_;refine cb (vs:=dn y) bb.i rfl rfl cc.one dC λdE dF e7 dG=>?_;have dH:Ext G dE:=dA.put dF Ω;intro bz ch _ _;have N:=dH.trans ch;have ci:=aV.ext N;have bA:=dG.ext ch;have dI:=cc.ext N;obtain⟨⟨e8,cj⟩,⟨e9,ck⟩,fa,dJ⟩:=id dI;have cl:=ap.old.ext N;have dK:∀q r,(bx q r/\r<G.heap.size)->gs<r:=λq r h=>aX q r h.1;obtain⟨fb,cm⟩:=cl.at 6 Ω;rw[aM ba.p 6 ci cm,aM bb.p 0 bA rfl,aM bb.p 1 bA rfl,aM bb.p 2 bA rfl];refine xy (k:=.i64) ay.u ao.i λv25 fc fd fe aY cn=>?_;refine⟨.inl aY,?_⟩;refine gD ay.u ao.i rfl cn (dJ.ext aY).ls Θ Θ λE ff cp aZ dL dM=>?_;rw[List.nil_append]at aZ;have fg:=N.size;have z25:=aY.size;have cq:∀r,leads v25 r->bz.heap.size<=r:=λr f=>by have:=(bQ cn f).1;omega
  have dN:∀r,leads E r->bz.heap.size<=r:=λr f=>(dL r f).elim (cq r) λh=>Ω
  have a1:Ext bz cp:=aY.then dM λr f he=>by have:=cq r he;omega
  refine⟨.inl a1,?_⟩;rw[cZ (cs:=#[y.aK,y.szv,E]) (by obtain⟨_,_,_,I⟩:=cU cj.ls;obtain⟨_,_,_,Q⟩:=cU ck.ls;obtain⟨_,_,_,au⟩:=cU aZ.ls;rw[I,Q,au];kernel_rfl),
   cZ (cs:=#[y.aK,y.szv,E,.bool true]) (by obtain⟨_,_,_,I⟩:=cU cj.ls;obtain⟨_,_,_,Q⟩:=cU ck.ls;obtain⟨_,_,_,au⟩:=cU aZ.ls;rw[I,Q,au];kernel_rfl)]
  have fh:=a1.size;have cr:=(M.trans N).trans a1;obtain⟨⟨ga,dO⟩,⟨fi,dP⟩,_⟩:=id ca;have own:bG (α:=jz) (λr=>leads E r) R cp [y.aK,y.szv,E,.bool true] (ix (kL n.sizes (du y))):=by
   refine⟨[y.aK,y.szv,E],[.bool true],λr=>leads E r,λ_=>False,rfl,λ_ h=>h,λ_ h=>h.elim,λ_ _ _ h=>h,⟨[y.aK],[y.szv,E],λ_=>False,λr=>leads E r,rfl,λ_ h=>h.elim,λ_ h=>h,λ_ _ h=>h.elim,?_,[y.szv],[E],λ_=>False,λr=>leads E r,rfl,λ_ h=>h.elim,λ_ h=>h,λ_ _ h=>h.elim,?_,?_⟩,rfl⟩
   .exact b0 (xz a2 dO λr f=>bJ y (x5 aq) r (.inr (.inl f))) cr
   .exact b0 (xz a2 dP λr f=>bJ y (x5 aq) r (.inr (.inr f))) cr
   .exact ni aZ
  refine kA fI.u eO.i Φ rfl own λfj fk bB _ dQ=>?_;have fm:=bB.size;have ax:=a1.trans bB;refine⟨.inl ax,?_⟩;refine cd.Ph (cl.ext ax) (ci.ext ax) cm dK aj dQ (b0 own bB) (λr f h=>?_) Θ λdR dS fo cu dT dU dV _=>?_
  .have:=dN r h;have:=aV.lt;exact⟨λj h=>Ω,Ω⟩
  rw[aO];refine bn _ ⟨al (M.trans (N.trans ax)) cu,low cu Ω (bw.ext (N.trans ax)),dR,dS,dT,dV,?_⟩;rw[u7,b8,o8,Z3,T1,List.map_nil];exact dU
 rintro G bl ⟨M,bw,bx,aU,aV,aX,ap⟩;rw[j6 Ω]at ap;refine ct Ω ?_;obtain⟨bC,dW⟩:=ap.len;rw[bK ba.p ba.i bC (show G.rangeAt gs 0 aU from aV.range)];refine cb (vs:=aU) ba.i bC rfl dW bw λfp cw fq dX=>?_;rw[fO ba.p ba.i bC dX.range];have dY:=ap.ab cw λr f h he=>by
  have he:r=gt:=he;rcases h with⟨q,h⟩|h
  .have:=aX q r h;omega
  .have:=aA r h;omega
 have fs:=M.size;refine⟨M.then cw λr f he=>by have he:r=gt:=he;omega,bx,aU,rfl,?_,λq r h=>by have:=aX q r h;omega⟩;have I:(de n).vars.map aF=n.unary.map λu=>aF (newVar u):=by show(n.unary.map newVar).map aF=_;rw[R4];rfl
 have Q:(de n).vars.map (λx=>decide (x.gone≠0))=p9 n.sizes.length false:=by
  show(n.unary.map newVar).map _=_;rw[R4,<-cA];exact List.map_const' ..
 have au:(de n).vars.map (·.un)=n.unary:=by show(n.unary.map newVar).map _=_;rw[R4];exact List.map_id _
 have dZ:(de n).funs.map ix=n.funs.map λg=>ix (kL n.sizes g):=by show(n.funs.map (kL n.sizes)).map ix=_;rw[R4];rfl
 unfold iy;rw[I,Q,au,dZ];exact dY
section
variable{P:W8}{w:x3}{t:p8}{cx cy:Bool}{a b:Nat}{K:x1->Prop}
theorem Pm(f:a<2 ^ 62)(h:b<2 ^ 62):ac P (aN .or t cx cy (Δ a) (Δ b)) w K=K (Δ ((a ||| b:Nat):Int)):=ac.of λw' _=>by
 have e:(T4 64 (a:Int) ||| T4 64 (b:Int)).toNat=a ||| b:=by
  rw[mV,mV,BitVec.toNat_or,BitVec.toNat_ofNat,BitVec.toNat_ofNat,Nat.mod_eq_of_lt Ω,Nat.mod_eq_of_lt Ω]
 have q:a ||| b<2 ^ 62:=Nat.or_lt_two_pow f h;have hw:X9.wrap ((a ||| b:Nat):Int)=((a ||| b:Nat):Int):=wrap_i64 Ω Ω;have p:(T4 X9.bits (a:Int) ||| T4 X9.bits (b:Int)).toNat=a ||| b:=e;simp only[aN,eqGuard,binOp,Op.intBits,p,hw];rfl
theorem Eb(p:a<2 ^ 62)(f:b<2 ^ 62):ac P (aN .and t cx cy (Δ a) (Δ b)) w K=K (Δ ((a &&& b:Nat):Int)):=ac.of λw' _=>by
 have e:(T4 64 (a:Int) &&& T4 64 (b:Int)).toNat=a &&& b:=by
  rw[mV,mV,BitVec.toNat_and,BitVec.toNat_ofNat,BitVec.toNat_ofNat,Nat.mod_eq_of_lt Ω,Nat.mod_eq_of_lt Ω]
 have q:a &&& b<2 ^ 62:=Nat.and_lt_two_pow _ f;have hw:X9.wrap ((a &&& b:Nat):Int)=((a &&& b:Nat):Int):=wrap_i64 Ω Ω;have h:(T4 X9.bits (a:Int) &&& T4 X9.bits (b:Int)).toNat=a &&& b:=e;simp only[aN,eqGuard,binOp,Op.intBits,h,hw];rfl
theorem Pn{k:o6}{n:Nat}(a:n<62):ac P (aN .shl t cx cy (Δ 1) (.int k (n:Int))) w K=K (Δ ((2 ^ n:Nat):Int)):=by
 rw[Ad Ω];have e:min ((n:Int).toNat) X9.bits=n:=Nat.min_eq_left (by show n<=64;omega);have f:2 ^ n<2 ^ 62:=Nat.pow_lt_pow_right Ω a;rw[e,Int.one_mul,show((2:Int) ^ n)=((2 ^ n:Nat):Int) by simp];generalize 2 ^ n=q at f ⊢;rw[wrap_i64 Ω Ω]
end
theorem Ec(a n:Nat):(a / 2 ^ n &&& 1=1)↔a.testBit n=true:=by
 rw[Nat.and_one_is_mod,Nat.testBit_eq_decide_div_mod_eq,decide_eq_true_eq]
theorem xA{b n:Nat}{v:Int}(x:mf b n):am x7 HA [jt b n,Δ v] w λr w'=>r= .bool (decide (0<=v/\v<n)&&b.testBit v.toNat)/\Ext w w':=by
 refine az func103 ?_;refine bf λg V B e f=>?_;refine aV (λr aa=>r= .bool (decide (0<=v/\v<n)&&b.testBit v.toNat)/\Ext w aa) (λ_ _ h=>h) λaB q=>?_;rw[bK b1.p b1.i rfl f.range];refine Bi.mono ?_;rintro _ C _ ⟨rfl,a⟩;rw[al];refine⟨λh=>?_,λh=>q _ _ ⟨by rw[decide_eq_false h];rfl,e.trans a⟩⟩;obtain⟨y,E⟩:=x;obtain⟨s,rfl⟩:∃s:Nat,v=s:=⟨v.toNat,Ω⟩;have z:=f.ext a;have G:(2:Nat) ^ n<=2 ^ 32:=S2 Ω y;have A:b / 2 ^ s<2 ^ 64:=Nat.lt_of_le_of_lt (Nat.div_le_self _ _) Ω;rw[aM b1.p 0 z rfl,lj Ω,show(1:Int)=((1:Nat):Int)from rfl,u64_and A Ω,be];refine q _ _ ⟨?_,e.trans a⟩;congr 1;rw[decide_eq_true h,U6,V9,decide_eq_true_eq,r9,<-Ec];omega
theorem Po(m v:Nat):dropped (m:Int) (v:Int)=m.testBit v:=by unfold dropped;rw[r9,r9]
def bu(w:x3)(ae gT:Nat)(A R:ak)(n:aJ)(s:au)(t:aC):Prop:=StateM w ae gT A R n s t/\t.bR=s.cells/\nb t/\bx n.k n.sizes s/\j2 n
theorem bu.ext{A R:ak}{n:aJ}{s:au}{t:aC}(h:bu w ae gT A R n s t)(J:Ext w w'):bu w' ae gT A R n s t:=⟨h.1.ext J,h.2⟩
theorem StateM.parts{A R:ak}{n:aJ}{s:au}{t:aC}(h:StateM w ae gT A R n s t):∃a e f p aY q L r,af w ae cq [Γ a,Γ gT,e,f,p]/\gh w a n/\dt w gT r t/\av .i64 ah w aY e (iw s)/\bi mm 3 dC w q f L/\lB R w L s:=by
 obtain⟨a,e,f,p,_,aY,q,ge,L,E,r,w0,x,⟨y,z,H⟩,⟨B,I,J,K⟩,C,⟨F,G⟩,M,N⟩:=h;exact⟨a,e,f,p,aY,q,L,r,x,y.ext z,B,C,F,G⟩
theorem rz{s:au}{i:Nat}(h:i<s.vars.length):(iw s)[i]?=σ (fg s i:Int):=by
 unfold iw;rw[x8,List.getElem?_range h];rfl
theorem pV{s:au}{t:aC}(ad:t.bR=s.cells)(U:nb t):s.cells.length<=100000000:=by
 rw[<-ad];unfold aC.bR;rw[u9];exact U.1
theorem uj{s:au}{i:Nat}{x:bJ}(h:s.vars[i]?=σ x):fg s i+x.un.length+2<=s.cells.length:=by
 have h1:=pQ h (j:=x.un.length+1) Ω;have a:(hG x)[x.un.length+1]? ≠ν:=by
  rw[Ne,List.getElem?_eq_none_iff];show¬(x.un.length+1+1<=x.un.length+1);omega
 rw[<-h1]at a;have:=(x4.1 (Option.ne_none_iff_exists'.1 a).choose_spec).1;omega
theorem xB{s:au}{f:b7}(h:s.funs[j]?=σ f):eU s j+f.cs.length+1<=s.cells.length:=by
 have h1:=xb h (j:=f.cs.length) Ω;have a:(fw f)[f.cs.length]? ≠ν:=by
  rw[Ne,List.getElem?_eq_none_iff];show¬(f.cs.length+1<=f.cs.length);omega
 rw[<-h1]at a;have:=(x4.1 (Option.ne_none_iff_exists'.1 a).choose_spec).1;omega
section
variable{w:x3}{ae gT:Nat}{A R:ak}{n:aJ}{s:au}{t:aC}
theorem Ed(h:bu w ae gT A R n s t):am x7 Hl [Γ ae] w λv w'=>(∃a,v=Γ a/\gh w' a n)/\Ext w w':=by
 obtain⟨a,q,r,x,aY,y,L,z,e,f,B,C,E,G⟩:=h.1.parts;refine az func86 ?_;rw[dc cI.u];simp only[Z5,a1];rw[aQ cq.p 0 e rfl];exact⟨⟨a,rfl,f⟩,Ext.refl _⟩
theorem xC(h:bu w ae gT A R n s t):am x7 GO [Γ ae] w λv w'=>v=Δ (n.sizes.length:Int)/\Ext w w':=by
 refine az func41 ?_;refine(Ed h).mono ?_;rintro _ V _ ⟨⟨p,rfl,a⟩,e⟩;refine(xc a).mono ?_;rintro _ aa _ ⟨rfl,f⟩;exact⟨rfl,e.trans f⟩
theorem kb(h:bu w ae gT A R n s t):am x7 Hd [Γ ae] w λv w'=>v=Δ n.k/\Ext w w':=by
 refine az func73 ?_;refine(Ed h).mono ?_;rintro _ V _ ⟨⟨p,rfl,a⟩,e⟩;refine(Ol a).mono ?_;rintro _ aa _ ⟨rfl,f⟩;exact⟨rfl,e.trans f⟩
theorem xD{i:Int}(h:bu w ae gT A R n s t):am x7 Hp [Γ ae,Δ i] w λv w'=>v= .bool (decide (0<=i/\i<n.sizes.length))/\Ext w w':=by
 refine az func90 ?_;refine aV (λv V=>v= .bool (decide (0<=i/\i<n.sizes.length))/\Ext w V) (λ_ _ h=>h) λaB a=>?_;rw[cn,al];refine⟨λe=>?_,λe=>a _ _ ⟨by rw[decide_eq_false Ω],Ext.refl _⟩⟩;refine(xC h).mono ?_;rintro _ V _ ⟨rfl,f⟩;rw[aS];refine a _ _ ⟨?_,f⟩;congr 1;exact decide_eq_decide.2 ⟨λh=>⟨e,h⟩,λh=>h.2⟩
theorem rA(h:bu w ae gT A R n s t):am x7 GN [Γ ae] w λv w'=>v=Δ s.zero/\Ext w w':=by
 obtain⟨q,r,x,y,aY,z,L,B,a,C,e,E,G,H⟩:=h.1.parts;refine az func40 ?_;rw[dc cI.u];simp only[Z5,a1];rw[aQ cq.p 1 a rfl];refine(na (i:=0) e rfl (show t.bR[0]?=σ s.zero by rw[h.2.1];exact Of s)).mono ?_;rintro _ V _ ⟨rfl,f⟩;exact⟨rfl,f⟩
theorem rB(h:bu w ae gT A R n s t):am x7 Hf [Γ ae] w λv w'=>v=Δ (s.funs.length:Int)/\Ext w w':=by
 obtain⟨q,r,x,y,aY,z,L,B,a,C,E,G,e,f⟩:=h.1.parts;refine az func75 ?_;rw[dc cI.u];simp only[Z5,a1];rw[aQ cq.p 3 a rfl,ea fa.u e];exact⟨by rw[f.1],Ext.refl _⟩
def kc(s:au)(i:Nat):Bool:=match s.vars[i]? with
 |some x=>decide (x.gone≠0)
 |none=>false
theorem uk{i:Int}(h:bu w ae gT A R n s t):am x7 GU [Γ ae,Δ i] w λv w'=>v= .bool (decide (0<=i)&&kc s i.toNat)/\Ext w w':=by
 refine az func48 ?_;refine aV (λv V=>v= .bool (decide (0<=i)&&kc s i.toNat)/\Ext w V) (λ_ _ h=>h) λaB a=>?_;intro aa e _ _;refine(xD (h.ext e)).mono ?_;rintro _ I _ ⟨rfl,r⟩;have J:=e.trans r;have K:=h.2.2.2.1.vars;rw[al];refine⟨λz=>?_,λM=>a _ _ ⟨?_,J⟩⟩
 .obtain⟨N,O,P,Q,aY,S,L,U,f,W,B,C,X,Y⟩:=(h.ext J).1.parts;obtain⟨x,q⟩:=aI (l:=s.vars) (i:=i.toNat) Ω;rw[aQ cq.p 1 f rfl,aQ cq.p 2 f rfl,fN (y:=i) (i:=i.toNat) Ω an.u ah.i Ψ C.ls (rz Ω)];have E:t.bR[fg s i.toNat+0]?=σ x.gone:=by rw[h.2.1,pQ q Ω];rfl
  refine(na (i:=fg s i.toNat) B rfl E).mono ?_;rintro _ Z _ ⟨rfl,G⟩;rw[bD];refine a _ _ ⟨?_,J.trans G⟩;rw[decide_eq_true z.1,U6];unfold kc;rw[q]
 .by_cases H:0<=i
  .unfold kc;rw[Z4 Ω,Bool.and_false]
  .rw[decide_eq_false H];rfl
def fh(n:aJ)(i v:Int):Prop:=0<=i/\i<n.sizes.length/\0<=v/\v<n.sizes.getD i.toNat 0
instance (n:aJ) (i v:Int):Decidable (fh n i v):=inferInstanceAs (Decidable (_/\_))
theorem fh.var{i v:Int}(ad:fh n i v)(a:bx n.k n.sizes s):∃x,s.vars[i.toNat]?=σ x/\v.toNat<x.un.length/\x.un.length<=32/\n.sizes.getD i.toNat 0=x.un.length:=by
 obtain⟨h1,h,p,f⟩:=ad;have q:=a.vars;obtain⟨x,J⟩:=aI (l:=s.vars) (i:=i.toNat) Ω;obtain⟨z,e⟩:=aI (l:=n.sizes) (i:=i.toNat) Ω;have r:=a.eW.2.2 z (x5 e);have w:=(a.var i.toNat x z J e).1;rw[u4,e,V1]at f ⊢;exact⟨x,J,Ω,Ω,Ω⟩
theorem xE{i v:Int}(h:bu w ae gT A R n s t):am x7 Hw [Γ ae,Δ i,Δ v] w λr w'=>r=Δ (if fh n i v then((fg s i.toNat+2+v.toNat:Nat):Int)else-1)/\Ext w w':=by
 have Z:=h.2.2.2.1.vars;refine az func98 ?_;refine aV (λr V=>r= .bool (decide (¬fh n i v))/\Ext w V) ?_ ?_
 .rintro _ V ⟨rfl,z⟩;rw[al];refine⟨λH=>⟨by rw[if_neg H],z⟩,λf=>?_⟩;have f:=Y0.1 f;obtain⟨x,I,ab,ac,_⟩:=f.var h.2.2.2.1;obtain⟨J,K,M,N,aY,O,L,P,a,C,Q,E,S,U⟩:=(h.ext z).1.parts;have G:=uj I;have af:=pV h.2.1 h.2.2.1;obtain⟨h1,ag,ai,aj⟩:=id f;rw[aQ cq.p 2 a rfl,fN (y:=i) (i:=i.toNat) Ω an.u ah.i Ψ E.ls (rz Ω),aO,wrap_i64 Ω Ω,aO,wrap_i64 Ω Ω,if_pos f];refine⟨?_,z⟩;congr 1;omega
 .intro aB B;refine(xD h).mono ?_;rintro _ aa _ ⟨rfl,q⟩;rw[bE,bZ];refine⟨λa=>?_,λa=>?_⟩
  .have a:¬(0<=i/\i<n.sizes.length):=λW=>by rw[decide_eq_true W]at a;cases a
   exact B _ _ ⟨by rw[decide_eq_true];exact λe=>a ⟨e.1,e.2.1⟩,q⟩
  have a:0<=i/\i<n.sizes.length:=by simpa using a
  rw[aS,al];refine⟨λad=>B _ _ ⟨by rw[decide_eq_true];exact λe=>by have:=e.2.2.1;omega,q⟩,λad=>?_⟩;obtain⟨J,K,M,N,aY,O,L,P,X,C,Q,E,S,U⟩:=(h.ext q).1.parts;rw[aQ cq.p 0 X rfl];refine(Dt C h.2.2.2.2).mono ?_;rintro _ ak _ ⟨Y,rfl⟩;rw[if_pos a.1,cn];refine B _ _ ⟨?_,q.trans Y⟩;congr 1;refine decide_eq_decide.2 ⟨λh e=>?_,λh=>?_⟩
  .have:=e.2.2.2;omega
  .refine Int.not_lt.1 λG=>h ⟨a.1,a.2,Ω,G⟩
def h2(s:au)(i v:Nat):Int:=match s.vars[i]? with
 |some x=>x.un.getD v 0
 |none=>0
theorem oE{i v:Int}(h:bu w ae gT A R n s t):am x7 zC [Γ ae,Δ i,Δ v] w λr w'=>r=(if fh n i v then .tuple #[Δ (h2 s i.toNat v.toNat),Δ 0]else .tuple #[Δ 0,Δ 1])/\Ext w w':=by
 refine az func47 ?_;rw[dc cI.u];simp only[Z5,a1];refine(xE h).mono ?_;rintro _ V _ ⟨rfl,e⟩;by_cases a:fh n i v
 .rw[if_pos a,if_pos a];refine ct Ω ?_;obtain⟨x,f,q,E,_⟩:=a.var h.2.2.2.1;obtain⟨G,H,I,J,aY,K,L,M,y,N,z,O,P,Q⟩:=(h.ext e).1.parts;rw[aQ cq.p 1 y rfl];have B:t.bR[fg s i.toNat+2+v.toNat]?=σ (x.un.getD v.toNat 0):=by
   rw[h.2.1,R5,pQ f Ω,show 2+v.toNat=v.toNat+1+1 by omega];show x.un[v.toNat]?=_;rw[u4,x6 q];rfl
  refine(na (i:=fg s i.toNat+2+v.toNat) z rfl B).mono ?_;rintro _ aa _ ⟨rfl,C⟩;refine⟨?_,e.trans C⟩;unfold h2;rw[f]
 .rw[if_neg a,if_neg a,aS,al];exact⟨λ_=>⟨rfl,e⟩,λh=>Ω⟩
def eM(s:au)(j:Nat):Bool:=match s.funs[j]? with
 |some f=>decide (f.live≠0)
 |none=>false
theorem pW{j:Int}(h:bu w ae gT A R n s t):am x7 GV [Γ ae,Δ j] w λv w'=>v= .bool (decide (0<=j)&&eM s j.toNat)/\Ext w w':=by
 refine az func49 ?_;refine aV (λv V=>v= .bool (decide (0<=j)&&eM s j.toNat)/\Ext w V) (λ_ _ h=>h) λaB a=>?_;intro aa e _ _;rw[cn,al];refine⟨λq=>?_,λq=>a _ _ ⟨by rw[decide_eq_false q];rfl,e⟩⟩;refine(rB (h.ext e)).mono ?_;rintro _ K _ ⟨rfl,C⟩;have J:=e.trans C;rw[aS,al];refine⟨λM=>?_,λN=>a _ _ ⟨?_,J⟩⟩
 .obtain⟨O,P,Q,S,aY,U,L,W,x,X,E,Y,z,r⟩:=(h.ext J).1.parts;obtain⟨f,ag⟩:=aI (l:=s.funs) (i:=j.toNat) Ω;obtain⟨y,B⟩:∃y,L[j.toNat]?=σ y:=⟨_,x6 (by rw[r.1];omega)⟩;obtain⟨_,_,G⟩:=r.2 j.toNat y f B ag;rw[aQ cq.p 1 x rfl,aQ cq.p 3 x rfl,dj (i:=j.toNat) Ω fa.u dC.i z (by rw[r.1];omega),aU dC.p rfl,aw (v:=Δ (y.at_:Int)) Ψ (z.range B 2 _ rfl)];have H:t.bR[eU s j.toNat+0]?=σ f.live:=by rw[h.2.1,xb ag Ω];rfl
  refine(na (i:=eU s j.toNat) E (by rw[G]) H).mono ?_;rintro _ Z _ ⟨rfl,I⟩;rw[bD];refine a _ _ ⟨?_,J.trans I⟩;rw[decide_eq_true q,U6];unfold eM;rw[ag]
 .unfold eM;rw[Z4 Ω,Bool.and_false]
end
end Go.Proofs.YtikkpokkcdocoabGreatDoor
