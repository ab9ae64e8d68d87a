/- own texts, made small by a tool (wip/ holds them as they were written): no statement of the seat. -/
import Derived.Test.YtlcdcbgoaljiiaaGreatDoorZe
set_option linter.unusedVariables false
set_option linter.unusedSimpArgs false
set_option linter.unnecessarySimpa false
open Array renaming getElem?_eq_some_iff→Z6
open Bool renaming false→ne,true→ms,not_true→Y1,not_false→X4,true_and→T0,or_eq_false_iff→T5,and_eq_true→S0
open Decidable renaming not_not→X0
open Go renaming Value→x1,World→x4,TypeId→r8
open Go.Builtin renaming append_→c9,len_→W7
open Go.Instr renaming loadAt→u4,storeAt→o7,indexAt→n9,alloc→R4
open Go.IntKind renaming u64→U5
open Go.Proofs.Tryz renaming prog→x7
open Int renaming toNat_natCast→u5,eq_ofNat_of_zero_le→Y6,le_refl→S8
open List renaming getElem?_eq_some_iff→x5,mem_of_getElem?→x6,getElem?_eq_getElem→x8,getElem?_map→v8,take_add_one→u7,length_map→u9,replicate→r9,getD_eq_getElem?_getD→p8,length_append→o4,take_length→o6,mem_map→o9,take_of_length_le→j4,mem_append→j5,eq_nil_of_length_eq_zero→j6,length_take→j9,map_append→Z2,length_set→Z5,mem_singleton→Z7,getElem?_set_self→Y2,mem_iff_getElem?→Y4,ext_getElem?→Y5,drop_eq_getElem_cons→Y8,getElem?_append_right→X1,range→X2,append_assoc→X7,getElem?_set→X8,getElem?_set_ne→W0,getElem?_take_of_lt→W3,getElem?_eq_none→V0,append_nil→V2,getElem?_append_left→V3,flatMap_cons→U2,pairwise_iff_getElem→U3,map_set→U4,set_append_right→U9,mem_filter→T6,map_map→T7,length_singleton→S1,Perm→S2,mem_of_mem_take→S4
open Nat renaming le_refl→p9,le_trans→Y7,mul_le_mul_right→X6,zero_le→X9,sub_self→V8,pow_le_pow_right→T3,add_mul→T4
open Option renaming toList_some→o8,isNone_some→l9,map_eq_some_iff→Y0
open Prod.mk renaming injEq→R5
set_option maxHeartbeats 16000000
open Option renaming some→σ,none→ν
variable{w:x4}{k v:Int}{j pos:Nat}{O:List Nat}{a:x1}{pl:Λ}
namespace Go.Proofs.YtlcdcbgoaljiiaaGreatDoor
open Go Go.Vc Go.RowKit Go.Proofs Go.Proofs.Tryz
set_option maxRecDepth 100000
section
variable{Z aJ:ak}{w I:x4}{af ag au:Nat}{A R:ak}{A9:Nat->ak}{n:aI}{s s':an}{t:az}{cs:List x1}{a:gd}
def lL(Z aJ:ak)(w:x4)(af ag au:Nat)(n:aI)(s':an)(I:x4):Prop:=aj (λr=>Z r/\¬aJ r) w I/\∃i9,(∀r,i9 r->Z r\/w.heap.size<=r)/\fA i9 aJ I af ag au n s'
theorem fA.Ue{U ab:x4}{aP:ak}{cz:Nat->ak}{bu:az}(p:cm w af ag au A R A9 aJ n s s t [] cs)(f:∀r,Z r↔iJ A R A9 aJ au r)(H:b2 s'/\dv (dB n) s'/\n.d8.length<=256)(x:¬Z 0)(I:Laid w)(y:aj (eB w) w U)(z:Grow A w aP U)(j:∀q r,cz q r->A9 q r)(J:dH U af ag au aP R cz aJ n s' bu [] s' ab):lL Z aJ w af ag au n s' ab:=by
 obtain⟨B,C,cj,K,L⟩:=J;have O:=y.size;have P:=B.size;have M:=p.Gw;have E:aj (λr=>Z r/\¬aJ r) w ab:=((th z.1 y).Y (T:=λr=>Z r/\¬aJ r) λr _ h=>⟨(f r).2 (.inl h.1),λbg=>(p.read r bg).1 h.2⟩).F
  (B.Y λr _ h=>⟨(f r).2 (h.elim (λ⟨q,h⟩=>.inr (.inr (.inl ⟨q,j q r h⟩))) λh=>.inr (.inr (.inr (.inr h)))),h.elim (λ⟨q,h⟩=>M q r (j q r h)) λh bg=>(p.read r bg).2.2 h⟩)
 have Q:=p.box.lt;have e:∀{r:Nat}{X:Prop},(X->iJ A R A9 aJ au r)->X->Z r\/w.heap.size<=r:=λN h=>.inl ((f _).2 (N h));have F:∀r,iJ aP R (λq r=>C q r/\r<ab.heap.size) aJ au r->Z r\/w.heap.size<=r:=by
  intro r a;rcases a with a|a|⟨q,a,_⟩|a|a
  .exact (z.2.1 r a).elim (e .inl) .inr
  .exact e (λh=>.inr (.inl h)) a
  .exact (L q r a).elim (λ⟨G,h⟩=>e (λh=>.inr (.inr (.inl h))) ⟨G,j G r h⟩) λh=>.inr Ω
  .exact e (λh=>.inr (.inr (.inr (.inl h)))) a
  .exact e (λh=>.inr (.inr (.inr (.inr h)))) a
 exact⟨E,λr=>iJ aP R (λq r=>C q r/\r<ab.heap.size) aJ au r,F,aP,R,_,bu,cj,K.olds,⟨iu E (λh=>x h.1) I,λh=>(F 0 h).elim x λh=>Ω⟩,H,λr=>Iff.rfl,λq r a=>a.2⟩
theorem lL.same(h:fA Z aJ w af ag au n s)(J:Ext w I):lL Z aJ w af ag au n s I:=⟨J.aa _,Z,λ_ h=>.inl h,h.W J⟩
theorem lL.before{U:x4}(J:Ext w U)(h:lL Z aJ U af ag au n s I):lL Z aJ w af ag au n s I:=by
 obtain⟨c,i9,a,e⟩:=h;have:=J.size;exact⟨(J.aa _).F c,i9,λr f=>(a r f).imp id λh=>Ω,e⟩
end
def qt(s:an):Prop:=∀f∈s.d8,f.live≠0
theorem Uf(n:aI):qt (dB n):=by
 intro f ah;unfold dB at ah;obtain⟨g,_,rfl⟩:=o9.1 ah;exact(by decide:(1:Int)≠0)
theorem Ug{a b:an}(h:dv a b)(k:qt a):qt b:=by
 intro g q;obtain⟨j,e⟩:=List.getElem?_of_mem q;have r:=(x5.1 e).1;obtain⟨f,ah⟩:=aK (l:=a.d8) (i:=j) (by have:=h.d8;omega);rw[(h.fn j f g ah e).2.2.1];exact k f (x6 ah)
section
variable{w:x4}{af ag:Nat}{A R:ak}{n:aI}{s:an}{t:az}{dr:x1}
end
def nq(w0 w:x4)(af ag au:Nat)(n:aI):Prop:=Ext w0 w/\∃s Z aJ,fA Z aJ w af ag au n s/\∀r,Z r->w0.heap.size<=r
section
variable{w0 w I:x4}{af ag au:Nat}{n:aI}{s:an}{Z aJ:ak}
theorem nq.W(h:nq w0 w af ag au n)(J:Ext w I):nq w0 I af ag au n:=by
 obtain⟨a,s,Z,aJ,e,f⟩:=h;exact⟨a.F J,s,Z,aJ,e.W J,f⟩
end
theorem fA.live{Z aJ:ak}{af ag au:Nat}{n:aI}{s:an}(h:fA Z aJ w af ag au n s):qt s/\s.d8.length<=256:=by
 obtain⟨_,_,a,ah⟩:=h.ok;refine⟨Ug a (Uf n),?_⟩;rw[a.d8];unfold dB;rw[u9];exact ah
section
variable{w:x4}{af ag:Nat}{A R:ak}{n:aI}{s:an}{t:az}
theorem wo{i:Nat}{x:bA}(a:ba n.k n.d6 s)(J:s.d7[i]?=σ x)(ac:v∈aB x):bN n s (i:Int) v=x.un.getD v.toNat 0:=by
 unfold bN;rw[lw (qq a J ac),u5];unfold fx;rw[J]
theorem pe{i:Nat}{x:bA}(J:s.d7[i]?=σ x):aT s (i:Int)=aB x:=by
 unfold aT;rw[u5,J]
theorem Uh{i:Nat}{x:bA}(a:ba n.k n.d6 s)(J:s.d7[i]?=σ x):dV n s (i:Int)=cF n.k (aB x) λv=>x.un.getD v.toNat 0:=by
 unfold dV;rw[pe J];exact GU λv ac=>wo a J ac
end
def G1(w:x4)(pl:Λ)(r:x1)(I:x4):Prop:=Ext w I/\((∃cs:List x1,r= .tuple #[.pointer ν,.agg cs.toArray,.bool ne]/\cs.length=8/\∀u∈cs,u.oneCell'=ms)\/∃f af ag au Z aJ s cs,r= .tuple #[Γ af,.agg cs.toArray,.bool ms]/\iy (pl.take 300)=σ f/\(c7 f).k<=1000/\
 fA Z aJ I af ag au (c7 f) s/\fI [] Z aJ I af ag au (c7 f) s s cs/\∀r,Z r->w.heap.size<=r)
section
variable{w:x4}{af ag:Nat}{A R:ak}{n:aI}{s:an}{t:az}
theorem Ui{i:Nat}(h:bw w af ag A R n s t)(a:Laid w)(ac:lG n s (i:Int)=ms):aq x7 Bt [Γ af,Δ (i:Int)] w λr I=>Ext w I/\r= .tuple #[Δ (dV n s (i:Int)).1,Δ (dV n s (i:Int)).2,Δ 0]:=by
 obtain⟨_,x,J,_⟩:=FV h.2.2.2.1 ac;rw[u5]at J;refine(RU h a).Y ?_;rintro r j _ ⟨e,_,f⟩;refine⟨e,?_⟩;rw[f x ac (by rw[u5];exact J)];unfold dV;rw[pe J]
end
theorem Uj{l:Λ}{of:Int->Int}:(l=[]/\(cF k l of).2= -1)\/(cF k l of).2∈l:=by
 have key:∀(l:Λ)(p:Int×Int),(l.foldl (fh of) p).2=p.2\/(l.foldl (fh of) p).2∈l:=λl=>by
  induction l<;>grind [fh]
 cases l<;>grind [cF,fh]
def gO(s:an):Nat:=(s.d7.map λx=>(aB x).length).sum
def eO(k:Int)(s:an):Nat:=gO s+(k-s.zero).toNat
theorem Uk{l:List Nat}{i x y:Nat}(h:l[i]?=σ x):(l.set i y).sum+x=l.sum+y:=by
 induction l generalizing i with
 |nil=>simp at h
 |cons a l e=>
  cases i<;>grind
theorem G2{s:an}{i:Nat}{x y:bA}(J:s.d7[i]?=σ x):gO {s with d7:=s.d7.set i y}+(aB x).length=gO s+(aB y).length:=by
 unfold gO;rw[U4];exact Uk (by grind)
section
variable{n:aI}{s:an}
theorem Ul{x:bA}(hm:0<=x.mask)(h:v∈aB x):(aB {x with mask:=((x.mask.toNat ||| 2 ^ v.toNat:Nat):Int)}).length<(aB x).length:=by
 have ac:=(e1.1 h).1.1;have a:((x.mask.toNat:Nat):Int)=x.mask:=Ω
 have e:aB {x with mask:=((x.mask.toNat ||| 2 ^ v.toNat:Nat):Int)}=(aB x).filter λu=>decide (u≠v):=by
  unfold aB;rw[List.filter_filter]
  grind [List.filter_congr,zf]
 grind [List.filter_sublist]
theorem Um{i:Int}(e:ba n.k n.d6 s)(f:b2 s):fz n.k n.d6 s (bi n.k s (e8 i v)).1/\(bi n.k s (e8 i v)).1.zero=s.zero/\(∀j u,bN n (bi n.k s (e8 i v)).1 j u=bN n s j u)/\
  ((bi n.k s (e8 i v)).2≠0->(bi n.k s (e8 i v)).1=s/\∀x,dF s i v=σ x->b4 n.k s.zero (x.un.getD v.toNat 0)<n.k)/\
  ((bi n.k s (e8 i v)).2=0->gO (bi n.k s (e8 i v)).1<gO s/\v∉aT (bi n.k s (e8 i v)).1 i):=by
 have a:bi n.k s (e8 i v)=match dF s i v with
  |none=>(s,1)
  |some x=>if b4 n.k s.zero (x.un.getD v.toNat 0)<n.k then(s,7)else(dZ s i.toNat v.toNat,0):=by
  grind [bi,e8]
 cases ae:dF s i v with
 |none=>
  rw[ae]at a;rw[a];exact⟨.rfl e f,rfl,λ_ _=>rfl,by grind,by grind⟩
 |some x=>
  rw[ae]at a;simp only at a;obtain⟨r,J,w,ac⟩:=ke ae;by_cases h:b4 n.k s.zero (x.un.getD v.toNat 0)<n.k
  .rw[lw h]at a;rw[a];exact⟨.rfl e f,rfl,λ_ _=>rfl,by grind,Ω⟩
  .rw[m1 h]at a;have y:=(e1.1 ac).1;have z:(dZ s i.toNat v.toNat).zero=s.zero:=by rw[kZ J]
   have q:fz n.k n.d6 s (bi n.k s (e8 i v)).1:=Gs e f (by show 4<5;omega) (by grind [Gq]) (by grind);refine⟨q,by grind,by grind [SD],by grind,λ_=>⟨?_,λhm=>?_⟩⟩
   .rw[a];show gO (dZ s i.toNat v.toNat)<gO s;rw[kZ J];have A:=(x5.1 J).1;have B:=e.d7;have h1:=e.var i.toNat x _ J (x8 Ω);have C:=Ul h1.2.2.1 ac
    grind [G2]
   grind [Gq]
theorem zM{i:Int}:∀(L:Λ)(s:an)(b:Bool),ba n.k n.d6 s->b2 s->fz n.k n.d6 s (dw n.k i L (s,b)).1/\(dw n.k i L (s,b)).1.zero=s.zero/\(∀j u,bN n (dw n.k i L (s,b)).1 j u=bN n s j u)/\gO (dw n.k i L (s,b)).1<=gO s/\
  ((dw n.k i L (s,b)).2=ne->b=ne/\(dw n.k i L (s,b)).1=s)/\((dw n.k i L (s,b)).2=ms->b=ms\/gO (dw n.k i L (s,b)).1<gO s)/\
  ∀v∈L,v∈aT (dw n.k i L (s,b)).1 i->0<=i->∀x,s.d7[i.toNat]?=σ x->x.gone=0->b4 n.k s.zero (bN n s i v)<n.k
 |[],s,b,a,q=>⟨.rfl a q,rfl,λ_ _=>rfl,p9 _,λh=>⟨h,rfl⟩,λh=>.inl h,by grind⟩
 |v::L,s,b,a,q=>by
  obtain⟨f,B,O,C,E⟩:=Um (i:=i) a q;have e:dw n.k i (v::L) (s,b)=dw n.k i L ((bi n.k s (e8 i v)).1,decide ((bi n.k s (e8 i v)).2=0)||b):=rfl;obtain⟨r,F,P,G,Q,R,S⟩:=zM L (bi n.k s (e8 i v)).1 (decide ((bi n.k s (e8 i v)).2=0)||b) f.ok f.gq;rw[e];have H:gO (bi n.k s (e8 i v)).1<=gO s:=by
   grind
  refine⟨f.F r,F.F B,by grind,Y7 G H,λh=>?_,λh=>?_,λu hu w T x J U=>?_⟩
  .grind
  .grind
  .rcases List.mem_cons.1 hu with rfl|hu
   .by_cases h:(bi n.k s (e8 i u)).2=0
    .exact m2 (r.fj i u w) (E h).2
    .have V:u∈aB x:=by
      have h1:=f.fj i u (r.fj i u w)
      grind [aT]
     have ac:dF s i u=σ x:=by
      grind [dF]
     have W:=(C h).2 x ac;have I:=(x5.1 J).1;have K:=a.d7;obtain⟨z,M⟩:=aK (l:=n.d6) (i:=i.toNat) Ω;have X:=(a.var i.toNat x z J M).1
     grind [e1,eC,bN,fx]
   .have A:=f.same;have I:=(x5.1 J).1;have K:=A.d7;obtain⟨y,N⟩:=aK (l:=(bi n.k s (e8 i v)).1.d7) (i:=i.toNat) Ω;have h1:=A.var i.toNat x y J N
    grind
def lM(n:aI)(s:an)(i:Int):Prop:=dp s i.toNat=ne->aT s i≠[]/\(dV n s i).1=0/\∀v∈aT s i,b4 n.k s.zero (bN n s i v)<n.k
theorem zN{i:Int}(a:ba n.k n.d6 s):(dV n s i).2<0↔aT s i=[]:=by
 grind [Uj,dV,aT,e1]
theorem Un{i:Int}(f:ba n.k n.d6 s)(r:b2 s)(w:0<=i)(hi:i<n.d6.length)(F:dp s i.toNat=ne)(G:aT s i≠[]):
  (bi n.k s (mn i (dV n s i).1)).2=0/\fz n.k n.d6 s (bi n.k s (mn i (dV n s i).1)).1/\gO (bi n.k s (mn i (dV n s i).1)).1=gO s/\(bi n.k s (mn i (dV n s i).1)).1.zero=min (s.zero+(dV n s i).1) n.k:=by
 have H:=f.d7;obtain⟨x,J⟩:=aK (l:=s.d7) (i:=i.toNat) Ω;have A:x.gone=0:=by grind [dp]
 have I:aT s i=aB x:=by grind [aT]
 have K:∀v∈aB x,bN n s i v=x.un.getD v.toNat 0:=λv ac=>by
  obtain⟨z,h⟩:=aK (l:=n.d6) (i:=i.toNat) Ω;have L:=(f.var i.toNat x z J h).1
  grind [e1,eC,bN,fx]
 have B:=Gp (i:=i) f;have M:=(Gn (c:=(dV n s i).1) (SC (i:=i) f)).1 (S8 _);have C:(dV n s i).1<=jt x:=Sy (by grind) (by grind);have q:=(Sz (k:=n.k) (a:=mn i (dV n s i).1) w J A).2.1 rfl B C;have E:∀j u,u∈aT (bi n.k s (mn i (dV n s i).1)).1 j->u∈aT s j:=λj u hu=>by
  rw[q]at hu;have e:aT (iX s i.toNat x (λg=>cG n.k g (dV n s i).1) λg=>b4 n.k g (dV n s i).1) j=aT s j:=Gk J rfl Gm;have hu:u∈aT (iX s i.toNat x (λg=>cG n.k g (dV n s i).1) λg=>b4 n.k g (dV n s i).1) j:=hu
  grind
 have h:(bi n.k s (mn i (dV n s i).1)).1.zero=min (s.zero+(dV n s i).1) n.k:=by rw[q];rfl
 have N:=f.zero;refine⟨by rw[q],Gs f r (by show 2<5;omega) E Ω,?_,h⟩;rw[q];show gO (iX s i.toNat x _ _)=gO s;have:=G2 (s:=s) (y:={x with un:=eD (λg=>cG n.k g (dV n s i).1) x.un (aB x)}) J;rw[Gm]at this;exact Nat.add_right_cancel this
theorem G3{i:Int}{b:Bool}(j:ba n.k n.d6 s)(G:b2 s)(A:0<=i)(hi:i<n.d6.length):fz n.k n.d6 s (fi n i (s,b)).1/\eO n.k (fi n i (s,b)).1<=eO n.k s/\
  ((fi n i (s,b)).2.2=ms->dp s i.toNat=ne/\aT (fi n i (s,b)).1 i=[])/\((fi n i (s,b)).2.2=ne->(fi n i (s,b)).2.1=ms->b=ms\/eO n.k (fi n i (s,b)).1<eO n.k s)/\
  ((fi n i (s,b)).2.2=ne->(fi n i (s,b)).2.1=ne->b=ne/\(fi n i (s,b)).1=s/\lM n s i):=by
 have T:=j.d7;obtain⟨x,J⟩:=aK (l:=s.d7) (i:=i.toNat) Ω;generalize a:fi n i (s,b)=r;unfold fi at a;simp only at a;by_cases B:dp s i.toNat=ms
 .rw[lw B]at a;subst a;exact⟨.rfl j G,p9 _,by grind,by grind,λ_ h=>⟨h,rfl,λC=>(by rw[B]at C;cases C)⟩⟩
 rw[m1 B]at a;have U:dp s i.toNat=ne:=by grind
 have E:x.gone=0:=by grind [dp]
 obtain⟨f,K,L,M,H,N,w⟩:=zM (n:=n) (i:=i) (aT s i) s ne j G;generalize dw n.k i (aT s i) (s,ne)=q at f K L M H N w a;have O:eO n.k q.1<=eO n.k s:=by grind [eO]
 have P:dp q.1 i.toNat=ne:=by
  have V:=f.same.d7;obtain⟨y,I⟩:=aK (l:=q.1.d7) (i:=i.toNat) Ω;unfold dp;rw[I];simpa[(f.same.var _ x y J I).1]using E
 by_cases Q:(dV n q.1 i).2<0
 .grind [zN,fz.ok]
 .have z:aT q.1 i≠[]:=by grind [zN,fz.ok]
  rw[m1 Q]at a;by_cases F:0<(dV n q.1 i).1
  .obtain⟨W,R,X,Y⟩:=Un f.ok f.gq A hi P z;rw[lw F]at a;have Z:q.1.zero<n.k:=by
    obtain⟨v,ac⟩:=List.exists_mem_of_ne_nil _ z;have h1:=w v (f.fj i v ac) ac A x J E;have C:=(lH (n:=n) (s:=s) (i:=i) (v:=v) j).1
    grind [b4]
   have S:eO n.k (bi n.k q.1 (mn i (dV n q.1 i).1)).1<eO n.k s:=by
    grind [eO]
   subst a;exact⟨f.F R,Nat.le_of_lt S,by grind,by grind,by grind⟩
  .rw[m1 F]at a;subst a;refine⟨f,O,by grind,λ_ h=>?_,λ_ h=>?_⟩
   .grind [eO]
   .have h:(q.2||b)=ne:=h;rw[T5]at h;obtain⟨_,e⟩:=H h.1;rw[e]at F z w;have aa:=Gp (i:=i) j;exact⟨h.2,e,λ_=>⟨z,Ω,λv ac=>w v ac ac A x J E⟩⟩
theorem G4:∀(L:List Nat)(s:an)(b:Bool),ba n.k n.d6 s->b2 s->(∀i∈L,i<n.d6.length)->fz n.k n.d6 s (ik n L (s,b)).1/\eO n.k (ik n L (s,b)).1<=eO n.k s/\
  ((ik n L (s,b)).2.2=ms->(ik n L (s,b)).2.1=ne/\∃i∈L,dp s i=ne/\aT (ik n L (s,b)).1 (i:Int)=[])/\((ik n L (s,b)).2.2=ne->(ik n L (s,b)).2.1=ms->b=ms\/eO n.k (ik n L (s,b)).1<eO n.k s)/\
  ((ik n L (s,b)).2.2=ne->(ik n L (s,b)).2.1=ne->b=ne/\(ik n L (s,b)).1=s/\∀i∈L,lM n s (i:Int))
 |[],s,b,e,w,_=>⟨.rfl e w,p9 _,λh=>(by cases h),λ_ h=>.inl h,λ_ h=>⟨h,rfl,by grind⟩⟩
 |i::L,s,b,e,w,z=>by
  obtain⟨a,A,B,G,H⟩:=G3 (i:=(i:Int)) (b:=b) e w Ω (by have:=z i (.head _);omega);rw[u5]at B;generalize f:ik n (i::L) (s,b)=r;unfold ik at f;generalize fi n (i:Int) (s,b)=q at a A B G H f;by_cases I:q.2.2=ms
  .grind
  .have Q:q.2.2=ne:=by grind
   rw[m1 I]at f;subst f;obtain⟨K,M,N,R,S⟩:=G4 L q.1 q.2.1 a.ok a.gq (by grind);refine⟨a.F K,Y7 M A,λh=>?_,λh1 O=>?_,λh1 O=>?_⟩
   .obtain⟨h1,j,C,E,P⟩:=N h;refine⟨h1,j,.tail _ C,?_,P⟩;have T:=z j (.tail _ C);have U:=e.d7;have V:=a.same.d7;obtain⟨x,J⟩:=aK (l:=s.d7) (i:=j) Ω;obtain⟨y,F⟩:=aK (l:=q.1.d7) (i:=j) Ω;unfold dp at E ⊢;rw[F]at E;rw[J];have:=(a.same.var j x y J F).1
    grind
   all_goals grind
theorem G5(a:ba n.k n.d6 s)(e:b2 s):fz n.k n.d6 s (fG n s).1/\((fG n s).2.2=ms->(fG n s).2.1=ne/\∃i<n.d6.length,dp s i=ne/\aT (fG n s).1 (i:Int)=[])/\
  ((fG n s).2.2=ne->(fG n s).2.1=ms->eO n.k (fG n s).1<eO n.k s)/\((fG n s).2.2=ne->(fG n s).2.1=ne->(fG n s).1=s/\∀i<n.d6.length,lM n s (i:Int)):=by
 grind [G4,fG]
end
section
variable{n:aI}{s:an}
def fJ(n:aI)(s:an):Prop:=∀i<n.d6.length,lM n s (i:Int)
theorem G6{i:Int}(a:ba n.k n.d6 s)(f:0<=i):∀(L:Λ)(b:Bool),(∀v∈L,v∈aT s i/\b4 n.k s.zero (bN n s i v)<n.k)->dw n.k i L (s,b)=(s,b)
 |[],_,_=>rfl
 |v::L,b,h=>by
  obtain⟨ac,r⟩:=h v (.head _);have e:bi n.k s (e8 i v)=(s,7)\/bi n.k s (e8 i v)=(s,1):=by
   unfold bi e8;simp only;rw[m1 Ω,m1 Ω,m1 Ω,m1 Ω,lw trivial];cases ae:dF s i v with
   |none=>grind
   |some x=>
    obtain⟨_,J,_,w⟩:=ke ae;left;simp only;have y:=(x5.1 J).1;have A:=a.d7;obtain⟨z,j⟩:=aK (l:=n.d6) (i:=i.toNat) Ω;have B:=(a.var i.toNat x z J j).1
    grind [e1,eC,bN,fx]
  have q:dw n.k i (v::L) (s,b)=dw n.k i L (s,b):=by
   grind [dw,Decidable.decide]
  rw[q];exact G6 a f L b (by grind)
theorem G7(f:ba n.k n.d6 s):∀(L:List Nat),(∀i∈L,lM n s (i:Int))->ik n L (s,ne)=(s,ne,ne)
 |[],_=>rfl
 |i::L,h=>by
  have ac:=h i (.head _);have e:fi n (i:Int) (s,ne)=(s,ne,ne):=by
   unfold fi;by_cases a:dp s (i:Int).toNat=ms
   .rw[lw a]
   .rw[m1 a];obtain⟨h1,j,q⟩:=ac (by grind)
    grind [G6,zN]
  unfold ik;rw[e];simp only;rw[m1 Φ];exact G7 f L (by grind)
end
theorem G8:∀{l m:List Nat},l.length=m.length->(∀(i:Nat)x y,l[i]?=σ x->m[i]?=σ y->x<=y)->l.sum<=m.sum/\((∃(i:Nat)(x y:Nat),l[i]?=σ x/\m[i]?=σ y/\x<y)->l.sum<m.sum)
 |[],[],_,_=>by grind
 |[],_::_,h,_=>by simp at h
 |_::_,[],h,_=>by simp at h
 |a::l,b::m,h,e=>by
  obtain⟨r,j⟩:=G8 (by simpa using h) λi x y J f=>e (i+1) x y (by grind) (by grind);have s:=e 0 a b rfl rfl;rw[List.sum_cons,List.sum_cons];refine⟨Ω,λ⟨i,x,y,J,f,q⟩=>?_⟩;cases i with
  |zero=>grind
  |succ i=>
   have:=j ⟨i,x,y,by simpa using J,by simpa using f,q⟩;omega
theorem G9{c:Nat}:∀{l:List Nat},(∀x∈l,x<=c)->l.sum<=l.length*c
 |[],_=>Ξ
 |a::l,h=>by
  have h1:=G9 λx J=>h x (.tail _ J);have e:=h a (.head _)
  grind [T4]
def lN(M:Nat):List Nat->Nat
 |[]=>0
 |u::us=>(M-u)*(M+1) ^ us.length+lN M us
theorem zO{M:Nat}:∀us:List Nat,lN M us<(M+1) ^ us.length
 |[]=>by simp[lN]
 |u::us=>by
  have a:=zO (M:=M) us;have h:(M-u)*(M+1) ^ us.length<=M*(M+1) ^ us.length:=X6 _ (Nat.sub_le _ _)
  grind [lN]
theorem Ha{M:Nat}:∀(us vs:List Nat)(i:Nat),us.length=vs.length->(∀v∈vs,v<=M)->(∀(j:Nat)u v,j<i->us[j]?=σ u->vs[j]?=σ v->u<=v)->(∃u v,us[i]?=σ u/\vs[i]?=σ v/\u<v)->lN M vs<lN M us
 |[],_,_,_,_,_,⟨_,_,h,_⟩=>by simp at h
 |_::_,[],_,h,_,_,_=>by simp at h
 |a::us,b::vs,i,f,q,r,⟨u,v,hu,ac,w⟩=>by
  have f:us.length=vs.length:=by grind
  have key:a<b->lN M (b::vs)<lN M (a::us):=λs=>by
   have x:=q b (.head _);have h1:=zO (M:=M) vs;unfold lN;rw[f];have y:(M-b+1)*(M+1) ^ vs.length<=(M-a)*(M+1) ^ vs.length:=X6 _ Ω
   grind
  cases i with
  |zero=>
   grind
  |succ i=>
   have z:=r 0 a b Ω rfl rfl;by_cases s:a<b
   .omega
   have e:a=b:=Ω
   have A:=Ha us vs i f (λv ac=>q v (.tail _ ac)) (by grind) (by grind)
   grind [lN]
section
variable{n:aI}{s s':an}
def ob(n:aI)(s:an)(i:Nat):Nat:=((aT s (i:Int)).map λv=>(bN n s (i:Int) v).toNat).sum
def oc(n:aI)(s:an):List Nat:=(X2 n.d6.length).map (ob n s)
def rB(n:aI):Nat:=32*n.k.toNat
theorem Uo{i:Nat}(a:ba n.k n.d6 s):ob n s i<=rB n:=by
 unfold ob rB;have h:=G9 (c:=n.k.toNat) (l:=(aT s (i:Int)).map λv=>(bN n s (i:Int) v).toNat) λx J=>by
  obtain⟨v,_,rfl⟩:=o9.1 J;have:=(lH (n:=n) (s:=s) (i:=(i:Int)) (v:=v) a).2;omega
 rw[u9]at h;exact Y7 h (X6 _ (SB a))
theorem Hb{i:Nat}(a:ba n.k n.d6 s)(f:ba n.k n.d6 s')(e:aT s' (i:Int)=aT s (i:Int))(h:∀v∈aT s (i:Int),bN n s (i:Int) v<=bN n s' (i:Int) v):ob n s i<=ob n s' i/\((∃v∈aT s (i:Int),bN n s (i:Int) v<bN n s' (i:Int) v)->ob n s i<ob n s' i):=by
 unfold ob;rw[e];have q:=G8 (l:=(aT s (i:Int)).map λv=>(bN n s (i:Int) v).toNat) (m:=(aT s (i:Int)).map λv=>(bN n s' (i:Int) v).toNat) (by grind) λp x y J j=>by
  grind
 refine⟨q.1,λ⟨v,ac,r⟩=>q.2 ?_⟩;obtain⟨p,ae⟩:=Y4.1 ac;refine⟨p,(bN n s (i:Int) v).toNat,(bN n s' (i:Int) v).toNat,by grind,by grind,?_⟩;have:=(lH (i:=(i:Int)) (v:=v) a).1;omega
open Classical in
noncomputable def gP(n:aI)(s:an):Nat:=(2*eO n.k s+if fJ n s then 1 else 0)*(rB n+1) ^ n.d6.length+lN (rB n) (oc n s)
theorem Hc:lN (rB n) (oc n s)<(rB n+1) ^ n.d6.length:=by
 grind [zO,oc,u9]
theorem Hd{a b f e:Nat}(h:a<b)(he:e<f):a*f+e<b*f+j:=by
 have:(a+1)*f<=b*f:=X6 _ h
 grind
theorem Up(h:eO n.k s'<eO n.k s):gP n s'<gP n s:=by
 unfold gP;refine Hd ?_ Hc
 grind
theorem He(h:eO n.k s'=eO n.k s)(a:fJ n s)(e:¬fJ n s'):gP n s'<gP n s:=by
 unfold gP;rw[lw a,m1 e,h];exact Hd Ω Hc
theorem Hf{i:Nat}(h:eO n.k s'=eO n.k s)(a:fJ n s)(w:ba n.k n.d6 s)(e:ba n.k n.d6 s')(x:∀q,aT s' q=aT s q)(hi:i<n.d6.length)(z:∀q:Nat,q<=i->∀v∈aT s (q:Int),bN n s (q:Int) v<=bN n s' (q:Int) v)(A:∃v∈aT s (i:Int),bN n s (i:Int) v<bN n s' (i:Int) v):gP n s'<gP n s:=by
 by_cases f:fJ n s'
 .unfold gP;rw[lw a,lw f,h];have j:∀(s:an)(q:Nat),q<n.d6.length->(oc n s)[q]?=σ (ob n s q):=λs q y=>by grind [oc]
  have r:∀s:an,(oc n s).length=n.d6.length:=by grind [oc]
  have:=Ha (oc n s) (oc n s') i (by rw[r,r]) (λv ac=>by
   obtain⟨q,_,rfl⟩:=o9.1 ac;exact Uo e) (λq u v y hu ac=>by
   rw[j s q Ω]at hu;rw[j s' q Ω]at ac;cases hu;cases ac;exact(Hb w e (x _) (by grind)).1) (by grind [Hb])
  omega
 .exact He h a f
end
def projM(j pos v c:Int):fF:=⟨0,j,pos,v,c⟩
def gv(k:Int)(j pos:Nat)(p:an×Bool)(v:Int):an×Bool:=match du p.1 j pos v with
 |none=>p
 |some (f,_,_)=>if 0<eN k p.1 f pos v then((bi k p.1 (projM j pos v (eN k p.1 f pos v))).1,ms)else p
def qu(k:Int)(j:Nat)(sc:Λ)(p:an×Bool)(pos:Nat):an×Bool:=(aT p.1 (sc.getD pos 0)).foldl (gv k j pos) p
def eT(k:Int)(p:an×Bool)(j:Nat):an×Bool:=match p.1.d8[j]? with
 |some f=>(X2 f.sc.length).foldl (qu k j f.sc) p
 |none=>p
section
variable{n:aI}{s:an}
theorem zP{u:Nat}{f:bI}{x:bA}{i w:Int}{t un:Int->Int}(J:s.d7[u]?=σ x):bN n (fy s j f pos u x v t un) i w=if i.toNat=u/\w.toNat=v.toNat/\eC n i w/\v.toNat<x.un.length then un (x.un.getD v.toNat 0)else bN n s i w:=by
 unfold bN;by_cases aE:eC n i w
 .rw[lw aE,lw aE];unfold fx;have e:(fy s j f pos u x v t un).d7=s.d7.set u {x with un:=x.un.set v.toNat (un (x.un.getD v.toNat 0))}:=rfl
  grind
 grind
structure il(n:aI)(s s':an):Prop where
 ok:ba n.k n.d6 s'
 gq:b2 s'
 same:dv s s'
 val:∀a,ka s a->fE n.k s' a=fE n.k s a
 fj:∀i,aT s' i=aT s i
 zero:s'.zero=s.zero
 un:∀i u,bN n s i u<=bN n s' i u
theorem il.rfl(a:ba n.k n.d6 s)(e:b2 s):il n s s:=⟨a,e,.rfl,Ω,λ_=>Eq.refl _,Eq.refl _,Ω⟩
theorem il.F{a b c:an}(h:il n a b)(g:il n b c):il n a c:=
 ⟨g.ok,g.gq,h.same.F g.same,λx J=>(g.val x (zv h.same J)).F (h.val x J),λi=>(g.fj i).F (h.fj i),g.zero.F h.zero,λi u=>Int.le_trans (h.un i u) (g.un i u)⟩
def pf(n:aI)(s s':an):Prop:=∃i:Nat,i<n.d6.length/\∃v∈aT s (i:Int),bN n s (i:Int) v<bN n s' (i:Int) v
theorem pf.then{a b c:an}(h:pf n a b)(g:il n b c):pf n a c:=by
 obtain⟨i,hi,v,ac,e⟩:=h;exact⟨i,hi,v,ac,Int.lt_of_lt_of_le e (g.un _ _)⟩
theorem pf.of{a b c:an}(h:il n a b)(g:pf n b c):pf n a c:=by
 obtain⟨i,hi,v,ac,e⟩:=g;exact⟨i,hi,v,by grind [il.fj],Int.lt_of_le_of_lt (h.un _ _) e⟩
def rC(n:aI)(s:an):Prop:=∃i:Nat,i<n.d6.length/\dp s i=ne/\∃v∈aT s (i:Int),bN n s (i:Int) v=n.k
theorem rC.bb{s':an}(h:rC n s)(f:ba n.k n.d6 s)(hk:il n s s'):rC n s':=by
 obtain⟨i,hi,a,v,ac,hu⟩:=h;have j:=f.d7;have q:=hk.same.d7;obtain⟨x,J⟩:=aK (l:=s.d7) (i:=i) Ω;obtain⟨y,e⟩:=aK (l:=s'.d7) (i:=i) Ω;refine⟨i,hi,?_,v,by grind [il.fj],?_⟩
 .unfold dp at a ⊢;rw[J]at a;rw[e];have:=(hk.same.var i x y J e).1
  grind
 .have h1:=hk.un i v;have r:=(lH (i:=(i:Int)) (v:=v) hk.ok).2;omega
def od(k:Int)(s:an)(j pos:Nat)(v:Int):Int:=match du s j pos v with
 |none=>0
 |some (f,_,_)=>eN k s f pos v
theorem Hg{f:bI}(a:ba n.k n.d6 s)(ah:f∈s.d8):0<=eN n.k s f pos v/\eN n.k s f pos v<=n.k:=by
 have hk:=a.eA;exact⟨room_le.2 ⟨Ω,λt _=>(nk a ah).1⟩,(room_le.1 (S8 _)).1⟩
theorem Uq{b:Bool}(A:ba n.k n.d6 s)(F:b2 s):il n s (gv n.k j pos (s,b) v).1/\((gv n.k j pos (s,b) v).2=ms->b=ms\/pf n s (gv n.k j pos (s,b) v).1\/rC n (gv n.k j pos (s,b) v).1)/\
  ((gv n.k j pos (s,b) v).2=ne->b=ne/\(gv n.k j pos (s,b) v).1=s/\od n.k s j pos v=0):=by
 unfold gv od;simp only;cases ae:du s (j:Int) (pos:Int) v with
 |none=>exact⟨.rfl A F,λh=>.inl h,by grind⟩
 |some q=>
  obtain⟨f,u,x⟩:=q;obtain⟨_,_,ah,S,hu,ac⟩:=nj ae;obtain⟨T,J,U,O⟩:=ke ac;rw[u5]at ah hu;have I:=x6 ah;have K:=Hg (pos:=pos) (v:=v) A I;simp only;by_cases G:0<eN n.k s f pos v
  .rw[lw G];have q:=(zp (k:=n.k) (a:=projM j pos v (eN n.k s f pos v)) ae).2.1 rfl K (by show _<=eN n.k s f (pos:Int).toNat v;rw[u5];exact S8 _);unfold projM at q;simp only[u5]at q;have hm:=vX (m:=projM j pos v (eN n.k s f pos v)) A F;have B:=vZ (m:=projM j pos v (eN n.k s f pos v)) A;unfold projM at hm B ⊢;obtain⟨C,E,H⟩:=hm;have P:=(room_le).1 (S8 (eN n.k s f pos v));obtain⟨V,W⟩:=kD A I;have X:=ij (v:=v.toNat) A J;have Q:=(e1.1 O).1;generalize Y:eN n.k s f pos v=c at q C E H B P K G;obtain⟨r,L⟩:∃r,r=fy s j f pos u.toNat x v (λg=>cG n.k g c) λg=>b4 n.k g c:=⟨_,rfl⟩;rw[<-L]at q;rw[q]at C E H B ⊢;simp only at C E H B ⊢;refine⟨⟨C,E,B,λa Z=>?_,by grind [zo],by rw[L];rfl,λi w=>?_⟩,λ_=>.inr ?_,by grind⟩
   .grind [n7]
   .grind [zP,bN,fx,b4]
   .have aa:=(x5.1 J).1;have ab:=A.d7;obtain⟨z,M⟩:=aK (l:=n.d6) (i:=u.toNat) Ω;have ad:=(A.var u.toNat x z J M).1;have af:=A.fg.2.2 z (x6 M);have aE:eC n (u.toNat:Int) v:=⟨Ω,Ω,Q.1,by grind⟩;have R:v∈aT s (u.toNat:Int):=by
     grind [aT]
    have e:bN n s (u.toNat:Int) v=x.un.getD v.toNat 0:=by grind [bN,fx]
    have ag:bN n r (u.toNat:Int) v=b4 n.k (x.un.getD v.toNat 0) c:=by grind [zP]
    by_cases hk:x.un.getD v.toNat 0<n.k
    .refine .inl ⟨u.toNat,Ω,v,R,?_⟩
     grind [b4]
    .refine .inr ⟨u.toNat,Ω,?_,v,?_,?_⟩
     .obtain⟨y,N⟩:=aK (l:=r.d7) (i:=u.toNat) (by have:=B.d7;omega);unfold dp;rw[N];have:=(B.var u.toNat x y J N).1
      grind
     all_goals grind [zo,b4]
  .rw[m1 G];exact⟨.rfl A F,λh=>.inl h,by grind⟩
end
section
variable{n:aI}{s:an}
def oe(n:aI)(s:an)(b:Bool)(r:an×Bool)(R:Prop):Prop:=il n s r.1/\(r.2=ms->b=ms\/pf n s r.1\/rC n r.1)/\(r.2=ne->b=ne/\r.1=s/\R)
theorem oe.F{b:Bool}{r q:an×Bool}{R:Prop}{R':an->Prop}(h:oe n s b r R)(g:oe n r.1 r.2 q (R' r.1)):oe n s b q (R/\R' s):=by
 obtain⟨h1,e,j⟩:=h;obtain⟨g1,f,w⟩:=g;refine⟨h1.F g1,λa=>?_,λa=>?_⟩
 .rcases f a with h|h|h
  .rcases e h with h|h|h
   .grind
   .exact .inr (.inl (h.then g1))
   .exact .inr (.inr (h.bb h1.ok g1))
  .exact .inr (.inl (.of h1 h))
  grind
 grind
theorem tv{α:Type}{step:an×Bool->α->an×Bool}{R:α->an->Prop}(h:∀a s b,ba n.k n.d6 s->b2 s->oe n s b (step (s,b) a) (R a s)):
  ∀(L:List α)(s:an)(b:Bool),ba n.k n.d6 s->b2 s->oe n s b (L.foldl step (s,b)) (∀a∈L,R a s)
 |[],s,b,e,f=>⟨.rfl e f,λh=>.inl h,by grind⟩
 |a::L,s,b,e,f=>by
  have h1:=h a s b e f;have j:=tv h L (step (s,b) a).1 (step (s,b) a).2 h1.1.ok h1.1.gq;obtain⟨q,r,w⟩:=oe.F (R':=λs=>∀a∈L,R a s) h1 j;refine⟨q,r,λx=>?_⟩
  grind
theorem Hh{b:Bool}(a:ba n.k n.d6 s)(e:b2 s):oe n s b (eT n.k (s,b) j) (∀f,s.d8[j]?=σ f->∀pos∈X2 f.sc.length,∀v∈aT s (f.sc.getD pos 0),od n.k s j pos v=0):=by
 unfold eT;simp only;cases ah:s.d8[j]? with
 |none=>exact⟨.rfl a e,λh=>.inl h,by grind⟩
 |some f=>
  simp only;have h1:∀(pos:Nat)(s:an)(b:Bool),ba n.k n.d6 s->b2 s->oe n s b (qu n.k j f.sc (s,b) pos) (∀v∈aT s (f.sc.getD pos 0),od n.k s j pos v=0):=λpos s b a e=>
   tv (λv s b a e=>Uq a e) (aT s (f.sc.getD pos 0)) s b a e
  obtain⟨r,w,q⟩:=tv h1 (X2 f.sc.length) s b a e;exact⟨r,w,λh=>⟨(q h).1,(q h).2.1,λg x=>by cases x;exact(q h).2.2⟩⟩
def rD(n:aI)(O:List Nat)(s:an):Prop:=∀j∈O,∀f,s.d8[j]?=σ f->∀pos∈X2 f.sc.length,∀v∈aT s (f.sc.getD pos 0),od n.k s j pos v=0
def dK(n:aI)(O:List Nat)(s:an):an×Bool×Bool:=if(fG n s).2.2=ms\/(fG n s).2.1=ms then fG n s else((O.foldl (eT n.k) ((fG n s).1,ne)).1,(O.foldl (eT n.k) ((fG n s).1,ne)).2,ne)
theorem Hi{s':an}(h:dv s s')(a:∀i,aT s' i=aT s i):gO s'=gO s:=by
 unfold gO;congr 1;refine Y5 λi=>?_;rw[v8,v8];have e:=h.d7;by_cases hi:i<s.d7.length
 .obtain⟨x,J⟩:=aK (l:=s.d7) hi;obtain⟨y,f⟩:=aK (l:=s'.d7) (i:=i) Ω;have:=a (i:Int)
  grind [aT]
 grind
theorem Ur(a:ba n.k n.d6 s)(h:rC n s):¬fJ n s:=λe=>by
 obtain⟨i,hi,f,v,ac,hu⟩:=h;have:=(e i hi (by grind)).2.2 v ac;rw[hu]at this;unfold b4 at this;have:=a.zero.1;omega
theorem il.zQ{s':an}(h:il n s s'):fz n.k n.d6 s s':=⟨h.ok,h.gq,h.same,h.val,by grind [il.fj],by grind [il.zero]⟩
theorem Hj(f:ba n.k n.d6 s)(y:b2 s):fz n.k n.d6 s (dK n O s).1/\((dK n O s).2.2=ms->(dK n O s).2.1=ne/\∃i<n.d6.length,dp s i=ne/\aT (dK n O s).1 (i:Int)=[])/\
  ((dK n O s).2.2=ne->(dK n O s).2.1=ms->gP n (dK n O s).1<gP n s)/\((dK n O s).2.2=ne->(dK n O s).2.1=ne->(dK n O s).1=s/\fJ n s/\rD n O s):=by
 obtain⟨h1,K,L,C⟩:=G5 f y;generalize w:dK n O s=r;unfold dK at w;by_cases E:(fG n s).2.2=ms\/(fG n s).2.1=ms
 .grind [Up]
 .rw[m1 E]at w;have he:(fG n s).2.2=ne:=by grind
  have F:(fG n s).2.1=ne:=by grind
  obtain⟨e,x⟩:=C he F;have x:=x;rw[e]at w;obtain⟨a,z,A⟩:=tv (λj s b f y=>Hh f y) O s ne f y;generalize O.foldl (eT n.k) (s,ne)=q at a z A w;subst w;refine⟨a.zQ,by grind,λ_ h=>?_,λ_ h=>?_⟩
  .have B:eO n.k q.1=eO n.k s:=by grind [eO,Hi,il.same,il.fj,il.zero]
   show gP n q.1<gP n s;rcases(z h).resolve_left Φ with⟨i,hi,v,ac,G⟩|H
   .exact Hf B x f a.ok a.fj hi (λq _ v _=>a.un _ _) ⟨v,ac,G⟩
   .exact He B x (Ur a.ok H)
  .obtain⟨_,I,J⟩:=A h;exact⟨I,x,J⟩
theorem Hk{s':an}{i:Nat}(h:dv s s')(hi:i<s.d7.length):dp s' i=dp s i:=by
 have e:=h.d7;obtain⟨x,J⟩:=aK (l:=s.d7) hi;obtain⟨y,a⟩:=aK (l:=s'.d7) (i:=i) Ω;unfold dp;rw[J,a];simp only;rw[(h.var i x y J a).1]
theorem zR{α:Type}{step:an×Bool->α->an×Bool}:∀(L:List α),(∀a∈L,step (s,ne) a=(s,ne))->L.foldl step (s,ne)=(s,ne)
 :=by
 intro a;induction a<;>grind
theorem Us(a:ba n.k n.d6 s)(h:fJ n s)(q:rD n O s):dK n O s=(s,ne,ne):=by
 have e:fG n s=(s,ne,ne):=G7 a _ λi hi=>h i (List.mem_range.1 hi);have w:O.foldl (eT n.k) (s,ne)=(s,ne):=by
  refine zR O λj r=>?_;unfold eT;simp only;cases ah:s.d8[j]? with
  |none=>rfl
  |some f=>
   simp only;refine zR _ λpos ae=>?_;unfold qu;refine zR _ λv ac=>?_;have:=q j r f ah pos ae v ac
   grind [od,gv]
 grind [dK]
end
theorem Hl{P:Nat->Prop}:∀m,P m->∃m,P m/\∀k,P k->m<=k:=λm=>by
 induction m using Nat.strongRecOn with
 |ind m a=>
  intro hm;by_cases h:∃k,k<m/\P k
  .obtain⟨k,h1,e⟩:=h;exact a k h1 e
  .exact⟨m,hm,λk hk=>Nat.le_of_not_lt λf=>h ⟨k,f,hk⟩⟩
open Classical in
theorem b6.sink{B:x1->x4->(x1->x4->Prop)->Prop}(aA:Nat->x4->Prop){m:Nat}(r:aA m w)(V:∀(m:Nat)(a:x1)(I:x4)(k:x1->x4->Prop),aA m I->(∀bX a f,bX<m->aA bX f->k a f)->B a I k):b6 a w B:=by
 have j:∀{w:x4},(∃m,aA m w)->∃m,aA m w/\∀k,aA k w->m<=k:=λ⟨m,h⟩=>Hl (P:=λm=>aA m _) m h;refine⟨λ_ w=>∃m,aA m w,λ_ w=>if h:∃m,aA m w then Classical.choose (j h)else 0,⟨m,r⟩,λa I q=>?_⟩;obtain⟨h1,s⟩:=Classical.choose_spec (j q);refine V _ a I _ h1 λbX _ f x e=>⟨⟨bX,e⟩,?_⟩;have y:=(Classical.choose_spec (j ⟨bX,e⟩)).2 bX e;show dite _ _ _<dite _ _ _;rw[dif_pos q,dif_pos ⟨bX,e⟩];omega
theorem Hm{k i:Int}:∀(L M:Λ)(p:an×Bool),dw k i (L++M) p=dw k i M (dw k i L p)
 |[],_,_=>rfl
 |v::L,M,p=>by
  rw[List.cons_append,dw,dw];exact Hm L M _
theorem Ut{i:Int}{L:Λ}{p:an×Bool}(h:L[j]?=σ v):dw k i (L.take (j+1)) p=((bi k (dw k i (L.take j) p).1 (e8 i v)).1,decide ((bi k (dw k i (L.take j) p).1 (e8 i v)).2=0)||(dw k i (L.take j) p).2):=by
 rw[u7,h,o8,Hm];rfl
section
variable{aw:List az}{w:x4}{af ag:Nat}{A R:ak}{n:aI}{s:an}{t:az}
theorem Uu{i:Nat}{x:bA}(h:bw w af ag A R n s t)(Z:Laid w)(aI:¬A 0)(aE:dJ aw t)(J:s.d7[i]?=σ x):aq x7 Kk [Γ af,Δ (i:Int)] w λr I=>r= .bool (dw n.k (i:Int) (aB x) (s,ne)).2/\cp aw w af ag A R n (dw n.k (i:Int) (aB x) (s,ne)).1 I:=by
 refine iM func158 ?_;refine bo λg1 U bf an B=>?_;refine bo λaJ ab bg ac C=>?_;have bh:=ai.lt B;have bj:=ai.lt C;refine bC eE.i λf bk bm aK aL=>?_;refine bs (o:=0) eE.i rfl rfl aL (by show 0<1;omega) λG aN bn O=>?_;have O:ai G f eE [.bool ne]:=O;have P:Ext ab G:=aK.put aN Ω;have B:ai G g1 dx [Γ af]:=(ai.W B ac).W P;have C:ai G aJ al [Δ (i:Int)]:=ai.W C P;have ad:=(an.F ac).F P;have bp:=an.size;have bq:=ac.size;have br:=P.size;have bt:=B.lt;have bx:=C.lt;have bz:=O.lt;have ae:=tu Z;rw[aD (v:=Γ af) Ψ (B.Qz rfl),aD (v:=Δ (i:Int)) Ψ (C.Qz rfl)];refine(iW (i:=(i:Int)) (h.W ad)).Y ?_;rintro _ bB _ ⟨⟨b,ah,rfl,Q⟩,ap⟩;refine(l3 (b:=b) (n:=ah)).Y ?_;rintro _ q _ ⟨aO,H,rfl,bD,au⟩;have av:=kC Q Ω (show s.d7[(i:Int).toNat]?=σ x by rw[u5];exact J);have L:=ap.F aO;have z5:=ap.size;have z46:=L.size;have bE:=au.lt;refine ki.old ⟨_,ne,jy,#[Γ H],_,_,_,_,λj I=>dC aw w af ag A R n w.heap.size (λr=>q.heap.size<=r) (dw n.k (i:Int) ((aB x).take j) (s,ne)).1 I/\aj (λr=>r<w.heap.size\/q.heap.size<=r\/r=f) q I/\ai I f eE [.bool (dw n.k (i:Int) ((aB x).take j) (s,ne)).2],λ_ _ _=>False,rfl,(l2 (g:=H) Q.1).s,?_,
  λ_ _ J h=>⟨h.1.W J,h.2.W J⟩,λ_ _ _ J h=>⟨h.1.W J,h.2.1.F (J.aa _),h.2.2.W J⟩,λ_ _ _ _ _ h=>h,⟨au,Z.W (ad.F L)⟩,⟨dC.start h Z aI aE (ad.F L) (p9 _),aj.refl _ _,O.W L⟩,?_,?_,λ_ _ h=>h.elim,λ_ _ _ h=>h.elim⟩
 .rintro _ _ _ _ ⟨_,_,_,_,rfl⟩;rfl
 .rintro _ j _ bF ⟨ax,aQ⟩ ⟨bG,rfl,v,aR,aS⟩ ⟨S,V,W⟩;cases aS;intro aT M _ _;have aU:(aB x)[j]?=σ (v:Int):=by rw[<-av,v8,aR];rfl
  have bb:∀{g:Nat}{e:r8}{cs:List x1},w.heap.size<=g->g<f->ai G g e cs->ai aT g e cs:=λaV aW aX=>((aX.W L).aa V Ω).W M;have ak:=Ut (k:=n.k) (i:=(i:Int)) (p:=(s,ne)) aU;obtain⟨bH,bI,aY,aZ,a1,a2⟩:=S.qp;have ay:∀{z:x4}{c:x1}{d:Bool},d=(dw n.k (i:Int) ((aB x).take (j+1)) (s,ne)).2->ai z H b9 [.int .u64 b,Δ ah]->Laid z->dC aw w af ag A R n w.heap.size (λr=>q.heap.size<=r) (dw n.k (i:Int) ((aB x).take (j+1)) (s,ne)).1 z->aj (λr=>r<w.heap.size\/q.heap.size<=r\/r=f) q z->ai z f eE [c]->
    ∀{K:Unit->x4->Prop},(∀y,(ai y H b9 [.int .u64 b,Δ ah]/\Laid y)/\(dC aw w af ag A R n w.heap.size (λr=>q.heap.size<=r) (dw n.k (i:Int) ((aB x).take (j+1)) (s,ne)).1 y/\aj (λr=>r<w.heap.size\/q.heap.size<=r\/r=f) q y/\ai y f eE [.bool (dw n.k (i:Int) ((aB x).take (j+1)) (s,ne)).2])->K () y)->
    aM x7 (o7 eE (Γ f) (.bool d)) z K:=λ{z c d}Q X E az aA a6{K}a7=>by
   subst Q;refine bs (o:=0) eE.i rfl rfl a6 Ξ λy Y bJ a8=>?_;have z9:=aA.size;exact a7 _ ⟨⟨X.aa Y λh=>by have h:H=f:=h;omega,iu Y (λh=>by have h:0=f:=h;omega) E⟩,az.own Y λr N=>by have N:r=f:=N;subst N;exact⟨Ω,Ω⟩,aA.F (Y.Y λr _ N=>.inr (.inr N)),a8⟩
  rw[aD (v:=Γ af) Ψ ((bb Ω Ω B).Qz rfl),aD (v:=Δ (i:Int)) Ψ ((bb Ω Ω C).Qz rfl)];have bK:=V.size;refine(GQ (a:=e8 (i:Int) (v:Int)) rfl (aY.W M) (aQ.W M) a1 aZ).Y ?_;rintro _ aC _ ⟨rfl,ba,aF,aP,bu,bc,aG,bd,bL⟩;rw[<-show(dw n.k (i:Int) ((aB x).take (j+1)) (s,ne)).1=(bi n.k (dw n.k (i:Int) ((aB x).take j) (s,ne)).1 (e8 (i:Int) (v:Int))).1 by rw[ak]]at aG;obtain⟨X,E,az⟩:=a2 (D':=λr=>q.heap.size<=r) (iS M ba) ((Grow.W M).F bc) aG bd (λr h=>h) λr aV aW=>Ω
  have am:ai aC f eE _:=W.aa E Ω;rw[bl,ao];have aH:aj (λr=>r<w.heap.size\/q.heap.size<=r\/r=f) q aC:=V.F (E.Y λr _ h=>h.imp id .inl);refine⟨λhe=>?_,λhe=>?_⟩
  .have e:(dw n.k (i:Int) ((aB x).take (j+1)) (s,ne)).2=ms:=by rw[ak,m3 he,Bool.true_or]
   exact ay e.symm (ax.aa E Ω) aF X aH am λy h=>⟨h.1,h.2,λh=>by cases h⟩
  .have e:(dw n.k (i:Int) ((aB x).take (j+1)) (s,ne)).2=(dw n.k (i:Int) ((aB x).take j) (s,ne)).2:=by rw[ak,m5 he,Bool.false_or]
   rw[aD Ψ (am.Qz rfl)];exact ay e.symm (ax.aa E Ω) aF X aH am λy h=>⟨h.1,h.2,λh=>by cases h⟩
 .rintro k bM rfl ⟨S,V,W⟩;rw[j4 (by rw[<-av,u9];exact p9 _)]at S W;rw[aD Ψ (W.Qz rfl)];intro bN be _;exact⟨rfl,S.done be⟩
theorem Uv{N i:Nat}(h:i<N):(X2 N).drop i=i::(X2 N).drop (i+1):=by
 rw[Y8 (by simpa using h),List.getElem_range]
def zS(aw:List az)(w:x4)(af ag:Nat)(A R:ak)(n:aI)(q:an×Bool×Bool)(r:x1)(I:x4):Prop:=r= .tuple #[.bool q.2.1,Δ (if q.2.2=ms then 8 else 0)]/\cp aw w af ag A R n q.1 I
theorem Uw(h:bw w af ag A R n s t)(ah:Laid w)(ai:¬A 0)(aE:dJ aw t)(aj:b2 s):aq x7 Bk [Γ af] w (zS aw w af ag A R n (fG n s)):=by
 have E:=h.2.2.2.1;have aM:=E.d7;have aN:=E.fg.2.1;refine aF func98 ?_;rw[cT dx.u];simp only[l9,a6];refine(yZ h).Y ?_;rintro _ U _ ⟨rfl,ak⟩;refine rN.range n.d6.length (λi _ _ c ab=>∃s1 b,c= .bool b/\cp aw w af ag A R n s1 ab/\fz n.k n.d6 s s1/\fG n s=ik n ((X2 n.d6.length).drop i) (s1,b)) Ω ⟨s,ne,rfl,cp.same h ah ai aE ak,.rfl E aj,rfl⟩ ?_ ?_
 .rintro i aO t3 _ ab al hi ⟨s1,b,rfl,hm,f,j⟩ am;refine bM Ω ?_;obtain⟨aP,aQ,W,an,ap,au,av⟩:=hm.open;have aS:=f.ok.d7;obtain⟨x,J⟩:=aK (l:=s1.d7) (i:=i) Ω;rw[Uv hi,ik]at j;have ax:aT s1 (i:Int)=aB x:=pe J;refine Cl (λ_ _ r I=>r= .bool (fi n (i:Int) (s1,b)).2.1/\(fi n (i:Int) (s1,b)).2.2=ne/\cp aw w af ag A R n (fi n (i:Int) (s1,b)).1 I) ?_ λaA y=>?_
  .rintro _ _ _ aU ⟨rfl,he,ay⟩;rw[aR];refine am _ _ _ _ ⟨_,_,rfl,ay,f.F (G3 (i:=(i:Int)) (b:=b) f.ok f.gq Ω Ω).1,?_⟩;rw[j,m1 (by rw[he];decide)]
  refine(tc (i:=(i:Int)) W).Y ?_;rintro _ aV _ ⟨rfl,B⟩;rw[m3 Ω,T0,u5,b1];refine⟨λC=>?_,λC=>?_⟩
  .have e:fi n (i:Int) (s1,b)=(s1,b,ne):=by unfold fi;rw[u5,lw C]
   rw[e]at y;exact y _ _ _ _ ⟨rfl,rfl,hm.W B⟩
  have ac:fi n (i:Int) (s1,b)=(let q:=dw n.k (i:Int) (aB x) (s1,ne);if(dV n q.1 (i:Int)).2<0 then(q.1,ne,ms)else if 0<(dV n q.1 (i:Int)).1 then((bi n.k q.1 (mn (i:Int) (dV n q.1 (i:Int)).1)).1,ms,ne)else(q.1,q.2||b,ne)):=by
   unfold fi;rw[u5,m1 (by rw[C];decide),ax]
  have ae:=(zM (i:=(i:Int)) (aB x) s1 ne f.ok f.gq).1;simp only at ac;generalize az:dw n.k (i:Int) (aB x) (s1,ne)=q at ac ae;refine a1 (λr I=>r= .bool (q.2||b)/\cp aw w af ag A R n q.1 I) ?_ λaX X=>?_
  rotate_left
  .refine (Uu (W.W B) (an.W B) ap au J).Y ?_;rintro _ aC _ ⟨rfl,Y⟩;rw[az]at Y ⊢;have Z:cp aw w af ag A R n q.1 aC:=by
    obtain⟨G,H,K,L,M,N,O,P⟩:=Y;exact av ⟨iS B G,H,K,L,(Grow.W B).F M,N,O,P⟩
   rw[b1];exact⟨λh=>X _ _ ⟨by rw[h,Bool.true_or],Z⟩,λh=>X _ _ ⟨by rw[h,Bool.false_or],Z⟩⟩
  rintro _ aY ⟨rfl,Q⟩;obtain⟨aZ,t5,aa,ad,aD,aG,aH⟩:=Q.open;have aI:dp q.1 i=ne:=by rw[Hk ae.same Ω];exact C
  have aJ:lG n q.1 (i:Int)=ms:=by
   unfold lG;rw[u5,aI,m3 (show(0:Int)<=i/\(i:Int)<n.d6.length by omega)];rfl
  refine(Ui aa ad aJ).Y ?_;rintro _ a2 _ ⟨z,rfl⟩;rw[fP,fQ,fR,aW,ao];refine⟨λS=>?_,λS=>?_⟩
  .rw[lw S]at ac;rw[ac,lw rfl]at j;rw[j];exact⟨rfl,Q.W z⟩
  rw[m1 S]at ac;rw[bU,ao];refine⟨λV=>?_,λV=>?_⟩
  .rw[lw V]at ac;rw[ac]at y;refine(GP (a:=mn (i:Int) (dV n q.1 (i:Int)).1) rfl (aa.W z) (ad.W z) aD aG).Y ?_;rintro _ a7 _ ⟨_,aL⟩;refine y _ _ _ _ ⟨rfl,rfl,?_⟩;obtain⟨G,H,K,L,M,N,O,P⟩:=aL;exact aH ⟨iS z G,H,K,L,(Grow.W z).F M,N,O,P⟩
  .rw[m1 V]at ac;rw[ac]at y;exact y _ _ _ _ ⟨rfl,rfl,Q.W z⟩
 .rintro _ _ _ ab al ⟨s1,b,rfl,hm,f,j⟩;refine cc Ω ?_;rw[List.drop_eq_nil_of_le Ξ,ik]at j;rw[j];exact⟨rfl,hm⟩
end
theorem Ux{b n:Nat}(a:mP b n):aq x7 Bc [ks b n] w λr I=>r=Δ (rz b:Int)/\Ext w I:=by
 have e:b<4294967296:=by
  have:=a.2;have:(2:Nat) ^ n<=2 ^ 32:=T3 Ω a.1;omega
 refine aF func26 ?_;refine bo λg U q f h=>?_;rw[aO b9.p 0 h rfl];refine(GK e).Y ?_;rintro _ ab _ ⟨rfl,j⟩;exact⟨rfl,f.F j⟩
section
variable{w:x4}{dr:x1}{n:aI}{s:an}
theorem Uy{i:Nat}{x:bA}(a:ba n.k n.d6 s)(J:s.d7[i]?=σ x):lM n s (i:Int)↔(x.gone=0->aB x≠[]/\(cF n.k (aB x) λv=>x.un.getD v.toNat 0).1=0/\∀v∈aB x,min (s.zero+x.un.getD v.toNat 0) n.k<n.k):=by
 unfold lM;rw[u5,pe J,Uh a J];have j:dp s i=decide (x.gone≠0):=by unfold dp;rw[J]
 rw[j,decide_eq_false_iff_not];refine⟨λh q=>?_,λh q=>?_⟩
 .obtain⟨h1,e,f⟩:=h Ω;refine⟨h1,e,λv ac=>?_⟩;have:=f v ac;rw[wo a J ac]at this;exact this
 .obtain⟨h1,e,f⟩:=h Ω;refine⟨h1,e,λv ac=>?_⟩;rw[wo a J ac];exact f v ac
theorem Uz(h:iI w dr n.k n.d6 s)(f:ba n.k n.d6 s):aq x7 IZ [dr] w λr I=>Ext w I/\∃b:Bool,r= .bool b/\(b=ms↔fJ n s):=by
 have aS:=f.d7;have aT:=f.fg.2.1;have aU:=f.eA;have aV:=f.zero;refine aF func42 ?_;refine bo λg1 U aW L ag=>?_;have W:=h.box L ag;obtain⟨ho,aX,aY,aZ,a2,a6,z,ah,_,X,ai,aj,bb,bc⟩:=id W;rw[aO a8.p 1 z rfl,a7 av.u ah];refine cb.range n.d6.length (λi _ ab=>Ext U ab/\∀q,q<i->lM n s ((q:Nat):Int)) Ω ⟨Ext.refl _,λq j=>m2 j (Nat.not_lt_zero _)⟩ ?_ ?_
 rotate_left
 .rintro _ ab ak ⟨y,M⟩;exact cc Ω ⟨L.F y,ms,rfl,λ_=>M,λ_=>rfl⟩
 rintro i bd ab ak hi ⟨y,M⟩ am;obtain⟨x,J⟩:=aK (l:=s.d7) (i:=i) Ω;have be:=qm x;have E:=Uy f J;refine bM Ω ?_;have an:lM n s (i:Int)->∀q,q<i+1->lM n s ((q:Nat):Int):=λh q j=>by
  rcases Nat.lt_or_eq_of_le (Nat.le_of_lt_succ j)with bg|rfl
  .exact M q bg
  .exact h
 have no:∀{I:x4},Ext U I->¬lM n s (i:Int)->Ext w I/\∃b:Bool,x1.bool ne= .bool b/\(b=ms↔fJ n s):=λap A=>⟨L.F ap,ne,rfl,λh=>(by cases h),λh=>m2 (h i hi) A⟩;refine a1 (λ_ I=>Ext U I/\lM n s (i:Int)) (λ_ I Y=>by rw[aR];exact am _ _ ⟨Y.1,an Y.2⟩) λaA Z=>?_;rw[aO a8.p 4 (z.W y) rfl];refine iN (α:=Bool) rfl rfl lb.u eE.i Ψ (bP ai y) (by rw[v8,J];rfl) λau aw=>?_;obtain rfl:au= .bool (decide (x.gone≠0)):=(List.cons.inj aw).1;rw[ao];refine⟨λay=>Z _ _ ⟨y,E.2 λh=>m2 h ay⟩,λbf=>?_⟩;have aa:x.gone=0:=Ω
 refine(W.W y).load λbh az=>?_;refine(TT az f J).Y ?_;rintro _ bi _ ⟨aD,rfl⟩;have G:=y.F aD;rw[bx,bz];have bj:0<=(cF n.k (aB x) λv=>x.un.getD v.toNat 0).1:=(tk Ω λv _=>ij f J).1;refine a1 (λr I=>Ext U I/\r= .bool (decide (aB x=[]\/0<(cF n.k (aB x) λv=>x.un.getD v.toNat 0).1))) ?_ λbk ad=>?_
 rotate_left
 .rw[aO a8.p 3 (z.W G) rfl];refine iN rfl rfl df.u av.i Ψ (bP X G) (by rw[v8,J];rfl) λaE N=>?_;rw[a7 av.u (dy N),bl,ao];refine⟨λO=>ad _ _ ⟨G,by rw[m3 (.inl (j6 Ω))]⟩,λO=>?_⟩;rw[bU];refine ad _ _ ⟨G,?_⟩;congr 1;exact decide_eq_decide.2 ⟨λh=>.inr h,λh=>h.resolve_left λe=>by rw[e]at O;exact O rfl⟩
 rintro _ aG ⟨B,rfl⟩;rw[ao];refine⟨λH=>no B λA=>?_,λH=>?_⟩
 .obtain⟨h1,bn,_⟩:=E.1 A aa;exact H.elim h1 λh=>Ω
 have aH:aB x≠[]:=λe=>H (.inl e);have aI:(cF n.k (aB x) λv=>x.un.getD v.toNat 0).1=0:=by
  have:¬0<(cF n.k (aB x) λv=>x.un.getD v.toNat 0).1:=λe=>H (.inr e);omega
 rw[aO a8.p 3 (z.W B) rfl];refine iN rfl rfl df.u av.i Ψ (bP X B) (by rw[v8,J];rfl) λaE N=>?_;have P:=dy N;rw[a7 av.u P];refine cb.range (aB x).length (λq _ Q=>Ext aG Q/\∀v∈(aB x).take q,min (s.zero+x.un.getD v.toNat 0) n.k<n.k) P.le ⟨Ext.refl _,λv ac=>by cases ac⟩ ?_ ?_
 rotate_left
 .rintro _ Q aJ ⟨C,j⟩;rw[o6]at j;exact cc Ω (Z _ _ ⟨B.F C,E.2 λ_=>⟨aH,aI,j⟩⟩)
 rintro q bp Q aJ j ⟨C,aL⟩ aM;obtain⟨v,ac⟩:=aK (l:=aB x) j;have ae:=x6 ac;have aN:=(e1.1 ae).1;obtain⟨R,rfl⟩:=Y6 aN.1;have bq:=ij (v:=R) f J;have aP:=B.F C;refine bM Ω ?_;rw[bm av.u al.i Ψ (P.W C) ac];intro br af _ _;have S:=aP.F af;have K:=z.W S;rw[aO a8.p 2 K rfl,aO a8.p 5 K rfl];refine iN (a:=x.un) (i:=i) rfl rfl et.u aC.i Ψ (bP aj S) (by rw[v8,J];rfl) λbs aQ=>?_;rw[bm aC.u ax.i Ψ (dy aQ) (getD_some (i:=R) Ω),aO a8.p 0 K rfl,aO a8.p 0 K rfl];refine(oJ Ω Ω).Y ?_;rintro _ bt _ ⟨rfl,V⟩;refine⟨.inl V,?_⟩;rw[bl,ao];refine⟨λhe=>no (S.F V) λA=>?_,λhe=>?_⟩
 .have:=(E.1 A aa).2.2 (R:Int) ae;rw[u5]at this;omega
 .rw[aR];refine aM _ _ ⟨(C.F af).F V,λu hu=>?_⟩;rw[u7,ac,o8,j5,Z7]at hu;rcases hu with hu|rfl
  .exact aL u hu
  .rw[u5];omega
end
structure UA(P:an->Prop)(n:aI)(s:an)(q:an×Bool):Prop where
 bb:fz n.k n.d6 s q.1
 emp:q.2=ms->∃i<n.d6.length,dp q.1 i=ne/\aT q.1 (i:Int)=[]
 Hn:q.2=ne->fJ n q.1/\P q.1
 quiet:fJ n s->P s->q=(s,ne)
section
variable{aw:List az}{w:x4}{af ag:Nat}{A R:ak}{n:aI}{s:an}{t:az}
end
section
variable{w:x4}{dr:x1}{n:aI}{s:an}
end
structure k5(n:Nat)(H:List (Int×Int))(P:Λ):Prop where
 len:P.length=n
 ae:∀(i:Nat)a,H[i]?=σ a->0<=a.2/\a.2<n/\P[a.2.toNat]?=σ (i:Int)
 pl:∀(x:Nat)i,P[x]?=σ i->i= -1\/∃(j:Nat)(a:Int×Int),i=(j:Int)/\H[j]?=σ a/\a.2=(x:Int)
section
variable{n:Nat}{H:List (Int×Int)}{P:Λ}
theorem k5.new(n:Nat):k5 n [] (r9 n (-1)):=⟨Ξ,by grind,λx i h=>.inl (List.mem_replicate.1 (x6 h)).2⟩
theorem k5.swap(h:k5 n H P){i k:Nat}{a b:Int×Int}(q:H[i]?=σ a)(r:H[k]?=σ b):k5 n ((H.set i b).set k a) ((P.set b.2.toNat i).set a.2.toNat k):=by
 obtain⟨a0,B,C⟩:=h.ae i a q;obtain⟨E,F,G⟩:=h.ae k b r;have I:=(x5.1 q).1;have J:=(x5.1 r).1;have K:=h.len;refine⟨by grind,λj c f=>?_,λx v ac=>?_⟩
 .rw[X8]at f;by_cases s:k=j
  .grind
  .rw[m1 s,X8]at f;by_cases w:i=j
   .grind
   .rw[m1 w]at f;obtain⟨gB,L,M⟩:=h.ae j c f
    grind
 .rw[X8]at ac;by_cases y:a.2.toNat=x
  .grind
  .rw[m1 y,X8]at ac;by_cases z:b.2.toNat=x
   .grind [W0]
   .rw[m1 z]at ac;rcases h.pl x v ac with e|⟨j,c,e,f,A⟩
    .omega
    .refine .inr ⟨j,c,e,?_,A⟩
     grind
theorem k5.push(h:k5 n H P){x:Nat}{p:Int}(J:P[x]?=σ (-1)):k5 n (H++[(p,(x:Int))]) (P.set x H.length):=by
 have q:=(x5.1 J).1;have s:=h.len;have w:∀(j:Nat)c,H[j]?=σ c->c.2≠(x:Int):=λj c a e=>by
  have:=(h.ae j c a).2.2
  grind
 refine⟨by grind,λj c a=>?_,λy v ac=>?_⟩
 .by_cases r:j<H.length
  .rw[V3 r]at a;obtain⟨gB,z,A⟩:=h.ae j c a
   grind
  .rw[X1 Ω]at a
   grind
 .rw[X8]at ac;by_cases f:x=y
  .subst f;rw[lw rfl,lw q]at ac;cases ac;exact .inr ⟨H.length,(p,(x:Int)),rfl,by grind,rfl⟩
  .rw[m1 f]at ac;rcases h.pl y v ac with e|⟨j,c,e,a,B⟩
   all_goals grind
theorem k5.drop{a:Int×Int}(h:k5 n (H++[a]) P):k5 n H (P.set a.2.toNat (-1)):=by
 have w:=h.len;obtain⟨a0,x,z⟩:=h.ae H.length a (by grind);refine⟨by grind,λj c f=>?_,λy v ac=>?_⟩
 .have q:=(x5.1 f).1;have r:(H++[a])[j]?=σ c:=by grind
  obtain⟨gB,A,B⟩:=h.ae j c r
  grind
 .rw[X8]at ac;by_cases s:a.2.toNat=y
  .grind
  .rw[m1 s]at ac;rcases h.pl y v ac with e|⟨j,c,e,f,C⟩
   .omega
   .by_cases q:j<H.length
    .grind
    .rw[X1 Ω]at f
     grind
theorem Ho{i k:Nat}{a b:Int×Int}(e:H[i]?=σ a)(f:H[k]?=σ b):((H.set i b).set k a).Perm H:=by
 grind
def mu(H:List (Int×Int)):Λ:=H.map (·.2)
end
def pg(a:Int×Int):List x1:=[Δ a.1,Δ a.2]
def qv(i:Int):List x1:=[Δ i]
theorem zT(a:Int×Int):∀u∈pg a,u.oneCell'=ms:=by intro u hu;simp[pg]at hu;rcases hu with rfl|rfl<;>rfl
def ep(S:ak)(w:x4)(g:Nat)(H:List (Int×Int))(P:Λ):Prop:=
 (k5 P.length H P/\H.length<=1000000)/\∃e bf ac a,ai w g dq [ac,a]/\bn pg 2 cI w e ac H/\bn qv 1 al w bf a P/\∀r,r=g\/hp ac r\/hp a r->S r
section
variable{S X:ak}{w I:x4}{g:Nat}{H:List (Int×Int)}{P:Λ}
theorem ep.aa(h:ep S w g H P)(f:aj X w I)(j:∀r,r<w.heap.size->S r->¬X r):ep S I g H P:=by
 obtain⟨x,y,bf,ac,z,h1,q,s,e⟩:=h;exact⟨x,y,bf,ac,z,h1.aa f (j _ h1.lt (e _ (.inl rfl))),q.aa f λr a=>j r (by have:=q.hv a;omega) (e r (.inr (.inl a))),s.aa f λr a=>j r (by have:=s.hv a;omega) (e r (.inr (.inr a))),e⟩
theorem ep.W(h:ep S w g H P)(J:Ext w I):ep S I g H P:=h.aa (J.aa λ_=>False) λ_ _ _ h=>h
theorem ep.Y(h:ep S w g H P)(j:∀r,r<w.heap.size->S r->X r):ep X w g H P:=by
 obtain⟨q,s,bf,ac,x,h1,e,f,y⟩:=h;refine⟨q,s,bf,ac,x,h1,e,f,λr a=>j r ?_ (y r a)⟩;rcases a with rfl|a|a
 .exact h1.lt
 .have:=e.hv a;omega
 .have:=f.hv a;omega
theorem wp{q bf:Nat}{ac:x1}(h1:ai w g dq [ac,a])(e:bn pg 2 cI w q ac H)(f:bn qv 1 al w bf a P):¬hp ac g/\¬hp a g/\(∀r,hp ac r->¬hp a r)/\∀r,hp a r->¬hp ac r:=by
 refine⟨cw e h1 Φ,cw f h1 Φ,λr h=>?_,λr h=>?_⟩
 .obtain⟨rfl,c,j⟩:=ej e h;exact cw f j Φ
 .obtain⟨rfl,c,j⟩:=ej f h;exact cw e j Φ
theorem wq{bf x:Nat}{i:Int}(h:bn qv 1 al w bf a P)(J:P[x]?=σ i):w.cell? ⟨bf,x*1,ν⟩=σ (Δ i):=h.range J 0 _ rfl
theorem zU{a b:Int×Int}:aq x7 LA [.agg (pg a).toArray,.agg (pg b).toArray] w λr I=>(∃c,r= .bool c)/\Ext w I:=by
 refine aF func271 ?_;refine bo λg1 U x s e=>?_;refine bo λy ab z q f=>?_;have J:=s.F q;have e:=ai.W e q;have f:=f;refine a1 (λr I=>(∃c,r= .bool c)/\Ext w I) (λ_ _ h=>h) λaA j=>?_;rw[aO cI.p 0 e rfl,aO cI.p 0 f rfl,aW,ao];refine⟨λ_=>j _ _ ⟨⟨_,rfl⟩,J⟩,λ_=>?_⟩;rw[aO cI.p 0 e rfl,aO cI.p 0 f rfl,bl,ao];refine⟨λ_=>?_,λ_=>j _ _ ⟨⟨_,rfl⟩,J⟩⟩;rw[aO cI.p 1 e rfl,aO cI.p 1 f rfl,aW];exact j _ _ ⟨⟨_,rfl⟩,J⟩
theorem Hp{i k:Nat}{a b:Int×Int}(h:ep S w g H P)(hi:H[i]?=σ a)(hk:H[k]?=σ b):aq x7 BD [Γ g,Δ (i:Int),Δ (k:Int)] w λ_ I=>aj S w I/\ep S I g ((H.set i b).set k a) ((P.set b.2.toNat i).set a.2.toNat k):=by
 have f:=(x5.1 hi).1;have q:=(x5.1 hk).1;refine aF func225 ?_;intro U G _ _;obtain⟨⟨y,hm⟩,Q,bf,ac,R,h1,e,J,z⟩:=h.W G;obtain⟨a0,ap,au⟩:=y.ae i a hi;obtain⟨aw,ax,V⟩:=y.ae k b hk;obtain⟨W,X,Y,Z⟩:=wp h1 e J;rw[aL dq.p 0 h1 rfl,aL dq.p 0 h1 rfl,aL dq.p 0 h1 rfl,cf rfl eQ.u cI.i e q,bF cI.p cI.i rfl (e.range hk),
  aL dq.p 0 h1 rfl,cf rfl eQ.u cI.i e f,bF cI.p cI.i rfl (e.range hi),cf rfl eQ.u cI.i e f]
 refine uZ cI.i e rfl (zT b) f λab ad ay K=>?_;rw[cf rfl eQ.u cI.i K (by rw[Z5];exact q)];refine uZ cI.i K rfl (zT a) (by rw[Z5];exact q) λaz af aA ag=>?_;intro aB L _ _;have A:=(ad.F af).F (L.aa _);have s:=h1.aa A W;have x:=ag.W L;have M:=J.aa A Z;have ah:((H.set i b).set k a)[i]?=σ b:=by
  rw[X8];by_cases N:k=i
  .subst N;rw[hi]at hk;cases hk;rw[lw rfl,lw (by rw[Z5];exact f)]
  .rw[m1 N,Y2 f]
 have ai:((H.set i b).set k a)[k]?=σ a:=Y2 (by rw[Z5];exact q);have B:((H.set i b).set k a).length=H.length:=by rw[Z5,Z5]
 have aC:=y.len;rw[aL dq.p 1 s rfl,aL dq.p 0 s rfl,cf rfl eQ.u cI.i x (by rw[B];exact f),aY cI.p rfl,aD Ψ (x.range ah 1 _ rfl),
  aL dq.p 1 s rfl,aL dq.p 0 s rfl,cf rfl eQ.u cI.i x (by rw[B];exact q),aY cI.p rfl,aD Ψ (x.range ai 1 _ rfl),
  cf (i:=b.2.toNat) Ω av.u al.i M Ω]
 refine lv (j:=0) (a':=(i:Int)) al.i rfl rfl M V rfl Ω λaE ak aG O=>?_;rw[cf (i:=a.2.toNat) Ω av.u al.i O (by rw[Z5];omega)];obtain⟨c,am⟩:=aK (l:=P.set b.2.toNat (i:Int)) (i:=a.2.toNat) (by rw[Z5];omega);refine lv (j:=0) (a':=(k:Int)) al.i rfl rfl O am rfl Ω λaH an aI ao=>?_;have C:=ak.F an;refine⟨(G.aa _).F ((A.Y λr _ E=>z r (.inr (.inl E))).F (C.Y λr _ E=>z r (.inr (.inr E)))),⟨?_,by rw[B];exact hm⟩,Q,bf,ac,R,s.aa C X,x.aa C Y,ao,z⟩;rw[Z5,Z5];exact y.swap hi hk
end
section
variable{S X:ak}{w I:x4}{g:Nat}{H:List (Int×Int)}{P:Λ}
def nr(S:ak)(w:x4)(g:Nat)(H:List (Int×Int))(P:Λ)(I:x4):Prop:=∃a e,aj S w I/\ep S I g a e/\a.Perm H/\e.length=P.length
theorem nr.W{ab:x4}(h:nr S w g H P I)(J:Ext I ab):nr S w g H P ab:=by
 obtain⟨a,e,h1,f,j⟩:=h;exact⟨a,e,h1.F (J.aa _),f.W J,j⟩
theorem nr.swap{e:List (Int×Int)}{f:Λ}{U:x4}{i k:Nat}(r:aj S w U)(h:ep S U g e f)(ae:e.Perm H)(s:f.length=P.length)(hi:i<e.length)(hk:k<e.length):
  aq x7 BD [Γ g,Δ (i:Int),Δ (k:Int)] U λ_ I=>nr S w g H P I:=by
 obtain⟨a,j⟩:=aK (l:=e) hi;obtain⟨b,q⟩:=aK (l:=e) hk;refine(Hp h j q).Y ?_;rintro _ ab _ ⟨x,y⟩;exact⟨_,_,r.F x,y,(Ho j q).F ae,by rw[Z5,Z5];exact s⟩
theorem Hq{i:Nat}(h:ep S w g H P)(hi:i<H.length):aq x7 K8 [Γ g,Δ (i:Int)] w λ_ I=>nr S w g H P I:=by
 have hm:=h.1.2;refine aF func223 ?_;refine⟨λv U=>∃i:Nat,v=Δ (i:Int)/\i<H.length/\nr S w g H P U,λv _=>(bY v).toNat,⟨i,rfl,hi,H,P,aj.refl _ _,h,.refl _,rfl⟩,?_⟩;rintro _ U ⟨i,rfl,hi,j⟩;refine a1 (λv ab=>Ext U ab/\∃c,v= .bool c/\(c=ms->0<i)) ?_ λaA z=>?_
 rotate_left
 .intro ab x _ _;rw[bU,ao];refine⟨λq=>?_,λ_=>z _ _ ⟨x,_,rfl,λh=>by cases h⟩⟩;obtain⟨f,A,r,⟨⟨J,_⟩,K,bf,ac,L,h1,e,M,N⟩,ae,s⟩:=j.W x;have B:=ae.length_eq;obtain⟨a,C⟩:=aK (l:=f) (i:=i) Ω;obtain⟨b,E⟩:=aK (l:=f) (i:=(i-1) / 2) Ω;rw[aL dq.p 0 h1 rfl,cf rfl eQ.u cI.i e Ω,bF cI.p cI.i rfl (e.range C),aL dq.p 0 h1 rfl,c5,hx Ω Ω,pA Ω,
   show(((i:Int)-1).tdiv 2)=(((i-1) / 2:Nat):Int) by rw[Int.tdiv_eq_ediv_of_nonneg Ω];omega,hx Ω Ω,cf rfl eQ.u cI.i e Ω,bF cI.p cI.i rfl (e.range E)]
  refine zU.Y ?_;rintro _ ak _ ⟨⟨c,rfl⟩,al⟩;exact z _ _ ⟨x.F al,c,rfl,λ_=>Ω⟩
 rintro _ ab ⟨x,c,rfl,q⟩;have O:=j.W x;rw[b1];refine⟨λQ=>?_,λ_=>?_⟩
 .have q:=q Q;obtain⟨f,A,r,R,ae,s⟩:=O;have B:=ae.length_eq;rw[c5,hx Ω Ω,pA Ω,show(((i:Int)-1).tdiv 2)=(((i-1) / 2:Nat):Int) by rw[Int.tdiv_eq_ediv_of_nonneg Ω];omega,hx Ω Ω];refine(nr.swap r R ae s Ω Ω).Y ?_;rintro _ ak _ am;rw[c5,hx Ω Ω,pA Ω,show(((i:Int)-1).tdiv 2)=(((i-1) / 2:Nat):Int) by rw[Int.tdiv_eq_ediv_of_nonneg Ω];omega,hx Ω Ω];refine⟨⟨(i-1) / 2,rfl,Ω,am⟩,?_⟩;show(((i-1) / 2:Nat):Int).toNat<((i:Nat):Int).toNat;omega
 clear j x q;refine⟨λv U=>∃i:Nat,v=Δ (i:Int)/\i<H.length/\nr S w g H P U,λv _=>H.length-(bY v).toNat,⟨i,rfl,hi,O⟩,?_⟩;clear O hi i;rintro _ V ⟨i,rfl,hi,j⟩;rw[iv,hx Ω Ω,aR,hx Ω Ω];refine⟨λv u W=>v=Δ (i:Int)/\∃k:Nat,u=Δ (k:Int)/\2*i+1<=k/\k<=2*i+3/\Ext V W,λ_ u _=>2*i+3-(bY u).toNat,⟨rfl,2*i+1,by congr 1,Ω,Ω,Ext.refl _⟩,?_⟩;rintro _ _ W ⟨rfl,k,rfl,ax,ay,X⟩;refine a1 (λv af=>Ext W af/\∃c,v= .bool c/\(c=ms->k<=2*i+2/\k<H.length)) ?_ λaA z=>?_
 rotate_left
 .rw[iv,hx Ω Ω,aR,hx Ω Ω,nI,ao];refine⟨λq=>?_,λ_=>z _ _ ⟨Ext.refl _,_,rfl,λh=>by cases h⟩⟩;obtain⟨f,A,r,⟨⟨J,_⟩,K,bf,ac,L,h1,e,M,N⟩,ae,s⟩:=j.W X;have B:=ae.length_eq;rw[aL dq.p 0 h1 rfl,dO eQ.u e,aW];exact z _ _ ⟨Ext.refl _,_,rfl,λh=>⟨Ω,by have:=m7 h;omega⟩⟩
 rintro _ af ⟨ag,c,rfl,q⟩;rw[b1];refine⟨λQ=>?_,λ_=>j.W (X.F ag)⟩;obtain⟨az,an⟩:=q Q;rw[iv,hx Ω Ω,aR,hx Ω Ω,c5,hx Ω Ω,show 4*(i:Int)+3-(k:Int)=((4*i+3-k:Nat):Int) by omega];have ap:=X.F ag;refine a1 (λv Y=>Ext V Y/\∃c,v= .bool c) ?_ λaB ah=>?_
 rotate_left
 .intro Y Z _ _;have aa:=ap.F Z;obtain⟨f,A,r,⟨⟨J,_⟩,K,bf,ac,L,h1,e,M,N⟩,ae,s⟩:=j.W aa;have B:=ae.length_eq;rw[aL dq.p 0 h1 rfl,dO eQ.u e,cJ,ao];refine⟨λ_=>ah _ _ ⟨aa,_,rfl⟩,λaC=>?_⟩;obtain⟨a,C⟩:=aK (l:=f) (i:=k) Ω;obtain⟨b,E⟩:=aK (l:=f) (i:=4*i+3-k) Ω;rw[aL dq.p 0 h1 rfl,cf rfl eQ.u cI.i e Ω,bF cI.p cI.i rfl (e.range C),aL dq.p 0 h1 rfl,cf rfl eQ.u cI.i e Ω,bF cI.p cI.i rfl (e.range E)];refine zU.Y ?_;rintro _ G _ ⟨⟨c,rfl⟩,y⟩;exact ah _ _ ⟨aa.F y,_,rfl⟩
 rintro _ Y ⟨Z,aD,rfl⟩;refine a1 (λv G=>Ext V G/\∃c,v= .bool c) ?_ λaE ai=>?_
 rotate_left
 .intro G y _ _;have ad:=Z.F y;rw[b1];refine⟨λ_=>?_,λ_=>ai _ _ ⟨ad,_,rfl⟩⟩;obtain⟨f,A,r,⟨⟨J,_⟩,K,bf,ac,L,h1,e,M,N⟩,ae,s⟩:=j.W ad;have B:=ae.length_eq;obtain⟨a,C⟩:=aK (l:=f) (i:=k) Ω;obtain⟨b,E⟩:=aK (l:=f) (i:=i) Ω;rw[aL dq.p 0 h1 rfl,cf rfl eQ.u cI.i e Ω,bF cI.p cI.i rfl (e.range C),aL dq.p 0 h1 rfl,cf rfl eQ.u cI.i e Ω,bF cI.p cI.i rfl (e.range E)];refine zU.Y ?_;rintro _ au _ ⟨⟨c,rfl⟩,av⟩;exact ai _ _ ⟨ad.F av,_,rfl⟩
 rintro _ G ⟨y,aG,rfl⟩;rw[b1];refine⟨λ_=>?_,λ_=>?_⟩
 .obtain⟨f,A,r,R,ae,s⟩:=j.W y;have B:=ae.length_eq;refine(nr.swap r R ae s Ω Ω).Y ?_;rintro _ au _ aw;refine⟨⟨k,rfl,an,aw⟩,?_⟩;show H.length-((k:Nat):Int).toNat<H.length-((i:Nat):Int).toNat;omega
 .rw[aR,hx Ω Ω];refine⟨⟨rfl,k+1,rfl,Ω,Ω,y⟩,?_⟩;show 2*i+3-((k:Int)+1).toNat<2*i+3-((k:Nat):Int).toNat;omega
theorem UB(h:ep S w g H P):aq x7 K9 [Γ g] w λr I=>r=Δ (H.length:Int)/\Ext w I:=by
 obtain⟨_,e,bf,ac,f,h1,a,j,q⟩:=h;refine aF func224 ?_;rw[cT rZ.u];simp only[l9,a6];rw[aL dq.p 0 h1 rfl,dO eQ.u a];exact⟨rfl,Ext.refl _⟩
theorem Hr{x:Nat}{i:Int}(h:ep S w g H P)(J:P[x]?=σ i):aq x7 K7 [Γ g,Δ (x:Int)] w λr I=>r= .bool (decide (0<=i))/\Ext w I:=by
 have e:=(x5.1 J).1;obtain⟨_,j,bf,ac,q,h1,s,a,y⟩:=h;refine aF func222 ?_;refine a1 (λr I=>r= .bool (decide (0<=i))/\Ext w I) (λ_ _ h=>h) λaA f=>?_;rw[xn rZ.u];simp only[l9,X4,bK];rw[cJ,ao];refine⟨λ_=>?_,λh=>m2 Ω h⟩;rw[aL dq.p 1 h1 rfl,dO av.u a];refine bM Ω ?_;rw[aL dq.p 1 h1 rfl,cf rfl av.u al.i a e,aD Ψ (wq a J),cJ];exact f _ _ ⟨rfl,Ext.refl _⟩
theorem UC(h:ep S w g H P):aq x7 Kn [Γ g] w λr I=>Ext w I/\match H[0]? with
  |some a=>r= .tuple #[Δ a.2,Δ a.1,.bool ms]
  |none=>r= .tuple #[Δ 0,Δ 0,.bool ne]:=by
 refine aF func162 ?_;refine(UB h).Y ?_;rintro _ U _ ⟨rfl,f⟩;rw[bl,ao];refine⟨λs=>?_,λs=>?_⟩
 .rw[V0 Ω];exact⟨f,rfl⟩
 .intro ab q _ _;obtain⟨_,x,bf,ac,z,h1,e,A,B⟩:=(h.W f).W q;obtain⟨a,j⟩:=aK (l:=H) (i:=0) Ω;rw[aL dq.p 0 h1 rfl,cf (y:=0) (i:=0) rfl eQ.u cI.i e Ω,aY cI.p rfl,aD Ψ (e.range j 1 _ rfl),
   aL dq.p 0 h1 rfl,cf (y:=0) (i:=0) rfl eQ.u cI.i e Ω,aY cI.p rfl,aD Ψ (e.range j 0 _ rfl),j]
  exact⟨f.F q,rfl⟩
end
theorem UD(l:Λ):l.flatMap qv=ints .i64 l:=by
 induction l with
 |nil=>rfl
 |cons a l e=>rw[U2,e];rfl
theorem UE{α:Type}{L:List α}{a:α}{m:Nat}(h:L[m]?=σ a)(hm:L.length=m+1):L=L.take m++[a]:=by
 have e:=u7 (l:=L) (i:=m);rw[h,o8,j4 Ω]at e;exact e
section
variable{S X:ak}{w I:x4}{g:Nat}{H:List (Int×Int)}{P:Λ}
theorem UF{n:Nat}(N:n<=1000000)(A:∀r,w.heap.size<=r->S r):aq x7 Kl [Δ (n:Int)] w λr I=>∃g,r=Γ g/\Ext w I/\w.heap.size<=g/\ep S I g [] (r9 n (-1)):=by
 refine aF func160 ?_;rw[r1,show max (n:Int) 0=(n:Int) by omega];refine lk av.u al.i Ω Ω λbf U O B C=>?_;have E:bn qv 1 al U bf (.slice (σ ⟨bf,0,ν⟩) n n) (r9 n 0):=⟨by rw[List.length_replicate,UD];exact b7.full C Ξ (by simp[maxLen];omega),λa _=>rfl⟩;rw[dk (cs:=#[.slice ν 0 0,.slice (σ ⟨bf,0,ν⟩) n n]) Ψ];refine bo λg ab P y s=>?_;have s:=s;rw[aL dq.p 1 s rfl,dO av.u (E.W y),List.length_replicate];have Q:=B.size;have R:=y.size;have V:=s.lt;have W:=C.lt;refine b6.range n (λi z=>bn qv 1 al z bf (.slice (σ ⟨bf,0,ν⟩) n n) (r9 i (-1)++r9 (n-i) 0)/\aj (λr=>r=bf) ab z) Ω ⟨E.W y,aj.refl _ _⟩ ?_ ?_
 .rintro i z G hi ⟨q,x⟩ H;refine bM Ω ?_;have J:=s.aa x Ω;obtain⟨c,K⟩:=aK (l:=r9 i (-1:Int)++r9 (n-i) 0) (i:=i) Θ;rw[aL dq.p 1 J rfl,cf rfl av.u al.i q Θ];refine lv (j:=0) (a':=-1) al.i rfl rfl q K rfl Ω λX L Y M=>?_;rw[aR];refine H _ ⟨?_,x.F (L.Y λr _ f=>(q.hv f).1)⟩;have e:(r9 i (-1:Int)++r9 (n-i) 0).set i (-1)=r9 (i+1) (-1)++r9 (n-(i+1)) 0:=by
   rw[U9 _ _ Ξ,List.length_replicate,V8,show n-i=(n-(i+1))+1 by omega,List.replicate_succ,List.set_cons_zero,List.replicate_succ',X7];rfl
  rw[<-e];exact M
 .rintro z G ⟨q,x⟩;refine cc Ω ?_;rw[V8,List.replicate_zero,V2]at q;refine⟨g,rfl,(B.F y).then x λr f h=>Ω,Ω,⟨by rw[List.length_replicate];exact k5.new n,Ξ⟩,0,bf,_,_,s.aa x Ω,bn.nil _ _ _ _ _,q,λr f=>?_⟩;rcases f with rfl|f|f
  .exact A _ Ω
  .exact (gF f).elim
  .exact A _ (by have:=(q.hv f).1;omega)
theorem UG{x:Nat}{p:Int}(h:ep S w g H P)(J:P[x]?=σ (-1))(aS:H.length<1000000)(aT:P.length<=1000000)(ay:∀r,w.heap.size<=r->S r):aq x7 Km [Γ g,Δ (x:Int),Δ p] w λ_ I=>∃G K,aj S w I/\ep S I g G K/\G.Perm (H++[(p,(x:Int))])/\K.length=P.length:=by
 have L:=(x5.1 J).1;refine aF func161 ?_;rw[cT rZ.u];simp only[l9,a6];refine a1 (λv U=>w=U/\v= .bool ne) ?_ λaA Q=>?_
 rotate_left
 .obtain⟨_,R,bf,ac,C,h1,z,s,y⟩:=h;rw[aW,ao];refine⟨λh=>Ω,λ_=>?_⟩;rw[aL dq.p 1 h1 rfl,dO av.u s,cJ,m5 Ω];exact Q _ _ ⟨rfl,rfl⟩
 rintro _ _ ⟨rfl,rfl⟩;rw[a6];refine cZ (λab=>aj S w ab/\ep S ab g (H++[(p,(x:Int))]) (P.set x H.length)) ?_ λaA Q=>?_
 .rintro ab ⟨az,aB⟩;intro aU ai _ _;obtain⟨⟨V,hm⟩,R,bf,ac,C,h1,z,s,y⟩:=aB.W ai;obtain⟨W,X,ak,Y⟩:=wp h1 z s;have am:(P.set x (H.length:Int))[x]?=σ (H.length:Int):=Y2 L;have aC:(H++[(p,(x:Int))])[H.length]?=σ (p,(x:Int)):=by rw[X1 (p9 _),V8];rfl
  rw[aL dq.p 0 h1 rfl,aL dq.p 1 h1 rfl,cf rfl av.u al.i s (by rw[Z5];exact L),aD Ψ (wq s am),cf rfl eQ.u cI.i z Ξ,aY cI.p rfl];refine lv (f:=pg) (j:=0) (a':=(p,(x:Int))) ax.i rfl rfl z aC rfl Ω λaE Z aV an=>?_;have ap:ep S aE g (H++[(p,(x:Int))]) (P.set x H.length):=by
   have e:(H++[(p,(x:Int))]).set H.length (p,(x:Int))=H++[(p,(x:Int))]:=by rw[U9 _ _ (p9 _),V8];rfl
   rw[e]at an;exact⟨⟨V,hm⟩,R,bf,ac,C,h1.aa Z W,an,s.aa Z Y,y⟩
  have aG:=(az.F (ai.aa _)).F (Z.Y λr _ q=>y r (.inr (.inl q)));obtain⟨_,aX,aZ,a2,a7,A,M,B,_⟩:=id ap;rw[aL dq.p 1 A rfl,cf rfl av.u al.i B (by rw[Z5];exact L),aD Ψ (wq B am)];refine(Hq ap Ξ).Y ?_;rintro _ a8 _ ⟨G,K,aH,aI,ae,aJ⟩;exact⟨G,K,aG.F aH,aI,ae,by rw[aJ,Z5]⟩
 refine(Hr h J).Y ?_;rintro _ ba _ ⟨rfl,aK⟩;rw[bE,m5 Ω,X4,bK];intro bb aM _ _;have ad:=aK.F aM;have bc:=ad.size;obtain⟨⟨V,hm⟩,R,bf,ac,C,h1,z,s,y⟩:=h.W ad;obtain⟨W,X,ak,Y⟩:=wp h1 z s;rw[aL dq.p 1 h1 rfl,aL dq.p 0 h1 rfl,dO eQ.u z,cf rfl av.u al.i s L];refine lv (j:=0) (a':=(H.length:Int)) al.i rfl rfl s J rfl Ω λbd N be aN=>?_;have A:=h1.aa N X;have M:=z.aa N ak;rw[aL dq.p 0 A rfl,dk (cs:=#[Δ p,Δ (x:Int)]) Ψ];refine jk (f:=pg) (a:=(p,(x:Int))) eQ.u cI.i Ω rfl rfl λv9 bg bh bi E aO=>?_;have A:=A.W E;have M:=M.W E;have B:=aN.W E;refine jH eQ.u cI.i rfl M (by simpa using aO.sl) (zT _) Ω Ω λau aP bj O aQ af=>?_;rw[bR,aY dq.p rfl];have aw:=A.aa af W;have B:=B.aa af Y;refine bs eQ.i (dn O.sl).1 (dn O.sl).2 aw Ξ λbk ag bl ah=>?_;have ah:=ah;have bm:=N.size;have bn:=E.size;have aR:∀r,r=g\/hp au r\/hp C r->S r:=λr q=>by
  rcases q with q|q|q
  .exact y r (.inl q)
  .rcases aQ r q with h|h
   .exact y r (.inr (.inl h))
   .exact ay r Ω
  .exact y r (.inr (.inr q))
 refine Q _ ⟨?_,⟨?_,Θ⟩,aP,bf,au,C,ah,O.aa ag λr q e=>cw O aw Φ (by rw[<-e];exact q),B.aa ag λr q e=>X (by rw[<-e];exact q),aR⟩
 .exact (((((ad.aa _).F (N.Y λr _ q=>y r (.inr (.inr q)))).F (E.aa _)).F (af.Y λr _ q=>y r (.inr (.inl q)))).F (ag.Y λr _ q=>y r (.inl q)))
 .rw[Z5];exact V.push J
theorem UH{i:Nat}{a:Int×Int}(h:ep S w g H P)(hi:H[i]?=σ a):aq x7 Ko [Γ g,Δ a.2] w λ_ I=>∃s y,aj S w I/\ep S I g s y/\H.Perm (s++[a])/\y.length=P.length:=by
 have aX:=(x5.1 hi).1;obtain⟨a0,aZ,A⟩:=h.1.1.ae i a hi;have hm:=h.1.2;obtain⟨x,E⟩:=Y6 a0;rw[E,u5]at A;have aB:=(x5.1 A).1;refine aF func163 ?_;rw[E];refine(Hr h A).Y ?_;rintro _ U _ ⟨rfl,aC⟩;rw[bE,m3 Ω,Y1,a6];intro ab aE _ _;have W:=aC.F aE;have X:=h.W W;obtain⟨_,Y,bf,ac,G,h1,B,z,C⟩:=id X;rw[aL dq.p 1 h1 rfl,cf rfl av.u al.i z aB,aD Ψ (wq z A),aL dq.p 0 h1 rfl,dO eQ.u B,c5,hx Ω Ω,show(H.length:Int)-1=((H.length-1:Nat):Int) by omega];obtain⟨b,Z⟩:=aK (l:=H) (i:=H.length-1) Ω;refine(Hp X hi Z).Y ?_;rintro _ a1 _ ⟨aG,J⟩;intro a2 ad _ _;have K:=Ho hi Z;have af:((H.set i b).set (H.length-1) a)[H.length-1]?=σ a:=Y2 (by rw[Z5];omega);generalize a7:(H.set i b).set (H.length-1) a=ag at J K af;generalize aH:(P.set b.2.toNat (i:Int)).set a.2.toNat ((H.length-1:Nat):Int)=L at J;have a8:=K.length_eq;have ah:L.length=P.length:=by rw[<-aH,Z5,Z5]
 obtain⟨⟨ak,ba⟩,Y,bf,ac,G,h1,B,z,C⟩:=J.W ad;obtain⟨aI,am,aJ,bb⟩:=wp h1 B z;obtain⟨an,aM,M,N⟩:=ru (i:=H.length-1) eQ.u cI.i B Ω;rw[aL dq.p 1 h1 rfl,aL dq.p 0 h1 rfl,aM,bR,aY dq.p rfl];refine bs eQ.i (dn M.sl).1 (dn M.sl).2 h1 Ξ λaN O bc Q=>?_;have Q:ai aN g dq [an,G]:=Q;have aO:=M.aa O λr q e=>aI (by rw[<-e];exact N r q);have ap:=z.aa O λr q e=>am (by rw[<-e];exact q);rw[cf rfl av.u al.i ap Ω];obtain⟨c,aP⟩:=aK (l:=L) (i:=x) Ω;refine lv (f:=qv) (j:=0) (a':=-1) al.i rfl rfl ap aP rfl Ω λaQ R bd aR=>?_;have au:=UE af Ω;have aw:ep S aQ g (ag.take (H.length-1)) (L.set x (-1)):=by
  refine⟨⟨?_,by rw[j9];omega⟩,Y,bf,an,G,Q.aa R am,aO.aa R λr q e=>aJ r (N r q) e,aR,λr q=>C r (q.imp id (.imp (N r) id))⟩;rw[Z5];rw[au]at ak;have:=ak.drop;rw[E,u5]at this;exact this
 have ax:=((((W.aa _).F aG).F (ad.aa _)).F (O.Y λr _ q=>C r (.inl q))).F (R.Y λr _ q=>C r (.inr (.inr q)));have ay:H.Perm (ag.take (H.length-1)++[a]):=by rw[<-au];exact K.symm
 refine cZ (λV=>∃s y,aj S w V/\ep S V g s y/\H.Perm (s++[a])/\y.length=P.length) (λ_ h=>h) λaA az=>?_;rw[aW,ao];refine⟨λbe=>?_,λ_=>az _ ⟨_,_,ax,aw,ay,by rw[Z5];exact ah⟩⟩;refine(Hq aw (by rw[j9];omega)).Y ?_;rintro _ V _ ⟨s,y,aS,aT,aU,aV⟩;exact az _ ⟨s,y,ax.F aS,aT,ay.F (aU.symm.append_right _),by rw[aV,Z5];exact ah⟩
theorem UI(h:ep S w g H P):aq x7 JJ [Γ g] w λr I=>(H=[]/\Ext w I/\r= .tuple #[Δ 0,Δ 0,.bool ne])\/
  ∃a e f,r= .tuple #[Δ a.2,Δ a.1,.bool ms]/\aj S w I/\ep S I g e f/\H.Perm (e++[a])/\f.length=P.length:=by
 refine aF func100 ?_;refine(UC h).Y ?_;rintro _ U _ ⟨s,j⟩;cases aw:H[0]? with
 |none=>
  rw[aw]at j;subst j;rw[fP,fQ,fR];refine cZ (λab=>Ext w ab) (λab J=>.inl ⟨j6 (Nat.le_zero.1 (List.getElem?_eq_none_iff.1 aw)),J,rfl⟩) λaA x=>?_;rw[a6];exact x _ s
 |some a=>
  rw[aw]at j;subst j;rw[fP,fQ,fR];refine cZ (λab=>∃e f,aj S w ab/\ep S ab g e f/\H.Perm (e++[a])/\f.length=P.length) (λab ⟨e,f,q⟩=>.inr ⟨a,e,f,rfl,q⟩) λaA x=>?_;rw[bK];refine(UH (h.W s) aw).Y ?_;rintro _ z _ ⟨e,f,y,q⟩;exact x _ ⟨e,f,(s.aa _).F y,q⟩
end
theorem UJ{α:Type}{step:an×Bool->α->an×Bool}(h:∀s b a,step (s,b) a=((step (s,ne) a).1,(step (s,ne) a).2||b)):∀(L:List α)(s:an)(b:Bool),L.foldl step (s,b)=((L.foldl step (s,ne)).1,(L.foldl step (s,ne)).2||b)
 :=by
 intro a;induction a<;>grind
theorem UK(s:an)(b:Bool)(v:Int):gv k j pos (s,b) v=((gv k j pos (s,ne) v).1,(gv k j pos (s,ne) v).2||b):=by
 grind [gv]
theorem UL(s:an)(b:Bool)(j:Nat):eT k (s,b) j=((eT k (s,ne) j).1,(eT k (s,ne) j).2||b):=by
 grind [eT,UJ,qu,UK]
section
variable{aw:List az}{w U ab:x4}{af ag m:Nat}{A R:ak}{n:aI}{s s':an}{t:az}{D D':ak}
theorem dC.Y(h:dC aw w af ag A R n m D s' U)(f:∀r,r<U.heap.size->D r->D' r):dC aw w af ag A R n m D' s' U:=by
 obtain⟨h1,j,aP,bu,q,a,s,x⟩:=h;exact⟨h1,j,aP,bu,q,a,s,λr e=>(x r e).imp id (f r (a.lt (.inl e)))⟩
def kf(k:Int)(j:Nat)(sc:Λ)(s:an)(i:Nat):an×Bool:=(X2 i).foldl (qu k j sc) (s,ne)
theorem UM{i:Nat}{sc:Λ}:kf k j sc s (i+1)=qu k j sc (kf k j sc s i) i:=by
 grind [kf,List.range_succ]
theorem UN{α β:Type}{f:β->α->β}{l:List α}{a:α}{b:β}(h:l[j]?=σ a):(l.take (j+1)).foldl f b=f ((l.take j).foldl f b) a:=by
 grind [u7]
theorem UO{f:bI}(h:bw w af ag A R n s t)(aM:Laid w)(ba:¬A 0)(aE:dJ aw t)(ah:s.d8[j]?=σ f):aq x7 JK [Γ af,Δ (j:Int)] w λr I=>r= .bool (eT n.k (s,ne) j).2/\cp aw w af ag A R n (eT n.k (s,ne) j).1 I:=by
 have bb:=h.2.2.2.1;obtain⟨aN,_,_⟩:=bb.d8 f (x6 ah);have bc:eT n.k (s,ne) j=kf n.k j f.sc s f.sc.length:=by grind [eT,kf]
 rw[bc];refine iM func101 ?_;refine bo λg1 U bV aO z=>?_;refine bo λbW ab bX ay E=>?_;have bY:=ai.lt z;have bZ:=ai.lt E;refine bC eE.i λL b0 b1 bd be=>?_;refine bs eE.i rfl rfl be (by show 0<1;omega) λb2 bf b3 am=>?_;have am:=am;have an:=bd.put bf Ω;have z:=(ai.W z ay).W an;have E:=ai.W E an;have aQ:=(aO.F ay).F an;have b4:=aO.size;have b5:=ay.size;have b7:=an.size;have b8:=z.lt;have ca:=E.lt;have cb:=am.lt;have ae:=tu aM;rw[aD Ψ (z.cell rfl),aD Ψ (E.cell rfl)];refine(mm (h.W aQ) ah).Y ?_;rintro sv H _ ⟨W,gs,cd,az⟩;rw[a7 av.u az.ls];have z5:=W.size;have z:=z.W W;have E:=E.W W;refine b6.range f.sc.length (λi B=>dC aw w af ag A R n w.heap.size (λr=>H.heap.size<=r) (kf n.k j f.sc s i).1 B/\aj (λr=>r<w.heap.size\/H.heap.size<=r\/r=L) H B/\ai B L eE [.bool (kf n.k j f.sc s i).2]) az.ls.le ⟨dC.start h aM ba aE (aQ.F W) (p9 _),aj.refl _ _,am.W W⟩ ?_ ?_
 .rintro i B bg hi ⟨X,Y,aA⟩ bh;refine bM Ω ?_;obtain⟨u,hu⟩:=aK (l:=f.sc) hi;have aS:=x6 hu;have bj:=(aN.scope.1 u aS).1;have ce:=aN.d7 u aS;have Z:∀{g:Nat}{e:r8}{cs:List x1},w.heap.size<=g->g<L->ai H g e cs->ai B g e cs:=λcf cg bk=>bk.aa Y Ω;have bl:=(az.aa Y Ω).ls;refine mN rfl av.u al.i bl hu λch ci bm=>?_;rw[aD Ψ bm];refine bC al.i λcj ck cl bn bp=>?_;refine bs al.i rfl rfl bp (by show 0<1;omega) λcm bq cn ac=>?_;have ac:=ac;have ap:=bn.put bq Ω;have cq:=Y.size;have cr:=ap.size;have ct:=ac.lt;obtain⟨cu,cw,aU,cz,cA,cB⟩:=X.qp;have br:=X.2.1.1;have bt:=aU.2.2.2.1;have cC:=bt.d7;obtain⟨x,J⟩:=aK (l:=(kf n.k j f.sc s i).1.d7) (i:=u.toNat) Ω;have cD:aT (kf n.k j f.sc s i).1 u=aB x:=by grind [aT]
  rw[aD Ψ (((Z Ω Ω z).W ap).cell rfl)];refine(iW (aU.W ap)).Y ?_;rintro _ cE _ ⟨⟨b,aV,rfl,aW⟩,aX⟩;refine(l3 (n:=aV)).Y ?_;rintro _ O _ ⟨aY,aC,rfl,cF,aZ⟩;have bA:=kC aW bj J;have aF:=aX.F aY;have K:=ap.F aF;have z9:=aX.size;have cG:=aY.size;have cH:=aZ.lt;have bB:kf n.k j f.sc s (i+1)=(aB x).foldl (gv n.k j i) (kf n.k j f.sc s i):=by
   grind [UM,qu]
  have cI:(kf n.k j f.sc s i)=((kf n.k j f.sc s i).1,(kf n.k j f.sc s i).2):=rfl;generalize kf n.k j f.sc s i=P at*;refine ki.old ⟨_,ne,jy,#[Γ aC],_,_,_,_,λM I=>dC aw w af ag A R n w.heap.size (λr=>H.heap.size<=r/\¬(B.heap.size<=r/\r<O.heap.size)) (((aB x).take M).foldl (gv n.k j i) P).1 I/\aj (λr=>r<w.heap.size\/(H.heap.size<=r/\¬(B.heap.size<=r/\r<O.heap.size))\/r=L) O I/\ai I L eE [.bool (((aB x).take M).foldl (gv n.k j i) P).2],λ_ _ _=>False,rfl,(l2 (g:=aC) aW.1).s,?_,
   λ_ _ J h=>⟨h.1.W J,h.2.W J⟩,λ_ _ _ J h=>⟨h.1.W J,h.2.1.F (J.aa _),h.2.2.W J⟩,by grind,⟨aZ,br.W K⟩,⟨(X.Y Ω).W K,aj.refl _ _,aA.W K⟩,?_,?_,by grind,by grind⟩
  .grind
  .rintro _ M _ cJ ⟨a1,aG⟩ ⟨cK,rfl,v,cL,bD⟩ ⟨Q,q,S⟩;cases bD;intro cM C _ _;have bE:(aB x)[M]?=σ (v:Int):=by grind
   have aH:=UN (f:=gv n.k j i) (b:=P) bE;generalize cN:((aB x).take M).foldl (gv n.k j i) P=y at Q S aH;obtain⟨cO,cP,a2,bF,bG,bH⟩:=Q.qp;have cQ:=q.size;have z12:=C.size;have aI:=((((Z Ω Ω z).W K).aa q Ω).W C).Qz rfl;have aJ:=((((Z Ω Ω E).W K).aa q Ω).W C).Qz rfl;have aL:=(((ac.W aF).aa q Ω).W C).Qz rfl;rw[aD Ψ aI,aD Ψ aJ,aD Ψ aL];refine(Ts (a2.W C) (aG.W C)).Y ?_;rintro _ V _ ⟨N,ad⟩;have G:=C.F N;have no:gv n.k j i y (v:Int)=y->(ai V aC b9 [.int .u64 b,Δ aV]/\Laid V)/\(dC aw w af ag A R n w.heap.size (λr=>H.heap.size<=r/\¬(B.heap.size<=r/\r<O.heap.size)) (((aB x).take (M+1)).foldl (gv n.k j i) P).1 V/\aj (λr=>r<w.heap.size\/(H.heap.size<=r/\¬(B.heap.size<=r/\r<O.heap.size))\/r=L) O V/\ai V L eE [.bool (((aB x).take (M+1)).foldl (gv n.k j i) P).2]):=λe=>by
    refine⟨⟨a1.W G,aG.W G⟩,?_⟩;rw[aH,e];exact⟨Q.W G,q.F (G.aa _),S.W G⟩
   have ak:gv n.k j i y (v:Int)=match du y.1 j i v with
    |none=>y
    |some (f,_,_)=>if 0<eN n.k y.1 f i v then((bi n.k y.1 (projM j i v (eN n.k y.1 f i v))).1,ms)else y:=rfl
   cases a6:du y.1 (j:Int) (i:Int) (v:Int)with
   |none=>
    rw[a6]at ad ak;subst ad;rw[bx,bz,bU,ao];refine⟨λh=>Ω,λ_=>?_⟩
    grind
   |some bJ=>
    obtain⟨bK,cR,cS⟩:=bJ;rw[a6]at ad ak;simp only[u5]at ad ak;subst ad;rw[bx,bz,bU,ao];refine⟨λa8=>?_,λa8=>?_⟩
    rotate_left
    .grind
    rw[lw a8]at ak;have aI:=((((((Z Ω Ω z).W K).aa q Ω).W C)).W N).Qz rfl;have aJ:=((((((Z Ω Ω E).W K).aa q Ω).W C)).W N).Qz rfl;have aL:=((((ac.W aF).aa q Ω).W C).W N).Qz rfl;rw[aD Ψ aI,aD Ψ aJ,aD Ψ aL];have cT:=N.size;refine(zE (a:=projM j i v (eN n.k y.1 bK i v)) rfl (a2.W G) (aG.W G) bG bF).Y ?_;rintro _ cU _ ⟨rfl,bL,bN,aP,bu,bO,bP,bQ,cV⟩;obtain⟨bR,au,cW⟩:=bH (iS G bL) ((Grow.W G).F bO) bP bQ (λr h=>h) Ω;have cX:=au.size;have bS:=S.aa au Ω;refine bs eE.i rfl rfl bS Ξ λcY ax cZ bT=>?_;refine⟨⟨(a1.aa au Ω).aa ax Ω,iu ax Ω bN⟩,?_,by grind⟩;dsimp only;rw[aH,ak];exact⟨bR.own ax Ω,(q.F (au.Y Ω)).F (ax.Y Ω),bT⟩
  .rintro k c0 rfl ⟨Q,q,S⟩;rw[j4 (by rw[<-bA,u9];exact p9 _),<-bB]at Q S;rw[aR];exact bh _ ⟨Q.Y λr _ h=>h.1,(Y.F (K.aa _)).F (q.Y Ω),S⟩
 .rintro B bg ⟨X,Y,aA⟩;refine cc Ω ?_;rw[aD Ψ (aA.cell rfl)];intro V N _;exact⟨rfl,X.done N⟩
end
section
variable{n:aI}{s:an}
def qw(n:aI)(s:an):Prop:=∀(j:Nat)f,s.d8[j]?=σ f->f.live≠0->∀p,p<f.sc.length->∀v∈aT s (f.sc.getD p 0),¬(0<(lI n s j f p v).1\/(lI n s j f p v).2=ν)
def tw(n:aI)(s:an):Prop:=∀(j:Nat)f,s.d8[j]?=σ f->f.live≠0->f.sc.length=2->∀v∈aT s (f.sc.getD 0 0),¬0<(o3 n s j f v).1
end
section
variable{w:x4}{dr:x1}{n:aI}{s:an}
theorem UP{a b:Int}{f:bI}{y:bA}(h:ba n.k n.d6 s)(ah:s.d8[j]?=σ f)(w:f.live≠0)(q:f.sc=[a,b])(ae:pos=0\/pos=1)(ac:v∈aT s (if pos=1 then b else a))(e:s.d7[(if pos=1 then a else b).toNat]?=σ y):
  (cF n.k (aB y) λu=>min (bt f.am f.cs (if pos=1 then[u,v]else[v,u])+y.un.getD u.toNat 0) n.k)=cF n.k (aB y) (iY n s j (pos:Int) v (if pos=1 then a else b)):=by
 refine GU λu hu=>?_;obtain⟨r,_,_⟩:=h.d8 f (x6 ah);obtain⟨o,aE⟩:∃o,o=(if pos=1 then a else b):=⟨_,rfl⟩;have x:0<=o:=by
  have h1:=(r.scope.1 a (by rw[q];exact .head _)).1;have z:=(r.scope.1 b (by rw[q];exact .tail _ (.head _))).1;rw[aE];split<;>omega
 rw[<-aE]at e ⊢;obtain⟨on,rfl⟩:=Y6 x;rw[u5]at e;obtain⟨m,hm⟩:=GY h (x6 ah) q ae ac (by rw[<-aE,pe e];exact hu);unfold iY;rw[wo h e hu,show((if(pos:Int)=1 then[u,v]else[v,u]):Λ)=if pos=1 then[u,v]else[v,u] by
  rcases ae with rfl|rfl<;>rfl,(tn ah w hm).1]
end
section
variable{w:x4}{dr:x1}{n:aI}{s:an}
theorem zV{p:Nat}{f:bI}(a:ba n.k n.d6 s)(ah:s.d8[j]?=σ f)(e:f.live≠0)(ae:p<f.sc.length)(ac:v∈aT s (f.sc.getD p 0)):lI n s j f p v=gb n.k (bt f.am f.cs) (bV s f.sc p v):=by
 unfold lI;rw[RW ae];refine TV λtl h=>?_;obtain⟨m,hm⟩:=o2 a (x6 ah) (λu hu=>by rw[p8,hu]at ac;exact ac) h;exact(tn ah e hm).1
theorem UQ{f:bI}{a b:Int}{y:bA}(r:ba n.k n.d6 s)(ah:s.d8[j]?=σ f)(w:f.live≠0)(e:f.sc=[a,b])(ac:v∈aT s a)(q:s.d7[b.toNat]?=σ y):o3 n s j f v=cF n.k (aB y) λu=>min (bt f.am f.cs [v,u]+y.un.getD u.toNat 0) n.k:=by
 have h:=UP r ah w e (.inl rfl) ac q;simp only[show¬(0:Nat)=1 by decide,if_false]at h;rw[h];unfold o3;rw[e];show cF n.k (aT s b) _=_;unfold aT;rw[q];rfl
theorem UR{f:x1}{o:Option (Λ)}{K:x1->Prop}(h:rA w f o):ad x7 (aU .eql av ne ms f (.slice ν 0 0)) w K=K (.bool (decide (o=ν))):=by
 obtain⟨a,n,c,rfl,e⟩:=h.nil;rw[qP av.u,e]
theorem US(h:iI w dr n.k n.d6 s)(B:ba n.k n.d6 s)(az:qt s)(bp:s.d8.length<=1000):aq x7 I0 [dr] w λr I=>Ext w I/\∃b:Bool,r= .bool b/\(b=ms↔qw n s/\fJ n s):=by
 have bq:=B.d7;refine aF func43 ?_;refine bo λg1 U br N O=>?_;have P:=h.box N O;obtain⟨ho,bs,bt,bu,bw,bA,af,bB,_,aC,bD,bE,ag,bF⟩:=id P;rw[aO a8.p 6 af rfl,jB fa.u ag,u9];have no:∀{I:x4},Ext U I->¬qw n s->Ext w I/\∃b:Bool,x1.bool ne= .bool b/\(b=ms↔qw n s/\fJ n s):=λaE Q=>⟨N.F aE,ne,rfl,λh=>(by cases h),λh=>m2 h.1 Q⟩;refine cb.range s.d8.length (λj _ ab=>Ext U ab/\∀q,q<j->∀f,s.d8[q]?=σ f->∀p,p<f.sc.length->∀v∈aT s (f.sc.getD p 0),¬(0<(lI n s q f p v).1\/(lI n s q f p v).2=ν)) Ω ⟨Ext.refl _,λq C=>m2 C (Nat.not_lt_zero _)⟩ ?_ ?_
 rotate_left
 .rintro _ ab aG ⟨E,R⟩;refine cc Ω ?_;refine(P.W E).load λaH S=>?_;refine(Uz S B).Y ?_;rintro _ bG _ ⟨aI,b,rfl,O⟩;exact⟨(N.F E).F aI,b,rfl,O.F ⟨λh=>⟨λj f ah _=>R j (x5.1 ah).1 f ah,h⟩,λh=>h.2⟩⟩
 rintro j bH ab aG aJ ⟨E,R⟩ aL;obtain⟨fn,a⟩:=aK (l:=s.d8) aJ;have V:=az fn (x6 a);obtain⟨ai,_,_⟩:=B.d8 fn (x6 a);refine bM Ω ?_;refine nQ dI.p rfl fa.u dI.i (bP ag E) (by rw[v8,a];rfl) λcs aM=>?_;obtain⟨aZ,aN,bd,rfl,aj,aP,aQ⟩:=n5 aM;refine bC dI.i λga bI bJ aS aU=>?_;refine b8 (vs:=[aZ,aN,bd,.bool (decide (fn.live≠0))]) dI.i rfl rfl (GA aj aP aQ) aU λaV aW bL ak=>?_;have am:=aS.put aW Ω;have an:=E.F am;have W:=dy (bP aj am);rw[aY dI.p rfl,aY be.p rfl,aD Ψ (ak.cell rfl),a7 av.u W];refine cb.range fn.sc.length (λpos _ G=>Ext aV G/\∀p,p<pos->∀v∈aT s (fn.sc.getD p 0),¬(0<(lI n s j fn p v).1\/(lI n s j fn p v).2=ν)) W.le ⟨Ext.refl _,λp ae=>m2 ae (Nat.not_lt_zero _)⟩ ?_ ?_
 rotate_left
 .rintro t5 G aX ⟨z,X⟩;refine cc Ω ?_;rw[aR];refine aL _ _ ⟨an.F z,λq C f ah=>?_⟩;rcases Nat.lt_or_eq_of_le (Nat.le_of_lt_succ C)with bg|rfl
  .exact R q bg f ah
  .rw[a]at ah;cases ah;exact X
 rintro pos t5 G aX H ⟨z,X⟩ a2;obtain⟨u,hu⟩:=aK (l:=fn.sc) H;have ap:=x6 hu;have a6:=(ai.scope.1 u ap).1;have bN:=ai.d7 u ap;obtain⟨un,rfl⟩:=Y6 a6;obtain⟨x,J⟩:=aK (l:=s.d7) (i:=un) Ω;have au:aT s (fn.sc.getD pos 0)=aB x:=by rw[p8,hu];exact pe J
 have Y:=an.F z;refine bM Ω ?_;rw[bm av.u al.i Ψ (W.W z) hu,aO a8.p 3 (af.W Y) rfl];refine iN rfl rfl df.u av.i Ψ (bP aC Y) (by rw[v8,J];rfl) λbO bb=>?_;have Z:=dy bb;rw[a7 av.u Z];refine cb.range (aB x).length (λq _ aa=>Ext G aa/\∀v∈(aB x).take q,¬(0<(lI n s j fn pos v).1\/(lI n s j fn pos v).2=ν)) Z.le ⟨Ext.refl _,λv ac=>by cases ac⟩ ?_ ?_
 rotate_left
 .rintro bc aa bf ⟨A,K⟩;rw[o6]at K;refine cc Ω ?_;rw[aR];refine a2 _ _ ⟨z.F A,λp ae=>?_⟩;rcases Nat.lt_or_eq_of_le (Nat.le_of_lt_succ ae)with bg|rfl
  .exact X p bg
  .rw[au];exact K
 rintro q bc aa bf C ⟨A,K⟩ bh;obtain⟨v,ac⟩:=aK (l:=aB x) C;have bi:=x6 ac;have aw:=Y.F A;have L:v∈aT s (fn.sc.getD pos 0):=by rw[au];exact bi
 refine bM Ω ?_;rw[bm av.u al.i Ψ (Z.W A) ac];refine(P.W aw).load λaH S=>?_;refine(TX S B a H λu' bj=>by rw[p8,bj]at L;exact L).Y ?_;rintro _ bk _ ⟨ad,fv2,rfl,ax⟩;rw[<-zV B a V H L]at ax ⊢;rw[bx,bz];have bl:=aw.F ad;refine a1 (λr bn=>bn=bk/\r= .bool (decide (0<(lI n s j fn pos v).1\/(lI n s j fn pos v).2=ν))) ?_ λaA ay=>?_
 .rintro _ _ ⟨rfl,rfl⟩;rw[ao];refine⟨λe=>no bl λQ=>Q j fn a V pos H v L e,λe=>?_⟩;rw[aR];refine bh _ _ ⟨A.F ad,λy M=>?_⟩;rw[u7,ac,o8,j5,Z7]at M;rcases M with M|rfl
  .exact K y M
  .exact e
 .rw[aY dI.p rfl,aD Ψ (((ak.W z).W (A.F ad)).cell rfl),m3 V,bK,bU,ao];refine⟨λe=>ay _ _ ⟨rfl,by rw[m3 (.inl e)]⟩,λe=>?_⟩;rw[UR ax];refine ay _ _ ⟨rfl,?_⟩;congr 1;exact decide_eq_decide.2 ⟨λh=>.inr h,λh=>h.resolve_left e⟩
theorem UT(h:iI w dr n.k n.d6 s)(E:ba n.k n.d6 s)(ag:qt s)(aE:s.d8.length<=1000):aq x7 I1 [dr] w λr I=>Ext w I/\∃b:Bool,r= .bool b/\(b=ms↔tw n s/\qw n s/\fJ n s):=by
 have bp:=E.d7;refine aF func44 ?_;refine bo λg1 U bq P Q=>?_;have R:=h.box P Q;obtain⟨ho,br,bs,bt,bu,bw,ai,bA,_,aG,bB,bD,aj,bF⟩:=id R;rw[aO a8.p 6 ai rfl,jB fa.u aj,u9];have no:∀{I:x4},Ext U I->¬tw n s->Ext w I/\∃b:Bool,x1.bool ne= .bool b/\(b=ms↔tw n s/\qw n s/\fJ n s):=λaH S=>⟨P.F aH,ne,rfl,λh=>(by cases h),λh=>m2 h.1 S⟩;refine cb.range s.d8.length (λj _ ab=>Ext U ab/\∀q,q<j->∀f,s.d8[q]?=σ f->f.sc.length=2->∀v∈aT s (f.sc.getD 0 0),¬0<(o3 n s q f v).1) Ω ⟨Ext.refl _,λq G=>m2 G (Nat.not_lt_zero _)⟩ ?_ ?_
 rotate_left
 .rintro _ ab aI ⟨H,V⟩;refine cc Ω ?_;refine(R.W H).load λaJ W=>?_;refine(US W E ag aE).Y ?_;rintro _ X _ ⟨Y,b,rfl,Q⟩;exact⟨(P.F H).F Y,b,rfl,Q.F ⟨λh=>⟨λj f ah _=>V j (x5.1 ah).1 f ah,h⟩,λh=>h.2⟩⟩
 rintro j bH ab aI aL ⟨H,V⟩ aM;obtain⟨fn,A⟩:=aK (l:=s.d8) aL;have Z:=ag fn (x6 A);obtain⟨M,_,_⟩:=E.d8 fn (x6 A);refine bM Ω ?_;refine a1 (λ_ X=>Ext U X/\(fn.sc.length=2->∀v∈aT s (fn.sc.getD 0 0),¬0<(o3 n s j fn v).1)) ?_ λaA ak=>?_
 .rintro _ X ⟨Y,aN⟩;rw[aR];refine aM _ _ ⟨Y,λq G f ah=>?_⟩;rcases Nat.lt_or_eq_of_le (Nat.le_of_lt_succ G)with bg|rfl
  .exact V q bg f ah
  .rw[A]at ah;cases ah;exact aN
 refine nQ dI.p rfl fa.u dI.i (bP aj H) (by rw[v8,A];rfl) λcs aP=>?_;obtain⟨aZ,aQ,bd,rfl,am,aS,aU⟩:=n5 aP;refine bC dI.i λga bI bJ aV aW=>?_;refine b8 (vs:=[aZ,aQ,bd,.bool (decide (fn.live≠0))]) dI.i rfl rfl (GA am aS aU) aW λaX a2 bb aa=>?_;have an:=aV.put a2 Ω;have ap:=H.F an;have au:=dy (bP am an);refine a1 (λr K=>K=aX/\r= .bool (decide (fn.sc.length≠2))) ?_ λbK bc=>?_
 rotate_left
 .rw[aY dI.p rfl,aD Ψ (aa.cell rfl),m3 Z,bE,Y1,a6,aY dI.p rfl,aY be.p rfl,aD Ψ (aa.cell rfl),a7 av.u au,bG];refine bc _ _ ⟨rfl,?_⟩;congr 1;exact decide_eq_decide.2 ⟨λh e=>h Ω,λh e=>h Ω⟩
 rintro _ _ ⟨rfl,rfl⟩;rw[ao];refine⟨λC=>ak _ _ ⟨ap,λh=>m2 h C⟩,λC=>?_⟩;have C:=X0.1 C;obtain⟨a,b,z⟩:∃a b,fn.sc=[a,b]:=by
  match bb:fn.sc,C with
  |[a,b],_=>exact⟨a,b,rfl⟩
 have bL:=M.d7 a (by rw[z];exact .head _);have bN:=M.d7 b (by rw[z];exact .tail _ (.head _));have bf:=(M.scope.1 a (by rw[z];exact .head _)).1;have bO:=(M.scope.1 b (by rw[z];exact .tail _ (.head _))).1;obtain⟨un,rfl⟩:=Y6 bf;obtain⟨x,J⟩:=aK (l:=s.d7) (i:=un) Ω;obtain⟨y,B⟩:=aK (l:=s.d7) (i:=b.toNat) Ω;have aw:aT s (fn.sc.getD 0 0)=aB x:=by rw[z];exact pe J
 have hu:fn.sc[0]?=σ (un:Int):=by rw[z];rfl
 intro bh ad _ _;have N:=ap.F ad;rw[aO a8.p 3 (ai.W N) rfl,aY dI.p rfl,aY be.p rfl,aD Ψ ((aa.W ad).cell rfl),fO (y:=0) (i:=0) rfl av.u al.i Ψ (au.W ad) hu];refine iN rfl rfl df.u av.i Ψ (bP aG N) (by rw[v8,J];rfl) λbQ bi=>?_;have ae:=dy bi;rw[a7 av.u ae];refine cb.range (aB x).length (λq _ K=>Ext bh K/\∀v∈(aB x).take q,¬0<(o3 n s j fn v).1) ae.le ⟨Ext.refl _,λv ac=>by cases ac⟩ ?_ ?_
 rotate_left
 .rintro bj K bk ⟨L,O⟩;rw[o6]at O;refine cc Ω ?_;exact ak _ _ ⟨N.F L,λ_=>by rw[aw];exact O⟩
 rintro q bj K bk G ⟨L,O⟩ bl;obtain⟨v,ac⟩:=aK (l:=aB x) G;have ax:=x6 ac;have ay:=N.F L;have az:v∈aT s (un:Int):=by rw[pe J];exact ax
 refine bM Ω ?_;rw[bm av.u al.i Ψ (ae.W L) ac];refine(R.W ay).load λaJ W=>?_;have bn:=UQ E A Z z az B;refine(TY W E A z (.inl rfl) az B).Y ?_;rintro _ bR _ ⟨aC,rfl⟩;simp only[show¬(0:Nat)=1 by decide,if_false];rw[bx,bz,<-bn,bU,ao];refine⟨λaf=>no (ay.F aC) λS=>S j fn A Z C v (by rw[aw];exact ax) af,λaf=>?_⟩;rw[aR];refine bl _ _ ⟨L.F aC,λy B=>?_⟩;rw[u7,ac,o8,j5,Z7]at B;rcases B with B|rfl
 .exact O y B
 .exact af
end
def dj(pos:Nat)(v w:Int):Λ:=if pos=1 then[w,v]else[v,w]
structure gQ(n:aI)(s s':an):Prop where
 ok:ba n.k n.d6 s'
 gq:b2 s'
 same:dv s s'
 val:∀a,ka s a->fE n.k s' a=fE n.k s a
 fj:∀i,aT s' i=aT s i
 zero:s'.zero=s.zero
section
variable{n:aI}{s:an}
theorem gQ.rfl(a:ba n.k n.d6 s)(e:b2 s):gQ n s s:=⟨a,e,.rfl,Ω,λ_=>Eq.refl _,Eq.refl _⟩
theorem gQ.F{a b c:an}(h:gQ n a b)(g:gQ n b c):gQ n a c:=
 ⟨g.ok,g.gq,h.same.F g.same,λx J=>(g.val x (zv h.same J)).F (h.val x J),λi=>(g.fj i).F (h.fj i),g.zero.F h.zero⟩
structure dP(n:aI)(s:an)(j:Nat)(pos:Nat)(f:bI)(i o:Int):Prop where
 ah:s.d8[j]?=σ f
 live:f.live≠0
 len:f.sc.length=2
 p:pos=0\/pos=1
 hi:f.sc[pos]?=σ i
 aE:f.sc[1-pos]?=σ o
theorem dP.rE{f:bI}{i o:Int}(h:dP n s j pos f i o)(r:ba n.k n.d6 s):0<=i/\i<n.d6.length/\0<=o/\o<n.d6.length/\i≠o:=by
 have a:=(r.d8 f (x6 h.ah)).1;have h1:=x6 h.hi;have q:=x6 h.aE;refine⟨(a.scope.1 _ h1).1,a.d7 _ h1,(a.scope.1 _ q).1,a.d7 _ q,λe=>?_⟩;have w:f.sc.Pairwise (·< ·):=a.up;have x:=h.len;rw[U3]at w;have y:=(x5.1 h.hi);have z:=(x5.1 h.aE)
 grind
theorem wr{w:Int}:(dj pos v w).length=2:=by grind [dj]
theorem Hs{w:Int}(ae:pos=0\/pos=1):(dj pos v w)[pos]?=σ v/\(dj pos v w)[1-pos]?=σ w:=by
 grind [dj]
theorem Ht{f:bI}{i o w x:Int}(h:dP n s j pos f i o)(ac:v∈aT s i)(hw:w∈aT s o):(dj pos v w∈bV s f.sc pos x↔v=x)/\(dj pos v w∈bV s f.sc (1-pos) x↔w=x):=by
 obtain⟨r,y⟩:=Hs (v:=v) (w:=w) h.p;have key:∀(q:Nat)u b,f.sc[q]?=σ u->(dj pos v w)[q]?=σ b->(q=pos/\b=v/\u=i)\/(q=1-pos/\b=w/\u=o):=λq u b hu a=>by
  have z:=(x5.1 a).1;rw[wr]at z;by_cases e:q=pos
  .subst e;rw[r]at a;have hi:=h.hi
   grind
  .have A:q=1-pos:=by grind [dP.p]
   subst A;rw[y]at a;have aE:=h.aE
   grind
 have B:pos≠1-pos:=Ω
 refine⟨⟨λhm=>?_,λe=>?_⟩,⟨λhm=>?_,λe=>?_⟩⟩
 .grind [oY]
 .subst e;refine oY.2 ⟨wr.F h.len.symm,λq u b hu a=>?_⟩
  grind
 .grind [oY]
 .subst e;refine oY.2 ⟨wr.F h.len.symm,λq u b hu a=>?_⟩
  grind
theorem Hu{f:bI}{i o w:Int}(h:dP n s j pos f i o)(a:ba n.k n.d6 s)(ac:v∈aT s i)(hw:w∈aT s o):∃m:Nat,ct f.am (dj pos v w) 0=σ (m:Int):=
 o2 a (x6 h.ah) (λu hu=>by have:=h.hi;grind) ((Ht (x:=v) h ac hw).1.2 rfl)
theorem Hv{i:Int}(a:ba n.k n.d6 s)(h:0<=i)(ac:v∈aT s i)(e:∀x,s.d7[i.toNat]?=σ x->x.gone=0):∃x,dF s i v=σ x/\s.d7[i.toNat]?=σ x/\bN n s i v=x.un.getD v.toNat 0/\eC n i v/\v.toNat<x.un.length:=by
 unfold aT at ac;cases J:s.d7[i.toNat]? with
 |none=>grind
 |some x=>
  rw[J]at ac;have j:v∈aB x:=ac;have q:=e x J;have r:=(x5.1 J).1;have w:=a.d7;obtain⟨z,f⟩:=aK (l:=n.d6) (i:=i.toNat) Ω;have y:=(a.var i.toNat x z J f).1
  grind [e1,eC,dF,bN,fx]
theorem UU{f:bI}{i o:Int}{x:bA}(h:dP n s j pos f i o)(ac:dF s i v=σ x):du s (j:Int) (pos:Int) v=σ (f,i,x):=by
 unfold du;rw[lw ⟨Ω,Ω⟩,u5,h.ah];simp only;rw[lw h.live,u5,h.hi]
 grind
theorem dP.flip{f:bI}{i o:Int}(h:dP n s j pos f i o):dP n s j (1-pos) f o i:=⟨h.ah,h.live,h.len,Ω,h.aE,by have:=h.p;grind [dP.hi]⟩
theorem UV{w:Int}(ae:pos=0\/pos=1):dj (1-pos) w v=dj pos v w:=by
 grind [dj]
def e9(b:Bool)(j pos:Nat)(v c:Int):fF:=⟨if b then 1 else 0,j,pos,v,c⟩
theorem Hw{f:bI}{i o c:Int}{b:Bool}(h:dP n s j pos f i o)(z:ba n.k n.d6 s)(G:b2 s)(ac:v∈aT s i)(B:0<=c/\c<=n.k)(H:if b then c<=bN n s i v else∀w∈aT s o,c<=ea s j (dj pos v w)):
  gQ n s (bi n.k s (e9 b j pos v c)).1/\(∃g,dP n (bi n.k s (e9 b j pos v c)).1 j pos g i o)/\
  (∀A∈aT s i,∀w∈aT s o,ea (bi n.k s (e9 b j pos v c)).1 j (dj pos A w)=if A=v then(if b then b4 n.k (ea s j (dj pos A w)) c else cG n.k (ea s j (dj pos A w)) c)else ea s j (dj pos A w))/\
  ∀r u,0<=r->0<=u->bN n (bi n.k s (e9 b j pos v c)).1 r u=if r=i/\u=v then(if b then cG n.k (bN n s i v) c else b4 n.k (bN n s i v) c)else bN n s r u:=by
 have R:=h.rE z;have I:=x6 h.ah;have S:∀x,s.d7[i.toNat]?=σ x->x.gone=0:=G f I h.live i (x6 h.hi);obtain⟨x,T,J,U,V,ab⟩:=Hv z R.1 ac S;have ae:=UU h T;have ad:0<=v:=V.2.2.1;obtain⟨tup,un,C⟩:∃tup un:Int->Int,bi n.k s (e9 b j pos v c)=(fy s j f pos i.toNat x v tup un,0)/\tup=(if b then λg=>b4 n.k g c else λg=>cG n.k g c)/\un=(if b then λg=>cG n.k g c else λg=>b4 n.k g c):=by
  cases b with
  |true=>
   refine⟨_,_,?_,rfl,rfl⟩;have K:c<=bN n s i v:=by grind
   rw[U]at K;have q:=(zp (k:=n.k) (a:=e9 ms j pos v c) ae).2.2.2 rfl B K
   grind [e9]
  |false=>
   refine⟨_,_,?_,rfl,rfl⟩;have H:∀w∈aT s o,c<=ea s j (dj pos v w):=by grind
   have q:=(zp (k:=n.k) (a:=e9 ne j pos v c) ae).2.1 rfl B (room_le.2 ⟨B.2,λt L=>?_⟩)
   .grind [e9]
   .have L:t∈bV s f.sc pos v:=by grind [e9]
    obtain⟨af,M⟩:=oY.1 L;have ag:=h.len;obtain⟨w,hw⟩:=aK (l:=t) (i:=1-pos) Ω;obtain⟨y,W⟩:=aK (l:=t) (i:=pos) (by have:=h.p;omega);have h1:=M pos i y h.hi W;rw[lw rfl]at h1;have E:=M (1-pos) o w h.aE hw;rw[m1 (by have:=h.p;omega)]at E;have e:t=dj pos v w:=by
     obtain⟨ai,aj⟩:=Hs (v:=v) (w:=w) h.p;refine Y5 λq=>?_
     grind [wr]
    obtain⟨m,hm⟩:=Hu h z ac E;have N:=H w E;rw[(tn h.ah h.live hm).1]at N;rw[e];exact N
 obtain⟨C,ak,al⟩:=C;have hm:=vX (m:=e9 b j pos v c) z G;have F:=vZ (m:=e9 b j pos v c) z;rw[C]at hm F ⊢;obtain⟨O,P,X⟩:=hm;simp only at O P X F ⊢;have Y:∀r,aT (fy s j f pos i.toNat x v tup un) r=aT s r:=zo J;have Z:=(x5.1 h.ah).1;have Q:(fy s j f pos i.toNat x v tup un).d8[j]?=σ {f with cs:=eo tup (bV s f.sc pos v) f.am f.cs}:=Y2 Z;obtain⟨an,ao⟩:=kD z I;refine⟨⟨O,P,F,λa ap=>?_,Y,rfl⟩,⟨_,Q,h.live,h.len,h.p,h.hi,h.aE⟩,λA aa w hw=>?_,λr u aq hu=>?_⟩
 .grind [n7,e9]
 .obtain⟨m,hm⟩:=Hu h z aa hw;rw[(tn Q h.live hm).1,(tn h.ah h.live hm).1]
  grind [FZ,Ht]
 grind [zP]
end
def fk(s:an)(j pos:Nat)(need:Int->Int)(N:Λ)(w:Int):Int:=N.foldl (λm v=>max m (need v-ea s j (dj pos v w))) 0
theorem UW{g:Int->Int}{c:Int}:∀(l:Λ)(z:Int),l.foldl (λm v=>max m (g v)) z<=c↔z<=c/\∀v∈l,g v<=c
 :=by
 intro a;induction a<;>grind
theorem ws{s:an}{need:Int->Int}{N:Λ}{w c:Int}:fk s j pos need N w<=c↔0<=c/\∀v∈N,need v-ea s j (dj pos v w)<=c:=UW N 0
theorem Hx{s:an}{need:Int->Int}{N:Λ}{w:Int}:0<=fk s j pos need N w/\∀v∈N,need v-ea s j (dj pos v w)<=fk s j pos need N w:=ws.1 (S8 _)
theorem UX{s s':an}{need:Int->Int}{w:Int}:∀{N:Λ}(z:Int),(∀v∈N,ea s' j (dj pos v w)=ea s j (dj pos v w))->N.foldl (λm v=>max m (need v-ea s' j (dj pos v w))) z=N.foldl (λm v=>max m (need v-ea s j (dj pos v w))) z
 :=by
 intro a;induction a<;>grind
def gw(n:aI)(j pos:Nat)(need:Int->Int)(N:Λ):Λ->an->an
 |[],s=>s
 |w::L,s=>gw n j pos need N L (bi n.k s (e9 ms j (1-pos) w (fk s j pos need N w))).1
def kG(n:aI)(j pos:Nat)(need:Int->Int):Λ->an->an
 |[],s=>s
 |v::M,s=>kG n j pos need M (bi n.k s (e9 ne j pos v (need v))).1
section
variable{n:aI}
theorem Hy{j pos:Nat}{i o:Int}{need:Int->Int}{N:Λ}:∀(L:Λ)(s:an)(f:bI),dP n s j pos f i o->ba n.k n.d6 s->b2 s->L.Nodup->(∀w∈L,w∈aT s o/\fk s j pos need N w<=bN n s o w)->(∀v∈N,v∈aT s i)->
  gQ n s (gw n j pos need N L s)/\(∃g,dP n (gw n j pos need N L s) j pos g i o)/\
  (∀v∈aT s i,∀w∈aT s o,ea (gw n j pos need N L s) j (dj pos v w)=if w∈L then b4 n.k (ea s j (dj pos v w)) (fk s j pos need N w)else ea s j (dj pos v w))/\
  ∀a u,0<=a->0<=u->bN n (gw n j pos need N L s) a u=if a=o/\u∈L then cG n.k (bN n s o u) (fk s j pos need N u)else bN n s a u
 |[],s,f,h,q,y,_,_,_=>⟨.rfl q y,⟨f,h⟩,λ_ _ _ _=>(m1 Ξ).symm,λ_ _ _ _=>(m1 Ξ).symm⟩
 |w::L,s,f,h,q,y,C,E,K=>by
  obtain⟨hw,F⟩:=E w (.head _);obtain⟨M,G⟩:=List.nodup_cons.1 C;have O:=(lH (n:=n) (s:=s) (i:=o) (v:=w) q).2;obtain⟨r,⟨g,x⟩,A,z⟩:=Hw (b:=ms) (v:=w) (c:=fk s j pos need N w) h.flip q y hw ⟨Hx.1,Ω⟩ F;have x:dP n (bi n.k s (e9 ms j (1-pos) w (fk s j pos need N w))).1 j pos g i o:=by
   have:=x.flip
   grind [dP.p]
  have A:∀v∈aT s i,∀I∈aT s o,ea (bi n.k s (e9 ms j (1-pos) w (fk s j pos need N w))).1 j (dj pos v I)=if I=w then b4 n.k (ea s j (dj pos v I)) (fk s j pos need N w)else ea s j (dj pos v I):=by grind [UV,dP.p]
  have z:∀a u,0<=a->0<=u->bN n (bi n.k s (e9 ms j (1-pos) w (fk s j pos need N w))).1 a u=if a=o/\u=w then cG n.k (bN n s o w) (fk s j pos need N w)else bN n s a u:=z;have e:gw n j pos need N (w::L) s=gw n j pos need N L (bi n.k s (e9 ms j (1-pos) w (fk s j pos need N w))).1:=rfl;rw[e];generalize (bi n.k s (e9 ms j (1-pos) w (fk s j pos need N w))).1=s1 at r x A z;have P:∀I∈L,I∈aT s o->fk s1 j pos need N I=fk s j pos need N I:=λI B Q=>by
   have R:I≠w:=by grind
   refine UX 0 λv ac=>?_
   grind
  have S:=h.rE q;have T:∀I∈aT s o,0<=I:=by grind [vY]
  obtain⟨H,J,U,V⟩:=Hy (need:=need) (N:=N) L s1 g x r.ok r.gq G (λI B=>by
   grind [gQ.fj]) (by grind [gQ.fj])
  refine⟨r.F H,J,λv ac I B=>?_,λa u W hu=>?_⟩
  all_goals grind [gQ.fj]
theorem Hz{j pos:Nat}{i o:Int}{need:Int->Int}:∀(M:Λ)(s:an)(f:bI),dP n s j pos f i o->ba n.k n.d6 s->b2 s->M.Nodup->(∀v∈M,v∈aT s i/\(0<=need v/\need v<=n.k)/\∀w∈aT s o,need v<=ea s j (dj pos v w))->
  gQ n s (kG n j pos need M s)/\(∃g,dP n (kG n j pos need M s) j pos g i o)/\∀a u,0<=a->0<=u->bN n (kG n j pos need M s) a u=if a=i/\u∈M then b4 n.k (bN n s i u) (need u)else bN n s a u
 |[],s,f,h,q,z,_,_=>⟨.rfl q z,⟨f,h⟩,λ_ _ _ _=>(m1 Ξ).symm⟩
 |v::M,s,f,h,q,z,E,F=>by
  obtain⟨ac,G,H⟩:=F v (.head _);obtain⟨O,I⟩:=List.nodup_cons.1 E;obtain⟨r,⟨g,B⟩,A,x⟩:=Hw (b:=ne) (v:=v) (c:=need v) h q z ac G H;have A:∀y∈aT s i,∀w∈aT s o,ea (bi n.k s (e9 ne j pos v (need v))).1 j (dj pos y w)=if y=v then cG n.k (ea s j (dj pos y w)) (need v)else ea s j (dj pos y w):=A;have x:∀a u,0<=a->0<=u->bN n (bi n.k s (e9 ne j pos v (need v))).1 a u=if a=i/\u=v then b4 n.k (bN n s i v) (need v)else bN n s a u:=x;have e:kG n j pos need (v::M) s=kG n j pos need M (bi n.k s (e9 ne j pos v (need v))).1:=rfl;rw[e];generalize (bi n.k s (e9 ne j pos v (need v))).1=s1 at r B A x;have P:=h.rE q;obtain⟨J,K,L⟩:=Hz (need:=need) M s1 g B r.ok r.gq I λu hu=>by
   grind [gQ.fj]
  refine⟨r.F J,K,λa u C hu=>?_⟩;rw[L a u C hu];by_cases N:a=i/\u∈M
  .have Q:u≠v:=by grind
   grind
  .rw[m1 N,x a u C hu]
   grind
def jN(n:aI)(s:an)(j pos:Nat)(o v:Int):Int:=(cF n.k (aT s o) (iY n s j pos v o)).1
def dQ(n:aI)(s:an)(j pos:Nat)(i o:Int):Λ:=(aT s i).filter λv=>decide (0<jN n s j pos o v)
def lO(n:aI)(s:an)(j pos:Nat)(i o:Int)(M:Λ):an:=kG n j pos (jN n s j pos o) M (gw n j pos (jN n s j pos o) (dQ n s j pos i o) (aT s o) s)
theorem HA{s:an}{i:Int}:(aT s i).Nodup:=by
 grind [aT,qh]
theorem UY{s:an}{o w:Int}:iY n s j pos v o w=min (ea s j (dj pos v w)+bN n s o w) n.k:=by
 grind [iY,dj]
theorem UZ{s:an}{i o:Int}{f:bI}{M:Λ}(h:dP n s j pos f i o)(a:ba n.k n.d6 s)(B:b2 s)(r:M.Perm (dQ n s j pos i o)):
  gQ n s (lO n s j pos i o M)/\∀e u,0<=e->0<=u->bN n (lO n s j pos i o M) e u=if e=i/\u∈dQ n s j pos i o then b4 n.k (bN n s i u) (jN n s j pos o u)else if e=o/\u∈aT s o then cG n.k (bN n s o u) (fk s j pos (jN n s j pos o) (dQ n s j pos i o) u)else bN n s e u:=by
 have hk:=a.eA;have H:=h.rE a;have x:∀v∈dQ n s j pos i o,v∈aT s i:=λv ac=>(T6.1 ac).1;have C:∀v,∀w∈aT s o,w≠ -1/\iY n s j pos v o w<=n.k:=λv w hw=>⟨by have:=(vY a hw).1;omega,(zq a).2⟩;have y:∀v,(0<=jN n s j pos o v/\jN n s j pos o v<=n.k)/\∀w∈aT s o,jN n s j pos o v<=ea s j (dj pos v w)+bN n s o w:=λv=>by
  refine⟨tk Ω λw _=>zq a,λw hw=>?_⟩;have:=((Gn (c:=jN n s j pos o v) (C v)).1 (S8 _)).2 w hw
  grind [UY]
 obtain⟨q,⟨g,z⟩,A,E⟩:=Hy (need:=jN n s j pos o) (N:=dQ n s j pos i o) (aT s o) s f h a B HA (λw hw=>⟨hw,ws.2 ⟨(lH a).1,λv _=>by have:=(y v).2 w hw;omega⟩⟩) x;have F:M.Nodup:=(r.nodup_iff).2 (HA.sublist List.filter_sublist);unfold lO;generalize gw n j pos (jN n s j pos o) (dQ n s j pos i o) (aT s o) s=s1 at q z A E;obtain⟨G,_,I⟩:=Hz (need:=jN n s j pos o) M s1 g z q.ok q.gq F λv ac=>by
  have ac:=r.mem_iff.1 ac;refine⟨by grind [gQ.fj],(y v).1,λw hw=>?_⟩;rw[q.fj]at hw;rw[A v (x v ac) w hw,lw hw];have h1:=Hx (s:=s) (j:=j) (pos:=pos) (need:=jN n s j pos o) (N:=dQ n s j pos i o) (w:=w)
  grind [b4]
 refine⟨q.F G,λe u J hu=>?_⟩
 grind
end
section
variable{n:aI}{s:an}
def rF(n:aI)(s:an):Prop:=∀(j:Nat)f i o,dP n s j 0 f i o->dQ n s j 0 i o=[]
def ns(n:aI)(O:List Nat)(s:an)(r:an×Bool×Bool):Prop:=
 if(dK n O s).2.2=ms\/(dK n O s).2.1=ms then r=dK n O s else
 (rF n s/\r=(s,ne,ne))\/∃(j:Nat)(f:bI)(i o:Int)(M:Λ),dP n s j 0 f i o/\dQ n s j 0 i o≠[]/\M.Perm (dQ n s j 0 i o)/\r=(lO n s j 0 i o M,ms,ne)
theorem gQ.zQ{s':an}(h:gQ n s s'):fz n.k n.d6 s s':=⟨h.ok,h.gq,h.same,h.val,by grind [gQ.fj],by grind [gQ.zero]⟩
theorem gQ.U0{s':an}(h:gQ n s s'):eO n.k s'=eO n.k s:=by unfold eO;rw[Hi h.same h.fj,h.zero]
theorem Va{i:Nat}(a:fJ n s)(e:ba n.k n.d6 s)(hi:i<n.d6.length)(f:dp s i=ne)(ac:v∈aT s (i:Int)):bN n s (i:Int) v<n.k:=by
 have:=(a i hi (by grind)).2.2 v ac;have h:=e.zero.1
 grind [b4]
theorem dP.there{f:bI}{i o:Int}(h:dP n s j pos f i o)(a:b2 s):dp s i.toNat=ne:=by
 have:=a f (x6 h.ah) h.live i (x6 h.hi)
 grind [dp]
theorem dP.up{f:bI}{i o:Int}(h:dP n s j 0 f i o)(e:ba n.k n.d6 s):i<o:=by
 have a:f.sc.Pairwise (·< ·):=(e.d8 f (x6 h.ah)).1.up;have q:=h.len;rw[U3]at a;have r:=(x5.1 h.hi).2;have w:=(x5.1 h.aE).2;have:=a 0 1 Ω Ω Ω
 grind
theorem HB{r:an×Bool×Bool}(a:ba n.k n.d6 s)(y:b2 s)(h:ns n O s r):fz n.k n.d6 s r.1/\(r.2.2=ms->r.2.1=ne/\∃i<n.d6.length,dp s i=ne/\aT r.1 (i:Int)=[])/\
  (r.2.2=ne->r.2.1=ms->gP n r.1<gP n s)/\(r.2.2=ne->r.2.1=ne->r.1=s/\fJ n s/\rD n O s/\rF n s):=by
 obtain⟨h1,L,N,F⟩:=Hj (n:=n) (O:=O) a y;unfold ns at h;by_cases G:(dK n O s).2.2=ms\/(dK n O s).2.1=ms
 .grind
 rw[m1 G]at h;have he:(dK n O s).2.2=ne:=by grind
 have H:(dK n O s).2.1=ne:=by grind
 obtain⟨_,A,P⟩:=F he H;rcases h with⟨Q,rfl⟩|⟨j,f,i,o,M,e,I,J,rfl⟩
 .grind
 obtain⟨x,B⟩:=UZ e a y J;refine⟨x.zQ,by grind,λ_ _=>?_,by grind⟩;have K:=e.rE a;have R:=e.up a;have S:=e.there y;obtain⟨i,rfl⟩:=Y6 K.1;have C:i<n.d6.length:=Ω
 show gP n (lO n s j 0 (i:Int) o M)<gP n s;have T:∀v,0<=jN n s j 0 o v:=λv=>(tk (by have:=a.eA;omega) λw _=>zq a).1;refine Hf (i:=i) x.U0 A a x.ok x.fj C (λq U v ac=>?_) ?_
 .rw[B q v Ω (vY a ac).1];by_cases h1:(q:Int)=(i:Int)/\v∈dQ n s j 0 (i:Int) o
  .rw[lw h1];have:=(lH (n:=n) (s:=s) (i:=(i:Int)) (v:=v) a).2
   grind [b4]
  grind
 .obtain⟨v,ac⟩:=List.exists_mem_of_ne_nil _ I;obtain⟨z,E⟩:=T6.1 ac;have E:=m7 E;refine⟨v,z,?_⟩;rw[B i v Ω (vY a z).1,lw ⟨rfl,ac⟩];have:=Va A a C (by grind [u5]) z
  grind [b4]
theorem Vb{r:an×Bool×Bool}(q:ba n.k n.d6 s)(h:fJ n s)(w:rD n O s)(x:rF n s)(a:ns n O s r):r=(s,ne,ne):=by
 unfold ns at a;rw[Us q h w]at a;rw[m1 Ξ]at a;rcases a with⟨_,e⟩|⟨j,f,i,o,M,y,z,_⟩
 .exact e
 .exact m2 (x j f i o y) z
end
theorem Vd{of:Λ->Int}{l:List (Λ)}(h:∀t∈l,of t<=k):(gb k of l).1=(l.map of).foldl min k/\((gb k of l).2=ν↔l=[]):=by
 unfold gb;have key:∀(l:List (Λ))(c:Int)(t:Λ),(l.foldl (simpStep of) (c,σ t)).1=(l.map of).foldl min c/\(l.foldl (simpStep of) (c,σ t)).2≠ν:=λl=>by
  induction l<;>grind [simpStep]
 cases l<;>grind [simpStep]
section
variable{n:aI}{s:an}
theorem Ve(a:ba n.k n.d6 s)(r:b2 s)(w:∀(j:Nat)f,s.d8[j]?=σ f->f.live≠0->j∈O):rD n O s↔ ∀(j:Nat)f,s.d8[j]?=σ f->f.live≠0->∀(pos:Nat)i,f.sc[pos]?=σ i->∀v∈aT s i,(gb n.k (bt f.am f.cs) (bV s f.sc pos v)).1<=0/\(gb n.k (bt f.am f.cs) (bV s f.sc pos v)).2≠ν:=by
 have hk:=a.eA;have key:∀(j:Nat)f,s.d8[j]?=σ f->f.live≠0->∀(pos:Nat)i,f.sc[pos]?=σ i->∀v∈aT s i,(od n.k s j pos v=0↔(gb n.k (bt f.am f.cs) (bV s f.sc pos v)).1<=0/\(gb n.k (bt f.am f.cs) (bV s f.sc pos v)).2≠ν):=λj f ah e pos i hi v ac=>by
  have q:=x6 ah;have y:=((a.d8 f q).1.scope.1 i (x6 hi)).1;obtain⟨x,z,_⟩:=Hv a y ac (r f q e i (x6 hi));have ae:du s (j:Int) (pos:Int) v=σ (f,i,x):=by
   grind [du]
  obtain⟨A,B⟩:=Vd (k:=n.k) (of:=bt f.am f.cs) (l:=bV s f.sc pos v) λt _=>(nk a q).2;have C:=Hg (pos:=pos) (v:=v) a q
  grind [od,eN]
 constructor
 .intro h j f ah e pos i hi v ac;refine(key j f ah e pos i hi v ac).1 (h j (w j f ah e) f ah pos (List.mem_range.2 (x5.1 hi).1) v ?_)
  grind
 .intro h j E f ah pos F v ac
  grind [od,du,u5]
end
structure Vf(P:an->Prop)(n:aI)(s:an)(q:an×Bool×Bool):Prop where
 bb:fz n.k n.d6 s q.1
 emp:q.2.2=ms->q.2.1=ne/\∃i<n.d6.length,dp s i=ne/\aT q.1 (i:Int)=[]
 less:q.2.2=ne->q.2.1=ms->gP n q.1<gP n s
 same:q.2.2=ne->q.2.1=ne->q.1=s/\fJ n s/\P s
 quiet:fJ n s->P s->q=(s,ne,ne)
section
variable{n:aI}{s:an}
def zW(s:an)(O:List Nat):Prop:=∀(j:Nat)f,s.d8[j]?=σ f->f.live≠0->j∈O
theorem HC(e:ba n.k n.d6 s)(q:b2 s)(r:zW s O):rD n O s↔qw n s:=by
 rw[Ve e q r];constructor
 .intro h j f ah a p ae v ac x
  grind [zV]
 .intro h j f ah a p i hi v ac;have ae:=(x5.1 hi).1;have w:v∈aT s (f.sc.getD p 0):=by grind
  have y:=h j f ah a p ae v w
  grind [zV]
theorem HD:tw n s↔rF n s:=by
 constructor
 .intro h j f i o e;unfold dQ;rw[List.filter_eq_nil_iff];intro v ac y;have z:=m7 y;have C:f.sc.getD 0 0=i:=by rw[p8,e.hi];rfl
  have A:f.sc.getD 1 0=o:=by rw[p8,show f.sc[1]?=σ o from e.aE];rfl
  refine h j f e.ah e.live e.len v (by grind) ?_;unfold o3;rw[A];exact z
 .intro h j f ah B x v ac r;obtain⟨a,b,q⟩:∃a b,f.sc=[a,b]:=by
   match E:f.sc,x with
   |[a,b],_=>grind
  have w:=h j f a b ⟨ah,B,x,.inl rfl,by rw[q];rfl,by rw[q];rfl⟩;unfold dQ at w;rw[List.filter_eq_nil_iff]at w;rw[q]at ac;refine w v ac (m3 ?_);unfold o3 at r;rw[q]at r;exact r
def tx(n:aI)(s:an):Prop:=tw n s/\qw n s
theorem Vg{r:an×Bool×Bool}(e:ba n.k n.d6 s)(f:b2 s)(j:zW s O)(h:ns n O s r):Vf (tx n) n s r:=by
 obtain⟨q,w,x,y⟩:=HB e f h;refine⟨q,w,x,λh1 a=>?_,λh1 a=>Vb e h1 ((HC e f j).2 a.2) (HD.1 a.1) h⟩;obtain⟨z,A,C,B⟩:=y h1 a;exact⟨z,A,HD.2 B,by grind [HC]⟩
end
def iK(s:an)(m:Nat):List Nat:=(X2 m).filter (eL s)
theorem HE{s:an}{m:Nat}:iK s (m+1)=iK s m++if eL s m=ms then[m]else[]:=by
 grind [iK,List.range_succ]
theorem Vh{s:an}(h:O.Perm (iK s s.d8.length)):zW s O:=λj f ah a=>by
 refine h.symm.subset (T6.2 ⟨List.mem_range.2 (x5.1 ah).1,?_⟩)
 grind [eL]
theorem Vi{s:an}:∀m,(iK s m).length<=m:=λm=>by
 have:=List.length_filter_le (eL s) (X2 m);rw[List.length_range]at this;exact this
open Classical in
theorem k9.sink{b c:x1}{B:x1->x1->x1->x4->(x1->x1->x1->x4->Prop)->Prop}(aA:Nat->x1->x4->Prop){m:Nat}(r:aA m c w)(V:∀(m:Nat)(a b c:x1)(I:x4)(k:x1->x1->x1->x4->Prop),aA m c I->(∀bX a b c f,bX<m->aA bX c f->k a b c f)->B a b c I k):k9 a b c w B:=by
 have j:∀{c:x1}{w:x4},(∃m,aA m c w)->∃m,aA m c w/\∀k,aA k c w->m<=k:=λ⟨m,h⟩=>Hl (P:=λm=>aA m _ _) m h;refine⟨λ_ _ c w=>∃m,aA m c w,λ_ _ c w=>if h:∃m,aA m c w then Classical.choose (j h)else 0,⟨m,r⟩,λa b c I q=>?_⟩;obtain⟨h1,s⟩:=Classical.choose_spec (j q);refine V _ a b c I _ h1 λbX _ _ x f y e=>⟨⟨bX,e⟩,?_⟩;have z:=(Classical.choose_spec (j ⟨bX,e⟩)).2 bX e;show dite _ _ _<dite _ _ _;rw[dif_pos q,dif_pos ⟨bX,e⟩];omega
section
variable{aw:List az}{w:x4}{af ag:Nat}{A R:ak}{n:aI}{s:an}{t:az}
theorem Vj(h:bw w af ag A R n s t)(ah:s.d8.length<=1000000):aq x7 JI [Γ af] w λr I=>∃g H P,r=Γ g/\Ext w I/\ep (λr=>w.heap.size<=r/\r<I.heap.size) I g H P/\(mu H).Perm ((iK s s.d8.length).map λj:Nat=>(j:Int)):=by
 refine aF func99 ?_;refine(rn h).Y ?_;rintro _ U _ ⟨rfl,B⟩;have ak:=B.size;refine(UF (S:=λr=>w.heap.size<=r) ah Ω).Y ?_;rintro _ ab _ ⟨g,rfl,E,al,N⟩;refine(rn (h.W (B.F E))).Y ?_;rintro _ am _ ⟨rfl,G⟩;have O:=(B.F E).F G;refine b6.range s.d8.length (λi z=>Ext w z/\∃H P,ep (λr=>w.heap.size<=r) z g H P/\P.length=s.d8.length/\(mu H).Perm ((iK s i).map λj:Nat=>(j:Int))) Ω ⟨O,[],_,N.W G,Ξ,.refl _⟩ ?_ ?_
 .rintro i z Q hi ⟨q,H,P,x,J,ae⟩ an;refine bM Ω ?_;have z4:=q.size;refine cZ (λC=>Ext w C/\∃H P,ep (λr=>w.heap.size<=r) C g H P/\P.length=s.d8.length/\(mu H).Perm ((iK s (i+1)).map λj:Nat=>(j:Int))) ?_ λaA K=>?_
  .rintro C ao;rw[aR]
   grind
  refine(rp (j:=(i:Int)) (h.W q)).Y ?_;rintro _ ap _ ⟨rfl,y⟩;rw[m3 Ω,T0,u5,b1];refine⟨λV=>?_,λV=>K _ ⟨q.F y,H,P,x.W y,J,by grind [HE]⟩⟩;obtain⟨f,W⟩:=aK (l:=s.d8) hi;refine(mm (h.W (q.F y)) W).Y ?_;rintro sv au _ ⟨L,gs,aw,X⟩;rw[a7 av.u X.ls];have M:=(q.F y).F L;have ax:=M.size;have Y:P[i]?=σ (-1):=by
   obtain⟨v,ac⟩:=aK (l:=P) (i:=i) Ω;rcases x.1.1.pl i v ac with e|⟨j,a,_,Z,e⟩
   .rw[ac,e]
   .have:(i:Int)∈mu H:=o9.2 ⟨a,x6 Z,e⟩;obtain⟨k,hk,ay⟩:=o9.1 (ae.subset this);have:=List.mem_range.1 (T6.1 hk).1;omega
  have az:H.length<=i:=by
   grind [S2.length_eq,Vi,mu,u9]
  refine(UG ((x.W y).W L) Y Ω Ω Ω).Y ?_;rintro _ aB _ ⟨aa,ad,ai,aj,aC,aD⟩;refine K _ ⟨M.then ai Ω,aa,ad,aj,Ω,?_⟩
  grind [HE,mu]
 .rintro z Q ⟨q,H,P,x,J,ae⟩;refine cc Ω ?_;exact⟨g,H,P,rfl,q,x.Y Ω,ae⟩
def Vk(aw:List az)(w:x4)(af ag:Nat)(A R:ak)(n:aI)(s:an)(r:x1)(I:x4):Prop:=∃O:List Nat,O.Perm (iK s s.d8.length)/\zS aw w af ag A R n (dK n O s) r I
theorem HF{s':an}(h:dv s s'):iK s' s'.d8.length=iK s s.d8.length:=by
 unfold iK;rw[h.d8];refine List.filter_congr λj a=>?_;have a:=List.mem_range.1 a;have r:=h.d8;obtain⟨f,ah⟩:=aK (l:=s.d8) a;obtain⟨q,e⟩:=aK (l:=s'.d8) (i:=j) Ω;unfold eL;rw[ah,e];simp only;rw[(h.fn j f q ah e).2.2.1]
theorem Vl(h:bw w af ag A R n s t)(X:Laid w)(Y:¬A 0)(aE:dJ aw t)(C:b2 s)(ah:s.d8.length<=1000000):aq x7 Bh [Γ af] w (Vk aw w af ag A R n s):=by
 have G:=h.2.2.2.1;refine aF func53 ?_;refine(Uw h X Y aE C).Y ?_;rintro _ U _ ⟨rfl,I⟩;obtain⟨z,_⟩:=G5 (n:=n) G C;rw[bx,bz];generalize aV:fG n s=q at I z;have M:∀O,dK n O s=if q.2.2=ms\/q.2.1=ms then q else((O.foldl (eT n.k) (q.1,ne)).1,(O.foldl (eT n.k) (q.1,ne)).2,ne):=by grind [dK]
 refine a1 (λv ab=>U=ab/\v= .bool (q.2.2||q.2.1)) ?_ λaA aW=>?_
 rotate_left
 .rw[bG,ao]
  grind
 rintro _ _ ⟨rfl,rfl⟩;rw[b1];refine⟨λy=>⟨_,.refl _,?_⟩,λy=>?_⟩
 .have e:=M (iK s s.d8.length);rw[lw (by simpa using y)]at e;rw[e];exact⟨rfl,I⟩
 rw[T5]at y;obtain⟨Z,aX,ac,aY,aZ,a2,ad⟩:=I.open;have ai:=HF z.same;have a7:=z.same.d8;refine(Vj ac Ω).Y ?_;rintro _ J _ ⟨g,H,P,rfl,aj,ak,N⟩;rw[ai]at N;have z3:=aj.size;refine k9.sink (λm c E=>∃(B:List (Int×Int))(Q:Λ)(x:List Nat),B.length=m/\ep (λr=>U.heap.size<=r/\r<J.heap.size) E g B Q/\(x.map (λj:Nat=>(j:Int))++mu B).Perm ((iK s s.d8.length).map λj:Nat=>(j:Int))/\c= .bool (x.foldl (eT n.k) (q.1,ne)).2/\
   dC aw U af ag Z R n U.heap.size (λr=>J.heap.size<=r) (x.foldl (eT n.k) (q.1,ne)).1 E/\J.heap.size<=E.heap.size) ⟨H,P,[],rfl,ak,N,by grind,by grind [dC.start],p9 _⟩ ?_
 rintro m al am _ E an ⟨B,Q,x,rfl,ap,ae,rfl,S,a8⟩ au;have av:=(tv (λj s b G C=>Hh G C) x q.1 ne z.ok z.gq).1;refine(UI ap).Y ?_;rintro _ ba _ (⟨rfl,ax,rfl⟩|⟨a,K,ay,rfl,T,az,aB,bb⟩)
 .rw[fP,fQ,fR,bE,X4,bK];have aC:x.Perm (iK s s.d8.length):=by
   have bc:=ae.map Int.toNat;have e:∀L:List Nat,(L.map λj:Nat=>(j:Int)).map Int.toNat=L:=λL=>by rw[T7];exact(List.map_congr_left λj _=>u5 j).F (List.map_id L)
   grind [mu]
  refine⟨x,aC,?_⟩;have e:=M x;rw[m1 (by rw[y.1,y.2];simp)]at e;rw[e];exact⟨rfl,ad (S.done ax)⟩
 rw[fP,fQ,fR,bE,Y1,a6];have V:=S.own T Ω;have z5:=T.size;have bd:(mu B).Perm (mu K++[a.2]):=by
  grind [mu]
 have aD:a.2∈(iK s s.d8.length).map λj:Nat=>(j:Int):=by grind
 obtain⟨j,aG,aH⟩:=o9.1 aD;have be:=List.mem_range.1 (T6.1 aG).1;have bf:=av.same.d8;obtain⟨f,aI⟩:=aK (l:=(x.foldl (eT n.k) (q.1,ne)).1.d8) (i:=j) Ω;obtain⟨bg,t5,aJ,aL,aM,aN⟩:=V.qp;rw[<-aH];refine(UO aJ V.2.1.1 aM aL aI).Y ?_;rintro _ aO _ ⟨rfl,aQ,bh,aP,bu,aR,aS,aT,bi⟩;obtain⟨bj,W,bk⟩:=aN aQ aR aS aT (λr h=>h) λr bl y=>Ω
 have bm:=W.size;have aU:=aB.length_eq;rw[o4,S1]at aU;have bn:(x++[j]).foldl (eT n.k) (q.1,ne)=((eT n.k ((x.foldl (eT n.k) (q.1,ne)).1,ne) j).1,(eT n.k ((x.foldl (eT n.k) (q.1,ne)).1,ne) j).2||(x.foldl (eT n.k) (q.1,ne)).2):=by
  grind [UL]
 have go:∀{c:x1},c= .bool ((eT n.k ((x.foldl (eT n.k) (q.1,ne)).1,ne) j).2||(x.foldl (eT n.k) (q.1,ne)).2)->an al am c aO:=λ{c}bo=>by
  refine au K.length _ _ _ _ Ω ⟨K,ay,x++[j],rfl,az.aa W Ω,?_,by grind,by grind,Ω⟩;rw[Z2,X7];refine(S2.append_left _ ?_).F ae
  grind
 rw[b1]
 grind
end
theorem HG{n:aI}{j pos:Nat}{need:Int->Int}{N:Λ}:∀(L M:Λ)(s:an),gw n j pos need N (L++M) s=gw n j pos need N M (gw n j pos need N L s)
 |[],_,_=>rfl
 |w::L,M,s=>by
  rw[List.cons_append,gw,gw];exact HG L M _
theorem HH{n:aI}{j pos:Nat}{need:Int->Int}:∀(L M:Λ)(s:an),kG n j pos need (L++M) s=kG n j pos need M (kG n j pos need L s)
 |[],_,_=>rfl
 |v::L,M,s=>by
  rw[List.cons_append,kG,kG];exact HH L M _
theorem Vm{s:an}{need:Int->Int}{L N:Λ}{w:Int}(h:L.Perm N):fk s j pos need L w=fk s j pos need N w:=by
 have key:∀c,fk s j pos need L w<=c↔fk s j pos need N w<=c:=λc=>by
  rw[ws,ws];exact and_congr_right λ_=>⟨λk v ac=>k v (h.mem_iff.2 ac),λk v ac=>k v (h.mem_iff.1 ac)⟩
 have h1:=(key _).1 (S8 _);have a:=(key _).2 (S8 _);omega
def nt(need:Int->Int)(v:Int):x1×x1:=(Δ v,Δ (need v))
section
variable{aw:List az}{w:x4}{af ag:Nat}{A R:ak}{n:aI}{s:an}{t:az}
theorem Vn{u:Int}(h:bw w af ag A R n s t):aq x7 JM [.agg #[Γ af,Δ (j:Int),Δ (pos:Int)],Δ v,Δ u] w λr I=>r=Δ (ea s j (dj pos v u))/\Ext w I:=by
 refine aF func103 ?_;refine bo λg1 U L C q=>?_;have q:=q;refine nR (l:=[v,u]) av.u al.i Ξ rfl Ψ λM ga ab N x E=>?_;have y:=C.F x;refine a1 (λr a=>Ext w a/\Ext U a/\aQ .i64 a r (dj pos v u)) ?_ λaA z=>?_
 .rintro aV a ⟨f,G,H⟩;have B:=q.W G;rw[aO lW.p 0 B rfl,aO lW.p 1 B rfl];refine FT (h.W f) H λe O J=>?_;rw[bx,bz];exact⟨rfl,f.F J⟩
 rw[aO lW.p 2 (q.W x) rfl,bl,ao];refine⟨λae=>?_,λae=>z _ _ ⟨y,x,by unfold dj;rw[m1 Ω];exact E.ls⟩⟩;refine nR (l:=[u,v]) av.u al.i Ξ rfl Ψ λP Q a S f K=>?_;exact z _ _ ⟨y.F f,x.F f,by unfold dj;rw[lw Ω];exact K.ls⟩
def Vo(aw:List az)(w:x4)(af ag:Nat)(A R:ak)(n:aI)(s:an)(j pos:Nat)(i o:Int)(r:x1)(I:x4):Prop:=
 (dQ n s j pos i o=[]/\r= .bool ne/\cp aw w af ag A R n s I)\/(dQ n s j pos i o≠[]/\r= .bool ms/\∃M:Λ,M.Perm (dQ n s j pos i o)/\cp aw w af ag A R n (lO n s j pos i o M) I)
theorem Vp:Keys x7 al λv=>∃n,v=Δ n:=Keys.int al.u
theorem Vq{f:bI}{i o:Int}(h:bw w af ag A R n s t)(aG:Laid w)(bT:¬A 0)(aE:dJ aw t)(H:dP n s j pos f i o):aq x7 I9 [Γ af,Δ (j:Int),Δ (pos:Int)] w (Vo aw w af ag A R n s j pos i o):=by
 have ax:=h.2.2.2.1;have dF:=ax.d7;have bc:=H.rE ax;have dG:=H.p;obtain⟨x,J⟩:=aK (l:=s.d7) (i:=i.toNat) Ω;obtain⟨y,bd⟩:=aK (l:=s.d7) (i:=o.toNat) Ω;have cC:aT s i=aB x:=by unfold aT;rw[J]
 have bV:aT s o=aB y:=by unfold aT;rw[bd]
 obtain⟨need,aY⟩:∃need:Int->Int,need=jN n s j pos o:=⟨_,rfl⟩;have cD:dQ n s j pos i o=(aB x).filter λv=>decide (0<need v):=by unfold dQ;rw[cC,aY]
 have cE:∀v,0<=need v/\need v<=n.k:=λv=>by
  rw[aY];have hk:=ax.eA;exact tk Ω λu _=>⟨by unfold iY;have:=(vM (j:=j) (tl:=if(pos:Int)=1 then[u,v]else[v,u]) ax).1;have:=(lH (n:=n) (i:=o) (v:=u) ax).1;omega,by unfold iY;omega⟩
 have dH:=ax.eA;refine iM func55 ?_;refine bo λg1 U dI be K=>?_;refine bo λcG ab dK aZ V=>?_;refine bo λcH bg dL aH Q=>?_;have K:ai bg g1 dx [Γ af]:=(ai.W K aZ).W aH;have V:ai bg cG al [Δ (j:Int)]:=ai.W V aH;have Q:ai bg cH al [Δ (pos:Int)]:=Q;have dM:=be.size;have dN:=aZ.size;have z3:=aH.size;rw[aD (v:=Γ af) Ψ (K.Qz rfl),aD (v:=Δ (j:Int)) Ψ (V.cell rfl),aD Ψ (Q.cell rfl),
  dk (cs:=#[Γ af,Δ (j:Int),Δ (pos:Int)]) Ψ]
 refine bC lW.i λdO dR dS bW cI=>?_;refine b8 lW.i rfl rfl (by intro v ac;simp at ac;rcases ac with rfl|rfl|rfl<;>rfl) cI λdT cJ dU a1=>?_;have aI:=bW.put cJ Ω;have bX:=((be.F aZ).F aH).F aI;have dV:=aI.size;rw[aD Ψ ((K.W aI).cell rfl),aD Ψ ((V.W aI).cell rfl)];refine(mm (h.W bX) H.ah).Y ?_;rintro sv dW _ ⟨aJ,gs,dX,aL⟩;have dY:=sM aL (by have:=H.len;omega);refine sx λm dZ ea ay bY=>?_;refine bC mG.i λeb ec ed bZ cK=>?_;refine bs mG.i rfl rfl cK (by show 0<1;omega) λbh cL ee az=>?_;have az:=az;have aA:=bZ.put cL Ω;have ef:=aJ.size;have eg:=ay.size;have eh:=aA.size;have bj:=((aI.F aJ).F ay).F aA;have b0:=((bX.F aJ).F ay).F aA;have K:=K.W bj;have V:=V.W bj;have Q:=Q.W bj;have a1:=((a1.W aJ).W ay).W aA;have aL:=(aL.W ay).W aA;have bk:=bY.W aA;have ei:=bk.lt;have ej:=bY.lt;have ek:=K.lt;have em:=V.lt;have en:=Q.lt;have eo:=a1.lt;have ep:=az.lt;intro er X _ _;have es:=X.size;have et:=X;have cM:=b0.F X;rw[aD Ψ ((K.W X).cell rfl),aD Ψ ((Q.W X).cell rfl)];refine mN rfl av.u al.i (aL.W X).ls H.hi λcN cO bm=>?_;rw[aD Ψ bm];refine(iW (h.W cM)).Y ?_;rintro _ eu _ ⟨⟨b,ev,rfl,B⟩,bn⟩;refine(l3).Y ?_;rintro _ cP _ ⟨bp,cQ,rfl,ew,bq⟩;have br:=kC B bc.1 J;have ey:=bn.size;have z12:=bp.size;have aM:=(X.F bn).F bp;have bt:=b0.F aM;have ez:=bq.lt;obtain⟨E,ak⟩:∃E:Nat->List (x1×x1),E=λz=>(((aB x).take z).filter λv=>decide (0<need v)).map (nt need):=⟨_,rfl⟩;have cR:(aB x).Nodup:=qh _;refine ki.old ⟨_,ne,jy,#[Γ cQ],_,_,_,_,λz I=>aj (λr=>r=m) cP I/\c8 I m (E z),λ_ _ _=>False,rfl,(l2 B.1).s,?_,
  λ_ _ J h=>⟨h.1.W J,h.2.W J⟩,λ_ _ _ J h=>⟨h.1.F (J.aa _),h.2.W J⟩,λ_ _ _ _ _ h=>h,⟨bq,aG.W bt⟩,⟨aj.refl _ _,by rw[ak];exact bk.W aM⟩,?_,?_,λ_ _ h=>h.elim,λ_ _ _ h=>h.elim⟩
 .rintro _ _ _ _ ⟨_,_,_,_,rfl⟩;rfl
 .rintro _ z _ eB ⟨b1,b2⟩ ⟨cS,rfl,v,bx,bz⟩ ⟨L,S⟩;cases bz;intro cT a2 _ _;have aN:(aB x)[z]?=σ (v:Int):=by rw[<-br,v8,bx];rfl
  have cU:=x6 aN;have eC:=L.size;have b3:=bt.then L λr a7 h=>by have h:=h;omega
  have bb:∀{g:Nat}{e:r8}{cs:List x1},g≠m->ai bh g e cs->ai cT g e cs:=λO aO=>((aO.W aM).aa L O).W a2;rw[aD Ψ ((bb Ω K).cell rfl),aD Ψ ((bb Ω V).cell rfl),aD Ψ ((bb Ω Q).cell rfl)];have aQ:(aB x).take (z+1)=(aB x).take z++[(v:Int)]:=by rw[u7,aN];rfl
  refine(Sr (h.W (b3.F a2)) (aG.W (b3.F a2))).Y ?_;rintro _ eD _ ⟨b4,cV⟩;have cW:n3 s (j:Int) (pos:Int) (v:Int) f i x:=⟨Ω,by rw[u5];exact H.ah,H.live,Ω,by rw[u5];exact H.hi,bc.1,J,cU⟩;have a7:=(cV.2 f i x cW).2 H.len o y (by rw[show((1:Int)-(pos:Int)).toNat=1-pos by omega];exact H.aE) bd;rw[u5]at a7;subst a7;have cX:(cF n.k (aB y) (iY n s j (pos:Int) (v:Int) o)).1=need (v:Int):=by rw[aY];unfold jN;rw[bV]
  rw[fP,fQ,fR,cX,bU,ao];have Y:=a2.F b4;refine⟨λbA=>?_,λbA=>?_⟩
  .rw[aD Ψ (((bb Ω az).W b4).cell rfl)];have bB:E (z+1)=E z++[nt need (v:Int)]:=by
    rw[ak];simp only;rw[aQ,List.filter_append,Z2,List.filter_cons_of_pos (by exact m3 bA)];rfl
   have cY:∀p∈E z,p.1≠ Δ (v:Int):=λp ae e=>by
    rw[ak]at ae;obtain⟨u,hu,rfl⟩:=o9.1 ae;have hu:=(T6.1 hu).1;have e:u=(v:Int):=by
     have e:=e;cases e;rfl
    subst e;obtain⟨q,am⟩:=Y4.1 hu;have cZ:=(x5.1 am).1;rw[j9]at cZ;rw[W3 Ω]at am;have:=l8 cR am aN;omega
   refine q7 mG.u Vp (S.W Y) (λp ae=>?_) ⟨_,rfl⟩ (λq v0 I am _ _=>m2 rfl (cY _ (x6 am))) λeE _ c0 bD=>?_
   .rw[ak]at ae;obtain⟨u,_,rfl⟩:=o9.1 ae;exact⟨u,rfl⟩
   .refine⟨⟨((b1.W Y)).aa bD λe=>by have e:=e;omega,iu bD (λe=>by have e:=e;omega) (b2.W Y)⟩,⟨(L.F (Y.aa _)).F bD,by rw[bB];exact c0⟩,λh=>by cases h⟩
  .have bB:E (z+1)=E z:=by
    rw[ak];simp only;rw[aQ,List.filter_append,Z2,List.filter_cons_of_neg (by rw[m5 bA];decide)];simp
   exact⟨⟨b1.W Y,b2.W Y⟩,⟨L.F (Y.aa _),by rw[bB];exact S.W Y⟩,λh=>by cases h⟩
 rintro c1 c2 rfl ⟨L,S⟩;rw[ak]at S;simp only at S;rw[j4 (by rw[<-br,u9];exact p9 _),<-cD]at S;clear ak E;have eF:=L.size;have b5:=bt.then L λr a7 h=>by have h:=h;omega
 have aR:∀{g:Nat}{e:r8}{cs:List x1},g≠m->ai bh g e cs->ai c2 g e cs:=λO aO=>(aO.W aM).aa L O;rw[aD Ψ ((aR Ω az).cell rfl),Dn mG.u S,bl,ao];refine⟨λbE=>?_,λbE=>?_⟩
 .intro eH c3 _;refine .inl ⟨?_,rfl,cp.same h aG bT aE (b5.F c3)⟩;rw[u9]at bE;exact j6 Ω
 obtain⟨N,aS⟩:∃N:Λ,N=dQ n s j pos i o:=⟨_,rfl⟩;have c4:N≠[]:=λe=>bE (by rw[<-aS,e];rfl);rw[<-aS]at S;intro eI an _ _;have b6:=b5.F an;have eJ:=an.size;have c6:=((aR Ω K).W an).Qz rfl;have c7:=((aR Ω Q).W an).Qz rfl;rw[aD Ψ c6,aD Ψ c7,c5,hx Ω Ω,show(1:Int)-(pos:Int)=((1-pos:Nat):Int) by omega];have c9:=((aL.W aM).aa L λ_ e=>by have e:=e;omega).W an;refine mN rfl av.u al.i c9.ls H.aE λcN cO bm=>?_;rw[aD Ψ bm];refine(iW (h.W b6)).Y ?_;rintro _ eK _ ⟨⟨eL,eM,rfl,b7⟩,b9⟩;refine(l3).Y ?_;rintro _ Z _ ⟨ca,bf,rfl,eN,cb⟩;have cc:=kC b7 bc.2.2.1 bd;have bG:=b9.F ca;have cd:=b6.F bG;have eO:=b9.size;have eP:=ca.size;have eQ:=cb.lt;have ce:=(S.W an).W bG;have aU:∀{g:Nat}{e:r8}{cs:List x1},g≠m->ai bh g e cs->ai Z g e cs:=λO aO=>((aR O aO).W an).W bG;have cf:=aU Ω K;have cg:=aU Ω V;have ch:=aU Ω Q;have da:=aU Ω a1;have ci:=aU Ω az;have eR:∀{B C:Λ}{q:Int},(B++C).Perm N->q∈C->q∈N:=λae am=>ae.mem_iff.1 (j5.2 (.inr am));clear L S bk be aZ aH bW aJ ay bZ X bn bp bq B br aR;refine ki.old ⟨_,ne,jy,#[Γ bf],_,_,_,_,λz I=>dC aw w af ag A R n w.heap.size (λr=>Z.heap.size<=r) (gw n j pos need N ((aB y).take z) s) I/\aj (λr=>r<w.heap.size\/Z.heap.size<=r) Z I,λ_ _ _=>False,rfl,(l2 b7.1).s,?_,
  λ_ _ J h=>⟨h.1.W J,h.2.W J⟩,λ_ _ _ J h=>⟨h.1.W J,h.2.F (J.aa _)⟩,λ_ _ _ _ _ h=>h,⟨cb,aG.W cd⟩,⟨dC.start h aG bT aE cd (p9 _),aj.refl _ _⟩,?_,?_,λ_ _ h=>h.elim,λ_ _ _ h=>h.elim⟩
 .rintro _ _ _ _ ⟨_,_,_,_,rfl⟩;rfl
 .rintro _ z _ eS ⟨db,dc⟩ ⟨cS,rfl,v,bx,bz⟩ ⟨aC,G⟩;cases bz;intro eU W _ _;have aN:(aB y)[z]?=σ (v:Int):=by rw[<-cc,v8,bx];rfl
  have aQ:gw n j pos need N ((aB y).take (z+1)) s=(bi n.k (gw n j pos need N ((aB y).take z) s) (e9 ms j (1-pos) (v:Int) (fk (gw n j pos need N ((aB y).take z) s) j pos need N (v:Int)))).1:=by
   rw[u7,aN,HG];rfl
  generalize gw n j pos need N ((aB y).take z) s=s1 at aC aQ;obtain⟨dd,de,aV,bH,bJ,bL⟩:=aC.qp;have df:=aV.2.2.2.1;have z22:=G.size;have eV:=W.size;have dg:=(cf.aa G Ω).W W;have dh:=(cg.aa G Ω).W W;have di:=(ch.aa G Ω).W W;have dl:=(da.aa G Ω).W W;rw[aD Ψ (((ci.aa G Ω).W W).cell rfl)];refine uU mG.u ((ce.aa G Ω).W W) λP dm dn cj _ bM=>?_;refine⟨λoO aF=>∃B C left aW,oO=Δ (fk s1 j pos need B (v:Int))/\Ext dm aF/\iA aF P m (N.map (nt need)) left aW/\left=C.map (nt need)/\(B++C).Perm N,λ_ aF=>lx aF P,⟨[],N,_,ν,rfl,Ext.refl _,bM,rfl,S2.refl _⟩,?_⟩;rintro _ aF ⟨B,C,left,aW,rfl,bN,ck,rfl,ap⟩;refine uV ck (λ_=>by show w.heap.size<=P;omega) (λbO=>?_) (λq p eW ae cl eX cm=>?_)
  .rw[gj (v:=.bool ne) rfl,a6];have:C=[]:=List.map_eq_nil_iff.1 bO;subst this;rw[V2]at ap;have a8:=cj.F bN;have aX:=W.F a8;rw[Vm ap,aD Ψ ((dg.W a8).cell rfl),aD Ψ ((dh.W a8).cell rfl),aD Ψ ((di.W a8).cell rfl),c5,hx Ω Ω,show(1:Int)-(pos:Int)=((1-pos:Nat):Int) by omega];refine(GL (a:=e9 ms j (1-pos) (v:Int) (fk s1 j pos need N (v:Int))) rfl (aV.W aX) (dc.W aX) bJ bH).Y ?_;rintro _ dp _ ⟨_,bP,dq,aP,bu,O,bQ,bR,dr⟩;have z25:=aX.size;obtain⟨bS,ba,cn⟩:=bL (iS aX bP) ((Grow.W aX).F O) bQ bR (λr h=>h) λr ds dt=>Ω
   refine⟨⟨db.aa ba Ω,dq⟩,⟨?_,G.F ba⟩,λh=>by cases h⟩;show dC aw w af ag A R n w.heap.size (λr=>Z.heap.size<=r) (gw n j pos need N ((aB y).take (z+1)) s) dp;rw[aQ];exact bS
  .rw[gj (v:=.bool ms) rfl,bK];refine uW cm ?_;obtain⟨u,hu,rfl⟩:∃u,C[q]?=σ u/\nt need u=p:=by
    rw[v8]at ae;exact Y0.1 ae
   have cq:=(cj.F bN).F cl;have du:=W.F cq;rw[gj rfl,gj (v:=Δ (need u)) rfl,bF lW.p lW.i rfl (dl.W cq).range];refine(Vn (v:=u) (u:=(v:Int)) (aV.W du)).Y ?_;rintro _ dv dw ⟨rfl,cr⟩;have eY:=vM (s:=s1) (j:=j) (tl:=dj pos u (v:Int)) df;have eZ:=cE u;rw[c5,hx Ω Ω,r1];have ct:=cm.W cr dw.kH;refine⟨⟨B++[u],C.eraseIdx q,_,_,?_,(bN.F cl).F cr,ct,mT (nt need) C q,?_⟩,?_⟩
   .unfold fk;rw[List.foldl_append];rfl
   .refine S2.F ?_ ap;rw[X7];exact S2.append_left B (sE hu)
   .show lx dv P<lx aF P;rw[oL ct,oL ck];have:=u0 (x5.1 ae).1;omega
 rintro c1 e0 rfl ⟨aC,G⟩;rw[j4 (by rw[<-cc,u9];exact p9 _)]at aC;have cu:∀M,lO n s j pos i o M=kG n j pos need M (gw n j pos need N (aB y) s):=λM=>by unfold lO;rw[<-aY,<-aS,bV]
 generalize gw n j pos need N (aB y) s=dy at aC cu;have e1:=G.size;rw[aD Ψ ((ci.aa G Ω).cell rfl)];refine uU mG.u (ce.aa G Ω) λP e2 dn cw _ bM=>?_;refine⟨λau=>∃B C left aW,(dC aw w af ag A R n w.heap.size (λr=>Z.heap.size<=r) (kG n j pos need B dy) au/\aj (λr=>r<w.heap.size\/Z.heap.size<=r) Z au)/\iA au P m (N.map (nt need)) left aW/\left=C.map (nt need)/\(B++C).Perm N,λau=>lx au P,⟨[],N,_,ν,⟨aC.W cw,G.F (cw.aa _)⟩,bM,rfl,S2.refl _⟩,?_⟩;rintro au ⟨B,C,left,aW,⟨d1,d2⟩,cz,rfl,ap⟩;refine uV cz (λ_=>by show w.heap.size<=P;omega) (λbO=>?_) (λq p e3 ae ad e4 cA=>?_)
 .rw[gj (v:=.bool ne) rfl,a6];have:C=[]:=List.map_eq_nil_iff.1 bO;subst this;rw[V2]at ap;intro e5 dz _;refine .inr ⟨by rw[<-aS];exact c4,rfl,B,by rw[<-aS];exact ap,?_⟩;rw[cu];exact d1.done dz
 .rw[gj (v:=.bool ms) rfl,bK];refine uW cA ?_;obtain⟨u,hu,rfl⟩:∃u,C[q]?=σ u/\nt need u=p:=by
   rw[v8]at ae;exact Y0.1 ae
  obtain⟨dd,de,aV,bH,bJ,bL⟩:=d1.qp;have e6:=d2.size;have e7:=ad.size;rw[gj rfl,gj rfl,aD Ψ (((cf.aa d2 Ω).W ad).cell rfl),aD Ψ (((cg.aa d2 Ω).W ad).cell rfl),aD Ψ (((ch.aa d2 Ω).W ad).cell rfl)];refine(zE (a:=e9 ne j pos u (need u)) rfl (aV.W ad) (d1.2.1.1.W ad) bJ bH).Y ?_;rintro _ dA dD ⟨_,bP,e8,aP,bu,O,bQ,bR,dr⟩;obtain⟨bS,ba,cn⟩:=bL (iS ad bP) ((Grow.W ad).F O) bQ bR (λr h=>h) λr ds dt=>Ω
  have cB:=cA.bb O.1 (λdE=>by have:=cn m (O.2.2 m dE);omega) dD.kH;refine⟨⟨B++[u],C.eraseIdx q,_,_,⟨?_,d2.F ba⟩,cB,mT (nt need) C q,?_⟩,?_⟩
  .rw[HH];exact bS
  .refine S2.F ?_ ap;rw[X7];exact S2.append_left B (sE hu)
  .show lx dA P<lx au P;rw[oL cB,oL cz];have:=u0 (x5.1 ae).1;omega
end
section
variable{aw:List az}{w:x4}{af ag:Nat}{A R:ak}{n:aI}{s:an}{t:az}
def Vr(aw:List az)(w:x4)(af ag:Nat)(A R:ak)(n:aI)(s:an)(r:x1)(I:x4):Prop:=∃(O:List Nat)(q:an×Bool×Bool),O.Perm (iK s s.d8.length)/\ns n O s q/\zS aw w af ag A R n q r I
theorem HI(h:bw w af ag A R n s t)(ax:Laid w)(ay:¬A 0)(aE:dJ aw t)(ad:b2 s)(ah:s.d8.length<=1000000):aq x7 Bb [Γ af] w (Vr aw w af ag A R n s):=by
 have az:=h.2.2.2.1;refine aF func22 ?_;refine(Vl h ax ay aE ad ah).Y ?_;rintro _ U _ ⟨O,N,rfl,P⟩;obtain⟨aY,aZ,a2,aB⟩:=Hj (n:=n) az ad;have E:∀q,(if(dK n O s).2.2=ms\/(dK n O s).2.1=ms then q=dK n O s else(rF n s/\q=(s,ne,ne))\/∃(j:Nat)(f:bI)(i o:Int)(M:Λ),dP n s j 0 f i o/\dQ n s j 0 i o≠[]/\M.Perm (dQ n s j 0 i o)/\q=(lO n s j 0 i o M,ms,ne))->ns n O s q:=λq h=>h;rw[bx,bz];refine a1 (λv ab=>U=ab/\v= .bool ((dK n O s).2.2||(dK n O s).2.1)) ?_ λaA z=>?_
 rotate_left
 .rw[bG,ao];refine⟨λK=>z _ _ ⟨rfl,?_⟩,λhe=>z _ _ ⟨rfl,?_⟩⟩
  .cases he:(dK n O s).2.2 with
   |true=>rfl
   |false=>rw[he]at K;exact m2 rfl K
  .have he:(dK n O s).2.2=ne:=by
    cases aC:(dK n O s).2.2 with
    |true=>rw[aC]at he;exact m2 Φ he
    |false=>rfl
   rw[he,Bool.false_or]
 rintro _ _ ⟨rfl,rfl⟩;rw[b1];refine⟨λB=>⟨O,dK n O s,N,E _ (by rw[lw (by simpa using B)]),rfl,P⟩,λB=>?_⟩;rw[T5]at B;obtain⟨V,_,_⟩:=aB B.1 B.2;have E:∀q,((rF n s/\q=(s,ne,ne))\/∃(j:Nat)(f:bI)(i o:Int)(M:Λ),dP n s j 0 f i o/\dQ n s j 0 i o≠[]/\M.Perm (dQ n s j 0 i o)/\q=(lO n s j 0 i o M,ms,ne))->ns n O s q:=λq h=>E q (by rw[m1 (by rw[B.1,B.2];simp)];exact h);rw[V]at P;obtain⟨a8,ba,ae,aD,aG,aH,aI⟩:=P.open;refine(rn ae).Y ?_;rintro _ bb _ ⟨rfl,aJ⟩;refine⟨λ_ _ c ai=>∃r:Nat,c=Δ (r:Int)/\r<=s.d8.length/\cp aw w af ag A R n s ai/\∀j f i o,j<r->dP n s j 0 f i o->dQ n s j 0 i o=[],λ_ _ c _=>s.d8.length-(bY c).toNat,⟨0,rfl,Ω,aI (cp.same ae aD aG aH aJ),λj f i o aL=>Ω⟩,?_⟩;rintro aM t3 _ ai ⟨r,rfl,aj,L,ak⟩;rw[aW,ao];refine⟨λbc=>?_,λbd=>?_⟩
 rotate_left
 .refine⟨O,(s,ne,ne),N,E _ (.inl ⟨λj f i o x=>ak j f i o ?_ x,rfl⟩),rfl,L⟩;have:=(x5.1 x.ah).1;omega
 have aj:r<s.d8.length:=Ω
 obtain⟨f,G⟩:=aK (l:=s.d8) aj;obtain⟨be,t4,Q,aN,aO,aP,al⟩:=L.open;have go:∀{I:x4}{am:x1->x1->x1->x4->Prop},(∀a b c S,(∃r:Nat,c=Δ (r:Int)/\r<=s.d8.length/\cp aw w af ag A R n s S/\∀j f i o,j<r->dP n s j 0 f i o->dQ n s j 0 i o=[])/\s.d8.length-(bY c).toNat<s.d8.length-r->am a b c S)->cp aw w af ag A R n s I->(∀y i o,dP n s r 0 y i o->dQ n s r 0 i o=[])->am aM t3 (Δ ((r:Int)+1)) I:=λaQ hm H=>by
  refine aQ _ _ _ _ ⟨⟨r+1,rfl,Ω,hm,λj f i o aL x=>?_⟩,?_⟩
  .by_cases e:j=r
   .subst e;exact H f i o x
   .exact ak j f i o Ω x
  .show s.d8.length-((r:Int)+1).toNat<s.d8.length-r;omega
 refine a1 (λv W=>(v= .bool ne/\cp aw w af ag A R n s W/\∀y i o,dP n s r 0 y i o->dQ n s r 0 i o=[])\/(v= .bool ms/\∃y i o M,dP n s r 0 y i o/\dQ n s r 0 i o≠[]/\M.Perm (dQ n s r 0 i o)/\cp aw w af ag A R n (lO n s r 0 i o M) W)) ?_ λaA z=>?_
 .rintro _ W (⟨rfl,X,aS⟩|⟨rfl,y,i,o,M,x,K,Y,X⟩)
  .rw[a6,aR,hx (by have:=ah;omega) (by have:=ah;omega)];exact go (λa b c S h=>h) X aS
  .rw[bK];exact⟨O,_,N,E _ (.inr ⟨r,y,i,o,M,x,K,Y,rfl⟩),rfl,X⟩
 refine(rp Q).Y ?_;rintro _ bf _ ⟨rfl,Z⟩;rw[m3 Ω,T0,u5,b1];refine⟨λC=>?_,λC=>z _ _ (.inl ⟨rfl,L.W Z,λy i o x=>?_⟩)⟩
 rotate_left
 .have:=x.live;unfold eL at C;rw[x.ah]at C;exact m2 this (by simpa using C)
 have aT:f.live≠0:=by
  unfold eL at C;rw[G]at C;exact m7 C
 refine(mm (h:=Q.W Z) G).Y ?_;rintro sv bg _ ⟨aU,gs,bh,aV⟩;have J:=Z.F aU;rw[a7 av.u aV.ls,bl,ao];refine⟨λaX=>?_,λaX=>z _ _ (.inl ⟨rfl,L.W J,λy i o x=>?_⟩)⟩
 rotate_left
 .have e:=x.ah;rw[G]at e;cases e;have:=x.len;omega
 obtain⟨i,hi⟩:=aK (l:=f.sc) (i:=0) Ω;obtain⟨o,an⟩:=aK (l:=f.sc) (i:=1) Ω;have x:dP n s r 0 f i o:=⟨G,aT,Ω,.inl rfl,hi,an⟩;refine(Vq (Q.W J) (aN.W J) aO aP x).Y ?_;rintro _ bi _ (⟨H,rfl,aa⟩|⟨H,rfl,M,Y,aa⟩)
 .refine z _ _ (.inl ⟨rfl,al (aa.before J),λy bj o' ac=>?_⟩);have e:=ac.ah;rw[G]at e;cases e;have ap:=ac.hi;rw[hi]at ap;cases ap;have au:=ac.aE;rw[show 1-0=1 from rfl,an]at au;cases au;exact H
 .exact z _ _ (.inr ⟨rfl,f,i,o,M,x,H,Y,al (aa.before J)⟩)
end
def tz(s:an):List (Nat×Int×Int):=(X2 s.d8.length).filterMap λj=>match s.d8[j]? with
 |some f=>if f.live≠0 then(match f.sc with
  |[a,b]=>σ (j,a,b)
  |_=>ν)else ν
 |none=>ν
def wu(n:aI)(O:List Nat)(s:an):Option (an×Bool×Bool):=if(dK n O s).2.2=ms\/(dK n O s).2.1=ms then σ (dK n O s)else
 match(tz s).filter λp=>!(dQ n s p.1 0 p.2.1 p.2.2).isEmpty with
 |[]=>σ (s,ne,ne)
 |[p]=>match dQ n s p.1 0 p.2.1 p.2.2 with
  |[v]=>σ (lO n s p.1 0 p.2.1 p.2.2 [v],ms,ne)
  |_=>ν
 |_=>ν
def qx(n:aI)(O:List Nat):Nat->an->Option (an×Bool)
 |0,_=>ν
 |f+1,s=>match wu n O s with
  |none=>ν
  |some q=>if q.2.2=ms then σ (q.1,ms)else if q.2.1=ms then qx n O f q.1 else σ (q.1,ne)
section
variable{n:aI}{s:an}
theorem Vs{i o:Int}:(j,i,o)∈tz s↔ ∃f,dP n s j 0 f i o:=by
 unfold tz;rw[List.mem_filterMap];constructor
 .rintro⟨k,hk,h⟩;cases ah:s.d8[k]? with
  |none=>rw[ah]at h;cases h
  |some f=>
   rw[ah]at h;simp only at h;by_cases q:f.live≠0
   .rw[lw q]at h
    match e:f.sc,h with
    |[a,b],h=>
     cases h;exact⟨f,ah,q,by rw[e];rfl,.inl rfl,by rw[e];rfl,by rw[e];rfl⟩
   .rw[m1 q]at h;cases h
 .rintro⟨f,h⟩;refine⟨j,List.mem_range.2 (x5.1 h.ah).1,?_⟩;have h1:=h.hi;have r:=h.aE;have w:=h.len;rw[h.ah];simp only;rw[lw h.live]
  match e:f.sc,w with
  |[a,b],_=>
   rw[e]at h1 r;cases h1;cases r;rfl
theorem Vt{q r:an×Bool×Bool}(h:wu n O s=σ q)(a:ns n O s r):r=q:=by
 unfold wu at h;unfold ns at a;by_cases z:(dK n O s).2.2=ms\/(dK n O s).2.1=ms
 .rw[lw z]at h a;cases h;exact a
 rw[m1 z]at h a;have e:∀p,p∈((tz s).filter λp=>!(dQ n s p.1 0 p.2.1 p.2.2).isEmpty)↔(∃f,dP n s p.1 0 f p.2.1 p.2.2)/\dQ n s p.1 0 p.2.1 p.2.2≠[]:=λp=>by
  rw[T6,<-Vs];refine and_congr_right λ_=>?_;cases dQ n s p.1 0 p.2.1 p.2.2<;>simp
 generalize ((tz s).filter λp=>!(dQ n s p.1 0 p.2.1 p.2.2).isEmpty)=L at h e;rcases a with⟨B,rfl⟩|⟨j,f,i,o,M,w,x,A,rfl⟩
 .cases L with
  |nil=>cases h;rfl
  |cons p L=>
   obtain⟨⟨f,w⟩,x⟩:=(e p).1 (.head _);exact m2 (B _ _ _ _ w) x
 .have y:=(e (j,i,o)).2 ⟨⟨f,w⟩,x⟩
  match L,y,h with
  |[p],y,h=>
   obtain rfl:=Z7.1 y;simp only at h
   match C:dQ n s j 0 i o,h with
   |[v],h=>
    cases h;rw[C]at A;rw[List.perm_singleton.1 A]
end
section
variable{aw:List az}{w:x4}{af ag:Nat}{A R:ak}{n:aI}{s:an}{t:az}
theorem HJ(h:bw w af ag A R n s t)(H:Laid w)(J:¬A 0)(aE:dJ aw t)(K:b2 s)(ah:s.d8.length<=1000000):aq x7 w3 [Γ af] w λr I=>∃q:an×Bool,UA (tx n) n s q/\r=Δ (if q.2=ms then 8 else 0)/\cp aw w af ag A R n q.1 I:=by
 have L:=h.2.2.2.1;refine aF func10 ?_;refine b6.sink (λm U=>∃s1,cp aw w af ag A R n s1 U/\fz n.k n.d6 s s1/\gP n s1=m/\(fJ n s->tx n s->s1=s)) ⟨s,cp.same h H J aE (Ext.refl _),.rfl L K,rfl,λ_ _=>rfl⟩ ?_;rintro m _ U aa ⟨s1,hm,f,ac,B⟩ M;obtain⟨ad,ae,N,P,Q,S,T⟩:=hm.open;have ai:=f.same.d8;refine(HI N P Q S f.gq Ω).Y ?_;rintro _ ab _ ⟨O,q,V,W,rfl,y⟩;have a:=Vg f.ok f.gq (Vh V) W;have y:=T y;have aj:=f.ok.d7;rw[bx,bz];refine a1 (λr I=>I=ab/\r= .bool (q.2.2|| !q.2.1)) ?_ λaA C=>?_
 .rintro _ _ ⟨rfl,rfl⟩;rw[b1];refine⟨λj=>?_,λj=>?_⟩
  .cases he:q.2.2 with
   |true=>
    obtain⟨_,i,hi,X,Y⟩:=a.emp he;refine⟨(q.1,ms),⟨f.F a.bb,λ_=>⟨i,hi,?_,Y⟩,λh=>(by cases h),λh1 x=>?_⟩,rfl,y⟩
    .show dp q.1 i=ne;rw[Hk a.bb.same Ω];exact X
    .have e:=B h1 x;subst e;rw[a.quiet h1 x]at he;cases he
   |false=>
    rw[he,Bool.false_or,Bool.not_eq_true']at j;obtain⟨e,h1,x⟩:=a.same he j;refine⟨(q.1,ne),⟨f.F a.bb,λh=>(by cases h),λ_=>?_,λE z=>?_⟩,rfl,y⟩
    .show fJ n q.1/\tx n q.1;rw[e];exact⟨h1,x⟩
    .rw[e,B E z]
  .rw[T5,Bool.not_eq_false']at j;have E:=a.less j.1 j.2;refine M (gP n q.1) _ _ Ω ⟨q.1,y,f.F a.bb,rfl,λh1 x=>?_⟩;have e:=B h1 x;subst e;have z:=j.2;rw[a.quiet h1 x]at z;cases z
 rw[bG,ao];refine⟨λG=>C _ _ ⟨rfl,?_⟩,λhe=>?_⟩
 .cases he:q.2.2 with
  |true=>rfl
  |false=>rw[he]at G;exact m2 rfl G
 .have he:q.2.2=ne:=by
   cases Z:q.2.2 with
   |true=>rw[Z]at he;exact m2 Φ he
   |false=>rfl
  rw[bE];exact C _ _ ⟨rfl,by rw[he,Bool.false_or]⟩
theorem Vu{u:Nat}{E:an×Bool}(h:bw w af ag A R n s t)(G:Laid w)(H:¬A 0)(aE:dJ aw t)(J:b2 s)(ah:s.d8.length<=1000000)(K:∀j,j.Perm (iK s s.d8.length)->j=O)(L:qx n O u s=σ E):
  aq x7 w3 [Γ af] w λr I=>r=Δ (if E.2=ms then 8 else 0)/\cp aw w af ag A R n E.1 I:=by
 have M:=h.2.2.2.1;refine aF func10 ?_;refine b6.sink (λm U=>∃s1,cp aw w af ag A R n s1 U/\fz n.k n.d6 s s1/\qx n O m s1=σ E) ⟨s,cp.same h G H aE (Ext.refl _),.rfl M J,L⟩ ?_;rintro m _ U Z ⟨s1,hm,e,a⟩ N;obtain⟨aa,ac,P,Q,S,T,V⟩:=hm.open;have ad:=e.same.d8;cases m with
 |zero=>cases a
 |succ m=>
 rw[qx]at a;refine(HI P Q S T e.gq Ω).Y ?_;rintro _ ab _ ⟨j,q,W,z,rfl,x⟩;obtain rfl:=K j (by rw[<-HF e.same];exact W);have x:=V x;have X:=(HB e.ok e.gq z).1;cases y:wu n j s1 with
 |none=>rw[y]at a;cases a
 |some ae=>
 rw[y]at a;obtain rfl:=Vt y z;simp only at a;rw[bx,bz];refine a1 (λr I=>ab=I/\r= .bool (q.2.2|| !q.2.1)) ?_ λaA B=>?_
 .rintro _ _ ⟨rfl,rfl⟩;rw[b1];refine⟨λf=>?_,λf=>?_⟩
  .cases he:q.2.2 with
   |true=>
    rw[he,lw rfl]at a;cases a;exact⟨by rw[lw rfl],x⟩
   |false=>
    rw[he,Bool.false_or,Bool.not_eq_true']at f;rw[he,f,m1 Φ,m1 Φ]at a;cases a;exact⟨rfl,x⟩
  .rw[T5,Bool.not_eq_false']at f;rw[f.1,f.2,m1 Φ,lw rfl]at a;exact N m _ _ Ω ⟨q.1,x,e.F X,a⟩
 rw[bG,ao];refine⟨λC=>B _ _ ⟨rfl,?_⟩,λhe=>?_⟩
 .cases he:q.2.2 with
  |true=>rfl
  |false=>rw[he]at C;exact m2 rfl C
 .have he:q.2.2=ne:=by
   cases Y:q.2.2 with
   |true=>rw[Y]at he;exact m2 Φ he
   |false=>rfl
  rw[bE];exact B _ _ ⟨rfl,by rw[he,Bool.false_or]⟩
end
theorem HK{p:x1}(ae:aQ .u8 w p pl)(Q:Bytes pl)(aW:fD w):aq x7 IT [p] w (SH w (pl.take 300)):=by
 refine aF func24 ?_;refine bC a8.i λz U bO aj X=>?_;have X:ai U z a8 z12:=X;rw[a7 cU.u (ae.W aj),nK];refine My (i:=min pl.length 300) Ω cU.u cS.i (ae.W aj) Ω λbP ak=>?_;have aX:pl.take (min pl.length 300)=pl.take 300:=by
  by_cases h:pl.length<=300
  .rw[Nat.min_eq_left h,o6,j4 h]
  .rw[Nat.min_eq_right Ω]
 rw[aX]at ak;have Y:Bytes (pl.take 300):=λb a=>Q b (S4 a);have aY:(pl.take 300).length<=300:=by rw[j9];omega
 generalize pl.take 300=q at ak Y aY;refine(RL ak Ω).Y ?_;rintro bQ ab _ ⟨am,bR,an⟩;have aG:=aj.F am;refine(Pw an.ls Y Ω (aW.W aG)).Y ?_;rintro bS bT _ ⟨S,B⟩;have aH:=aG.F S;cases E:iy q with
 |none=>
  rw[E]at B;obtain⟨n,e,rfl,he⟩:=B;rw[fP,fQ,fR];refine(Fr (an.W S).ls Y Ω).Y ?_;rintro aZ ap _ ⟨K,a2,ba,au,_⟩;obtain rfl:=au E;rw[fP,fQ,fR];refine a1 (λv W=>v= .bool ms/\Ext ap W) ?_ ?_
  .rintro _ W ⟨rfl,H⟩;rw[bK,dk (cs:=#[Δ 0,.slice ν 0 0,Δ 0,.slice ν 0 0,.slice ν 0 0,.slice ν 0 0,.slice ν 0 0,.slice ν 0 0]) Ψ];obtain⟨_,_,s,C⟩:=FM;refine b8 (vs:=z12) a8.i rfl rfl (by intro u hu;simp[z12]at hu;rcases hu with rfl|rfl|rfl|rfl<;>rfl) ((((X.W am).W S).W K).W H) λbU bc bV bd=>?_;rw[gk a8.p a8.i rfl bd.range];refine⟨((aH.F K).F H).then bc λr B he=>by have he:r=z:=he;omega,_,_,ne,rfl,⟨rfl,(FM).elim λ_ h=>by obtain⟨_,_,h⟩:=h;exact λu hu=>by simp[z12]at hu;rcases hu with rfl|rfl|rfl|rfl<;>rfl⟩,.inl ⟨rfl,rfl⟩,λf ah=>?_⟩;rw[E]at ah;cases ah
  .intro aA I;rw[bG,ao];exact⟨λ_=>I _ _ ⟨rfl,Ext.refl _⟩,λh=>m2 he h⟩
 |some f=>
  rw[E]at B;obtain⟨bW,n,rfl,be⟩:=B;obtain⟨N,bf,L,bg,bh⟩:=RJ Ω E;have M:=Ea L;have Z:=y5 L;rw[fP,fQ,fR];refine(Fr (an.W S).ls Y Ω).Y ?_;rintro aZ ap _ ⟨K,a2,ba,_,au⟩;obtain⟨bX,rfl,bi⟩:=au f E;rw[fP,fQ,fR];refine a1 (λv W=>v= .bool ne/\Ext ap W) ?_ ?_
  rotate_left
  .intro aA I;rw[bG,ao];refine⟨λh=>m2 rfl h,λ_=>?_⟩;rw[cT xj.u];exact I _ _ ⟨rfl,Ext.refl _⟩
  rintro _ W ⟨rfl,H⟩;rw[a6];have aI:=(aH.F K).F H;refine(QD ((be.W K).W H) L bf ⟨bg,bh⟩).Y ?_;rintro bY bj _ ⟨av,bk⟩;have ad:=aI.F av;have O:=((((X.W am).W S).W K).W H).W av;have aK:=(bi.W H).W av;have bZ:=ad.size;have b0:w.heap.size<=z:=Ω
  have b1:=O.lt;rcases bk with⟨bm,e,he,rfl⟩|⟨b2,rfl,bn⟩
  .rw[bx,bz];refine RK.Y ?_;rintro _ aL _ ⟨rfl,j⟩;refine jw (λaw t4 x=>aw= .pointer ν/\t4= .bool ne/\Ext w x/\∃cs:List x1,ai x z a8 cs/\cs.length=8/\∀u∈cs,u.oneCell'=ms) ?_ ?_
   .rintro _ _ x ⟨rfl,rfl,ax,cs,ay,s,C⟩;rw[gk a8.p a8.i s ay.range];exact⟨ax,_,cs,ne,rfl,⟨s,C⟩,.inl ⟨rfl,rfl⟩,λb3 aM bo=>m2 bo (by rw[E]at aM;cases aM;exact bm)⟩
   .intro aA I;have bp:=j.size;refine(FB (aK.W j) L).Y ?_;rintro bq az _ ⟨y,aB⟩;refine(Ge (R:=λr=>w.heap.size<=r/\∃c,ai az r al c) (λr h=>h.2.elim λc a=>a.lt) (λr c Q a=>⟨Ω,c,a⟩) aB M.1 Z).Y ?_;rintro br bs _ ⟨G,A9,cs,rfl,P,aC⟩;obtain⟨s,C⟩:=P.len;rw[bl,ao];refine⟨λh=>m2 h he,λ_=>?_⟩;refine b8 (vs:=cs) a8.i s rfl C (((O.W j).W y).W G) λbt J aN aD=>?_;exact I _ _ _ ⟨rfl,rfl,(((ad.F j).F y).F G).then J λr B he=>by have he:r=z:=he;omega,cs,aD,s,C⟩
  .rw[bx,bz];obtain⟨b4,bu,aO,bA⟩:=bn;have z5:=aI.size;refine(Q1 (R0:=λr=>w.heap.size<=r/\r<bj.heap.size) bu aO (λr o h V=>⟨by have:=bA r o h V;omega,(Z6.1 (aO.bb r o h V)).1⟩) (λr h=>h.2) M.1 Z).Y ?_;rintro _ aL _ ⟨j,af,ag,A,R,t,rfl,bB,ac,aP,aR,bD⟩;have aS:bw aL af ag A R (c7 f) (dB (c7 f)) t:=⟨bB,ac,RN M.1 Z ac aP,QO M.1,M.1⟩;refine jw (λaw t4 x=>aw=Γ af/\t4= .bool ms/\Ext w x/\∃cs:List x1,ai x z a8 cs/\cs.length=8/\(∀u∈cs,u.oneCell'=ms)/\∃R' A9 aJ,bw x af ag A R' (c7 f) (dB (c7 f)) t/\kc ms A9 aJ x cs (c7 f).k (c7 f).d6 (dB (c7 f))/\(∀q r,A9 q r->¬A r/\¬R' r/\w.heap.size<=r)/\(∀r,aJ r->¬eB x r/\r<x.heap.size/\w.heap.size<=r)/\∀r,R' r->w.heap.size<=r) ?_ ?_
   .rintro _ _ x ⟨rfl,rfl,ax,cs,ay,s,C,R',A9,aJ,bE,P,bF,bH⟩;rw[gk a8.p a8.i s ay.range];exact⟨ax,_,cs,ms,rfl,⟨s,C⟩,.inr ⟨rfl,f,E,af,ag,A,R',t,N,A9,aJ,L,rfl,bE,aP,λr B=>by have:=aR r B;omega,P,bF,bH⟩,λ_ _ _=>rfl⟩
   .intro aA I;have bp:=j.size;refine(FB (aK.W j) L).Y ?_;rintro bq az _ ⟨y,aB⟩;refine(Ge (R:=λr=>w.heap.size<=r/\∃c,ai az r al c) (λr h=>h.2.elim λc a=>a.lt) (λr c Q a=>⟨Ω,c,a⟩) aB M.1 Z).Y ?_;rintro br bs _ ⟨G,A9,cs,rfl,P,aC⟩;obtain⟨s,C⟩:=P.len;rw[bl,ao];refine⟨λ_=>?_,λh=>m2 rfl h⟩;rw[xn dx.u];have aT:=((O.W j).W y).W G;have bI:=((ad.F j).F y).F G;refine b8 (vs:=cs) a8.i s rfl C aT λbt J aN aD=>?_;have aU:=(aS.W y).W G;obtain⟨R',aV,bJ⟩:=aU.1.put aT J λh=>by have:=aR z h;omega
    have b5:=((ad.F j).F y).size;have b6:=G.size;obtain⟨_,_,_,_,⟨_,_,bL,bM⟩,_⟩:=(aS.W y).1;have b7:=O.lt;have b9:=(j.F y).size;have bN:=P.aa J λr B h he=>by
     have he:r=z:=he;rcases h with⟨q,h⟩|⟨_,c,a⟩
     .have:=aC q r h;omega
     .subst he;exact m2 (eJ a (((O.W j).W y))) Φ
    refine I _ _ _ ⟨rfl,rfl,bI.then J λr B he=>by have he:r=z:=he;omega,cs,aD,s,C,R',A9,_,⟨bJ,aU.2⟩,bN,λq r h=>?_,λr h=>?_,λr h=>?_⟩
    .have ca:=aC q r h;refine⟨λaE=>by have:=bM r aE;omega,λaE=>by have:=bL r (aV r aE).1;omega,Ω⟩
    .obtain⟨Q,c,a⟩:=h;have cb:=a.lt;have aN:=J.size;refine⟨RI ((a.W G).aa J λhe=>?_) Φ,Ω,Q⟩;have he:r=z:=he;subst he;exact m2 (eJ a (((O.W j).W y))) Φ
    .rcases bD r (aV r h).1 with h|h
     .exact h.1
     .omega
section
variable{Z aJ:ak}{w I:x4}{af ag au:Nat}{A R:ak}{A9:Nat->ak}{n:aI}{s s':an}{t:az}{cs:List x1}{a:gd}
theorem Vv(h:fA Z aJ w af ag au n s)(W:a.ok):aq x7 w7 [Γ af,Γ au,.agg a.bT.toArray] w λ_ I=>lL Z aJ w af ag au n (np n s a) I:=by
 obtain⟨A,R,A9,t,cs,p,⟨az,Q⟩,aB,S,aC⟩:=id h;have O:=p.eK.2.2.2.1;have bs:=O.eA;have bt:=a.Ub;have G:¬A 0:=λh=>Q ((S 0).2 (.inl h));have X:=Uc (a:=a) aB O;refine aF func27 ?_;refine bo λga U bu aE Y=>?_;have Y:ai U ga dg [.int .u8 a.d,Δ a.i,Δ a.pos,Δ a.v,Δ a.c]:=Y;intro ab aG _ _;have C:=aE.F aG;have B:=Y.W aG;have bw:=aE.size;have bx:=C.size;have bz:=B.lt;have ac:(a.d % 7).toNat=a.kind:=rfl;obtain⟨ho,bA,bB,bC,bD,bE,aU,_⟩:=p.qj;have aV:cs[0]?=σ (Δ n.k):=by rw[aU];rfl
 have hu:U5.wrap a.c=a.c.emod 18446744073709551616:=rfl;have aW:0<=a.c.emod 18446744073709551616:=Int.emod_nonneg _ Φ;have bF:=Int.emod_nonneg (a.c.emod 18446744073709551616) (show n.k+1≠0 by omega);have bG:=Int.emod_lt_of_pos (a.c.emod 18446744073709551616) (show 0<n.k+1 by omega);have aX:a.c.emod 18446744073709551616 % (n.k+1)=GZ n.k a:=rfl;rw[aO dg.p 4 B rfl,fN ax.u fL.u,aL a8.p 0 (p.box.W C) aV,aR,hx Ω Ω,fN ax.u fL.u,lc (x:=n.k+1) Ω Ω,hu,uj Ω,Int.tmod_eq_emod_of_nonneg aW,fN fL.u ax.u,hx Ω Ω,aX,
  aO dg.p 0 B rfl,zL W.1,ac,bl,ao]
 have E:=p.W C;refine⟨λad=>?_,λad=>?_⟩
 .have ad:a.kind=6:=Ω
  have H:np n s a=if eC n a.i a.v then dZ s a.i.toNat a.v.toNat else s:=by unfold np;rw[lw ad]
  refine cZ (λI=>lL Z aJ w af ag au n (np n s a) I) (λI h=>h) λaA aH=>?_;rw[aO dg.p 1 B rfl,aO dg.p 3 B rfl];refine(y3 (i:=a.i) (v:=a.v) E.eK (.inl p.fX.1)).Y ?_;rintro bH bI _ ⟨aZ,a1⟩;by_cases L:eC n a.i a.v
  rotate_left
  .obtain⟨rfl,a2⟩:=aZ L;rw[bl,ao];exact⟨λh=>m2 h Φ,λ_=>aH _ (by rw[H,m1 L];exact lL.same h (C.F a2))⟩
  obtain⟨rfl,aI,aP,y,ae,a6⟩:=a1 L;rw[lw L]at H;rw[bl,ao];refine⟨λ_=>?_,λh=>m2 rfl h⟩;have a7:=E.prog aI ae a6 E.fX.set (λ_ h=>.inl h) (λ_ _ _ h=>h) E.box.lt;obtain⟨ba,x,J,bb,bJ⟩:=G0 O L;obtain⟨ah,V⟩:=Y6 ba;rw[V,u5]at J;intro aj ak _ _;have j:=a7.W ak;have am:∀r,A r->r<w.heap.size:=λr h=>ti p.eK r (.inl h);have P:=(B.aa ae.1 λh=>by have:=am ga h;omega).W ak;rw[V]at P;have aK:ah<s.d7.length:=(x5.1 J).1;obtain⟨g,cap,aM,gy,e,an,bc,bd,be,bf⟩:=Ud j J;have bK:=qm x;have bL:x.un.length<=32:=by obtain⟨bM,aN,bN,bg,_⟩:=L.var O;rw[V,u5,J]at aN;cases aN;exact bg
  have ap:∀r,hv aM r->r≠ga/\r≠au:=λr f=>by
   have h1:A9 0 r/\r<ab.heap.size:=be r f;exact⟨λhe=>by have:=aC 0 r h1.1;omega,λhe=>(p.apart 0 r h1.1).2.2 he⟩
  rw[aL a8.p 3 j.box an,aO dg.p 1 P rfl,aL a8.p 3 j.box an,aO dg.p 1 P rfl,fq df.u av.i aK λ_=>rfl,aD (v:=aM) (o:=0+ah*1) Ψ bc,lh];refine(St (p:=λy=>decide (y=a.v)) bd Ω λI y bh bO=>?_).Y ?_
  .refine aF func72 ?_;rw[aO dg.p 3 (P.aa bh λh=>(ap ga h).1 rfl) rfl,bl];exact⟨rfl,Ext.refl _⟩
  rintro bP aw _ ⟨ay,bj,bk⟩;have bm:=P.aa ay λh=>(ap ga h).1 rfl;have bn:=j.box.aa ay λh=>(ap au h).2 rfl;refine⟨.inr ⟨kS Ψ (bm.cell (o:=0+1) rfl),Go.Vc.jl λK=>aY dg.p rfl,kS Ψ (bn.cell (o:=0+3) an),Go.Vc.jl λK=>aY a8.p rfl,Go.Vc.jl λK=>bR,trivial⟩,?_⟩;rw[fq df.u av.i aK λ_=>rfl];refine bf (m:=((x.mask.toNat ||| 2 ^ a.v.toNat:Nat):Int)) (Ext.refl _) ay (by rw[zl bb];exact bj) bk λbQ aQ=>aH _ ?_;have bp:dZ s a.i.toNat a.v.toNat={s with d7:=s.d7.set ah {x with mask:=((x.mask.toNat ||| 2 ^ a.v.toNat:Nat):Int)}}:=by rw[V,u5];unfold dZ;rw[J]
  rw[H];rw[<-bp]at aQ;have bq:=dH.comp (ak.aa _) (λq r f=>.inl ⟨q,f⟩) aQ;exact lL.before C (fA.Ue E S (by rw[<-H];exact X) Q (az.W C) aI ae (λq r (f:A9 q r/\r<ab.heap.size)=>f.1) bq)
 have bS:(mr n.k a).kind=a.kind:=rfl;have H:np n s a=(bi n.k s (mr n.k a)).1:=by unfold np;rw[m1 Ω]
 rw[aO dg.p 0 B rfl,zL W.1,ac,fN cS.u al.u,hx Ω Ω,aO dg.p 1 B rfl,aO dg.p 2 B rfl,aO dg.p 3 B rfl];refine(TQ (m:=mr n.k a) E O aB.1 Ω).Y ?_;rintro _ aj _ ⟨rfl,aS⟩;obtain⟨aT,bU,bV,j,bW⟩:=id aS;have am:∀r,(∃q,A9 q r)\/r=au->r<w.heap.size:=λr f=>f.elim (λ⟨q,h⟩=>aC q r h) λh=>by rw[h];exact p.box.lt
 have z:=B.aa aT λf=>by have:=am ga f;omega
 have M:Laid aj:=iu aT (λh=>Q ((S 0).2 (h.elim (λh=>.inr (.inr (.inl h))) λh=>.inr (.inr (.inr (.inr h)))))) (az.W C);have N:∀{r:x1}{aw:x4},qs [] aj af ag A R n s (mr n.k a) r aw->lL Z aJ w af ag au n (np n s a) aw:=λbr=>by
  rw[H]at X ⊢;exact lL.before C (fA.step E S X Q aS (Ext.refl _) br.2)
 rw[aO dg.p 0 z rfl,zL W.1,ac,bl,ao];refine⟨λhk=>?_,λbX=>?_⟩
 .rw[aO dg.p 1 z rfl,aO dg.p 2 z rfl,aO dg.p 3 z rfl];exact(zE (a:=mr n.k a) Ω j.eK M G j.fX.m).Y λr I _ f=>N f
 rw[bl,ao];refine⟨λhk=>?_,λbY=>?_⟩
 .rw[aO dg.p 1 z rfl,aO dg.p 2 z rfl,aO dg.p 3 z rfl];exact(GL (a:=mr n.k a) Ω j.eK M G j.fX.m).Y λr I _ f=>N f
 rw[bl,ao];refine⟨λhk=>?_,λbZ=>?_⟩
 .rw[aO dg.p 1 z rfl];exact(GP (a:=mr n.k a) Ω j.eK M G j.fX.m).Y λr I _ f=>N f
 rw[bl,ao];refine⟨λhk=>?_,λb0=>?_⟩
 .rw[aO dg.p 1 z rfl];exact(TH (a:=mr n.k a) Ω j.eK M G j.fX.m).Y λr I _ f=>N f
 rw[bl,ao];refine⟨λhk=>?_,λb1=>?_⟩
 .rw[aO dg.p 1 z rfl,aO dg.p 3 z rfl];exact(GQ (a:=mr n.k a) Ω j.eK M G j.fX.m).Y λr I _ f=>N f
 .rw[aO dg.p 1 z rfl,aO dg.p 3 z rfl];exact(TI (a:=mr n.k a) Ω j.eK M G j.fX.m).Y λr I _ f=>N f
end
section
variable{w0 w I:x4}{af ag au:Nat}{n:aI}{s:an}{Z aJ:ak}
theorem nq.Vw{a:gd}(h:nq w0 w af ag au n)(q:a.ok):aq x7 w7 [Γ af,Γ au,.agg a.bT.toArray] w λ_ I=>nq w0 I af ag au n:=by
 obtain⟨e,s,Z,aJ,x,f⟩:=h;refine(Vv x q).Y ?_;rintro v U _ ⟨y,A,B,C⟩;have z:=e.size;exact⟨e.then y λr j h=>by have:=f r h.1;omega,_,A,aJ,C,λr j=>(B r j).elim (f r) λh=>Ω⟩
theorem Vx{e:x1}{L:List nn}{K:x1->x4->Prop}{i:Nat}{x:nn}(j:Seen e3 w [e] L)(J:L[i]?=σ x)(q:∀g I,Ext w I->w.heap.size<=g->ai I g dg (pd x).bT->K (Γ g) I):
  ad x7 (n9 py e (Δ (i:Int))) w λr=>
  ad x7 (u4 dg r) w λs=>
  aM x7 (R4 dg ms (.tuple #[])) w λa f=>
  aM x7 (o7 dg a s) f λ(_:Unit)h=>K a h:=by
 refine nQ (α:=nn) dg.p rfl py.u dg.i j J λcs y=>?_;obtain rfl:=TZ y;refine bC dg.i λgy f E z A=>?_;refine b8 (vs:=(pd x).bT) dg.i rfl rfl (gd.one _) A λh B F C=>?_;exact q _ _ (z.put B Ω) Ω C
theorem Vy{r:x1}{L:List nn}{m:Int}{K:x4->Prop}(h:nq w0 w af ag au n)(e:Seen e3 w0 [r] L)(H:∀x∈L,(pd x).ok)(J:∀I,nq w0 I af ag au n->K I):
  ad x7 (W7 #[py] al #[r]) w λM=>
 b6 (Δ 0) w λj a k=>
  ad x7 (aU .lss al ne ne j M) a λN=>
  Split N (cC (α:=x4->Prop) (λ(y:x4)=>
   ad x7 (aU .add al ne ms j (Δ 1)) y λO=>
   k O y) λz=>
  ad x7 (n9 py r j) a λP=>
  ad x7 (u4 dg P) a λQ=>
  aM x7 (R4 dg ms (.tuple #[])) a λb A=>
  aM x7 (o7 dg b Q) A λ(_:Unit)q=>
  ad x7 (aU .lss al ne ms j (Δ m)) q λR=>
  Split R (ad x7 (u4 dg b) q λS=>
   aq x7 w7 [Γ af,Γ au,S] q λZ B=>
   z B)
   (z q))
   (K a):=by
 rw[jB py.u (bP e h.1)];refine b6.range L.length (λi s=>nq w0 s af ag au n) (uo e) h ?_ ?_
 .rintro i s U hi f V;obtain⟨x,C⟩:=aK (l:=L) hi;have W:=H x (x6 C);refine bM Ω ?_;refine cZ (λa=>nq w0 a af ag au n) (λa X=>by rw[aR];exact V _ X) λaA E=>?_;refine Vx (bP e f.1) C λgy A G _ Y=>?_;rw[aW,ao];refine⟨λ_=>?_,λ_=>E _ (f.W G)⟩;rw[bF dg.p dg.i rfl Y.range];exact((f.W G).Vw W).Y λv B _ e=>E _ e
 .rintro s U f;exact cc Ω (J _ f)
end
theorem Vz{p Y:x1}{L:List nn}(ae:aQ .u8 w p pl)(az:∀b∈pl,0<=b/\b<256)(aB:Seen e3 w [Y] L)(aC:∀x∈L,(pd x).ok)(aD:fD w)(M:Laid w):aq x7 IN [p,Y] w (G1 w pl):=by
 have aZ:=tu M;refine aF func7 ?_;refine bC a8.i λj U a2 y aa=>?_;have a7:=aa.lt;have ba:=y.size;refine(HK (ae.W y) az (aD.W y)).Y ?_;rintro _ ab _ ⟨N,bb,cs,ok,rfl,⟨E,G⟩,aE,_⟩;rw[fP,fQ,fR];refine bC a8.i λau bc bd aG aH=>?_;refine b8 (vs:=cs) a8.i E rfl G aH λH aI be O=>?_;have ac:Ext ab H:=aG.put aI Ω;have I:=N.F ac;have ak:=y.F I;have bf:=N.size;have out:∀{a:x4}{z:List x1}{K:x1->x4->Prop},Ext U a->ai a au a8 z->z.length=8->(∀u∈z,u.oneCell'=ms)->(∀e,aj (λr=>r=j) a e->K (.agg z.toArray) e)->
   ad x7 (u4 a8 (Γ au)) a λt25=>aM x7 (o7 a8 (Γ j) t25) a λ(_:Unit)e=>ad x7 (do loadVar a8 (<-asAddr (Γ j))) e λr=>K r e:=λ{a z K}J aK P aL aN=>by
  rw[bF a8.p a8.i P aK.range];refine b8 (vs:=z) a8.i P rfl aL (aa.W J) λe B bg aP=>?_;rw[gk a8.p a8.i P aP.range];exact aN _ B
 have no:∀{e:x4},(∃a,Ext H a/\aj (λr=>r=j) a e)->G1 w pl (.tuple #[.pointer ν,.agg cs.toArray,.bool ne]) e:=λ⟨a,q,aR⟩=>⟨(ak.F q).then aR λr C h=>by have h:r=j:=h;omega,.inl ⟨cs,rfl,E,G⟩⟩;rcases aE with⟨rfl,rfl⟩|⟨rfl,f,ah,aS⟩
 .refine a1 (λv Q=>Q=H/\v= .bool ms) ?_ λaA S=>?_
  .rintro _ _ ⟨rfl,rfl⟩;rw[bK];intro a q _ _;exact out (I.F q) (O.W q) E G λe B=>no ⟨a,q,B⟩
  .rw[bE,X4,bK];exact S _ _ ⟨rfl,rfl⟩
 obtain⟨af,ag,Z,aJ,rfl,al,aT⟩:=TR aS ac O Ω N.size (tu (M.W y)) (M.W ak);obtain⟨ho,bh,bi,bj,bk,bl,aU,_⟩:=al.look;refine a1 (λv Q=>Q=H/\v= .bool (decide (1000<(c7 f).k))) ?_ λaA S=>?_
 rotate_left
 .rw[bE,Y1,a6,aO a8.p 0 aU rfl,bU];exact S _ _ ⟨rfl,rfl⟩
 rintro _ _ ⟨rfl,rfl⟩;rw[ao];refine⟨λhk=>?_,λhk=>?_⟩
 .intro a q _ _;exact out (I.F q) (O.W q) E G λe B=>no ⟨a,q,B⟩
 refine Vy (w0:=U) ⟨I,_,Z,aJ,al,aT⟩ (bP aB y) aC λbm aV=>?_;obtain⟨am,s,an,aW,aX,ap⟩:=aV;intro bn V _ _;have av:=aX.W V;obtain⟨W,aw,aY⟩:=av.cQ;have ax:W.length=8/\∀u∈W,u.oneCell'=ms:=by
  obtain⟨A,R,A9,t,p,_⟩:=id aw;exact ck.len p.doc
 have ay:∀r,an r->¬r=j:=λr C h=>by have:=ap r C;omega
 refine out (am.F V) aY ax.1 ax.2 λbo X=>⟨((y.F am).F V).then X λr C h=>by have h:r=j:=h;omega,.inr ⟨f,af,ag,au,an,aW,s,W,rfl,ah,Ω,av.side X ay (λh=>by have h:0=j:=h;omega),aw.side X ay (λh=>by have h:0=j:=h;omega),λr C=>by have:=ap r C;omega⟩⟩
def mv:Λ:=[116,32,50,32,50,32,50,32,57,32,49,32,50,32,49,32,49,32,48,32,49,32,48,32,50,32,50,32,48,32,49,32,48,32,49,32,48,32,49,32,50]
def im:cd:=⟨[116],9,[1,2],[⟨[1],[2],0,[([0],2)]⟩,⟨[0,1],[1,2],0,[([0,1],2)]⟩]⟩
theorem VA:iy mv=σ im:=by
 have h:(match iy mv with
  |some f=>decide (f.name=im.name/\f.k=im.k/\f.d6=im.d6)&&decide (f.d8.map (λx=>(x.scope,x.d6,x.other,x.lines))=im.d8.map λx=>(x.scope,x.d6,x.other,x.lines))
  |none=>ne)=ms:=by decide+kernel
 cases q:iy mv with
 |none=>rw[q]at h;cases h
 |some f=>
  rw[q]at h;simp only[S0,m6]at h;obtain⟨⟨h1,r,s⟩,e⟩:=h;obtain⟨nm,k,z,j⟩:=f;simp only at h1 r s e;subst h1;subst r;subst s;have:j=im.d8:=by
   have w:j.length=2:=by have:=congrArg List.length e;simpa[im]using this
   match j,w with
   |[x,y],_=>
    obtain⟨a,b,c,d⟩:=x;obtain⟨a',A,B,C⟩:=y;simp[im]at e;obtain⟨⟨rfl,rfl,rfl,rfl⟩,rfl,rfl,rfl,rfl⟩:=e;rfl
  subst this;rfl
theorem VB:nZ im.d8<=16384:=by decide+kernel
theorem VC:∃E,qx (c7 im) [0] 20 (dB (c7 im))=σ E/\E.2=ne/\E.1.zero=2/\(E.1.d7[1]?.map λx=>(aB x,x.un.length))=σ ([0,1],2):=by
 have h:(match qx (c7 im) [0] 20 (dB (c7 im))with
  |some E=>decide (E.2=ne/\E.1.zero=2/\(E.1.d7[1]?.map λx=>(aB x,x.un.length))=σ ([0,1],2))
  |none=>ne)=ms:=by decide+kernel
 cases a:qx (c7 im) [0] 20 (dB (c7 im))with
 |none=>rw[a]at h;cases h
 |some E=>
  rw[a]at h;exact⟨E,rfl,m7 h⟩
theorem VD:iK (dB (c7 im)) (dB (c7 im)).d8.length=[0]:=by decide+kernel
theorem VE:(dB (c7 im)).d8.length<=1000000:=by decide+kernel
theorem VF(Q:fD w)(y:Laid w):aq x7 IM [] w λv I=>v= .bool ms/\Ext w I:=by
 refine aF func6 ?_;refine lX (k:=1) (cs:=(ints .u8 mv).toArray) cU.u cS.i Ω Ψ λg U aU a q=>?_;have z:aH .u8 cS U g (.slice (σ ⟨g,0,ν⟩) 41 41) mv:=aH.of (n:=41) (b7.full (by simpa using q) (by simp[mv]) (by simp[maxLen]));refine SL q λB C G=>?_;have a:=a.put C Ω;have ae:aQ .u8 B (.slice (σ ⟨g,0,ν⟩) 41 41) mv:=by
  obtain⟨S,b,o,base,cap,V,W,X,Y,Z⟩:=z.ls;cases V;cases Y (by simp[mv]);exact⟨S,g,0,_,41,rfl,W,X,λ_=>rfl,G _ _ Z⟩
 clear z q G C;refine(HK ae (by intro b aa;simp[mv]at aa;omega) (Q.W a)).Y ?_;rintro _ ab _ ⟨ac,ad,cs,ok,rfl,⟨ai,aj⟩,ak,al⟩;have H:iy (mv.take 300)=σ im:=by
  rw[j4 Φ];exact VA
 have am:=al im H VB;subst am;obtain⟨f,ah,af,ag,A,R,t,N,A9,aJ,aV,rfl,an,ap,K,_⟩:∃f,iy (mv.take 300)=σ f/\v7 B.heap.size ab ad cs f:=by
  rcases ak with⟨h,_⟩|⟨_,h⟩
  .cases h
  .exact h
 rw[H]at ah;cases ah;have L:=a.F ac;rw[fP,fQ,fR];refine bC a8.i λau aW aX av aw=>?_;refine b8 a8.i ai rfl aj aw λaY ax aZ ay=>?_;have s:=av.put ax Ω;have az:=an.W s;have aB:¬A 0:=λh=>by have:=K 0 h;have:=tu (y.W a);omega
 refine a1 (λv aC=>v= .bool ms/\Ext w aC) (λ_ _ h=>h) λaA aD=>?_;rw[bK];obtain⟨E,aE,aG,aI,aK⟩:=VC;refine(Vu az (y.W (L.F s)) aB ap.2.2.1.m (Gv _) VE (λa2 aL=>List.perm_singleton.1 (VD▸aL)) aE).Y ?_;rintro _ a6 _ ⟨rfl,hm⟩;obtain⟨a7,ba,aP,bu,aM,M,_⟩:=hm;have aN:=(L.F s).then aM.1 λr bb h=>by have:=K r h;have:=a.size;omega
 rw[aG,m1 Φ,bl,ao];refine⟨λ_=>?_,λh=>m2 rfl h⟩;refine(tb M).Y ?_;rintro _ bc _ ⟨rfl,O⟩;rw[aI,bl,ao];refine⟨λ_=>?_,λh=>m2 rfl h⟩;refine(iW (M.W O)).Y ?_;rintro _ bd _ ⟨⟨b,aO,rfl,e⟩,aR⟩;refine(Ux e.1).Y ?_;rintro _ be _ ⟨rfl,aS⟩;obtain⟨x,J,P⟩:=Y0.1 aK;simp only[R5]at P;have j:=kC e Ω J;have bf:=(e.2.2 x Ω J).1;have ay:=e.1.2;have aT:aO=2:=Ω
 subst aT;rw[P.1]at j;rw[bl];refine aD _ _ ⟨?_,((aN.F O).F aR).F aS⟩;rcases(show b=0\/b=1\/b=2\/b=3 by omega)with rfl|rfl|rfl|rfl
 .exact m2 j Φ
 .exact m2 j Φ
 .exact m2 j Φ
 .rfl
section
variable{w:x4}{n:aI}{s:an}
theorem VG{dr:x1}(h:iI w dr n.k n.d6 s)(f:ba n.k n.d6 s)(j:qt s)(q:s.d8.length<=1000):aq x7 IS [dr,Δ 3] w λr I=>Ext w I/\∃b:Bool,r= .bool b/\(b=ms↔fJ n s/\tx n s):=by
 refine aF func18 ?_;refine bo λg1 U A e a=>?_;have x:=h.box e a;rw[bl,ao];refine⟨λh=>(by cases h),λ_=>?_⟩;rw[bl,ao];refine⟨λh=>(by cases h),λ_=>?_⟩;rw[bl,ao];refine⟨λ_=>?_,λh=>m2 rfl h⟩;refine x.load λB y=>?_;refine(UT y f j q).Y ?_;rintro _ ab _ ⟨z,b,rfl,a⟩;exact⟨e.F z,b,rfl,a.F ⟨λh=>⟨h.2.2,h.1,h.2.1⟩,λh=>⟨h.2.1,h.2.2,h.1⟩⟩⟩
end
section
variable{w:x4}{dr:x1}{n:aI}{s:an}
end
theorem zX{α:Type}{f:α->Λ}:∀(l m:List α),l.length=m.length->(∀(i:Nat)x y,l[i]?=σ x->m[i]?=σ y->(f x).length=(f y).length)->∀i,((l.take i).flatMap f).length=((m.take i).flatMap f).length
 |[],[],_,_,_=>rfl
 |[],_::_,h,_,_=>by simp at h
 |_::_,[],h,_,_=>by simp at h
 |a::l,b::m,h,ah,i=>by
  cases i with
  |zero=>rfl
  |succ i=>
   rw[List.take_succ_cons,List.take_succ_cons,U2,U2,o4,o4,ah 0 a b rfl rfl,zX l m (by grind) (λi x y J e=>ah (i+1) x y (by grind) (by grind)) i]
theorem dv.shape{s s':an}(h:dv s s'):nb s s':=by
 have ac:∀i,((s'.d7.take i).flatMap iE).length=((s.d7.take i).flatMap iE).length:=λi=>(zX s.d7 s'.d7 h.d7.symm (λi x y J a=>by
  have:=(h.var i x y J a).2;show x.un.length+1+1=y.un.length+1+1;omega) i).symm
 have ah:∀i,((s'.d8.take i).flatMap ib).length=((s.d8.take i).flatMap ib).length:=λi=>(zX s.d8 s'.d8 h.d8.symm (λi x y J a=>by
  have:=(h.fn i x y J a).2.2.2;show x.cs.length+1=y.cs.length+1;omega) i).symm
 refine⟨?_,h.d8,λj e q=>?_,h.di⟩
 .grind [iR,dv.d7,ic]
 .obtain⟨f,r⟩:=aK (l:=s.d8) (i:=j) (by grind [dv.d8]);obtain⟨h1,w,_,_⟩:=h.fn j f e r q
  grind [o6,dv.d7,e6]
theorem dv.zA{s s':an}(h:dv s s'):tq s s':=h.shape.zA
theorem VH{d6:Λ}{s:an}(a:ba k d6 s)(ah:s.d8.length<=1000):s.cells.length<=10000000:=by
 have j:=a.d7;have q:=a.fg.2.1;have h1:=ll (L:=s.d7) (f:=iE) (b:=34) λx J=>by
  obtain⟨i,hi⟩:=Y4.1 J;obtain⟨z,e⟩:=aK (l:=d6) (i:=i) (by grind);have:=(a.var i x z hi e).1;have:=a.fg.2.2 z (x6 e);show x.un.length+1+1<=34;omega
 have r:=ll (L:=s.d8) (f:=ib) (b:=4097) λf ah=>by
  obtain⟨h,_⟩:=a.d8 f ah;have:=h.len;have:=h.small;show f.cs.length+1<=4097
  grind
 grind [an.cells,lD]
section
variable{w:x4}{af ag au:Nat}{Z aJ:ak}{n:aI}{s s0:an}{cs:List x1}
theorem fI.mark(h:fI [] Z aJ w af ag au n s s0 cs)(M:s.cells.length<=10000000):aq x7 w5 [Γ af] w λv I=>v=Δ 0/\aj (λr=>Z r/\¬aJ r) w I/\∃t0 i9,t0.bT=s.cells/\(∀r,i9 r->Z r\/w.heap.size<=r)/\fI [t0] i9 aJ I af ag au n s s0 cs:=by
 obtain⟨A,R,A9,t,p,⟨E,x,a⟩,y,N⟩:=h;have G:¬A 0:=λh=>x ((y 0).2 (.inl h));have H:t.marks.length=0:=by rw[p.fX.1];rfl
 have J:t.cells.length=s.cells.length:=by
  have:=congrArg List.length p.eK.2.1
  grind [az.bT]
 refine(SP p.eK Ω p.fX.2.2.2).Y ?_;rintro _ ab _ ⟨rfl,z,j,e,K⟩;rw[H];have L:=p.prog (B:=w.heap.size) z e K p.fX.mark (by grind) Ω p.box.lt;have hm:ry t.mark:=(dJ.mark ⟨p.fX,a⟩ (by rw[p.fX.2.1,J];simp;omega)).2;have f:∀{r:Nat}{X:Prop},(X->iJ A R A9 aJ au r)->X->Z r\/w.heap.size<=r:=by grind
 have C:∀r,iJ j R (λq r=>A9 q r/\r<w.heap.size) aJ au r->Z r\/w.heap.size<=r:=by
  intro r a;rcases a with a|a|⟨q,a,_⟩|a|a
  .exact (e.2.1 r a).elim (f .inl) Ω
  .exact f (λh=>.inr (.inl h)) a
  .exact f (λh=>.inr (.inr (.inl ⟨q,h⟩))) a
  .exact f (λh=>.inr (.inr (.inr (.inl h)))) a
  .exact f (λh=>.inr (.inr (.inr (.inr h)))) a
 exact⟨rfl,(th e.1 z).Y λr _ h=>⟨(y r).2 (.inl h.1),λbg=>(p.read r bg).1 h.2⟩,t,λr=>iJ j R (λq r=>A9 q r/\r<w.heap.size) aJ au r,p.eK.2.1,C,j,R,_,t.mark,L,⟨iu e.1 G E,λh=>(C 0 h).elim x λh=>by have:=p.box.lt;omega,hm⟩,λr=>Iff.rfl,λq r a=>by have:=a.2;have:=e.1.size;omega⟩
theorem fI.jh{t0:az}{s1:an}(h:fI [t0] Z aJ w af ag au n s1 s0 cs)(f:t0.bT=s.cells)(j:ba n.k n.d6 s)(q:dv s s1):aq x7 w6 [Γ af,Δ 0] w λv I=>v=Δ 0/\aj Z w I/\Laid I/\∃A R t,bw I af ag A R n s t:=by
 obtain⟨A,R,A9,t,p,⟨x,y,E⟩,a,G⟩:=h;have z:¬A 0:=λh=>y ((a 0).2 (.inl h));refine(SX (m:=0) (tm:=t0) (sm:=s) p.eK p.fX rfl f j q.zA).Y ?_;rintro _ ab _ ⟨rfl,H,B,e,C⟩;exact⟨rfl,e.1.Y λr _ h=>(a r).2 (.inl h),iu e.1 z x,B,R,_,C⟩
theorem fI.facts{aw:List az}(h:fI aw Z aJ w af ag au n s s0 cs)(he:s.di=[])(f:s.d8.length<=1000):aq x7 w4 [Γ af] w λv I=>Ext w I/\∃g,aH .i64 ax I g v (rv s)/\∀r,hv v r->w.heap.size<=r:=by
 obtain⟨A,R,A9,t,p,⟨a,_,_⟩,_⟩:=h;exact Gz p.eK a (λe h=>by rw[he]at h;cases h) Ω (by grind)
def fB(aw:List az)(S:ak)(w:x4)(af ag:Nat)(n:aI)(s s0:an)(cs:List x1):Prop:=∃au Z aJ,fI aw Z aJ w af ag au n s s0 cs/\(∀r,Z r->¬S r)/\∀r,S r->r<w.heap.size
variable{aw:List az}{S:ak}{I:x4}
theorem fB.W(h:fB aw S w af ag n s s0 cs)(J:Ext w I):fB aw S I af ag n s s0 cs:=by
 obtain⟨au,Z,aJ,h1,a,e⟩:=h;have:=J.size;exact⟨au,Z,aJ,h1.W J,a,by grind⟩
theorem fB.start{ab a:x4}{B:Nat}{au:Nat}{Z aJ:ak}(e:fI [] Z aJ ab af ag au n s s0 cs)(j:∀r,Z r->B<=r)(J:Ext ab a)(q:B<=ab.heap.size):fB [] (λr=>r<B\/(ab.heap.size<=r/\r<a.heap.size)) a af ag n s s0 cs:=by
 have:=J.size;exact⟨au,Z,aJ,e.W J,λr f h=>by have:=j r f;have:=e.lt r f;omega,Ω⟩
theorem fB.own(h:fB aw S w af ag n s s0 cs)(J:Ext w I):fB aw (λr=>S r\/(w.heap.size<=r/\r<I.heap.size)) I af ag n s s0 cs:=by
 obtain⟨au,Z,aJ,h1,e,f⟩:=h;have:=J.size;exact⟨au,Z,aJ,h1.W J,λr a h=>h.elim (e r a) λh=>by have:=h1.lt r a;omega,by grind⟩
theorem fB.go(h:fB aw S w af ag n s s0 cs):∃A R t,bw w af ag A R n s t/\Laid w/\¬A 0/\dJ aw t/\∀{U ab:x4}{s1:an},Ext w U->cp aw U af ag A R n s1 ab->aj (λr=>¬S r) w ab/\fB aw S ab af ag n s1 s0 cs:=by
 obtain⟨au,Z,aJ,h1,B,C⟩:=h;obtain⟨A,R,t,e,f,j,q,x⟩:=h1.go;refine⟨A,R,t,e,f,j,q,λ{U ab s1}J hm=>?_⟩;obtain⟨a,i9,E,y⟩:=x J hm;have z:=a.size;exact⟨a.Y (by grind),au,i9,aJ,y,by grind,by grind⟩
theorem fB.less{S':ak}(h:fB aw S w af ag n s s0 cs)(V:∀r,S' r->S r):fB aw S' w af ag n s s0 cs:=by
 obtain⟨au,Z,aJ,h1,e,f⟩:=h;exact⟨au,Z,aJ,h1,λr a h=>e r a (V r h),λr a=>f r (V r a)⟩
theorem fB.pair(h:fB aw S w af ag n s s0 cs):∃au A R A9 aJ t,cm w af ag au A R A9 aJ n s s0 t aw cs/\Laid w:=by
 obtain⟨au,Z,aJ,⟨A,R,A9,t,p,⟨a,_⟩,_⟩,_⟩:=h
 grind
theorem fB.facts(h:fB aw S w af ag n s s0 cs)(he:s.di=[])(a:s.d8.length<=1000):aq x7 w4 [Γ af] w λv I=>Ext w I/\∃g,aH .i64 ax I g v (rv s)/\∀r,hv v r->w.heap.size<=r:=by
 obtain⟨au,Z,aJ,h1,_⟩:=h;exact h1.facts he a
theorem fB.mark(h:fB [] S w af ag n s s0 cs)(e:ba n.k n.d6 s)(f:s.d8.length<=1000):aq x7 w5 [Γ af] w λv I=>v=Δ 0/\aj (λr=>¬S r) w I/\∃t0,t0.bT=s.cells/\fB [t0] S I af ag n s s0 cs:=by
 obtain⟨au,Z,aJ,h1,x,y⟩:=h;refine(h1.mark (VH e f)).Y ?_;rintro _ ab _ ⟨rfl,a,t0,i9,j,A,q⟩;have z:=a.size;exact⟨rfl,a.Y (by grind),t0,j,au,i9,aJ,q,by grind,by grind⟩
theorem fB.jh{t0:az}{s1:an}(h:fB [t0] S w af ag n s1 s0 cs)(a:t0.bT=s.cells)(e:ba n.k n.d6 s)(f:dv s s1):aq x7 w6 [Γ af,Δ 0] w λv I=>v=Δ 0/\aj (λr=>¬S r) w I/\Laid I/\∃A R t,bw I af ag A R n s t:=by
 obtain⟨au,Z,aJ,h1,q,x⟩:=h;refine(h1.jh a e f).Y ?_;rintro _ ab _ ⟨rfl,j,h⟩;exact⟨rfl,j.Y (by grind),h⟩
end
theorem VI:aq x7 Bk [.pointer ν] w λr I=>r= .tuple #[.bool ne,Δ 2]/\Ext w I:=by
 refine aF func98 ?_;rw[cT dx.u];simp only[Option.isNone_none,bK];exact⟨by trivial,Ext.refl _⟩
theorem VJ:aq x7 Bh [.pointer ν] w λr I=>r= .tuple #[.bool ne,Δ 2]/\Ext w I:=by
 refine aF func53 ?_;refine VI.Y ?_;rintro _ U _ ⟨rfl,a⟩;rw[bx,bz];refine a1 (λv ab=>v= .bool ms/\Ext w ab) ?_ λaA e=>?_
 .rintro _ ab ⟨rfl,f⟩;rw[bK];exact⟨rfl,f⟩
 .rw[bG,ao];exact⟨λ_=>e _ _ ⟨rfl,a⟩,λh=>m2 Φ h⟩
theorem HL:aq x7 Bb [.pointer ν] w λr I=>r= .tuple #[.bool ne,Δ 2]/\Ext w I:=by
 refine aF func22 ?_;refine VJ.Y ?_;rintro _ U _ ⟨rfl,a⟩;rw[bx,bz];refine a1 (λv ab=>v= .bool ms/\Ext w ab) ?_ λaA e=>?_
 .rintro _ ab ⟨rfl,f⟩;rw[bK];exact⟨rfl,f⟩
 .rw[bG,ao];exact⟨λ_=>e _ _ ⟨rfl,a⟩,λh=>m2 Φ h⟩
theorem VK:aq x7 w3 [.pointer ν] w λr I=>r=Δ 2/\Ext w I:=by
 refine aF func10 ?_;refine b6.sink (m:=0) (λ_ U=>Ext w U) (Ext.refl _) ?_;rintro m _ U j a _;refine HL.Y ?_;rintro _ ab _ ⟨rfl,e⟩;rw[bx,bz];refine a1 (λv I=>v= .bool ms/\I=ab) ?_ λaA f=>?_
 .rintro _ _ ⟨rfl,rfl⟩;rw[bK];exact⟨rfl,a.F e⟩
 .rw[bG,ao];exact⟨λ_=>f _ _ ⟨rfl,rfl⟩,λh=>m2 Φ h⟩
theorem VL{p aC:x1}{L:List nn}{Q:x1->x4->Prop}(aD:∀I,Ext w I->Q (.bool ms) I)(ae:aQ .u8 w p pl)(bj:∀b∈pl,0<=b/\b<256)(bk:Seen e3 w [aC] L)(bm:∀x∈L,(pd x).ok)(aE:fD w)(aG:Laid w):
  aq x7 A8 [p,aC] w Q:=by
 refine aF func5 ?_;refine(VF aE aG).Y ?_;rintro _ U _ ⟨rfl,y⟩;rw[bE,Y1,a6];refine(Vz (ae.W y) bj (bP bk y) bm (aE.W y) (aG.W y)).Y ?_;rintro _ ab _ ⟨aI,bn⟩;have aK:=y.F aI;have cE:=y.size;have cF:=aI.size;rcases bn with⟨cs,rfl,bo,bp⟩|⟨f,af,ag,cG,Z,aJ,s,cs,rfl,ah,hk,P,W,bq⟩
 .rw[fP,fQ,fR];refine bC a8.i λau br bs G X=>?_;refine b8 (vs:=cs) a8.i bo rfl bp X λj Y bt H=>?_;rw[bE,X4,bK,cT dx.u];exact aD _ (aK.F (G.put Y Ω))
 rw[fP,fQ,fR];have ac:cs.length=8/\∀u∈cs,u.oneCell'=ms:=by
  obtain⟨A,R,A9,t,p,_⟩:=id W;exact ck.len p.doc
 refine bC a8.i λau br bs G X=>?_;refine b8 (vs:=cs) a8.i ac.1 rfl ac.2 X λj Y bt H=>?_;have J:Ext ab j:=G.put Y Ω;have bu:=aK.F J;rw[bE,Y1,a6];have bw:=W.W J;have bA:n4 j au (c7 f).k (c7 f).d6 s:=iI.box bw.ok.2 (Ext.refl _) H;obtain⟨ho,cH,cI,cJ,cK,cL,cM,cN,_⟩:=id bA;obtain⟨ad,bD,bH,_⟩:=P.ok;have bI:∀g∈s.d8,g.live≠0:=P.live.1;have cO:s.d8.length<=256:=P.live.2;have C:s.di=[]:=bH.di;have cP:s.di.length<=1000:=by rw[C];exact X9 _
 have aL:=fB.start (B:=w.heap.size) W (λr a=>by have:=bq r a;omega) J Ω;have z3:=J.size;have aM:s.d8.length<=1000:=Ω
 refine(aL.facts C aM).Y ?_;rintro bJ z _ ⟨K,bL,aN,bM⟩;have aO:=aL.own K;have z5:=K.size;obtain⟨S,aP⟩:∃S:ak,S=λr=>(r<w.heap.size\/(ab.heap.size<=r/\r<j.heap.size))\/(j.heap.size<=r/\r<z.heap.size):=⟨_,rfl⟩;rw[<-aP]at aO;have al:∀r,((r<w.heap.size\/(ab.heap.size<=r/\r<j.heap.size))\/(j.heap.size<=r/\r<z.heap.size))->S r:=λr h=>by rw[aP];exact h
 have bN:S au:=al au (by have:=H.lt;have:=G.size;omega);have bO:=bu.F K;have bQ:∀{E:x4},aj (λr=>¬S r) z E->Ext w E:=λam=>bO.then am λr a h=>h (al r (.inl (.inl a)));have aR:∀{E:x4},aj (λr=>¬S r) z E->aH .i64 ax E bL bJ (rv s):=λam=>bB aN am λr a h=>h (al r (.inr ⟨bM r a,by obtain⟨e,h⟩:=b5 aN a;omega⟩));refine(aO.mark ad aM).Y ?_;rintro _ cQ _ ⟨rfl,bR,t0,bS,bT⟩;obtain⟨A,R,t,bU,bV,bW,an,bX⟩:=bT.go;refine(HJ bU bV bW an bD Ω).Y ?_;rintro _ aS _ ⟨q,M,rfl,hm⟩;obtain⟨bY,N⟩:=bX (Ext.refl _) hm;have ap:=bR.F bY;have O:=M.bb;have av:q.1.di=[]:=by rw[O.same.di,C]
 have aw:q.1.d8.length<=1000:=by have:=O.same.d8;omega
 have bZ:ai aS au a8 cs:=(H.W K).aa ap λh=>h bN;refine a1 (λv aT=>v= .bool ne/\Ext aS aT) ?_ λaA aU=>?_
 rotate_left
 .obtain⟨cR,cS,cU,cV,cW,cX,b0,cY⟩:=N.pair;rw[bF a8.p a8.i ac.1 bZ.range];refine(VG b0.doc.zh ad bI Ω).Y ?_;rintro _ cZ _ ⟨ay,b,rfl,b2⟩;rw[b1];refine⟨λan=>?_,λ_=>aU _ _ ⟨rfl,ay⟩⟩;obtain⟨b3,b4⟩:=b2.1 an;have aV:=M.quiet b3 b4;rw[m1 (by rw[aV];exact Bool.false_ne_true),bG,ao];refine⟨λh=>m2 rfl h,λ_=>?_⟩;refine((N.W ay).facts av aw).Y ?_;rintro c0 c1 _ ⟨b6,c2,aW,_⟩;rw[aV]at aW;have aX:=ay.F b6;refine(uu aW.ls ((aR ap).W aX).ls).Y ?_;rintro _ c3 _ ⟨rfl,b7⟩;rw[m3 rfl,bE,Y1];exact aU _ _ ⟨rfl,aX.F b7⟩
 rintro _ aT ⟨rfl,az⟩;rw[a6];refine((N.W az).facts av aw).Y ?_;rintro b9 ca _ ⟨aY,cb,aZ,cc⟩;have a2:=(N.W az).own aY;have a7:aj (λr=>¬S r) z ca:=ap.F ((az.F aY).aa _);refine a1 (λv aB=>v= .bool ne/\fB [t0] S aB af ag (c7 f) q.1 s cs/\aj (λr=>¬S r) z aB) ?_ λc4 ba=>?_
 rotate_left
 .rw[bl,ao];refine⟨λhe=>?_,λ_=>ba _ _ ⟨rfl,a2.less λr h=>.inl h,a7⟩⟩;have he:q.2=ne:=by
   cases h:q.2 with
   |false=>rfl
   |true=>rw[h,lw rfl]at he;exact m2 he Φ
  obtain⟨A9,zm,t9,cd,ce,cf,cg,ch⟩:=a2.go;refine(HJ cd ce cf cg O.gq Ω).Y ?_;rintro _ ci _ ⟨c5,cj,rfl,cl⟩;obtain⟨bc,bd⟩:=ch (Ext.refl _) cl;have cm:=cj.quiet (M.Hn he).1 (M.Hn he).2;subst cm;rw[m1 Bool.false_ne_true,bG,ao];refine⟨λh=>m2 rfl h,λ_=>?_⟩;refine(bd.facts av aw).Y ?_;rintro c6 c8 _ ⟨be,c9,cn,_⟩;have cp:aH .i64 ax ci cb b9 (rv q.1):=bB aZ bc λr a h=>h (.inr ⟨cc r a,by obtain⟨e,h⟩:=b5 aZ a;omega⟩);refine(uu cn.ls (cp.W be).ls).Y ?_;rintro _ da _ ⟨rfl,cq⟩;rw[m3 rfl,bE,Y1];have bf:=be.F cq;exact ba _ _ ⟨rfl,(bd.less λr h=>.inl h).W bf,(a7.F (bc.Y λr _ h V=>h (.inl V))).F (bf.aa _)⟩
 rintro _ aB ⟨rfl,cr,ct⟩;rw[a6];refine HL.Y ?_;rintro _ db _ ⟨rfl,bg⟩;rw[bx,bz];refine a1 (λv I=>v= .bool ms/\Ext w I) (λv I h=>by rw[h.1];exact aD _ h.2) λdc cu=>?_;refine((cr.W bg).jh bS ad O.same).Y ?_;rintro _ dd _ ⟨rfl,cw,cz,de,df,t3,cA⟩;rw[bl,ao];refine⟨λ_=>?_,λh=>m2 rfl h⟩;have bh:=(ct.F (bg.aa _)).F cw;refine(Gz cA cz (λe h=>by rw[C]at h;cases h) Ω (by rw[C];exact X9 _)).Y ?_;rintro dg dh _ ⟨bi,dj,cB,_⟩;refine(uu cB.ls ((aR bh).W bi).ls).Y ?_;rintro _ dk _ ⟨rfl,cC⟩;rw[m3 rfl,bK];refine VK.Y ?_;rintro _ dl _ ⟨rfl,cD⟩;rw[bl,ao];refine⟨λ_=>?_,λh=>m2 rfl h⟩;rw[bl];exact cu _ _ ⟨rfl,(bQ bh).F ((bi.F cC).F cD)⟩
theorem VM{p:x1}{L:List nn}(ae:aQ .u8 w p pl)(e:∀b∈pl,0<=b/\b<256)(f:Seen e3 w [a] L)(h:∀x∈L,(pd x).ok)(j:fD w)(q:Laid w):
  aq x7 A8 [p,a] w λv I=>v= .bool ms/\Ext w I:=VL (λI J=>⟨rfl,J⟩) ae e f h j q
end Go.Proofs.YtlcdcbgoaljiiaaGreatDoor
