/- own texts, made small by a tool (wip/ holds them as they were written): no statement of the seat. -/
import Derived.Test.YtlcdcbgoaljiiaaGreatDoorYe
set_option linter.unusedVariables false
set_option linter.unusedSimpArgs false
set_option linter.unnecessarySimpa false
open Array renaming getElem?_eq_some_iff→Y1
open Bool renaming false→sp,true→s2,not_true→Y7,not_false→X5,or_eq_false_iff→T4,and_eq_true→T9,true_and→S7
open Go renaming Value→x4,World→x5,TypeId→o4
open Go.Builtin renaming append_→c9,len_→X7
open Go.Instr renaming loadAt→u5,storeAt→o7,indexAt→n9
open Go.IntKind renaming u64→U4
open Go.Proofs.Tryz renaming prog→x8
open Int renaming toNat_natCast→u7,eq_ofNat_of_zero_le→W9,le_refl→T3
open List renaming getElem?_eq_some_iff→x6,mem_of_getElem?→x7,getElem?_map→u4,take_add_one→u9,getD_eq_getElem?_getD→r8,length_map→r9,replicate→o5,take_length→o9,mem_map→l9,take_of_length_le→j5,length_append→j6,mem_append→j9,eq_nil_of_length_eq_zero→b8,map_append→Z0,length_take→Z3,getElem?_set_self→Z6,length_set→Y0,ext_getElem?→Y2,mem_singleton→Y4,mem_iff_getElem?→Y5,getElem?_set_ne→Y8,range→Y9,drop_eq_getElem_cons→X2,getElem?_append_right→X3,getElem?_set→X6,getElem?_eq_none→W7,getElem?_take_of_lt→V1,pairwise_iff_getElem→V8,getElem?_append_left→V9,set_append_right→U7,flatMap_cons→T0,append_assoc→T1,append_nil→T5,map_map→T6,Perm→S0,mem_filter→S6
open Nat renaming le_refl→o6,zero_le→W3,sub_self→V7,pow_le_pow_right→T2
open Option renaming toList_some→j4,isNone_some→b9,map_eq_some_iff→Z9
open Prod.mk renaming injEq→R2
set_option maxHeartbeats 16000000
open Option renaming some→σ,none→ν
variable{j pos:Nat}{k v w:Int}{O:List Nat}{a:x4}{pl:Λ}
namespace Go.Proofs.YtlcdcbgoaljiiaaGreatDoor
open Go Go.Vc Go.RowKit Go.Proofs Go.Proofs.Tryz
set_option maxRecDepth 100000
def projM(j pos v c:Int):fH:=⟨0,j,pos,v,c⟩
def gm(k:Int)(j pos:Nat)(p:am×Bool)(v:Int):am×Bool:=match ds p.1 j pos v with
 |none=>p
 |some (f,_,_)=>if 0<eL k p.1 f pos v then((bh k p.1 (projM j pos v (eL k p.1 f pos v))).1,s2)else p
def qa(k:Int)(j:Nat)(sc:Λ)(p:am×Bool)(pos:Nat):am×Bool:=(aY p.1 (sc.getD pos 0)).foldl (gm k j pos) p
def eT(k:Int)(p:am×Bool)(j:Nat):am×Bool:=match p.1.ho[j]? with
 |some f=>(Y9 f.sc.length).foldl (qa k j f.sc) p
 |none=>p
section
variable{n:aI}{s:am}
theorem zy{u:Nat}{f:bP}{x:bo}{i:Int}{t un:Int->Int}(J:s.d9[u]?=σ x):bM n (fv s j f pos u x v t un) i w=if i.toNat=u/\w.toNat=v.toNat/\eB n i w/\v.toNat<x.un.length then un (x.un.getD v.toNat 0)else bM n s i w:=by
 unfold bM;by_cases aC:eB n i w
 .rw[m3 aC,m3 aC];unfold fs;have e:(fv s j f pos u x v t un).d9=s.d9.set u {x with un:=x.un.set v.toNat (un (x.un.getD v.toNat 0))}:=rfl
  grind
 grind
structure ia(n:aI)(s s':am):Prop where
 ok:bc n.k n.d6 s'
 gJ:bY s'
 same:dH s s'
 val:∀a,iE s a->ej n.k s' a=ej n.k s a
 fh:∀i,aY s' i=aY s i
 zero:s'.zero=s.zero
 un:∀i u,bM n s i u<=bM n s' i u
theorem ia.rfl(a:bc n.k n.d6 s)(e:bY s):ia n s s:=⟨a,e,.rfl,Ω,λ_=>Eq.refl _,Eq.refl _,Ω⟩
theorem ia.F{a b c:am}(h:ia n a b)(g:ia n b c):ia n a c:=
 ⟨g.ok,g.gJ,h.same.F g.same,λx J=>(g.val x (vz h.same J)).F (h.val x J),λi=>(g.fh i).F (h.fh i),g.zero.F h.zero,λi u=>Int.le_trans (h.un i u) (g.un i u)⟩
def oV(n:aI)(s s':am):Prop:=∃i:Nat,i<n.d6.length/\∃v∈aY s (i:Int),bM n s (i:Int) v<bM n s' (i:Int) v
theorem oV.then{a b c:am}(h:oV n a b)(g:ia n b c):oV n a c:=by
 obtain⟨i,hi,v,ac,e⟩:=h;exact⟨i,hi,v,ac,Int.lt_of_lt_of_le e (g.un _ _)⟩
theorem oV.of{a b c:am}(h:ia n a b)(g:oV n b c):oV n a c:=by
 obtain⟨i,hi,v,ac,e⟩:=g;exact⟨i,hi,v,by grind [ia.fh],Int.lt_of_le_of_lt (h.un _ _) e⟩
def rj(n:aI)(s:am):Prop:=∃i:Nat,i<n.d6.length/\dh s i=sp/\∃v∈aY s (i:Int),bM n s (i:Int) v=n.k
theorem rj.a8{s':am}(h:rj n s)(f:bc n.k n.d6 s)(hk:ia n s s'):rj n s':=by
 obtain⟨i,hi,a,v,ac,hu⟩:=h;have j:=f.d9;have q:=hk.same.d9;obtain⟨x,J⟩:=aJ (l:=s.d9) (i:=i) Ω;obtain⟨y,e⟩:=aJ (l:=s'.d9) (i:=i) Ω;refine⟨i,hi,?_,v,by grind [ia.fh],?_⟩
 .unfold dh at a ⊢;rw[J]at a;rw[e];have:=(hk.same.var i x y J e).1
  grind
 .have h1:=hk.un i v;have r:=(kQ (i:=(i:Int)) (v:=v) hk.ok).2;omega
def nZ(k:Int)(s:am)(j pos:Nat)(v:Int):Int:=match ds s j pos v with
 |none=>0
 |some (f,_,_)=>eL k s f pos v
theorem GP{f:bP}(a:bc n.k n.d6 s)(ah:f∈s.ho):0<=eL n.k s f pos v/\eL n.k s f pos v<=n.k:=by
 have hk:=a.eI;exact⟨room_le.2 ⟨Ω,λt _=>(nV a ah).1⟩,(room_le.1 (T3 _)).1⟩
theorem TK{b:Bool}(A:bc n.k n.d6 s)(F:bY s):ia n s (gm n.k j pos (s,b) v).1/\((gm n.k j pos (s,b) v).2=s2->b=s2\/oV n s (gm n.k j pos (s,b) v).1\/rj n (gm n.k j pos (s,b) v).1)/\
  ((gm n.k j pos (s,b) v).2=sp->b=sp/\(gm n.k j pos (s,b) v).1=s/\nZ n.k s j pos v=0):=by
 unfold gm nZ;simp only;cases ae:ds s (j:Int) (pos:Int) v with
 |none=>exact⟨.rfl A F,λh=>.inl h,by grind⟩
 |some q=>
  obtain⟨f,u,x⟩:=q;obtain⟨_,_,ah,S,hu,ac⟩:=m8 ae;obtain⟨T,J,U,O⟩:=j1 ac;rw[u7]at ah hu;have I:=x7 ah;have K:=GP (pos:=pos) (v:=v) A I;simp only;by_cases G:0<eL n.k s f pos v
  .rw[m3 G];have q:=(y7 (k:=n.k) (a:=projM j pos v (eL n.k s f pos v)) ae).2.1 rfl K (by show _<=eL n.k s f (pos:Int).toNat v;rw[u7];exact T3 _);unfold projM at q;simp only[u7]at q;have hm:=vu (m:=projM j pos v (eL n.k s f pos v)) A F;have B:=vy (m:=projM j pos v (eL n.k s f pos v)) A;unfold projM at hm B ⊢;obtain⟨C,E,H⟩:=hm;have P:=(room_le).1 (T3 (eL n.k s f pos v));obtain⟨V,W⟩:=kR A I;have X:=jd (v:=v.toNat) A J;have Q:=(fu.1 O).1;generalize Y:eL n.k s f pos v=c at q C E H B P K G;obtain⟨r,L⟩:∃r,r=fv s j f pos u.toNat x v (λg=>cJ n.k g c) λg=>b2 n.k g c:=⟨_,rfl⟩;rw[<-L]at q;rw[q]at C E H B ⊢;simp only at C E H B ⊢;refine⟨⟨C,E,B,λa Z=>?_,by grind [y6],by rw[L];rfl,λi w=>?_⟩,λ_=>.inr ?_,by grind⟩
   .grind [nW]
   .grind [zy,bM,fs,b2]
   .have aa:=(x6.1 J).1;have ab:=A.d9;obtain⟨z,M⟩:=aJ (l:=n.d6) (i:=u.toNat) Ω;have ad:=(A.var u.toNat x z J M).1;have af:=A.eQ.2.2 z (x7 M);have aC:eB n (u.toNat:Int) v:=⟨Ω,Ω,Q.1,by grind⟩;have R:v∈aY s (u.toNat:Int):=by
     grind [aY]
    have e:bM n s (u.toNat:Int) v=x.un.getD v.toNat 0:=by grind [bM,fs]
    have ag:bM n r (u.toNat:Int) v=b2 n.k (x.un.getD v.toNat 0) c:=by grind [zy]
    by_cases hk:x.un.getD v.toNat 0<n.k
    .refine .inl ⟨u.toNat,Ω,v,R,?_⟩
     grind [b2]
    .refine .inr ⟨u.toNat,Ω,?_,v,?_,?_⟩
     .obtain⟨y,N⟩:=aJ (l:=r.d9) (i:=u.toNat) (by have:=B.d9;omega);unfold dh;rw[N];have:=(B.var u.toNat x y J N).1
      grind
     all_goals grind [y6,b2]
  .rw[m5 G];exact⟨.rfl A F,λh=>.inl h,by grind⟩
end
section
variable{n:aI}{s:am}
def n0(n:aI)(s:am)(b:Bool)(r:am×Bool)(R:Prop):Prop:=ia n s r.1/\(r.2=s2->b=s2\/oV n s r.1\/rj n r.1)/\(r.2=sp->b=sp/\r.1=s/\R)
theorem n0.F{b:Bool}{r q:am×Bool}{R:Prop}{R':am->Prop}(h:n0 n s b r R)(g:n0 n r.1 r.2 q (R' r.1)):n0 n s b q (R/\R' s):=by
 obtain⟨h1,e,j⟩:=h;obtain⟨g1,f,w⟩:=g;refine⟨h1.F g1,λa=>?_,λa=>?_⟩
 .rcases f a with h|h|h
  .rcases e h with h|h|h
   .grind
   .exact .inr (.inl (h.then g1))
   .exact .inr (.inr (h.a8 h1.ok g1))
  .exact .inr (.inl (.of h1 h))
  grind
 grind
theorem s8{α:Type}{step:am×Bool->α->am×Bool}{R:α->am->Prop}(h:∀a s b,bc n.k n.d6 s->bY s->n0 n s b (step (s,b) a) (R a s)):
  ∀(L:List α)(s:am)(b:Bool),bc n.k n.d6 s->bY s->n0 n s b (L.foldl step (s,b)) (∀a∈L,R a s)
 |[],s,b,e,f=>⟨.rfl e f,λh=>.inl h,by grind⟩
 |a::L,s,b,e,f=>by
  have h1:=h a s b e f;have j:=s8 h L (step (s,b) a).1 (step (s,b) a).2 h1.1.ok h1.1.gJ;obtain⟨q,r,w⟩:=n0.F (R':=λs=>∀a∈L,R a s) h1 j;refine⟨q,r,λx=>?_⟩
  grind
theorem GQ{b:Bool}(a:bc n.k n.d6 s)(e:bY s):n0 n s b (eT n.k (s,b) j) (∀f,s.ho[j]?=σ f->∀pos∈Y9 f.sc.length,∀v∈aY s (f.sc.getD pos 0),nZ n.k s j pos v=0):=by
 unfold eT;simp only;cases ah:s.ho[j]? with
 |none=>exact⟨.rfl a e,λh=>.inl h,by grind⟩
 |some f=>
  simp only;have h1:∀(pos:Nat)(s:am)(b:Bool),bc n.k n.d6 s->bY s->n0 n s b (qa n.k j f.sc (s,b) pos) (∀v∈aY s (f.sc.getD pos 0),nZ n.k s j pos v=0):=λpos s b a e=>
   s8 (λv s b a e=>TK a e) (aY s (f.sc.getD pos 0)) s b a e
  obtain⟨r,w,q⟩:=s8 h1 (Y9 f.sc.length) s b a e;exact⟨r,w,λh=>⟨(q h).1,(q h).2.1,λg x=>by cases x;exact(q h).2.2⟩⟩
def rk(n:aI)(O:List Nat)(s:am):Prop:=∀j∈O,∀f,s.ho[j]?=σ f->∀pos∈Y9 f.sc.length,∀v∈aY s (f.sc.getD pos 0),nZ n.k s j pos v=0
def dJ(n:aI)(O:List Nat)(s:am):am×Bool×Bool:=if(fI n s).2.2=s2\/(fI n s).2.1=s2 then fI n s else((O.foldl (eT n.k) ((fI n s).1,sp)).1,(O.foldl (eT n.k) ((fI n s).1,sp)).2,sp)
theorem GR{s':am}(h:dH s s')(a:∀i,aY s' i=aY s i):gL s'=gL s:=by
 unfold gL;congr 1;refine Y2 λi=>?_;rw[u4,u4];have e:=h.d9;by_cases hi:i<s.d9.length
 .obtain⟨x,J⟩:=aJ (l:=s.d9) hi;obtain⟨y,f⟩:=aJ (l:=s'.d9) (i:=i) Ω;have:=a (i:Int)
  grind [aY]
 grind
theorem TL(a:bc n.k n.d6 s)(h:rj n s):¬iP n s:=λe=>by
 obtain⟨i,hi,f,v,ac,hu⟩:=h;have:=(e i hi (by grind)).2.2 v ac;rw[hu]at this;unfold b2 at this;have:=a.zero.1;omega
theorem ia.zz{s':am}(h:ia n s s'):fw n.k n.d6 s s':=⟨h.ok,h.gJ,h.same,h.val,by grind [ia.fh],by grind [ia.zero]⟩
theorem GS(f:bc n.k n.d6 s)(y:bY s):fw n.k n.d6 s (dJ n O s).1/\((dJ n O s).2.2=s2->(dJ n O s).2.1=sp/\∃i<n.d6.length,dh s i=sp/\aY (dJ n O s).1 (i:Int)=[])/\
  ((dJ n O s).2.2=sp->(dJ n O s).2.1=s2->gM n (dJ n O s).1<gM n s)/\((dJ n O s).2.2=sp->(dJ n O s).2.1=sp->(dJ n O s).1=s/\iP n s/\rk n O s):=by
 obtain⟨h1,K,L,C⟩:=GD f y;generalize w:dJ n O s=r;unfold dJ at w;by_cases E:(fI n s).2.2=s2\/(fI n s).2.1=s2
 .grind [TJ]
 .rw[m5 E]at w;have he:(fI n s).2.2=sp:=by grind
  have F:(fI n s).2.1=sp:=by grind
  obtain⟨e,x⟩:=C he F;have x:=x;rw[e]at w;obtain⟨a,z,A⟩:=s8 (λj s b f y=>GQ f y) O s sp f y;generalize O.foldl (eT n.k) (s,sp)=q at a z A w;subst w;refine⟨a.zz,by grind,λ_ h=>?_,λ_ h=>?_⟩
  .have B:eM n.k q.1=eM n.k s:=by grind [eM,GR,ia.same,ia.fh,ia.zero]
   show gM n q.1<gM n s;rcases(z h).resolve_left Φ with⟨i,hi,v,ac,G⟩|H
   .exact GO B x f a.ok a.fh hi (λq _ v _=>a.un _ _) ⟨v,ac,G⟩
   .exact GN B x (TL a.ok H)
  .obtain⟨_,I,J⟩:=A h;exact⟨I,x,J⟩
theorem GU{s':am}{i:Nat}(h:dH s s')(hi:i<s.d9.length):dh s' i=dh s i:=by
 have e:=h.d9;obtain⟨x,J⟩:=aJ (l:=s.d9) hi;obtain⟨y,a⟩:=aJ (l:=s'.d9) (i:=i) Ω;unfold dh;rw[J,a];simp only;rw[(h.var i x y J a).1]
theorem zA{α:Type}{step:am×Bool->α->am×Bool}:∀(L:List α),(∀a∈L,step (s,sp) a=(s,sp))->L.foldl step (s,sp)=(s,sp)
 :=by
 intro a;induction a<;>grind
theorem TM(a:bc n.k n.d6 s)(h:iP n s)(q:rk n O s):dJ n O s=(s,sp,sp):=by
 have e:fI n s=(s,sp,sp):=GG a _ λi hi=>h i (List.mem_range.1 hi);have w:O.foldl (eT n.k) (s,sp)=(s,sp):=by
  refine zA O λj r=>?_;unfold eT;simp only;cases ah:s.ho[j]? with
  |none=>rfl
  |some f=>
   simp only;refine zA _ λpos ae=>?_;unfold qa;refine zA _ λv ac=>?_;have:=q j r f ah pos ae v ac
   grind [nZ,gm]
 grind [dJ]
end
theorem GV{P:Nat->Prop}:∀m,P m->∃m,P m/\∀k,P k->m<=k:=λm=>by
 induction m using Nat.strongRecOn with
 |ind m a=>
  intro hm;by_cases h:∃k,k<m/\P k
  .obtain⟨k,h1,e⟩:=h;exact a k h1 e
  .exact⟨m,hm,λk hk=>Nat.le_of_not_lt λf=>h ⟨k,f,hk⟩⟩
open Classical in
theorem b3.sink{w:x5}{B:x4->x5->(x4->x5->Prop)->Prop}(az:Nat->x5->Prop){m:Nat}(r:az m w)(V:∀(m:Nat)(a:x4)(I:x5)(k:x4->x5->Prop),az m I->(∀bV a f,bV<m->az bV f->k a f)->B a I k):b3 a w B:=by
 have j:∀{w:x5},(∃m,az m w)->∃m,az m w/\∀k,az k w->m<=k:=λ⟨m,h⟩=>GV (P:=λm=>az m _) m h;refine⟨λ_ w=>∃m,az m w,λ_ w=>if h:∃m,az m w then Classical.choose (j h)else 0,⟨m,r⟩,λa I q=>?_⟩;obtain⟨h1,s⟩:=Classical.choose_spec (j q);refine V _ a I _ h1 λbV _ f x e=>⟨⟨bV,e⟩,?_⟩;have y:=(Classical.choose_spec (j ⟨bV,e⟩)).2 bV e;show dite _ _ _<dite _ _ _;rw[dif_pos q,dif_pos ⟨bV,e⟩];omega
theorem GW{k i:Int}:∀(L M:Λ)(p:am×Bool),dt k i (L++M) p=dt k i M (dt k i L p)
 |[],_,_=>rfl
 |v::L,M,p=>by
  rw[List.cons_append,dt,dt];exact GW L M _
theorem TN{i:Int}{L:Λ}{p:am×Bool}(h:L[j]?=σ v):dt k i (L.take (j+1)) p=((bh k (dt k i (L.take j) p).1 (e9 i v)).1,decide ((bh k (dt k i (L.take j) p).1 (e9 i v)).2=0)||(dt k i (L.take j) p).2):=by
 rw[u9,h,j4,GW];rfl
section
variable{ax:List aB}{w:x5}{af ag:Nat}{A R:aj}{n:aI}{s:am}{t:aB}
theorem TO{i:Nat}{x:bo}(h:bC w af ag A R n s t)(Z:Laid w)(aI:¬A 0)(aC:eo ax t)(J:s.d9[i]?=σ x):aq x8 JO [Γ af,Δ (i:Int)] w λr I=>r= .bool (dt n.k (i:Int) (aG x) (s,sp)).2/\cz ax w af ag A R n (dt n.k (i:Int) (aG x) (s,sp)).1 I:=by
 refine jh func158 ?_;refine br λg1 U bf an B=>?_;refine br λaJ ab bg ac C=>?_;have bi:=ak.lt B;have bj:=ak.lt C;refine bF eg.i λf bk bm aK aM=>?_;refine bs (o:=0) eg.i rfl rfl aM (by show 0<1;omega) λG aN bn O=>?_;have O:ak G f eg [.bool sp]:=O;have P:Ext ab G:=aK.put aN Ω;have B:ak G g1 eD [Γ af]:=(ak.W B ac).W P;have C:ak G aJ al [Δ (i:Int)]:=ak.W C P;have ad:=(an.F ac).F P;have bp:=an.size;have bq:=ac.size;have bt:=P.size;have bw:=B.lt;have bx:=C.lt;have bz:=O.lt;have ae:=rh Z;rw[aF (v:=Γ af) Ψ (B.Qz rfl),aF (v:=Δ (i:Int)) Ψ (C.Qz rfl)];refine(jv (i:=(i:Int)) (h.W ad)).Y ?_;rintro _ bA _ ⟨⟨b,ah,rfl,Q⟩,ap⟩;refine(mE (b:=b) (n:=ah)).Y ?_;rintro _ q _ ⟨aO,H,rfl,bB,au⟩;have av:=lr Q Ω (show s.d9[(i:Int).toNat]?=σ x by rw[u7];exact J);have L:=ap.F aO;have z5:=ap.size;have z46:=L.size;have bD:=au.lt;refine ky.old ⟨_,sp,jG,#[Γ H],_,_,_,_,λj I=>dx ax w af ag A R n w.heap.size (λr=>q.heap.size<=r) (dt n.k (i:Int) ((aG x).take j) (s,sp)).1 I/\ai (λr=>r<w.heap.size\/q.heap.size<=r\/r=f) q I/\ak I f eg [.bool (dt n.k (i:Int) ((aG x).take j) (s,sp)).2],λ_ _ _=>False,rfl,(mD (g:=H) Q.1).s,?_,
  λ_ _ J h=>⟨h.1.W J,h.2.W J⟩,λ_ _ _ J h=>⟨h.1.W J,h.2.1.F (J.aa _),h.2.2.W J⟩,λ_ _ _ _ _ h=>h,⟨au,Z.W (ad.F L)⟩,⟨dx.start h Z aI aC (ad.F L) (o6 _),ai.refl _ _,O.W L⟩,?_,?_,λ_ _ h=>h.elim,λ_ _ _ h=>h.elim⟩
 .rintro _ _ _ _ ⟨_,_,_,_,rfl⟩;rfl
 .rintro _ j _ bE ⟨aw,aP⟩ ⟨bG,rfl,v,aQ,aS⟩ ⟨S,V,W⟩;cases aS;intro aT M _ _;have aU:(aG x)[j]?=σ (v:Int):=by rw[<-av,u4,aQ];rfl
  have a8:∀{g:Nat}{e:o4}{cs:List x4},w.heap.size<=g->g<f->ak G g e cs->ak aT g e cs:=λaV aW aX=>((aX.W L).aa V Ω).W M;have aj:=TN (k:=n.k) (i:=(i:Int)) (p:=(s,sp)) aU;obtain⟨bH,bI,aY,aZ,a1,a2⟩:=S.p6;have ay:∀{z:x5}{c:x4}{d:Bool},d=(dt n.k (i:Int) ((aG x).take (j+1)) (s,sp)).2->ak z H ce [.int .u64 b,Δ ah]->Laid z->dx ax w af ag A R n w.heap.size (λr=>q.heap.size<=r) (dt n.k (i:Int) ((aG x).take (j+1)) (s,sp)).1 z->ai (λr=>r<w.heap.size\/q.heap.size<=r\/r=f) q z->ak z f eg [c]->
    ∀{K:Unit->x5->Prop},(∀y,(ak y H ce [.int .u64 b,Δ ah]/\Laid y)/\(dx ax w af ag A R n w.heap.size (λr=>q.heap.size<=r) (dt n.k (i:Int) ((aG x).take (j+1)) (s,sp)).1 y/\ai (λr=>r<w.heap.size\/q.heap.size<=r\/r=f) q y/\ak y f eg [.bool (dt n.k (i:Int) ((aG x).take (j+1)) (s,sp)).2])->K () y)->
    aL x8 (o7 eg (Γ f) (.bool d)) z K:=λ{z c d}Q X E az aA a6{K}a7=>by
   subst Q;refine bs (o:=0) eg.i rfl rfl a6 Ξ λy Y bJ ba=>?_;have z9:=aA.size;exact a7 _ ⟨⟨X.aa Y λh=>by have h:H=f:=h;omega,iz Y (λh=>by have h:0=f:=h;omega) E⟩,az.own Y λr N=>by have N:r=f:=N;subst N;exact⟨Ω,Ω⟩,aA.F (Y.Y λr _ N=>.inr (.inr N)),ba⟩
  rw[aF (v:=Γ af) Ψ ((a8 Ω Ω B).Qz rfl),aF (v:=Δ (i:Int)) Ψ ((a8 Ω Ω C).Qz rfl)];have bK:=V.size;refine(Gt (a:=e9 (i:Int) (v:Int)) rfl (aY.W M) (aP.W M) a1 aZ).Y ?_;rintro _ aB _ ⟨rfl,bb,aD,aR,bu,bc,aE,bd,bL⟩;rw[<-show(dt n.k (i:Int) ((aG x).take (j+1)) (s,sp)).1=(bh n.k (dt n.k (i:Int) ((aG x).take j) (s,sp)).1 (e9 (i:Int) (v:Int))).1 by rw[aj]]at aE;obtain⟨X,E,az⟩:=a2 (D':=λr=>q.heap.size<=r) (iF M bb) ((Grow.W M).F bc) aE bd (λr h=>h) λr aV aW=>Ω
  have am:ak aB f eg _:=W.aa E Ω;rw[bl,ao];have aH:ai (λr=>r<w.heap.size\/q.heap.size<=r\/r=f) q aB:=V.F (E.Y λr _ h=>h.imp id .inl);refine⟨λhe=>?_,λhe=>?_⟩
  .have e:(dt n.k (i:Int) ((aG x).take (j+1)) (s,sp)).2=s2:=by rw[aj,ms he,Bool.true_or]
   exact ay e.symm (aw.aa E Ω) aD X aH am λy h=>⟨h.1,h.2,λh=>by cases h⟩
  .have e:(dt n.k (i:Int) ((aG x).take (j+1)) (s,sp)).2=(dt n.k (i:Int) ((aG x).take j) (s,sp)).2:=by rw[aj,rc he,Bool.false_or]
   rw[aF Ψ (am.Qz rfl)];exact ay e.symm (aw.aa E Ω) aD X aH am λy h=>⟨h.1,h.2,λh=>by cases h⟩
 .rintro k bM rfl ⟨S,V,W⟩;rw[j5 (by rw[<-av,r9];exact o6 _)]at S W;rw[aF Ψ (W.Qz rfl)];intro bN be _;exact⟨rfl,S.done be⟩
theorem TP{N i:Nat}(h:i<N):(Y9 N).drop i=i::(Y9 N).drop (i+1):=by
 rw[X2 (by simpa using h),List.getElem_range]
def zB(ax:List aB)(w:x5)(af ag:Nat)(A R:aj)(n:aI)(q:am×Bool×Bool)(r:x4)(I:x5):Prop:=r= .tuple #[.bool q.2.1,Δ (if q.2.2=s2 then 8 else 0)]/\cz ax w af ag A R n q.1 I
theorem TQ(h:bC w af ag A R n s t)(ah:Laid w)(ai:¬A 0)(aC:eo ax t)(aj:bY s):aq x8 Jd [Γ af] w (zB ax w af ag A R n (fI n s)):=by
 have E:=h.2.2.2.1;have aM:=E.d9;have aN:=E.eQ.2.1;refine aE func98 ?_;rw[dj eD.u];simp only[b9,bb];refine(Fk h).Y ?_;rintro _ U _ ⟨rfl,ak⟩;refine rx.range n.d6.length (λi _ _ c ab=>∃s1 b,c= .bool b/\cz ax w af ag A R n s1 ab/\fw n.k n.d6 s s1/\fI n s=gZ n ((Y9 n.d6.length).drop i) (s1,b)) Ω ⟨s,sp,rfl,cz.same h ah ai aC ak,.rfl E aj,rfl⟩ ?_ ?_
 .rintro i aO t3 _ ab al hi ⟨s1,b,rfl,hm,f,j⟩ am;refine bK Ω ?_;obtain⟨aP,aQ,W,an,ap,au,av⟩:=hm.open;have aR:=f.ok.d9;obtain⟨x,J⟩:=aJ (l:=s1.d9) (i:=i) Ω;rw[TP hi,gZ]at j;have aw:aY s1 (i:Int)=aG x:=vR J;refine B1 (λ_ _ r I=>r= .bool (fg n (i:Int) (s1,b)).2.1/\(fg n (i:Int) (s1,b)).2.2=sp/\cz ax w af ag A R n (fg n (i:Int) (s1,b)).1 I) ?_ λaz y=>?_
  .rintro _ _ _ aS ⟨rfl,he,ay⟩;rw[aT];refine am _ _ _ _ ⟨_,_,rfl,ay,f.F (GB (i:=(i:Int)) (b:=b) f.ok f.gJ Ω Ω).1,?_⟩;rw[j,m5 (by rw[he];decide)]
  refine(ve (i:=(i:Int)) W).Y ?_;rintro _ aU _ ⟨rfl,B⟩;rw[ms Ω,S7,u7,b4];refine⟨λC=>?_,λC=>?_⟩
  .have e:fg n (i:Int) (s1,b)=(s1,b,sp):=by unfold fg;rw[u7,m3 C]
   rw[e]at y;exact y _ _ _ _ ⟨rfl,rfl,hm.W B⟩
  have ac:fg n (i:Int) (s1,b)=(let q:=dt n.k (i:Int) (aG x) (s1,sp);if(dS n q.1 (i:Int)).2<0 then(q.1,sp,s2)else if 0<(dS n q.1 (i:Int)).1 then((bh n.k q.1 (l5 (i:Int) (dS n q.1 (i:Int)).1)).1,s2,sp)else(q.1,q.2||b,sp)):=by
   unfold fg;rw[u7,m5 (by rw[C];decide),aw]
  have ae:=(zv (i:=(i:Int)) (aG x) s1 sp f.ok f.gJ).1;simp only at ac;generalize aA:dt n.k (i:Int) (aG x) (s1,sp)=q at ac ae;refine a6 (λr I=>r= .bool (q.2||b)/\cz ax w af ag A R n q.1 I) ?_ λaV X=>?_
  rotate_left
  .refine (TO (W.W B) (an.W B) ap au J).Y ?_;rintro _ aB _ ⟨rfl,Y⟩;rw[aA]at Y ⊢;have Z:cz ax w af ag A R n q.1 aB:=by
    obtain⟨G,H,K,L,M,N,O,P⟩:=Y;exact av ⟨iF B G,H,K,L,(Grow.W B).F M,N,O,P⟩
   rw[b4];exact⟨λh=>X _ _ ⟨by rw[h,Bool.true_or],Z⟩,λh=>X _ _ ⟨by rw[h,Bool.false_or],Z⟩⟩
  rintro _ aX ⟨rfl,Q⟩;obtain⟨aZ,t5,aa,ad,aD,aF,aH⟩:=Q.open;have aI:dh q.1 i=sp:=by rw[GU ae.same Ω];exact C
  have aK:lu n q.1 (i:Int)=s2:=by
   unfold lu;rw[u7,aI,ms (show(0:Int)<=i/\(i:Int)<n.d6.length by omega)];rfl
  refine(TA aa ad aK).Y ?_;rintro _ a1 _ ⟨z,rfl⟩;rw[fN,fO,fP,aW,ao];refine⟨λS=>?_,λS=>?_⟩
  .rw[m3 S]at ac;rw[ac,m3 rfl]at j;rw[j];exact⟨rfl,Q.W z⟩
  rw[m5 S]at ac;rw[bW,ao];refine⟨λV=>?_,λV=>?_⟩
  .rw[m3 V]at ac;rw[ac]at y;refine(Gs (a:=l5 (i:Int) (dS n q.1 (i:Int)).1) rfl (aa.W z) (ad.W z) aD aF).Y ?_;rintro _ a2 _ ⟨_,aL⟩;refine y _ _ _ _ ⟨rfl,rfl,?_⟩;obtain⟨G,H,K,L,M,N,O,P⟩:=aL;exact aH ⟨iF z G,H,K,L,(Grow.W z).F M,N,O,P⟩
  .rw[m5 V]at ac;rw[ac]at y;exact y _ _ _ _ ⟨rfl,rfl,Q.W z⟩
 .rintro _ _ _ ab al ⟨s1,b,rfl,hm,f,j⟩;refine ck Ω ?_;rw[List.drop_eq_nil_of_le Ξ,gZ]at j;rw[j];exact⟨rfl,hm⟩
end
theorem TR{b n:Nat}{w:x5}(a:mC b n):aq x8 AT [ki b n] w λr I=>r=Δ (rg b:Int)/\Ext w I:=by
 have e:b<4294967296:=by
  have:=a.2;have:(2:Nat) ^ n<=2 ^ 32:=T2 Ω a.1;omega
 refine aE func26 ?_;refine br λg U q f h=>?_;rw[aP ce.p 0 h rfl];refine(Gm e).Y ?_;rintro _ ab _ ⟨rfl,j⟩;exact⟨rfl,f.F j⟩
section
variable{w:x5}{eO:x4}{n:aI}{s:am}
theorem TS{i:Nat}{x:bo}(a:bc n.k n.d6 s)(J:s.d9[i]?=σ x):p9 n s (i:Int)↔(x.gone=0->aG x≠[]/\(dC n.k (aG x) λv=>x.un.getD v.toNat 0).1=0/\∀v∈aG x,min (s.zero+x.un.getD v.toNat 0) n.k<n.k):=by
 unfold p9;rw[u7,vR J,Tx a J];have j:dh s i=decide (x.gone≠0):=by unfold dh;rw[J]
 rw[j,decide_eq_false_iff_not];refine⟨λh q=>?_,λh q=>?_⟩
 .obtain⟨h1,e,f⟩:=h Ω;refine⟨h1,e,λv ac=>?_⟩;have:=f v ac;rw[zu a J ac]at this;exact this
 .obtain⟨h1,e,f⟩:=h Ω;refine⟨h1,e,λv ac=>?_⟩;rw[zu a J ac];exact f v ac
end
structure TT(P:am->Prop)(n:aI)(s:am)(q:am×Bool):Prop where
 a8:fw n.k n.d6 s q.1
 emp:q.2=s2->∃i<n.d6.length,dh q.1 i=sp/\aY q.1 (i:Int)=[]
 VL:q.2=sp->iP n q.1/\P q.1
 quiet:iP n s->P s->q=(s,sp)
section
variable{ax:List aB}{w:x5}{af ag:Nat}{A R:aj}{n:aI}{s:am}{t:aB}
end
section
variable{w:x5}{eO:x4}{n:aI}{s:am}
end
structure kV(n:Nat)(H:List (Int×Int))(P:Λ):Prop where
 len:P.length=n
 ae:∀(i:Nat)a,H[i]?=σ a->0<=a.2/\a.2<n/\P[a.2.toNat]?=σ (i:Int)
 pl:∀(x:Nat)i,P[x]?=σ i->i= -1\/∃(j:Nat)(a:Int×Int),i=(j:Int)/\H[j]?=σ a/\a.2=(x:Int)
section
variable{n:Nat}{H:List (Int×Int)}{P:Λ}
theorem kV.new(n:Nat):kV n [] (o5 n (-1)):=⟨Ξ,by grind,λx i h=>.inl (List.mem_replicate.1 (x7 h)).2⟩
theorem kV.swap(h:kV n H P){i k:Nat}{a b:Int×Int}(q:H[i]?=σ a)(r:H[k]?=σ b):kV n ((H.set i b).set k a) ((P.set b.2.toNat i).set a.2.toNat k):=by
 obtain⟨a0,B,C⟩:=h.ae i a q;obtain⟨E,F,G⟩:=h.ae k b r;have I:=(x6.1 q).1;have J:=(x6.1 r).1;have K:=h.len;refine⟨by grind,λj c f=>?_,λx v ac=>?_⟩
 .rw[X6]at f;by_cases s:k=j
  .grind
  .rw[m5 s,X6]at f;by_cases w:i=j
   .grind
   .rw[m5 w]at f;obtain⟨gw,L,M⟩:=h.ae j c f
    grind
 .rw[X6]at ac;by_cases y:a.2.toNat=x
  .grind
  .rw[m5 y,X6]at ac;by_cases z:b.2.toNat=x
   .grind [Y8]
   .rw[m5 z]at ac;rcases h.pl x v ac with e|⟨j,c,e,f,A⟩
    .omega
    .refine .inr ⟨j,c,e,?_,A⟩
     grind
theorem kV.push(h:kV n H P){x:Nat}{p:Int}(J:P[x]?=σ (-1)):kV n (H++[(p,(x:Int))]) (P.set x H.length):=by
 have q:=(x6.1 J).1;have s:=h.len;have w:∀(j:Nat)c,H[j]?=σ c->c.2≠(x:Int):=λj c a e=>by
  have:=(h.ae j c a).2.2
  grind
 refine⟨by grind,λj c a=>?_,λy v ac=>?_⟩
 .by_cases r:j<H.length
  .rw[V9 r]at a;obtain⟨gw,z,A⟩:=h.ae j c a
   grind
  .rw[X3 Ω]at a
   grind
 .rw[X6]at ac;by_cases f:x=y
  .subst f;rw[m3 rfl,m3 q]at ac;cases ac;exact .inr ⟨H.length,(p,(x:Int)),rfl,by grind,rfl⟩
  .rw[m5 f]at ac;rcases h.pl y v ac with e|⟨j,c,e,a,B⟩
   all_goals grind
theorem kV.drop{a:Int×Int}(h:kV n (H++[a]) P):kV n H (P.set a.2.toNat (-1)):=by
 have w:=h.len;obtain⟨a0,x,z⟩:=h.ae H.length a (by grind);refine⟨by grind,λj c f=>?_,λy v ac=>?_⟩
 .have q:=(x6.1 f).1;have r:(H++[a])[j]?=σ c:=by grind
  obtain⟨gw,A,B⟩:=h.ae j c r
  grind
 .rw[X6]at ac;by_cases s:a.2.toNat=y
  .grind
  .rw[m5 s]at ac;rcases h.pl y v ac with e|⟨j,c,e,f,C⟩
   .omega
   .by_cases q:j<H.length
    .grind
    .rw[X3 Ω]at f
     grind
theorem GX{i k:Nat}{a b:Int×Int}(e:H[i]?=σ a)(f:H[k]?=σ b):((H.set i b).set k a).Perm H:=by
 grind
def mc(H:List (Int×Int)):Λ:=H.map (·.2)
end
def oW(a:Int×Int):List x4:=[Δ a.1,Δ a.2]
def qb(i:Int):List x4:=[Δ i]
theorem zC(a:Int×Int):∀u∈oW a,u.oneCell'=s2:=by intro u hu;simp[oW]at hu;rcases hu with rfl|rfl<;>rfl
def ep(S:aj)(w:x5)(g:Nat)(H:List (Int×Int))(P:Λ):Prop:=
 (kV P.length H P/\H.length<=1000000)/\∃e bf ac a,ak w g dl [ac,a]/\bn oW 2 cL w e ac H/\bn qb 1 al w bf a P/\∀r,r=g\/hx ac r\/hx a r->S r
section
variable{S X:aj}{w I:x5}{g:Nat}{H:List (Int×Int)}{P:Λ}
theorem ep.aa(h:ep S w g H P)(f:ai X w I)(j:∀r,r<w.heap.size->S r->¬X r):ep S I g H P:=by
 obtain⟨x,y,bf,ac,z,h1,q,s,e⟩:=h;exact⟨x,y,bf,ac,z,h1.aa f (j _ h1.lt (e _ (.inl rfl))),q.aa f λr a=>j r (by have:=q.lc a;omega) (e r (.inr (.inl a))),s.aa f λr a=>j r (by have:=s.lc a;omega) (e r (.inr (.inr a))),e⟩
theorem ep.W(h:ep S w g H P)(J:Ext w I):ep S I g H P:=h.aa (J.aa λ_=>False) λ_ _ _ h=>h
theorem ep.Y(h:ep S w g H P)(j:∀r,r<w.heap.size->S r->X r):ep X w g H P:=by
 obtain⟨q,s,bf,ac,x,h1,e,f,y⟩:=h;refine⟨q,s,bf,ac,x,h1,e,f,λr a=>j r ?_ (y r a)⟩;rcases a with rfl|a|a
 .exact h1.lt
 .have:=e.lc a;omega
 .have:=f.lc a;omega
theorem vS{q bf:Nat}{ac:x4}(h1:ak w g dl [ac,a])(e:bn oW 2 cL w q ac H)(f:bn qb 1 al w bf a P):¬hx ac g/\¬hx a g/\(∀r,hx ac r->¬hx a r)/\∀r,hx a r->¬hx ac r:=by
 refine⟨cO e h1 Φ,cO f h1 Φ,λr h=>?_,λr h=>?_⟩
 .obtain⟨rfl,c,j⟩:=ef e h;exact cO f j Φ
 .obtain⟨rfl,c,j⟩:=ef f h;exact cO e j Φ
theorem vT{bf x:Nat}{i:Int}(h:bn qb 1 al w bf a P)(J:P[x]?=σ i):w.cell? ⟨bf,x*1,ν⟩=σ (Δ i):=h.range J 0 _ rfl
theorem zD{a b:Int×Int}:aq x8 K3 [.agg (oW a).toArray,.agg (oW b).toArray] w λr I=>(∃c,r= .bool c)/\Ext w I:=by
 refine aE func271 ?_;refine br λg1 U x s e=>?_;refine br λy ab z q f=>?_;have J:=s.F q;have e:=ak.W e q;have f:=f;refine a6 (λr I=>(∃c,r= .bool c)/\Ext w I) (λ_ _ h=>h) λaz j=>?_;rw[aP cL.p 0 e rfl,aP cL.p 0 f rfl,aW,ao];refine⟨λ_=>j _ _ ⟨⟨_,rfl⟩,J⟩,λ_=>?_⟩;rw[aP cL.p 0 e rfl,aP cL.p 0 f rfl,bl,ao];refine⟨λ_=>?_,λ_=>j _ _ ⟨⟨_,rfl⟩,J⟩⟩;rw[aP cL.p 1 e rfl,aP cL.p 1 f rfl,aW];exact j _ _ ⟨⟨_,rfl⟩,J⟩
theorem GY{i k:Nat}{a b:Int×Int}(h:ep S w g H P)(hi:H[i]?=σ a)(hk:H[k]?=σ b):aq x8 Bi [Γ g,Δ (i:Int),Δ (k:Int)] w λ_ I=>ai S w I/\ep S I g ((H.set i b).set k a) ((P.set b.2.toNat i).set a.2.toNat k):=by
 have f:=(x6.1 hi).1;have q:=(x6.1 hk).1;refine aE func225 ?_;intro U G _ _;obtain⟨⟨y,hm⟩,Q,bf,ac,R,h1,e,J,z⟩:=h.W G;obtain⟨a0,ap,av⟩:=y.ae i a hi;obtain⟨aw,ax,V⟩:=y.ae k b hk;obtain⟨W,X,Y,Z⟩:=vS h1 e J;rw[aO dl.p 0 h1 rfl,aO dl.p 0 h1 rfl,aO dl.p 0 h1 rfl,ct rfl eN.u cL.i e q,bI cL.p cL.i rfl (e.range hk),
  aO dl.p 0 h1 rfl,ct rfl eN.u cL.i e f,bI cL.p cL.i rfl (e.range hi),ct rfl eN.u cL.i e f]
 refine xL cL.i e rfl (zC b) f λab ad ay K=>?_;rw[ct rfl eN.u cL.i K (by rw[Y0];exact q)];refine xL cL.i K rfl (zC a) (by rw[Y0];exact q) λaz af aA ag=>?_;intro aB L _ _;have A:=(ad.F af).F (L.aa _);have s:=h1.aa A W;have x:=ag.W L;have M:=J.aa A Z;have ah:((H.set i b).set k a)[i]?=σ b:=by
  rw[X6];by_cases N:k=i
  .subst N;rw[hi]at hk;cases hk;rw[m3 rfl,m3 (by rw[Y0];exact f)]
  .rw[m5 N,Z6 f]
 have aj:((H.set i b).set k a)[k]?=σ a:=Z6 (by rw[Y0];exact q);have B:((H.set i b).set k a).length=H.length:=by rw[Y0,Y0]
 have aC:=y.len;rw[aO dl.p 1 s rfl,aO dl.p 0 s rfl,ct rfl eN.u cL.i x (by rw[B];exact f),aZ cL.p rfl,aF Ψ (x.range ah 1 _ rfl),
  aO dl.p 1 s rfl,aO dl.p 0 s rfl,ct rfl eN.u cL.i x (by rw[B];exact q),aZ cL.p rfl,aF Ψ (x.range aj 1 _ rfl),
  ct (i:=b.2.toNat) Ω au.u al.i M Ω]
 refine lf (j:=0) (a':=(i:Int)) al.i rfl rfl M V rfl Ω λaD ak aG O=>?_;rw[ct (i:=a.2.toNat) Ω au.u al.i O (by rw[Y0];omega)];obtain⟨c,am⟩:=aJ (l:=P.set b.2.toNat (i:Int)) (i:=a.2.toNat) (by rw[Y0];omega);refine lf (j:=0) (a':=(k:Int)) al.i rfl rfl O am rfl Ω λaH an aI ao=>?_;have C:=ak.F an;refine⟨(G.aa _).F ((A.Y λr _ E=>z r (.inr (.inl E))).F (C.Y λr _ E=>z r (.inr (.inr E)))),⟨?_,by rw[B];exact hm⟩,Q,bf,ac,R,s.aa C X,x.aa C Y,ao,z⟩;rw[Y0,Y0];exact y.swap hi hk
end
section
variable{S X:aj}{w I:x5}{g:Nat}{H:List (Int×Int)}{P:Λ}
def nf(S:aj)(w:x5)(g:Nat)(H:List (Int×Int))(P:Λ)(I:x5):Prop:=∃a e,ai S w I/\ep S I g a e/\a.Perm H/\e.length=P.length
theorem nf.W{ab:x5}(h:nf S w g H P I)(J:Ext I ab):nf S w g H P ab:=by
 obtain⟨a,e,h1,f,j⟩:=h;exact⟨a,e,h1.F (J.aa _),f.W J,j⟩
theorem nf.swap{e:List (Int×Int)}{f:Λ}{U:x5}{i k:Nat}(r:ai S w U)(h:ep S U g e f)(ae:e.Perm H)(s:f.length=P.length)(hi:i<e.length)(hk:k<e.length):
  aq x8 Bi [Γ g,Δ (i:Int),Δ (k:Int)] U λ_ I=>nf S w g H P I:=by
 obtain⟨a,j⟩:=aJ (l:=e) hi;obtain⟨b,q⟩:=aJ (l:=e) hk;refine(GY h j q).Y ?_;rintro _ ab _ ⟨x,y⟩;exact⟨_,_,r.F x,y,(GX j q).F ae,by rw[Y0,Y0];exact s⟩
theorem GZ{i:Nat}(h:ep S w g H P)(hi:i<H.length):aq x8 KB [Γ g,Δ (i:Int)] w λ_ I=>nf S w g H P I:=by
 have hm:=h.1.2;refine aE func223 ?_;refine⟨λv U=>∃i:Nat,v=Δ (i:Int)/\i<H.length/\nf S w g H P U,λv _=>(b1 v).toNat,⟨i,rfl,hi,H,P,ai.refl _ _,h,.refl _,rfl⟩,?_⟩;rintro _ U ⟨i,rfl,hi,j⟩;refine a6 (λv ab=>Ext U ab/\∃c,v= .bool c/\(c=s2->0<i)) ?_ λaz z=>?_
 rotate_left
 .intro ab x _ _;rw[bW,ao];refine⟨λq=>?_,λ_=>z _ _ ⟨x,_,rfl,λh=>by cases h⟩⟩;obtain⟨f,A,r,⟨⟨J,_⟩,K,bf,ac,L,h1,e,M,N⟩,ae,s⟩:=j.W x;have B:=ae.length_eq;obtain⟨a,C⟩:=aJ (l:=f) (i:=i) Ω;obtain⟨b,E⟩:=aJ (l:=f) (i:=(i-1) / 2) Ω;rw[aO dl.p 0 h1 rfl,ct rfl eN.u cL.i e Ω,bI cL.p cL.i rfl (e.range C),aO dl.p 0 h1 rfl,dm,lm Ω Ω,oh Ω,
   show(((i:Int)-1).tdiv 2)=(((i-1) / 2:Nat):Int) by rw[Int.tdiv_eq_ediv_of_nonneg Ω];omega,lm Ω Ω,ct rfl eN.u cL.i e Ω,bI cL.p cL.i rfl (e.range E)]
  refine zD.Y ?_;rintro _ ak _ ⟨⟨c,rfl⟩,al⟩;exact z _ _ ⟨x.F al,c,rfl,λ_=>Ω⟩
 rintro _ ab ⟨x,c,rfl,q⟩;have O:=j.W x;rw[b4];refine⟨λQ=>?_,λ_=>?_⟩
 .have q:=q Q;obtain⟨f,A,r,R,ae,s⟩:=O;have B:=ae.length_eq;rw[dm,lm Ω Ω,oh Ω,show(((i:Int)-1).tdiv 2)=(((i-1) / 2:Nat):Int) by rw[Int.tdiv_eq_ediv_of_nonneg Ω];omega,lm Ω Ω];refine(nf.swap r R ae s Ω Ω).Y ?_;rintro _ ak _ am;rw[dm,lm Ω Ω,oh Ω,show(((i:Int)-1).tdiv 2)=(((i-1) / 2:Nat):Int) by rw[Int.tdiv_eq_ediv_of_nonneg Ω];omega,lm Ω Ω];refine⟨⟨(i-1) / 2,rfl,Ω,am⟩,?_⟩;show(((i-1) / 2:Nat):Int).toNat<((i:Nat):Int).toNat;omega
 clear j x q;refine⟨λv U=>∃i:Nat,v=Δ (i:Int)/\i<H.length/\nf S w g H P U,λv _=>H.length-(b1 v).toNat,⟨i,rfl,hi,O⟩,?_⟩;clear O hi i;rintro _ V ⟨i,rfl,hi,j⟩;rw[fL,lm Ω Ω,aT,lm Ω Ω];refine⟨λv u W=>v=Δ (i:Int)/\∃k:Nat,u=Δ (k:Int)/\2*i+1<=k/\k<=2*i+3/\Ext V W,λ_ u _=>2*i+3-(b1 u).toNat,⟨rfl,2*i+1,by congr 1,Ω,Ω,Ext.refl _⟩,?_⟩;rintro _ _ W ⟨rfl,k,rfl,ax,ay,X⟩;refine a6 (λv af=>Ext W af/\∃c,v= .bool c/\(c=s2->k<=2*i+2/\k<H.length)) ?_ λaz z=>?_
 rotate_left
 .rw[fL,lm Ω Ω,aT,lm Ω Ω,lL,ao];refine⟨λq=>?_,λ_=>z _ _ ⟨Ext.refl _,_,rfl,λh=>by cases h⟩⟩;obtain⟨f,A,r,⟨⟨J,_⟩,K,bf,ac,L,h1,e,M,N⟩,ae,s⟩:=j.W X;have B:=ae.length_eq;rw[aO dl.p 0 h1 rfl,eF eN.u e,aW];exact z _ _ ⟨Ext.refl _,_,rfl,λh=>⟨Ω,by have:=rs h;omega⟩⟩
 rintro _ af ⟨ag,c,rfl,q⟩;rw[b4];refine⟨λQ=>?_,λ_=>j.W (X.F ag)⟩;obtain⟨aA,an⟩:=q Q;rw[fL,lm Ω Ω,aT,lm Ω Ω,dm,lm Ω Ω,show 4*(i:Int)+3-(k:Int)=((4*i+3-k:Nat):Int) by omega];have ap:=X.F ag;refine a6 (λv Y=>Ext V Y/\∃c,v= .bool c) ?_ λaB ah=>?_
 rotate_left
 .intro Y Z _ _;have aa:=ap.F Z;obtain⟨f,A,r,⟨⟨J,_⟩,K,bf,ac,L,h1,e,M,N⟩,ae,s⟩:=j.W aa;have B:=ae.length_eq;rw[aO dl.p 0 h1 rfl,eF eN.u e,cU,ao];refine⟨λ_=>ah _ _ ⟨aa,_,rfl⟩,λaC=>?_⟩;obtain⟨a,C⟩:=aJ (l:=f) (i:=k) Ω;obtain⟨b,E⟩:=aJ (l:=f) (i:=4*i+3-k) Ω;rw[aO dl.p 0 h1 rfl,ct rfl eN.u cL.i e Ω,bI cL.p cL.i rfl (e.range C),aO dl.p 0 h1 rfl,ct rfl eN.u cL.i e Ω,bI cL.p cL.i rfl (e.range E)];refine zD.Y ?_;rintro _ G _ ⟨⟨c,rfl⟩,y⟩;exact ah _ _ ⟨aa.F y,_,rfl⟩
 rintro _ Y ⟨Z,aD,rfl⟩;refine a6 (λv G=>Ext V G/\∃c,v= .bool c) ?_ λaF aj=>?_
 rotate_left
 .intro G y _ _;have ad:=Z.F y;rw[b4];refine⟨λ_=>?_,λ_=>aj _ _ ⟨ad,_,rfl⟩⟩;obtain⟨f,A,r,⟨⟨J,_⟩,K,bf,ac,L,h1,e,M,N⟩,ae,s⟩:=j.W ad;have B:=ae.length_eq;obtain⟨a,C⟩:=aJ (l:=f) (i:=k) Ω;obtain⟨b,E⟩:=aJ (l:=f) (i:=i) Ω;rw[aO dl.p 0 h1 rfl,ct rfl eN.u cL.i e Ω,bI cL.p cL.i rfl (e.range C),aO dl.p 0 h1 rfl,ct rfl eN.u cL.i e Ω,bI cL.p cL.i rfl (e.range E)];refine zD.Y ?_;rintro _ au _ ⟨⟨c,rfl⟩,av⟩;exact aj _ _ ⟨ad.F av,_,rfl⟩
 rintro _ G ⟨y,aG,rfl⟩;rw[b4];refine⟨λ_=>?_,λ_=>?_⟩
 .obtain⟨f,A,r,R,ae,s⟩:=j.W y;have B:=ae.length_eq;refine(nf.swap r R ae s Ω Ω).Y ?_;rintro _ au _ aw;refine⟨⟨k,rfl,an,aw⟩,?_⟩;show H.length-((k:Nat):Int).toNat<H.length-((i:Nat):Int).toNat;omega
 .rw[aT,lm Ω Ω];refine⟨⟨rfl,k+1,rfl,Ω,Ω,y⟩,?_⟩;show 2*i+3-((k:Int)+1).toNat<2*i+3-((k:Nat):Int).toNat;omega
theorem TU(h:ep S w g H P):aq x8 KC [Γ g] w λr I=>r=Δ (H.length:Int)/\Ext w I:=by
 obtain⟨_,e,bf,ac,f,h1,a,j,q⟩:=h;refine aE func224 ?_;rw[dj rK.u];simp only[b9,bb];rw[aO dl.p 0 h1 rfl,eF eN.u a];exact⟨rfl,Ext.refl _⟩
theorem G0{x:Nat}{i:Int}(h:ep S w g H P)(J:P[x]?=σ i):aq x8 KA [Γ g,Δ (x:Int)] w λr I=>r= .bool (decide (0<=i))/\Ext w I:=by
 have e:=(x6.1 J).1;obtain⟨_,j,bf,ac,q,h1,s,a,y⟩:=h;refine aE func222 ?_;refine a6 (λr I=>r= .bool (decide (0<=i))/\Ext w I) (λ_ _ h=>h) λaz f=>?_;rw[w3 rK.u];simp only[b9,X5,bT];rw[cU,ao];refine⟨λ_=>?_,λh=>m6 Ω h⟩;rw[aO dl.p 1 h1 rfl,eF au.u a];refine bK Ω ?_;rw[aO dl.p 1 h1 rfl,ct rfl au.u al.i a e,aF Ψ (vT a J),cU];exact f _ _ ⟨rfl,Ext.refl _⟩
theorem TV(h:ep S w g H P):aq x8 JR [Γ g] w λr I=>Ext w I/\match H[0]? with
  |some a=>r= .tuple #[Δ a.2,Δ a.1,.bool s2]
  |none=>r= .tuple #[Δ 0,Δ 0,.bool sp]:=by
 refine aE func162 ?_;refine(TU h).Y ?_;rintro _ U _ ⟨rfl,f⟩;rw[bl,ao];refine⟨λs=>?_,λs=>?_⟩
 .rw[W7 Ω];exact⟨f,rfl⟩
 .intro ab q _ _;obtain⟨_,x,bf,ac,z,h1,e,A,B⟩:=(h.W f).W q;obtain⟨a,j⟩:=aJ (l:=H) (i:=0) Ω;rw[aO dl.p 0 h1 rfl,ct (y:=0) (i:=0) rfl eN.u cL.i e Ω,aZ cL.p rfl,aF Ψ (e.range j 1 _ rfl),
   aO dl.p 0 h1 rfl,ct (y:=0) (i:=0) rfl eN.u cL.i e Ω,aZ cL.p rfl,aF Ψ (e.range j 0 _ rfl),j]
  exact⟨f.F q,rfl⟩
end
theorem TW(l:Λ):l.flatMap qb=ints .i64 l:=by
 induction l with
 |nil=>rfl
 |cons a l e=>rw[T0,e];rfl
theorem TX{α:Type}{L:List α}{a:α}{m:Nat}(h:L[m]?=σ a)(hm:L.length=m+1):L=L.take m++[a]:=by
 have e:=u9 (l:=L) (i:=m);rw[h,j4,j5 Ω]at e;exact e
section
variable{S X:aj}{w I:x5}{g:Nat}{H:List (Int×Int)}{P:Λ}
theorem TY{n:Nat}(N:n<=1000000)(A:∀r,w.heap.size<=r->S r):aq x8 JP [Δ (n:Int)] w λr I=>∃g,r=Γ g/\Ext w I/\w.heap.size<=g/\ep S I g [] (o5 n (-1)):=by
 refine aE func160 ?_;rw[rP,show max (n:Int) 0=(n:Int) by omega];refine kD au.u al.i Ω Ω λbf U O B C=>?_;have E:bn qb 1 al U bf (.slice (σ ⟨bf,0,ν⟩) n n) (o5 n 0):=⟨by rw[List.length_replicate,TW];exact b7.full C Ξ (by simp[maxLen];omega),λa _=>rfl⟩;rw[dn (cs:=#[.slice ν 0 0,.slice (σ ⟨bf,0,ν⟩) n n]) Ψ];refine br λg ab P y s=>?_;have s:=s;rw[aO dl.p 1 s rfl,eF au.u (E.W y),List.length_replicate];have Q:=B.size;have R:=y.size;have V:=s.lt;have W:=C.lt;refine b3.range n (λi z=>bn qb 1 al z bf (.slice (σ ⟨bf,0,ν⟩) n n) (o5 i (-1)++o5 (n-i) 0)/\ai (λr=>r=bf) ab z) Ω ⟨E.W y,ai.refl _ _⟩ ?_ ?_
 .rintro i z G hi ⟨q,x⟩ H;refine bK Ω ?_;have J:=s.aa x Ω;obtain⟨c,K⟩:=aJ (l:=o5 i (-1:Int)++o5 (n-i) 0) (i:=i) Θ;rw[aO dl.p 1 J rfl,ct rfl au.u al.i q Θ];refine lf (j:=0) (a':=-1) al.i rfl rfl q K rfl Ω λX L Y M=>?_;rw[aT];refine H _ ⟨?_,x.F (L.Y λr _ f=>(q.lc f).1)⟩;have e:(o5 i (-1:Int)++o5 (n-i) 0).set i (-1)=o5 (i+1) (-1)++o5 (n-(i+1)) 0:=by
   rw[U7 _ _ Ξ,List.length_replicate,V7,show n-i=(n-(i+1))+1 by omega,List.replicate_succ,List.set_cons_zero,List.replicate_succ',T1];rfl
  rw[<-e];exact M
 .rintro z G ⟨q,x⟩;refine ck Ω ?_;rw[V7,List.replicate_zero,T5]at q;refine⟨g,rfl,(B.F y).then x λr f h=>Ω,Ω,⟨by rw[List.length_replicate];exact kV.new n,Ξ⟩,0,bf,_,_,s.aa x Ω,bn.nil _ _ _ _ _,q,λr f=>?_⟩;rcases f with rfl|f|f
  .exact A _ Ω
  .exact (gC f).elim
  .exact A _ (by have:=(q.lc f).1;omega)
theorem TZ{x:Nat}{p:Int}(h:ep S w g H P)(J:P[x]?=σ (-1))(aS:H.length<1000000)(aT:P.length<=1000000)(ax:∀r,w.heap.size<=r->S r):aq x8 JQ [Γ g,Δ (x:Int),Δ p] w λ_ I=>∃G K,ai S w I/\ep S I g G K/\G.Perm (H++[(p,(x:Int))])/\K.length=P.length:=by
 have L:=(x6.1 J).1;refine aE func161 ?_;rw[dj rK.u];simp only[b9,bb];refine a6 (λv U=>w=U/\v= .bool sp) ?_ λaz Q=>?_
 rotate_left
 .obtain⟨_,R,bf,ac,C,h1,z,s,y⟩:=h;rw[aW,ao];refine⟨λh=>Ω,λ_=>?_⟩;rw[aO dl.p 1 h1 rfl,eF au.u s,cU,rc Ω];exact Q _ _ ⟨rfl,rfl⟩
 rintro _ _ ⟨rfl,rfl⟩;rw[bb];refine dd (λab=>ai S w ab/\ep S ab g (H++[(p,(x:Int))]) (P.set x H.length)) ?_ λaz Q=>?_
 .rintro ab ⟨aA,aB⟩;intro aU aj _ _;obtain⟨⟨V,hm⟩,R,bf,ac,C,h1,z,s,y⟩:=aB.W aj;obtain⟨W,X,ak,Y⟩:=vS h1 z s;have am:(P.set x (H.length:Int))[x]?=σ (H.length:Int):=Z6 L;have aC:(H++[(p,(x:Int))])[H.length]?=σ (p,(x:Int)):=by rw[X3 (o6 _),V7];rfl
  rw[aO dl.p 0 h1 rfl,aO dl.p 1 h1 rfl,ct rfl au.u al.i s (by rw[Y0];exact L),aF Ψ (vT s am),ct rfl eN.u cL.i z Ξ,aZ cL.p rfl];refine lf (f:=oW) (j:=0) (a':=(p,(x:Int))) ay.i rfl rfl z aC rfl Ω λaD Z aV an=>?_;have ap:ep S aD g (H++[(p,(x:Int))]) (P.set x H.length):=by
   have e:(H++[(p,(x:Int))]).set H.length (p,(x:Int))=H++[(p,(x:Int))]:=by rw[U7 _ _ (o6 _),V7];rfl
   rw[e]at an;exact⟨⟨V,hm⟩,R,bf,ac,C,h1.aa Z W,an,s.aa Z Y,y⟩
  have aG:=(aA.F (aj.aa _)).F (Z.Y λr _ q=>y r (.inr (.inl q)));obtain⟨_,aX,aY,a1,a2,A,M,B,_⟩:=id ap;rw[aO dl.p 1 A rfl,ct rfl au.u al.i B (by rw[Y0];exact L),aF Ψ (vT B am)];refine(GZ ap Ξ).Y ?_;rintro _ a7 _ ⟨G,K,aH,aI,ae,aJ⟩;exact⟨G,K,aG.F aH,aI,ae,by rw[aJ,Y0]⟩
 refine(G0 h J).Y ?_;rintro _ a8 _ ⟨rfl,aK⟩;rw[bR,rc Ω,X5,bT];intro ba aL _ _;have ad:=aK.F aL;have bc:=ad.size;obtain⟨⟨V,hm⟩,R,bf,ac,C,h1,z,s,y⟩:=h.W ad;obtain⟨W,X,ak,Y⟩:=vS h1 z s;rw[aO dl.p 1 h1 rfl,aO dl.p 0 h1 rfl,eF eN.u z,ct rfl au.u al.i s L];refine lf (j:=0) (a':=(H.length:Int)) al.i rfl rfl s J rfl Ω λbd N be aM=>?_;have A:=h1.aa N X;have M:=z.aa N ak;rw[aO dl.p 0 A rfl,dn (cs:=#[Δ p,Δ (x:Int)]) Ψ];refine jr (f:=oW) (a:=(p,(x:Int))) eN.u cL.i Ω rfl rfl λv9 bg bh bi E aN=>?_;have A:=A.W E;have M:=M.W E;have B:=aM.W E;refine jT eN.u cL.i rfl M (by simpa using aN.sl) (zC _) Ω Ω λav aP bj O aQ af=>?_;rw[b5,aZ dl.p rfl];have aw:=A.aa af W;have B:=B.aa af Y;refine bs eN.i (eH O.sl).1 (eH O.sl).2 aw Ξ λbk ag bl ah=>?_;have ah:=ah;have bm:=N.size;have bn:=E.size;have aR:∀r,r=g\/hx av r\/hx C r->S r:=λr q=>by
  rcases q with q|q|q
  .exact y r (.inl q)
  .rcases aQ r q with h|h
   .exact y r (.inr (.inl h))
   .exact ax r Ω
  .exact y r (.inr (.inr q))
 refine Q _ ⟨?_,⟨?_,Θ⟩,aP,bf,av,C,ah,O.aa ag λr q e=>cO O aw Φ (by rw[<-e];exact q),B.aa ag λr q e=>X (by rw[<-e];exact q),aR⟩
 .exact (((((ad.aa _).F (N.Y λr _ q=>y r (.inr (.inr q)))).F (E.aa _)).F (af.Y λr _ q=>y r (.inr (.inl q)))).F (ag.Y λr _ q=>y r (.inl q)))
 .rw[Y0];exact V.push J
theorem Ua{i:Nat}{a:Int×Int}(h:ep S w g H P)(hi:H[i]?=σ a):aq x8 JS [Γ g,Δ a.2] w λ_ I=>∃s y,ai S w I/\ep S I g s y/\H.Perm (s++[a])/\y.length=P.length:=by
 have aX:=(x6.1 hi).1;obtain⟨a0,aY,A⟩:=h.1.1.ae i a hi;have hm:=h.1.2;obtain⟨x,E⟩:=W9 a0;rw[E,u7]at A;have aB:=(x6.1 A).1;refine aE func163 ?_;rw[E];refine(G0 h A).Y ?_;rintro _ U _ ⟨rfl,aC⟩;rw[bR,ms Ω,Y7,bb];intro ab aD _ _;have W:=aC.F aD;have X:=h.W W;obtain⟨_,Y,bf,ac,G,h1,B,z,C⟩:=id X;rw[aO dl.p 1 h1 rfl,ct rfl au.u al.i z aB,aF Ψ (vT z A),aO dl.p 0 h1 rfl,eF eN.u B,dm,lm Ω Ω,show(H.length:Int)-1=((H.length-1:Nat):Int) by omega];obtain⟨b,Z⟩:=aJ (l:=H) (i:=H.length-1) Ω;refine(GY X hi Z).Y ?_;rintro _ a1 _ ⟨aG,J⟩;intro a2 ad _ _;have K:=GX hi Z;have af:((H.set i b).set (H.length-1) a)[H.length-1]?=σ a:=Z6 (by rw[Y0];omega);generalize a6:(H.set i b).set (H.length-1) a=ag at J K af;generalize aH:(P.set b.2.toNat (i:Int)).set a.2.toNat ((H.length-1:Nat):Int)=L at J;have a7:=K.length_eq;have ah:L.length=P.length:=by rw[<-aH,Y0,Y0]
 obtain⟨⟨aj,a8⟩,Y,bf,ac,G,h1,B,z,C⟩:=J.W ad;obtain⟨aI,am,aK,ba⟩:=vS h1 B z;obtain⟨an,aL,M,N⟩:=Sp (i:=H.length-1) eN.u cL.i B Ω;rw[aO dl.p 1 h1 rfl,aO dl.p 0 h1 rfl,aL,b5,aZ dl.p rfl];refine bs eN.i (eH M.sl).1 (eH M.sl).2 h1 Ξ λaM O bc Q=>?_;have Q:ak aM g dl [an,G]:=Q;have aN:=M.aa O λr q e=>aI (by rw[<-e];exact N r q);have ap:=z.aa O λr q e=>am (by rw[<-e];exact q);rw[ct rfl au.u al.i ap Ω];obtain⟨c,aP⟩:=aJ (l:=L) (i:=x) Ω;refine lf (f:=qb) (j:=0) (a':=-1) al.i rfl rfl ap aP rfl Ω λaQ R bd aR=>?_;have av:=TX af Ω;have aw:ep S aQ g (ag.take (H.length-1)) (L.set x (-1)):=by
  refine⟨⟨?_,by rw[Z3];omega⟩,Y,bf,an,G,Q.aa R am,aN.aa R λr q e=>aK r (N r q) e,aR,λr q=>C r (q.imp id (.imp (N r) id))⟩;rw[Y0];rw[av]at aj;have:=aj.drop;rw[E,u7]at this;exact this
 have ax:=((((W.aa _).F aG).F (ad.aa _)).F (O.Y λr _ q=>C r (.inl q))).F (R.Y λr _ q=>C r (.inr (.inr q)));have ay:H.Perm (ag.take (H.length-1)++[a]):=by rw[<-av];exact K.symm
 refine dd (λV=>∃s y,ai S w V/\ep S V g s y/\H.Perm (s++[a])/\y.length=P.length) (λ_ h=>h) λaz aA=>?_;rw[aW,ao];refine⟨λbe=>?_,λ_=>aA _ ⟨_,_,ax,aw,ay,by rw[Y0];exact ah⟩⟩;refine(GZ aw (by rw[Z3];omega)).Y ?_;rintro _ V _ ⟨s,y,aS,aT,aU,aV⟩;exact aA _ ⟨s,y,ax.F aS,aT,ay.F (aU.symm.append_right _),by rw[aV,Y0];exact ah⟩
theorem Ub(h:ep S w g H P):aq x8 Jf [Γ g] w λr I=>(H=[]/\Ext w I/\r= .tuple #[Δ 0,Δ 0,.bool sp])\/
  ∃a e f,r= .tuple #[Δ a.2,Δ a.1,.bool s2]/\ai S w I/\ep S I g e f/\H.Perm (e++[a])/\f.length=P.length:=by
 refine aE func100 ?_;refine(TV h).Y ?_;rintro _ U _ ⟨s,j⟩;cases ax:H[0]? with
 |none=>
  rw[ax]at j;subst j;rw[fN,fO,fP];refine dd (λab=>Ext w ab) (λab J=>.inl ⟨b8 (Nat.le_zero.1 (List.getElem?_eq_none_iff.1 ax)),J,rfl⟩) λaz x=>?_;rw[bb];exact x _ s
 |some a=>
  rw[ax]at j;subst j;rw[fN,fO,fP];refine dd (λab=>∃e f,ai S w ab/\ep S ab g e f/\H.Perm (e++[a])/\f.length=P.length) (λab ⟨e,f,q⟩=>.inr ⟨a,e,f,rfl,q⟩) λaz x=>?_;rw[bT];refine(Ua (h.W s) ax).Y ?_;rintro _ z _ ⟨e,f,y,q⟩;exact x _ ⟨e,f,(s.aa _).F y,q⟩
end
theorem Uc{α:Type}{step:am×Bool->α->am×Bool}(h:∀s b a,step (s,b) a=((step (s,sp) a).1,(step (s,sp) a).2||b)):∀(L:List α)(s:am)(b:Bool),L.foldl step (s,b)=((L.foldl step (s,sp)).1,(L.foldl step (s,sp)).2||b)
 :=by
 intro a;induction a<;>grind
theorem Ud(s:am)(b:Bool)(v:Int):gm k j pos (s,b) v=((gm k j pos (s,sp) v).1,(gm k j pos (s,sp) v).2||b):=by
 grind [gm]
theorem Ue(s:am)(b:Bool)(j:Nat):eT k (s,b) j=((eT k (s,sp) j).1,(eT k (s,sp) j).2||b):=by
 grind [eT,Uc,qa,Ud]
section
variable{ax:List aB}{w U ab:x5}{af ag m:Nat}{A R:aj}{n:aI}{s s':am}{t:aB}{D D':aj}
theorem dx.Y(h:dx ax w af ag A R n m D s' U)(f:∀r,r<U.heap.size->D r->D' r):dx ax w af ag A R n m D' s' U:=by
 obtain⟨h1,j,aR,bu,q,a,s,x⟩:=h;exact⟨h1,j,aR,bu,q,a,s,λr e=>(x r e).imp id (f r (a.lt (.inl e)))⟩
def j3(k:Int)(j:Nat)(sc:Λ)(s:am)(i:Nat):am×Bool:=(Y9 i).foldl (qa k j sc) (s,sp)
theorem Uf{i:Nat}{sc:Λ}:j3 k j sc s (i+1)=qa k j sc (j3 k j sc s i) i:=by
 grind [j3,List.range_succ]
theorem Ug{α β:Type}{f:β->α->β}{l:List α}{a:α}{b:β}(h:l[j]?=σ a):(l.take (j+1)).foldl f b=f ((l.take j).foldl f b) a:=by
 grind [u9]
theorem Uh{f:bP}(h:bC w af ag A R n s t)(aM:Laid w)(a8:¬A 0)(aC:eo ax t)(ah:s.ho[j]?=σ f):aq x8 Jg [Γ af,Δ (j:Int)] w λr I=>r= .bool (eT n.k (s,sp) j).2/\cz ax w af ag A R n (eT n.k (s,sp) j).1 I:=by
 have bb:=h.2.2.2.1;obtain⟨aN,_,_⟩:=bb.ho f (x7 ah);have bc:eT n.k (s,sp) j=j3 n.k j f.sc s f.sc.length:=by grind [eT,j3]
 rw[bc];refine jh func101 ?_;refine br λg1 U bU aO z=>?_;refine br λbV ab bX ay E=>?_;have bY:=ak.lt z;have bZ:=ak.lt E;refine bF eg.i λL b0 b1 bd be=>?_;refine bs eg.i rfl rfl be (by show 0<1;omega) λb2 bf b4 am=>?_;have am:=am;have an:=bd.put bf Ω;have z:=(ak.W z ay).W an;have E:=ak.W E an;have aP:=(aO.F ay).F an;have b5:=aO.size;have b6:=ay.size;have b7:=an.size;have b8:=z.lt;have b9:=E.lt;have ca:=am.lt;have ae:=rh aM;rw[aF Ψ (z.cell rfl),aF Ψ (E.cell rfl)];refine(l4 (h.W aP) ah).Y ?_;rintro sv H _ ⟨W,gs,cb,az⟩;rw[ba au.u az.ls];have z5:=W.size;have z:=z.W W;have E:=E.W W;refine b3.range f.sc.length (λi B=>dx ax w af ag A R n w.heap.size (λr=>H.heap.size<=r) (j3 n.k j f.sc s i).1 B/\ai (λr=>r<w.heap.size\/H.heap.size<=r\/r=L) H B/\ak B L eg [.bool (j3 n.k j f.sc s i).2]) az.ls.le ⟨dx.start h aM a8 aC (aP.F W) (o6 _),ai.refl _ _,am.W W⟩ ?_ ?_
 .rintro i B bg hi ⟨X,Y,aA⟩ bi;refine bK Ω ?_;obtain⟨u,hu⟩:=aJ (l:=f.sc) hi;have aQ:=x7 hu;have bj:=(aN.scope.1 u aQ).1;have cc:=aN.d9 u aQ;have Z:∀{g:Nat}{e:o4}{cs:List x4},w.heap.size<=g->g<L->ak H g e cs->ak B g e cs:=λcd cf bk=>bk.aa Y Ω;have bl:=(az.aa Y Ω).ls;refine om rfl au.u al.i bl hu λcg ch bm=>?_;rw[aF Ψ bm];refine bF al.i λci cj cl bn bo=>?_;refine bs al.i rfl rfl bo (by show 0<1;omega) λcm bp cn ac=>?_;have ac:=ac;have ap:=bn.put bp Ω;have cp:=Y.size;have cq:=ap.size;have cr:=ac.lt;obtain⟨ct,cu,aS,cw,cA,cB⟩:=X.p6;have bq:=X.2.1.1;have bt:=aS.2.2.2.1;have cC:=bt.d9;obtain⟨x,J⟩:=aJ (l:=(j3 n.k j f.sc s i).1.d9) (i:=u.toNat) Ω;have cD:aY (j3 n.k j f.sc s i).1 u=aG x:=by grind [aY]
  rw[aF Ψ (((Z Ω Ω z).W ap).cell rfl)];refine(jv (aS.W ap)).Y ?_;rintro _ cE _ ⟨⟨b,aU,rfl,aV⟩,aW⟩;refine(mE (n:=aU)).Y ?_;rintro _ O _ ⟨aX,aB,rfl,cF,aZ⟩;have bw:=lr aV bj J;have aD:=aW.F aX;have K:=ap.F aD;have z9:=aW.size;have cG:=aX.size;have cH:=aZ.lt;have bx:j3 n.k j f.sc s (i+1)=(aG x).foldl (gm n.k j i) (j3 n.k j f.sc s i):=by
   grind [Uf,qa]
  have cI:(j3 n.k j f.sc s i)=((j3 n.k j f.sc s i).1,(j3 n.k j f.sc s i).2):=rfl;generalize j3 n.k j f.sc s i=P at*;refine ky.old ⟨_,sp,jG,#[Γ aB],_,_,_,_,λM I=>dx ax w af ag A R n w.heap.size (λr=>H.heap.size<=r/\¬(B.heap.size<=r/\r<O.heap.size)) (((aG x).take M).foldl (gm n.k j i) P).1 I/\ai (λr=>r<w.heap.size\/(H.heap.size<=r/\¬(B.heap.size<=r/\r<O.heap.size))\/r=L) O I/\ak I L eg [.bool (((aG x).take M).foldl (gm n.k j i) P).2],λ_ _ _=>False,rfl,(mD (g:=aB) aV.1).s,?_,
   λ_ _ J h=>⟨h.1.W J,h.2.W J⟩,λ_ _ _ J h=>⟨h.1.W J,h.2.1.F (J.aa _),h.2.2.W J⟩,by grind,⟨aZ,bq.W K⟩,⟨(X.Y Ω).W K,ai.refl _ _,aA.W K⟩,?_,?_,by grind,by grind⟩
  .grind
  .rintro _ M _ cJ ⟨a1,aE⟩ ⟨cK,rfl,v,cL,bz⟩ ⟨Q,q,S⟩;cases bz;intro cM C _ _;have bD:(aG x)[M]?=σ (v:Int):=by grind
   have aH:=Ug (f:=gm n.k j i) (b:=P) bD;generalize cN:((aG x).take M).foldl (gm n.k j i) P=y at Q S aH;obtain⟨cO,cP,a2,bE,bG,bH⟩:=Q.p6;have cQ:=q.size;have z12:=C.size;have aI:=((((Z Ω Ω z).W K).aa q Ω).W C).Qz rfl;have aK:=((((Z Ω Ω E).W K).aa q Ω).W C).Qz rfl;have aL:=(((ac.W aD).aa q Ω).W C).Qz rfl;rw[aF Ψ aI,aF Ψ aK,aF Ψ aL];refine(SC (a2.W C) (aE.W C)).Y ?_;rintro _ V _ ⟨N,ad⟩;have G:=C.F N;have no:gm n.k j i y (v:Int)=y->(ak V aB ce [.int .u64 b,Δ aU]/\Laid V)/\(dx ax w af ag A R n w.heap.size (λr=>H.heap.size<=r/\¬(B.heap.size<=r/\r<O.heap.size)) (((aG x).take (M+1)).foldl (gm n.k j i) P).1 V/\ai (λr=>r<w.heap.size\/(H.heap.size<=r/\¬(B.heap.size<=r/\r<O.heap.size))\/r=L) O V/\ak V L eg [.bool (((aG x).take (M+1)).foldl (gm n.k j i) P).2]):=λe=>by
    refine⟨⟨a1.W G,aE.W G⟩,?_⟩;rw[aH,e];exact⟨Q.W G,q.F (G.aa _),S.W G⟩
   have aj:gm n.k j i y (v:Int)=match ds y.1 j i v with
    |none=>y
    |some (f,_,_)=>if 0<eL n.k y.1 f i v then((bh n.k y.1 (projM j i v (eL n.k y.1 f i v))).1,s2)else y:=rfl
   cases a6:ds y.1 (j:Int) (i:Int) (v:Int)with
   |none=>
    rw[a6]at ad aj;subst ad;rw[bA,bB,bW,ao];refine⟨λh=>Ω,λ_=>?_⟩
    grind
   |some bI=>
    obtain⟨bJ,cR,cS⟩:=bI;rw[a6]at ad aj;simp only[u7]at ad aj;subst ad;rw[bA,bB,bW,ao];refine⟨λa7=>?_,λa7=>?_⟩
    rotate_left
    .grind
    rw[m3 a7]at aj;have aI:=((((((Z Ω Ω z).W K).aa q Ω).W C)).W N).Qz rfl;have aK:=((((((Z Ω Ω E).W K).aa q Ω).W C)).W N).Qz rfl;have aL:=((((ac.W aD).aa q Ω).W C).W N).Qz rfl;rw[aF Ψ aI,aF Ψ aK,aF Ψ aL];have cT:=N.size;refine(zm (a:=projM j i v (eL n.k y.1 bJ i v)) rfl (a2.W G) (aE.W G) bG bE).Y ?_;rintro _ cU _ ⟨rfl,bL,bM,aR,bu,bN,bO,bQ,cV⟩;obtain⟨bR,av,cW⟩:=bH (iF G bL) ((Grow.W G).F bN) bO bQ (λr h=>h) Ω;have cX:=av.size;have bS:=S.aa av Ω;refine bs eg.i rfl rfl bS Ξ λcY aw cZ bT=>?_;refine⟨⟨(a1.aa av Ω).aa aw Ω,iz aw Ω bM⟩,?_,by grind⟩;dsimp only;rw[aH,aj];exact⟨bR.own aw Ω,(q.F (av.Y Ω)).F (aw.Y Ω),bT⟩
  .rintro k c0 rfl ⟨Q,q,S⟩;rw[j5 (by rw[<-bw,r9];exact o6 _),<-bx]at Q S;rw[aT];exact bi _ ⟨Q.Y λr _ h=>h.1,(Y.F (K.aa _)).F (q.Y Ω),S⟩
 .rintro B bg ⟨X,Y,aA⟩;refine ck Ω ?_;rw[aF Ψ (aA.cell rfl)];intro V N _;exact⟨rfl,X.done N⟩
end
section
variable{n:aI}{s:am}
def G1(n:aI)(s:am):Prop:=∀(j:Nat)f,s.ho[j]?=σ f->f.live≠0->∀p,p<f.sc.length->∀v∈aY s (f.sc.getD p 0),¬(0<(vw n s j f p v).1\/(vw n s j f p v).2=ν)
def G2(n:aI)(s:am):Prop:=∀(j:Nat)f,s.ho[j]?=σ f->f.live≠0->f.sc.length=2->∀v∈aY s (f.sc.getD 0 0),¬0<(y9 n s j f v).1
end
section
variable{w:x5}{eO:x4}{n:aI}{s:am}
theorem G3{p:Nat}{f:bP}(a:bc n.k n.d6 s)(ah:s.ho[j]?=σ f)(e:f.live≠0)(ae:p<f.sc.length)(ac:v∈aY s (f.sc.getD p 0)):vw n s j f p v=lv n.k (bz f.an f.cs) (cm s f.sc p v):=by
 unfold vw;rw[Rq ae];refine To λtl h=>?_;obtain⟨m,hm⟩:=rf a (x7 ah) (λu hu=>by rw[r8,hu]at ac;exact ac) h;exact(vD ah e hm).1
end
def dk(pos:Nat)(v w:Int):Λ:=if pos=1 then[w,v]else[v,w]
structure gN(n:aI)(s s':am):Prop where
 ok:bc n.k n.d6 s'
 gJ:bY s'
 same:dH s s'
 val:∀a,iE s a->ej n.k s' a=ej n.k s a
 fh:∀i,aY s' i=aY s i
 zero:s'.zero=s.zero
section
variable{n:aI}{s:am}
theorem gN.rfl(a:bc n.k n.d6 s)(e:bY s):gN n s s:=⟨a,e,.rfl,Ω,λ_=>Eq.refl _,Eq.refl _⟩
theorem gN.F{a b c:am}(h:gN n a b)(g:gN n b c):gN n a c:=
 ⟨g.ok,g.gJ,h.same.F g.same,λx J=>(g.val x (vz h.same J)).F (h.val x J),λi=>(g.fh i).F (h.fh i),g.zero.F h.zero⟩
structure dM(n:aI)(s:am)(j:Nat)(pos:Nat)(f:bP)(i o:Int):Prop where
 ah:s.ho[j]?=σ f
 live:f.live≠0
 len:f.sc.length=2
 p:pos=0\/pos=1
 hi:f.sc[pos]?=σ i
 aC:f.sc[1-pos]?=σ o
theorem dM.rl{f:bP}{i o:Int}(h:dM n s j pos f i o)(r:bc n.k n.d6 s):0<=i/\i<n.d6.length/\0<=o/\o<n.d6.length/\i≠o:=by
 have a:=(r.ho f (x7 h.ah)).1;have h1:=x7 h.hi;have q:=x7 h.aC;refine⟨(a.scope.1 _ h1).1,a.d9 _ h1,(a.scope.1 _ q).1,a.d9 _ q,λe=>?_⟩;have w:f.sc.Pairwise (·< ·):=a.up;have x:=h.len;rw[V8]at w;have y:=(x6.1 h.hi);have z:=(x6.1 h.aC)
 grind
theorem vU:(dk pos v w).length=2:=by grind [dk]
theorem G4(ae:pos=0\/pos=1):(dk pos v w)[pos]?=σ v/\(dk pos v w)[1-pos]?=σ w:=by
 grind [dk]
theorem G5{f:bP}{i o x:Int}(h:dM n s j pos f i o)(ac:v∈aY s i)(hw:w∈aY s o):(dk pos v w∈cm s f.sc pos x↔v=x)/\(dk pos v w∈cm s f.sc (1-pos) x↔w=x):=by
 obtain⟨r,y⟩:=G4 (v:=v) (w:=w) h.p;have key:∀(q:Nat)u b,f.sc[q]?=σ u->(dk pos v w)[q]?=σ b->(q=pos/\b=v/\u=i)\/(q=1-pos/\b=w/\u=o):=λq u b hu a=>by
  have z:=(x6.1 a).1;rw[vU]at z;by_cases e:q=pos
  .subst e;rw[r]at a;have hi:=h.hi
   grind
  .have A:q=1-pos:=by grind [dM.p]
   subst A;rw[y]at a;have aC:=h.aC
   grind
 have B:pos≠1-pos:=Ω
 refine⟨⟨λhm=>?_,λe=>?_⟩,⟨λhm=>?_,λe=>?_⟩⟩
 .grind [oM]
 .subst e;refine oM.2 ⟨vU.F h.len.symm,λq u b hu a=>?_⟩
  grind
 .grind [oM]
 .subst e;refine oM.2 ⟨vU.F h.len.symm,λq u b hu a=>?_⟩
  grind
theorem G6{f:bP}{i o:Int}(h:dM n s j pos f i o)(a:bc n.k n.d6 s)(ac:v∈aY s i)(hw:w∈aY s o):∃m:Nat,cr f.an (dk pos v w) 0=σ (m:Int):=
 rf a (x7 h.ah) (λu hu=>by have:=h.hi;grind) ((G5 (x:=v) h ac hw).1.2 rfl)
theorem G7{i:Int}(a:bc n.k n.d6 s)(h:0<=i)(ac:v∈aY s i)(e:∀x,s.d9[i.toNat]?=σ x->x.gone=0):∃x,dD s i v=σ x/\s.d9[i.toNat]?=σ x/\bM n s i v=x.un.getD v.toNat 0/\eB n i v/\v.toNat<x.un.length:=by
 unfold aY at ac;cases J:s.d9[i.toNat]? with
 |none=>grind
 |some x=>
  rw[J]at ac;have j:v∈aG x:=ac;have q:=e x J;have r:=(x6.1 J).1;have w:=a.d9;obtain⟨z,f⟩:=aJ (l:=n.d6) (i:=i.toNat) Ω;have y:=(a.var i.toNat x z J f).1
  grind [fu,eB,dD,bM,fs]
theorem Ui{f:bP}{i o:Int}{x:bo}(h:dM n s j pos f i o)(ac:dD s i v=σ x):ds s (j:Int) (pos:Int) v=σ (f,i,x):=by
 unfold ds;rw[m3 ⟨Ω,Ω⟩,u7,h.ah];simp only;rw[m3 h.live,u7,h.hi]
 grind
theorem dM.flip{f:bP}{i o:Int}(h:dM n s j pos f i o):dM n s j (1-pos) f o i:=⟨h.ah,h.live,h.len,Ω,h.aC,by have:=h.p;grind [dM.hi]⟩
theorem Uj(ae:pos=0\/pos=1):dk (1-pos) w v=dk pos v w:=by
 grind [dk]
def fa(b:Bool)(j pos:Nat)(v c:Int):fH:=⟨if b then 1 else 0,j,pos,v,c⟩
theorem G8{f:bP}{i o c:Int}{b:Bool}(h:dM n s j pos f i o)(z:bc n.k n.d6 s)(G:bY s)(ac:v∈aY s i)(B:0<=c/\c<=n.k)(H:if b then c<=bM n s i v else∀w∈aY s o,c<=dY s j (dk pos v w)):
  gN n s (bh n.k s (fa b j pos v c)).1/\(∃g,dM n (bh n.k s (fa b j pos v c)).1 j pos g i o)/\
  (∀A∈aY s i,∀w∈aY s o,dY (bh n.k s (fa b j pos v c)).1 j (dk pos A w)=if A=v then(if b then b2 n.k (dY s j (dk pos A w)) c else cJ n.k (dY s j (dk pos A w)) c)else dY s j (dk pos A w))/\
  ∀r u,0<=r->0<=u->bM n (bh n.k s (fa b j pos v c)).1 r u=if r=i/\u=v then(if b then cJ n.k (bM n s i v) c else b2 n.k (bM n s i v) c)else bM n s r u:=by
 have R:=h.rl z;have I:=x7 h.ah;have S:∀x,s.d9[i.toNat]?=σ x->x.gone=0:=G f I h.live i (x7 h.hi);obtain⟨x,T,J,U,V,ab⟩:=G7 z R.1 ac S;have ae:=Ui h T;have ad:0<=v:=V.2.2.1;obtain⟨tup,un,C⟩:∃tup un:Int->Int,bh n.k s (fa b j pos v c)=(fv s j f pos i.toNat x v tup un,0)/\tup=(if b then λg=>b2 n.k g c else λg=>cJ n.k g c)/\un=(if b then λg=>cJ n.k g c else λg=>b2 n.k g c):=by
  cases b with
  |true=>
   refine⟨_,_,?_,rfl,rfl⟩;have K:c<=bM n s i v:=by grind
   rw[U]at K;have q:=(y7 (k:=n.k) (a:=fa s2 j pos v c) ae).2.2.2 rfl B K
   grind [fa]
  |false=>
   refine⟨_,_,?_,rfl,rfl⟩;have H:∀w∈aY s o,c<=dY s j (dk pos v w):=by grind
   have q:=(y7 (k:=n.k) (a:=fa sp j pos v c) ae).2.1 rfl B (room_le.2 ⟨B.2,λt L=>?_⟩)
   .grind [fa]
   .have L:t∈cm s f.sc pos v:=by grind [fa]
    obtain⟨af,M⟩:=oM.1 L;have ag:=h.len;obtain⟨w,hw⟩:=aJ (l:=t) (i:=1-pos) Ω;obtain⟨y,W⟩:=aJ (l:=t) (i:=pos) (by have:=h.p;omega);have h1:=M pos i y h.hi W;rw[m3 rfl]at h1;have E:=M (1-pos) o w h.aC hw;rw[m5 (by have:=h.p;omega)]at E;have e:t=dk pos v w:=by
     obtain⟨ai,aj⟩:=G4 (v:=v) (w:=w) h.p;refine Y2 λq=>?_
     grind [vU]
    obtain⟨m,hm⟩:=G6 h z ac E;have N:=H w E;rw[(vD h.ah h.live hm).1]at N;rw[e];exact N
 obtain⟨C,ak,al⟩:=C;have hm:=vu (m:=fa b j pos v c) z G;have F:=vy (m:=fa b j pos v c) z;rw[C]at hm F ⊢;obtain⟨O,P,X⟩:=hm;simp only at O P X F ⊢;have Y:∀r,aY (fv s j f pos i.toNat x v tup un) r=aY s r:=y6 J;have Z:=(x6.1 h.ah).1;have Q:(fv s j f pos i.toNat x v tup un).ho[j]?=σ {f with cs:=ek tup (cm s f.sc pos v) f.an f.cs}:=Z6 Z;obtain⟨am,ao⟩:=kR z I;refine⟨⟨O,P,F,λa ap=>?_,Y,rfl⟩,⟨_,Q,h.live,h.len,h.p,h.hi,h.aC⟩,λA aa w hw=>?_,λr u aq hu=>?_⟩
 .grind [nW,fa]
 .obtain⟨m,hm⟩:=G6 h z aa hw;rw[(vD Q h.live hm).1,(vD h.ah h.live hm).1]
  grind [FD,G5]
 grind [zy]
end
def fi(s:am)(j pos:Nat)(need:Int->Int)(N:Λ)(w:Int):Int:=N.foldl (λm v=>max m (need v-dY s j (dk pos v w))) 0
theorem Uk{g:Int->Int}{c:Int}:∀(l:Λ)(z:Int),l.foldl (λm v=>max m (g v)) z<=c↔z<=c/\∀v∈l,g v<=c
 :=by
 intro a;induction a<;>grind
theorem vV{s:am}{need:Int->Int}{N:Λ}{c:Int}:fi s j pos need N w<=c↔0<=c/\∀v∈N,need v-dY s j (dk pos v w)<=c:=Uk N 0
theorem G9{s:am}{need:Int->Int}{N:Λ}:0<=fi s j pos need N w/\∀v∈N,need v-dY s j (dk pos v w)<=fi s j pos need N w:=vV.1 (T3 _)
theorem Ul{s s':am}{need:Int->Int}:∀{N:Λ}(z:Int),(∀v∈N,dY s' j (dk pos v w)=dY s j (dk pos v w))->N.foldl (λm v=>max m (need v-dY s' j (dk pos v w))) z=N.foldl (λm v=>max m (need v-dY s j (dk pos v w))) z
 :=by
 intro a;induction a<;>grind
def gn(n:aI)(j pos:Nat)(need:Int->Int)(N:Λ):Λ->am->am
 |[],s=>s
 |w::L,s=>gn n j pos need N L (bh n.k s (fa s2 j (1-pos) w (fi s j pos need N w))).1
def ku(n:aI)(j pos:Nat)(need:Int->Int):Λ->am->am
 |[],s=>s
 |v::M,s=>ku n j pos need M (bh n.k s (fa sp j pos v (need v))).1
section
variable{n:aI}
theorem Ha{j pos:Nat}{i o:Int}{need:Int->Int}{N:Λ}:∀(L:Λ)(s:am)(f:bP),dM n s j pos f i o->bc n.k n.d6 s->bY s->L.Nodup->(∀w∈L,w∈aY s o/\fi s j pos need N w<=bM n s o w)->(∀v∈N,v∈aY s i)->
  gN n s (gn n j pos need N L s)/\(∃g,dM n (gn n j pos need N L s) j pos g i o)/\
  (∀v∈aY s i,∀w∈aY s o,dY (gn n j pos need N L s) j (dk pos v w)=if w∈L then b2 n.k (dY s j (dk pos v w)) (fi s j pos need N w)else dY s j (dk pos v w))/\
  ∀a u,0<=a->0<=u->bM n (gn n j pos need N L s) a u=if a=o/\u∈L then cJ n.k (bM n s o u) (fi s j pos need N u)else bM n s a u
 |[],s,f,h,q,y,_,_,_=>⟨.rfl q y,⟨f,h⟩,λ_ _ _ _=>(m5 Ξ).symm,λ_ _ _ _=>(m5 Ξ).symm⟩
 |w::L,s,f,h,q,y,C,E,K=>by
  obtain⟨hw,F⟩:=E w (.head _);obtain⟨M,G⟩:=List.nodup_cons.1 C;have O:=(kQ (n:=n) (s:=s) (i:=o) (v:=w) q).2;obtain⟨r,⟨g,x⟩,A,z⟩:=G8 (b:=s2) (v:=w) (c:=fi s j pos need N w) h.flip q y hw ⟨G9.1,Ω⟩ F;have x:dM n (bh n.k s (fa s2 j (1-pos) w (fi s j pos need N w))).1 j pos g i o:=by
   have:=x.flip
   grind [dM.p]
  have A:∀v∈aY s i,∀I∈aY s o,dY (bh n.k s (fa s2 j (1-pos) w (fi s j pos need N w))).1 j (dk pos v I)=if I=w then b2 n.k (dY s j (dk pos v I)) (fi s j pos need N w)else dY s j (dk pos v I):=by grind [Uj,dM.p]
  have z:∀a u,0<=a->0<=u->bM n (bh n.k s (fa s2 j (1-pos) w (fi s j pos need N w))).1 a u=if a=o/\u=w then cJ n.k (bM n s o w) (fi s j pos need N w)else bM n s a u:=z;have e:gn n j pos need N (w::L) s=gn n j pos need N L (bh n.k s (fa s2 j (1-pos) w (fi s j pos need N w))).1:=rfl;rw[e];generalize (bh n.k s (fa s2 j (1-pos) w (fi s j pos need N w))).1=s1 at r x A z;have P:∀I∈L,I∈aY s o->fi s1 j pos need N I=fi s j pos need N I:=λI B Q=>by
   have R:I≠w:=by grind
   refine Ul 0 λv ac=>?_
   grind
  have S:=h.rl q;have T:∀I∈aY s o,0<=I:=by grind [vx]
  obtain⟨H,J,U,V⟩:=Ha (need:=need) (N:=N) L s1 g x r.ok r.gJ G (λI B=>by
   grind [gN.fh]) (by grind [gN.fh])
  refine⟨r.F H,J,λv ac I B=>?_,λa u W hu=>?_⟩
  all_goals grind [gN.fh]
theorem Hb{j pos:Nat}{i o:Int}{need:Int->Int}:∀(M:Λ)(s:am)(f:bP),dM n s j pos f i o->bc n.k n.d6 s->bY s->M.Nodup->(∀v∈M,v∈aY s i/\(0<=need v/\need v<=n.k)/\∀w∈aY s o,need v<=dY s j (dk pos v w))->
  gN n s (ku n j pos need M s)/\(∃g,dM n (ku n j pos need M s) j pos g i o)/\∀a u,0<=a->0<=u->bM n (ku n j pos need M s) a u=if a=i/\u∈M then b2 n.k (bM n s i u) (need u)else bM n s a u
 |[],s,f,h,q,z,_,_=>⟨.rfl q z,⟨f,h⟩,λ_ _ _ _=>(m5 Ξ).symm⟩
 |v::M,s,f,h,q,z,E,F=>by
  obtain⟨ac,G,H⟩:=F v (.head _);obtain⟨O,I⟩:=List.nodup_cons.1 E;obtain⟨r,⟨g,B⟩,A,x⟩:=G8 (b:=sp) (v:=v) (c:=need v) h q z ac G H;have A:∀y∈aY s i,∀w∈aY s o,dY (bh n.k s (fa sp j pos v (need v))).1 j (dk pos y w)=if y=v then cJ n.k (dY s j (dk pos y w)) (need v)else dY s j (dk pos y w):=A;have x:∀a u,0<=a->0<=u->bM n (bh n.k s (fa sp j pos v (need v))).1 a u=if a=i/\u=v then b2 n.k (bM n s i v) (need v)else bM n s a u:=x;have e:ku n j pos need (v::M) s=ku n j pos need M (bh n.k s (fa sp j pos v (need v))).1:=rfl;rw[e];generalize (bh n.k s (fa sp j pos v (need v))).1=s1 at r B A x;have P:=h.rl q;obtain⟨J,K,L⟩:=Hb (need:=need) M s1 g B r.ok r.gJ I λu hu=>by
   grind [gN.fh]
  refine⟨r.F J,K,λa u C hu=>?_⟩;rw[L a u C hu];by_cases N:a=i/\u∈M
  .have Q:u≠v:=by grind
   grind
  .rw[m5 N,x a u C hu]
   grind
def jB(n:aI)(s:am)(j pos:Nat)(o v:Int):Int:=(dC n.k (aY s o) (jx n s j pos v o)).1
def dN(n:aI)(s:am)(j pos:Nat)(i o:Int):Λ:=(aY s i).filter λv=>decide (0<jB n s j pos o v)
def lB(n:aI)(s:am)(j pos:Nat)(i o:Int)(M:Λ):am:=ku n j pos (jB n s j pos o) M (gn n j pos (jB n s j pos o) (dN n s j pos i o) (aY s o) s)
theorem Hc{s:am}{i:Int}:(aY s i).Nodup:=by
 grind [aY,p0]
theorem Um{s:am}{o:Int}:jx n s j pos v o w=min (dY s j (dk pos v w)+bM n s o w) n.k:=by
 grind [jx,dk]
theorem Un{s:am}{i o:Int}{f:bP}{M:Λ}(h:dM n s j pos f i o)(a:bc n.k n.d6 s)(B:bY s)(r:M.Perm (dN n s j pos i o)):
  gN n s (lB n s j pos i o M)/\∀e u,0<=e->0<=u->bM n (lB n s j pos i o M) e u=if e=i/\u∈dN n s j pos i o then b2 n.k (bM n s i u) (jB n s j pos o u)else if e=o/\u∈aY s o then cJ n.k (bM n s o u) (fi s j pos (jB n s j pos o) (dN n s j pos i o) u)else bM n s e u:=by
 have hk:=a.eI;have H:=h.rl a;have x:∀v∈dN n s j pos i o,v∈aY s i:=λv ac=>(S6.1 ac).1;have C:∀v,∀w∈aY s o,w≠ -1/\jx n s j pos v o w<=n.k:=λv w hw=>⟨by have:=(vx a hw).1;omega,(y8 a).2⟩;have y:∀v,(0<=jB n s j pos o v/\jB n s j pos o v<=n.k)/\∀w∈aY s o,jB n s j pos o v<=dY s j (dk pos v w)+bM n s o w:=λv=>by
  refine⟨vv Ω λw _=>y8 a,λw hw=>?_⟩;have:=((FZ (c:=jB n s j pos o v) (C v)).1 (T3 _)).2 w hw
  grind [Um]
 obtain⟨q,⟨g,z⟩,A,E⟩:=Ha (need:=jB n s j pos o) (N:=dN n s j pos i o) (aY s o) s f h a B Hc (λw hw=>⟨hw,vV.2 ⟨(kQ a).1,λv _=>by have:=(y v).2 w hw;omega⟩⟩) x;have F:M.Nodup:=(r.nodup_iff).2 (Hc.sublist List.filter_sublist);unfold lB;generalize gn n j pos (jB n s j pos o) (dN n s j pos i o) (aY s o) s=s1 at q z A E;obtain⟨G,_,I⟩:=Hb (need:=jB n s j pos o) M s1 g z q.ok q.gJ F λv ac=>by
  have ac:=r.mem_iff.1 ac;refine⟨by grind [gN.fh],(y v).1,λw hw=>?_⟩;rw[q.fh]at hw;rw[A v (x v ac) w hw,m3 hw];have h1:=G9 (s:=s) (j:=j) (pos:=pos) (need:=jB n s j pos o) (N:=dN n s j pos i o) (w:=w)
  grind [b2]
 refine⟨q.F G,λe u J hu=>?_⟩
 grind
end
section
variable{n:aI}{s:am}
def rm(n:aI)(s:am):Prop:=∀(j:Nat)f i o,dM n s j 0 f i o->dN n s j 0 i o=[]
def ng(n:aI)(O:List Nat)(s:am)(r:am×Bool×Bool):Prop:=
 if(dJ n O s).2.2=s2\/(dJ n O s).2.1=s2 then r=dJ n O s else
 (rm n s/\r=(s,sp,sp))\/∃(j:Nat)(f:bP)(i o:Int)(M:Λ),dM n s j 0 f i o/\dN n s j 0 i o≠[]/\M.Perm (dN n s j 0 i o)/\r=(lB n s j 0 i o M,s2,sp)
theorem gN.zz{s':am}(h:gN n s s'):fw n.k n.d6 s s':=⟨h.ok,h.gJ,h.same,h.val,by grind [gN.fh],by grind [gN.zero]⟩
theorem gN.Uo{s':am}(h:gN n s s'):eM n.k s'=eM n.k s:=by unfold eM;rw[GR h.same h.fh,h.zero]
theorem Up{i:Nat}(a:iP n s)(e:bc n.k n.d6 s)(hi:i<n.d6.length)(f:dh s i=sp)(ac:v∈aY s (i:Int)):bM n s (i:Int) v<n.k:=by
 have:=(a i hi (by grind)).2.2 v ac;have h:=e.zero.1
 grind [b2]
theorem dM.there{f:bP}{i o:Int}(h:dM n s j pos f i o)(a:bY s):dh s i.toNat=sp:=by
 have:=a f (x7 h.ah) h.live i (x7 h.hi)
 grind [dh]
theorem dM.up{f:bP}{i o:Int}(h:dM n s j 0 f i o)(e:bc n.k n.d6 s):i<o:=by
 have a:f.sc.Pairwise (·< ·):=(e.ho f (x7 h.ah)).1.up;have q:=h.len;rw[V8]at a;have r:=(x6.1 h.hi).2;have w:=(x6.1 h.aC).2;have:=a 0 1 Ω Ω Ω
 grind
theorem Hd{r:am×Bool×Bool}(a:bc n.k n.d6 s)(y:bY s)(h:ng n O s r):fw n.k n.d6 s r.1/\(r.2.2=s2->r.2.1=sp/\∃i<n.d6.length,dh s i=sp/\aY r.1 (i:Int)=[])/\
  (r.2.2=sp->r.2.1=s2->gM n r.1<gM n s)/\(r.2.2=sp->r.2.1=sp->r.1=s/\iP n s/\rk n O s/\rm n s):=by
 obtain⟨h1,L,N,F⟩:=GS (n:=n) (O:=O) a y;unfold ng at h;by_cases G:(dJ n O s).2.2=s2\/(dJ n O s).2.1=s2
 .grind
 rw[m5 G]at h;have he:(dJ n O s).2.2=sp:=by grind
 have H:(dJ n O s).2.1=sp:=by grind
 obtain⟨_,A,P⟩:=F he H;rcases h with⟨Q,rfl⟩|⟨j,f,i,o,M,e,I,J,rfl⟩
 .grind
 obtain⟨x,B⟩:=Un e a y J;refine⟨x.zz,by grind,λ_ _=>?_,by grind⟩;have K:=e.rl a;have R:=e.up a;have S:=e.there y;obtain⟨i,rfl⟩:=W9 K.1;have C:i<n.d6.length:=Ω
 show gM n (lB n s j 0 (i:Int) o M)<gM n s;have T:∀v,0<=jB n s j 0 o v:=λv=>(vv (by have:=a.eI;omega) λw _=>y8 a).1;refine GO (i:=i) x.Uo A a x.ok x.fh C (λq U v ac=>?_) ?_
 .rw[B q v Ω (vx a ac).1];by_cases h1:(q:Int)=(i:Int)/\v∈dN n s j 0 (i:Int) o
  .rw[m3 h1];have:=(kQ (n:=n) (s:=s) (i:=(i:Int)) (v:=v) a).2
   grind [b2]
  grind
 .obtain⟨v,ac⟩:=List.exists_mem_of_ne_nil _ I;obtain⟨z,E⟩:=S6.1 ac;have E:=rs E;refine⟨v,z,?_⟩;rw[B i v Ω (vx a z).1,m3 ⟨rfl,ac⟩];have:=Up A a C (by grind [u7]) z
  grind [b2]
theorem Uq{r:am×Bool×Bool}(q:bc n.k n.d6 s)(h:iP n s)(w:rk n O s)(x:rm n s)(a:ng n O s r):r=(s,sp,sp):=by
 unfold ng at a;rw[TM q h w]at a;rw[m5 Ξ]at a;rcases a with⟨_,e⟩|⟨j,f,i,o,M,y,z,_⟩
 .exact e
 .exact m6 (x j f i o y) z
end
theorem Ur{of:Λ->Int}{l:List (Λ)}(h:∀t∈l,of t<=k):(lv k of l).1=(l.map of).foldl min k/\((lv k of l).2=ν↔l=[]):=by
 unfold lv;have key:∀(l:List (Λ))(c:Int)(t:Λ),(l.foldl (simpStep of) (c,σ t)).1=(l.map of).foldl min c/\(l.foldl (simpStep of) (c,σ t)).2≠ν:=λl=>by
  induction l<;>grind [simpStep]
 cases l<;>grind [simpStep]
section
variable{n:aI}{s:am}
theorem Us(a:bc n.k n.d6 s)(r:bY s)(w:∀(j:Nat)f,s.ho[j]?=σ f->f.live≠0->j∈O):rk n O s↔ ∀(j:Nat)f,s.ho[j]?=σ f->f.live≠0->∀(pos:Nat)i,f.sc[pos]?=σ i->∀v∈aY s i,(lv n.k (bz f.an f.cs) (cm s f.sc pos v)).1<=0/\(lv n.k (bz f.an f.cs) (cm s f.sc pos v)).2≠ν:=by
 have hk:=a.eI;have key:∀(j:Nat)f,s.ho[j]?=σ f->f.live≠0->∀(pos:Nat)i,f.sc[pos]?=σ i->∀v∈aY s i,(nZ n.k s j pos v=0↔(lv n.k (bz f.an f.cs) (cm s f.sc pos v)).1<=0/\(lv n.k (bz f.an f.cs) (cm s f.sc pos v)).2≠ν):=λj f ah e pos i hi v ac=>by
  have q:=x7 ah;have y:=((a.ho f q).1.scope.1 i (x7 hi)).1;obtain⟨x,z,_⟩:=G7 a y ac (r f q e i (x7 hi));have ae:ds s (j:Int) (pos:Int) v=σ (f,i,x):=by
   grind [ds]
  obtain⟨A,B⟩:=Ur (k:=n.k) (of:=bz f.an f.cs) (l:=cm s f.sc pos v) λt _=>(nV a q).2;have C:=GP (pos:=pos) (v:=v) a q
  grind [nZ,eL]
 constructor
 .intro h j f ah e pos i hi v ac;refine(key j f ah e pos i hi v ac).1 (h j (w j f ah e) f ah pos (List.mem_range.2 (x6.1 hi).1) v ?_)
  grind
 .intro h j E f ah pos F v ac
  grind [nZ,ds,u7]
end
structure Ut(P:am->Prop)(n:aI)(s:am)(q:am×Bool×Bool):Prop where
 a8:fw n.k n.d6 s q.1
 emp:q.2.2=s2->q.2.1=sp/\∃i<n.d6.length,dh s i=sp/\aY q.1 (i:Int)=[]
 less:q.2.2=sp->q.2.1=s2->gM n q.1<gM n s
 same:q.2.2=sp->q.2.1=sp->q.1=s/\iP n s/\P s
 quiet:iP n s->P s->q=(s,sp,sp)
section
variable{n:aI}{s:am}
def zE(s:am)(O:List Nat):Prop:=∀(j:Nat)f,s.ho[j]?=σ f->f.live≠0->j∈O
theorem He(e:bc n.k n.d6 s)(q:bY s)(r:zE s O):rk n O s↔G1 n s:=by
 rw[Us e q r];constructor
 .intro h j f ah a p ae v ac x
  grind [G3]
 .intro h j f ah a p i hi v ac;have ae:=(x6.1 hi).1;have w:v∈aY s (f.sc.getD p 0):=by grind
  have y:=h j f ah a p ae v w
  grind [G3]
theorem Hf:G2 n s↔rm n s:=by
 constructor
 .intro h j f i o e;unfold dN;rw[List.filter_eq_nil_iff];intro v ac y;have z:=rs y;have C:f.sc.getD 0 0=i:=by rw[r8,e.hi];rfl
  have A:f.sc.getD 1 0=o:=by rw[r8,show f.sc[1]?=σ o from e.aC];rfl
  refine h j f e.ah e.live e.len v (by grind) ?_;unfold y9;rw[A];exact z
 .intro h j f ah B x v ac r;obtain⟨a,b,q⟩:∃a b,f.sc=[a,b]:=by
   match E:f.sc,x with
   |[a,b],_=>grind
  have w:=h j f a b ⟨ah,B,x,.inl rfl,by rw[q];rfl,by rw[q];rfl⟩;unfold dN at w;rw[List.filter_eq_nil_iff]at w;rw[q]at ac;refine w v ac (ms ?_);unfold y9 at r;rw[q]at r;exact r
def vW(n:aI)(s:am):Prop:=G2 n s/\G1 n s
theorem Uu{r:am×Bool×Bool}(e:bc n.k n.d6 s)(f:bY s)(j:zE s O)(h:ng n O s r):Ut (vW n) n s r:=by
 obtain⟨q,w,x,y⟩:=Hd e f h;refine⟨q,w,x,λh1 a=>?_,λh1 a=>Uq e h1 ((He e f j).2 a.2) (Hf.1 a.1) h⟩;obtain⟨z,A,C,B⟩:=y h1 a;exact⟨z,A,Hf.2 B,by grind [He]⟩
end
def ix(s:am)(m:Nat):List Nat:=(Y9 m).filter (e0 s)
theorem Hg{s:am}{m:Nat}:ix s (m+1)=ix s m++if e0 s m=s2 then[m]else[]:=by
 grind [ix,List.range_succ]
theorem Uv{s:am}(h:O.Perm (ix s s.ho.length)):zE s O:=λj f ah a=>by
 refine h.symm.subset (S6.2 ⟨List.mem_range.2 (x6.1 ah).1,?_⟩)
 grind [e0]
theorem Uw{s:am}:∀m,(ix s m).length<=m:=λm=>by
 have:=List.length_filter_le (e0 s) (Y9 m);rw[List.length_range]at this;exact this
open Classical in
theorem lH.sink{b c:x4}{w:x5}{B:x4->x4->x4->x5->(x4->x4->x4->x5->Prop)->Prop}(az:Nat->x4->x5->Prop){m:Nat}(r:az m c w)(V:∀(m:Nat)(a b c:x4)(I:x5)(k:x4->x4->x4->x5->Prop),az m c I->(∀bV a b c f,bV<m->az bV c f->k a b c f)->B a b c I k):lH a b c w B:=by
 have j:∀{c:x4}{w:x5},(∃m,az m c w)->∃m,az m c w/\∀k,az k c w->m<=k:=λ⟨m,h⟩=>GV (P:=λm=>az m _ _) m h;refine⟨λ_ _ c w=>∃m,az m c w,λ_ _ c w=>if h:∃m,az m c w then Classical.choose (j h)else 0,⟨m,r⟩,λa b c I q=>?_⟩;obtain⟨h1,s⟩:=Classical.choose_spec (j q);refine V _ a b c I _ h1 λbV _ _ x f y e=>⟨⟨bV,e⟩,?_⟩;have z:=(Classical.choose_spec (j ⟨bV,e⟩)).2 bV e;show dite _ _ _<dite _ _ _;rw[dif_pos q,dif_pos ⟨bV,e⟩];omega
section
variable{ax:List aB}{w:x5}{af ag:Nat}{A R:aj}{n:aI}{s:am}{t:aB}
theorem Ux(h:bC w af ag A R n s t)(ah:s.ho.length<=1000000):aq x8 Je [Γ af] w λr I=>∃g H P,r=Γ g/\Ext w I/\ep (λr=>w.heap.size<=r/\r<I.heap.size) I g H P/\(mc H).Perm ((ix s s.ho.length).map λj:Nat=>(j:Int)):=by
 refine aE func99 ?_;refine(q6 h).Y ?_;rintro _ U _ ⟨rfl,B⟩;have ak:=B.size;refine(TY (S:=λr=>w.heap.size<=r) ah Ω).Y ?_;rintro _ ab _ ⟨g,rfl,E,al,N⟩;refine(q6 (h.W (B.F E))).Y ?_;rintro _ am _ ⟨rfl,G⟩;have O:=(B.F E).F G;refine b3.range s.ho.length (λi z=>Ext w z/\∃H P,ep (λr=>w.heap.size<=r) z g H P/\P.length=s.ho.length/\(mc H).Perm ((ix s i).map λj:Nat=>(j:Int))) Ω ⟨O,[],_,N.W G,Ξ,.refl _⟩ ?_ ?_
 .rintro i z Q hi ⟨q,H,P,x,J,ae⟩ an;refine bK Ω ?_;have z4:=q.size;refine dd (λC=>Ext w C/\∃H P,ep (λr=>w.heap.size<=r) C g H P/\P.length=s.ho.length/\(mc H).Perm ((ix s (i+1)).map λj:Nat=>(j:Int))) ?_ λaz K=>?_
  .rintro C ao;rw[aT]
   grind
  refine(sO (j:=(i:Int)) (h.W q)).Y ?_;rintro _ ap _ ⟨rfl,y⟩;rw[ms Ω,S7,u7,b4];refine⟨λV=>?_,λV=>K _ ⟨q.F y,H,P,x.W y,J,by grind [Hg]⟩⟩;obtain⟨f,W⟩:=aJ (l:=s.ho) hi;refine(l4 (h.W (q.F y)) W).Y ?_;rintro sv av _ ⟨L,gs,aw,X⟩;rw[ba au.u X.ls];have M:=(q.F y).F L;have ax:=M.size;have Y:P[i]?=σ (-1):=by
   obtain⟨v,ac⟩:=aJ (l:=P) (i:=i) Ω;rcases x.1.1.pl i v ac with e|⟨j,a,_,Z,e⟩
   .rw[ac,e]
   .have:(i:Int)∈mc H:=l9.2 ⟨a,x7 Z,e⟩;obtain⟨k,hk,ay⟩:=l9.1 (ae.subset this);have:=List.mem_range.1 (S6.1 hk).1;omega
  have aA:H.length<=i:=by
   grind [S0.length_eq,Uw,mc,r9]
  refine(TZ ((x.W y).W L) Y Ω Ω Ω).Y ?_;rintro _ aB _ ⟨aa,ad,ai,aj,aC,aD⟩;refine K _ ⟨M.then ai Ω,aa,ad,aj,Ω,?_⟩
  grind [Hg,mc]
 .rintro z Q ⟨q,H,P,x,J,ae⟩;refine ck Ω ?_;exact⟨g,H,P,rfl,q,x.Y Ω,ae⟩
def Uy(ax:List aB)(w:x5)(af ag:Nat)(A R:aj)(n:aI)(s:am)(r:x4)(I:x5):Prop:=∃O:List Nat,O.Perm (ix s s.ho.length)/\zB ax w af ag A R n (dJ n O s) r I
theorem Hh{s':am}(h:dH s s'):ix s' s'.ho.length=ix s s.ho.length:=by
 unfold ix;rw[h.ho];refine List.filter_congr λj a=>?_;have a:=List.mem_range.1 a;have r:=h.ho;obtain⟨f,ah⟩:=aJ (l:=s.ho) a;obtain⟨q,e⟩:=aJ (l:=s'.ho) (i:=j) Ω;unfold e0;rw[ah,e];simp only;rw[(h.fn j f q ah e).2.2.1]
theorem Uz(h:bC w af ag A R n s t)(X:Laid w)(Y:¬A 0)(aC:eo ax t)(C:bY s)(ah:s.ho.length<=1000000):aq x8 IF [Γ af] w (Uy ax w af ag A R n s):=by
 have G:=h.2.2.2.1;refine aE func53 ?_;refine(TQ h X Y aC C).Y ?_;rintro _ U _ ⟨rfl,I⟩;obtain⟨z,_⟩:=GD (n:=n) G C;rw[bA,bB];generalize aV:fI n s=q at I z;have M:∀O,dJ n O s=if q.2.2=s2\/q.2.1=s2 then q else((O.foldl (eT n.k) (q.1,sp)).1,(O.foldl (eT n.k) (q.1,sp)).2,sp):=by grind [dJ]
 refine a6 (λv ab=>U=ab/\v= .bool (q.2.2||q.2.1)) ?_ λaz aW=>?_
 rotate_left
 .rw[bO,ao]
  grind
 rintro _ _ ⟨rfl,rfl⟩;rw[b4];refine⟨λy=>⟨_,.refl _,?_⟩,λy=>?_⟩
 .have e:=M (ix s s.ho.length);rw[m3 (by simpa using y)]at e;rw[e];exact⟨rfl,I⟩
 rw[T4]at y;obtain⟨Z,aX,ac,aY,aZ,a1,ad⟩:=I.open;have ai:=Hh z.same;have a2:=z.same.ho;refine(Ux ac Ω).Y ?_;rintro _ J _ ⟨g,H,P,rfl,aj,ak,N⟩;rw[ai]at N;have z3:=aj.size;refine lH.sink (λm c E=>∃(B:List (Int×Int))(Q:Λ)(x:List Nat),B.length=m/\ep (λr=>U.heap.size<=r/\r<J.heap.size) E g B Q/\(x.map (λj:Nat=>(j:Int))++mc B).Perm ((ix s s.ho.length).map λj:Nat=>(j:Int))/\c= .bool (x.foldl (eT n.k) (q.1,sp)).2/\
   dx ax U af ag Z R n U.heap.size (λr=>J.heap.size<=r) (x.foldl (eT n.k) (q.1,sp)).1 E/\J.heap.size<=E.heap.size) ⟨H,P,[],rfl,ak,N,by grind,by grind [dx.start],o6 _⟩ ?_
 rintro m al am _ E an ⟨B,Q,x,rfl,ap,ae,rfl,S,a7⟩ au;have av:=(s8 (λj s b G C=>GQ G C) x q.1 sp z.ok z.gJ).1;refine(Ub ap).Y ?_;rintro _ a8 _ (⟨rfl,aw,rfl⟩|⟨a,K,ay,rfl,T,aA,aB,ba⟩)
 .rw[fN,fO,fP,bR,X5,bT];have aD:x.Perm (ix s s.ho.length):=by
   have bc:=ae.map Int.toNat;have e:∀L:List Nat,(L.map λj:Nat=>(j:Int)).map Int.toNat=L:=λL=>by rw[T6];exact(List.map_congr_left λj _=>u7 j).F (List.map_id L)
   grind [mc]
  refine⟨x,aD,?_⟩;have e:=M x;rw[m5 (by rw[y.1,y.2];simp)]at e;rw[e];exact⟨rfl,ad (S.done aw)⟩
 rw[fN,fO,fP,bR,Y7,bb];have V:=S.own T Ω;have z5:=T.size;have bd:(mc B).Perm (mc K++[a.2]):=by
  grind [mc]
 have aF:a.2∈(ix s s.ho.length).map λj:Nat=>(j:Int):=by grind
 obtain⟨j,aG,aH⟩:=l9.1 aF;have be:=List.mem_range.1 (S6.1 aG).1;have bf:=av.same.ho;obtain⟨f,aI⟩:=aJ (l:=(x.foldl (eT n.k) (q.1,sp)).1.ho) (i:=j) Ω;obtain⟨bg,t5,aK,aL,aM,aN⟩:=V.p6;rw[<-aH];refine(Uh aK V.2.1.1 aM aL aI).Y ?_;rintro _ aO _ ⟨rfl,aP,bh,aR,bu,aQ,aS,aT,bi⟩;obtain⟨bj,W,bk⟩:=aN aP aQ aS aT (λr h=>h) λr bl y=>Ω
 have bm:=W.size;have aU:=aB.length_eq;rw[j6,List.length_singleton]at aU;have bn:(x++[j]).foldl (eT n.k) (q.1,sp)=((eT n.k ((x.foldl (eT n.k) (q.1,sp)).1,sp) j).1,(eT n.k ((x.foldl (eT n.k) (q.1,sp)).1,sp) j).2||(x.foldl (eT n.k) (q.1,sp)).2):=by
  grind [Ue]
 have go:∀{c:x4},c= .bool ((eT n.k ((x.foldl (eT n.k) (q.1,sp)).1,sp) j).2||(x.foldl (eT n.k) (q.1,sp)).2)->an al am c aO:=λ{c}bo=>by
  refine au K.length _ _ _ _ Ω ⟨K,ay,x++[j],rfl,aA.aa W Ω,?_,by grind,by grind,Ω⟩;rw[Z0,T1];refine(S0.append_left _ ?_).F ae
  grind
 rw[b4]
 grind
end
section
variable{w:x5}{af ag av:Nat}{A R:aj}{A9:Nat->aj}{aK:aj}{n:aI}{s s0:am}{t:aB}{ax:List aB}{cs:List x4}
theorem UA(p:ci w af ag av A R A9 aK n s s0 t ax cs)(am:Laid w)(H:dH s0 s)(J:bc n.k n.d6 s0)(aH:∀f∈s0.ho,f.live≠0)(aI:s0.ho.length<=1000)(aJ:s0.eJ.length<=1000):
  aq x8 Iq [Γ af,.agg cs.toArray] w λr I=>Ext w I/\∃e bJ,r= .agg bJ.toArray/\iw s2 e aK I bJ n.k n.d6 s/\∀q r,e q r->w.heap.size<=r:=by
 have bm:=J.eQ.2.1;have bn:=J.d9;obtain⟨aL,bo⟩:=bG.len p.doc;have bp:=rh am;refine aE func11 ?_;refine br λg1 U bq an P=>?_;have P:ak U g1 aM cs:=P;refine bF aM.i λgt ab bs ao ap=>?_;have L:=an.F ao;rw[bI aM.p aM.i aL (P.W ao).range];refine(RO (p.doc.W L) (λr a=>by have:=(p.read r a).2.1;have:=L.size;omega) J aI aJ).Y ?_;rintro _ x _ ⟨Q,e,bJ,rfl,aw,B⟩;obtain⟨aN,aO⟩:=bG.len aw;have bt:=L.size;have bu:=an.size;have z3:=Q.size;have lt:=ap.lt;refine bF aM.i λgy bw bx aQ aR=>?_;refine cd (vs:=bJ) aM.i aN rfl aO aR λy aU bz ay=>?_;have M:Ext x y:=aQ.put aU Ω;have S:=(L.F Q).F M;have bA:=M.size;have bB:=ay.lt;have az:ci y af ag gy A R (λq r=>e q r/\r<x.heap.size) aK n s s0 t ax bJ:=by
  have N:=p.W S;refine⟨N.dG,N.iJ,ay,(bG.old aw).W M,λq r a=>⟨λh=>?_,λh=>?_,by have:=a.2;omega⟩,λr a=>⟨(N.read r a).1,(N.read r a).2.1,by have:=(p.read r a).2.1;omega⟩,λh=>?_,λh=>?_⟩
  .have:=nU p.dG r (.inl h);have:=B q r a.1;omega
  .have:=nU p.dG r (.inr h);have:=B q r a.1;omega
  .have:=nU p.dG gy (.inl h);omega
  .have:=nU p.dG gy (.inr h);omega
 refine(pU az.dG).Y ?_;rintro _ bC _ ⟨rfl,aA⟩;have aV:=az.W aA;rw[aZ aM.p rfl];refine Ge aV λaW d7=>?_;have aB:cB y af ag gy A R (λq r=>e q r/\r<x.heap.size) aK n s t ax (di s s0 0 0) aW:=cB.comp (aA.aa _) (λq r h=>.inl ⟨q,h⟩) d7;obtain⟨bD,bE,bH,aX,bL⟩:=id aB;obtain⟨hv,bM,bN,bO,bP,bQ,aY,a1,_⟩:=aX.look;rw[aP aM.p 1 aY rfl,ba au.u a1];have a2:∀{z:x5},ai (λr=>(∃q,e q r/\r<x.heap.size)\/r=gy) y z->Laid z:=λa6=>iz a6 (λh=>by
  rcases h with⟨q,h,_⟩|h
  .have:=B q 0 h;omega
  .omega) (am.W S)
 refine b3.range n.d6.length (λi z=>cB y af ag gy A R (λq r=>e q r/\r<x.heap.size) aK n s t ax (di s s0 i 0) z) Ω aB ?_ ?_
 .rintro i z C hi d8 V;obtain⟨W,a7,a8,X,aC⟩:=id d8;refine bK Ω ?_;refine Ty (K:=λY=>ad x8 (aS .add al sp s2 (Δ (i:Int)) (Δ 1)) Y λt55=>C t55 Y) X (a2 W) H hi rfl J λY d14=>?_;rw[aT];exact V _ (cB.comp W aC d14)
 rintro z C d8;refine ck Ω ?_;obtain⟨W,a7,a8,X,aC⟩:=id d8;obtain⟨_,_,_,_,bR,_,bb,_,_,_,_,_,bd,_⟩:=X.look;have bf:(di s s0 n.d6.length 0).ho.length=s0.ho.length:=ze H.ho;rw[aP aM.p 6 bb rfl,ij dA.u bd,r9,bf];refine b3.range s0.ho.length (λj O=>cB y af ag gy A R (λq r=>e q r/\r<x.heap.size) aK n s t ax (di s s0 n.d6.length j) O) Ω d8 ?_ ?_
 .rintro j O C bg d18 V;obtain⟨E,Z,ac,G,ae⟩:=id d18;refine bK Ω ?_;refine Tz (K:=λah=>ad x8 (aS .add al sp s2 (Δ (j:Int)) (Δ 1)) ah λbh=>C bh ah) G H bg aH rfl λah d20=>?_;rw[aT];exact V _ (cB.comp E ae d20)
 rintro O C d18;refine ck Ω ?_;rw[show n.d6.length=s0.d9.length by omega,Se H]at d18;obtain⟨E,Z,ac,G,ae⟩:=d18;obtain⟨aj,bi⟩:=bG.len G.doc;have bS:=E.size;rw[bI aM.p aM.i aj G.box.range];have aD:∀r,(∃q,e q r/\r<x.heap.size)\/r=gy->ab.heap.size<=r:=λr a=>by
  rcases a with⟨q,h,_⟩|h
  .exact B q r h
  .omega
 have bj:ak O gt aM _:=((ap.W Q).W M).aa E λh=>by have:=aD gt h;omega
 refine cd (vs:=ac) aM.i aj rfl bi bj λbT aF bU bk=>?_;rw[fA aM.p aM.i aj bk.range];have aG:∀q r,Z q r->ab.heap.size<=r:=λq r a=>by
  rcases ae q r a with⟨bl,h,_⟩|h
  .exact B bl r h
  .omega
 refine⟨(S.then E λr a h=>by have:=aD r h;omega).then aF λr a h=>by have h:r=gt:=h;omega,Z,ac,rfl,G.doc.aa aF λr a h be=>?_,λq r h=>by have:=aG q r h;omega⟩;have be:r=gt:=be;rcases h with⟨q,h⟩|h
 .have:=aG q r h;omega
 .have:=(p.read r h).2.1;omega
end
theorem Hi{n:aI}{j pos:Nat}{need:Int->Int}{N:Λ}:∀(L M:Λ)(s:am),gn n j pos need N (L++M) s=gn n j pos need N M (gn n j pos need N L s)
 |[],_,_=>rfl
 |w::L,M,s=>by
  rw[List.cons_append,gn,gn];exact Hi L M _
theorem Hj{n:aI}{j pos:Nat}{need:Int->Int}:∀(L M:Λ)(s:am),ku n j pos need (L++M) s=ku n j pos need M (ku n j pos need L s)
 |[],_,_=>rfl
 |v::L,M,s=>by
  rw[List.cons_append,ku,ku];exact Hj L M _
theorem UB{s:am}{need:Int->Int}{L N:Λ}(h:L.Perm N):fi s j pos need L w=fi s j pos need N w:=by
 have key:∀c,fi s j pos need L w<=c↔fi s j pos need N w<=c:=λc=>by
  rw[vV,vV];exact and_congr_right λ_=>⟨λk v ac=>k v (h.mem_iff.2 ac),λk v ac=>k v (h.mem_iff.1 ac)⟩
 have h1:=(key _).1 (T3 _);have a:=(key _).2 (T3 _);omega
def nh(need:Int->Int)(v:Int):x4×x4:=(Δ v,Δ (need v))
section
variable{ax:List aB}{w:x5}{af ag:Nat}{A R:aj}{n:aI}{s:am}{t:aB}
theorem UC{u:Int}(h:bC w af ag A R n s t):aq x8 Ji [.agg #[Γ af,Δ (j:Int),Δ (pos:Int)],Δ v,Δ u] w λr I=>r=Δ (dY s j (dk pos v u))/\Ext w I:=by
 refine aE func103 ?_;refine br λg1 U L C q=>?_;have q:=q;refine qB (l:=[v,u]) au.u al.i Ξ rfl Ψ λM ga ab N x E=>?_;have y:=C.F x;refine a6 (λr a=>Ext w a/\Ext U a/\aQ .i64 a r (dk pos v u)) ?_ λaz z=>?_
 .rintro aX a ⟨f,G,H⟩;have B:=q.W G;rw[aP lK.p 0 B rfl,aP lK.p 1 B rfl];refine Fx (h.W f) H λe O J=>?_;rw[bA,bB];exact⟨rfl,f.F J⟩
 rw[aP lK.p 2 (q.W x) rfl,bl,ao];refine⟨λae=>?_,λae=>z _ _ ⟨y,x,by unfold dk;rw[m5 Ω];exact E.ls⟩⟩;refine qB (l:=[u,v]) au.u al.i Ξ rfl Ψ λP Q a S f K=>?_;exact z _ _ ⟨y.F f,x.F f,by unfold dk;rw[m3 Ω];exact K.ls⟩
def UD(ax:List aB)(w:x5)(af ag:Nat)(A R:aj)(n:aI)(s:am)(j pos:Nat)(i o:Int)(r:x4)(I:x5):Prop:=
 (dN n s j pos i o=[]/\r= .bool sp/\cz ax w af ag A R n s I)\/(dN n s j pos i o≠[]/\r= .bool s2/\∃M:Λ,M.Perm (dN n s j pos i o)/\cz ax w af ag A R n (lB n s j pos i o M) I)
theorem UE:Keys x8 al λv=>∃n,v=Δ n:=Keys.int al.u
theorem UF{f:bP}{i o:Int}(h:bC w af ag A R n s t)(aE:Laid w)(bS:¬A 0)(aC:eo ax t)(H:dM n s j pos f i o):aq x8 IG [Γ af,Δ (j:Int),Δ (pos:Int)] w (UD ax w af ag A R n s j pos i o):=by
 have aw:=h.2.2.2.1;have dF:=aw.d9;have bc:=H.rl aw;have dG:=H.p;obtain⟨x,J⟩:=aJ (l:=s.d9) (i:=i.toNat) Ω;obtain⟨y,bd⟩:=aJ (l:=s.d9) (i:=o.toNat) Ω;have cD:aY s i=aG x:=by unfold aY;rw[J]
 have bU:aY s o=aG y:=by unfold aY;rw[bd]
 obtain⟨need,aX⟩:∃need:Int->Int,need=jB n s j pos o:=⟨_,rfl⟩;have cE:dN n s j pos i o=(aG x).filter λv=>decide (0<need v):=by unfold dN;rw[cD,aX]
 have cF:∀v,0<=need v/\need v<=n.k:=λv=>by
  rw[aX];have hk:=aw.eI;exact vv Ω λu _=>⟨by unfold jx;have:=(vl (j:=j) (tl:=if(pos:Int)=1 then[u,v]else[v,u]) aw).1;have:=(kQ (n:=n) (i:=o) (v:=u) aw).1;omega,by unfold jx;omega⟩
 have dH:=aw.eI;refine jh func55 ?_;refine br λg1 U dI be K=>?_;refine br λcG ab dJ aZ V=>?_;refine br λcH bg dK aH Q=>?_;have K:ak bg g1 eD [Γ af]:=(ak.W K aZ).W aH;have V:ak bg cG al [Δ (j:Int)]:=ak.W V aH;have Q:ak bg cH al [Δ (pos:Int)]:=Q;have dL:=be.size;have dO:=aZ.size;have z3:=aH.size;rw[aF (v:=Γ af) Ψ (K.Qz rfl),aF (v:=Δ (j:Int)) Ψ (V.cell rfl),aF Ψ (Q.cell rfl),
  dn (cs:=#[Γ af,Δ (j:Int),Δ (pos:Int)]) Ψ]
 refine bF lK.i λdP dQ dR bV cI=>?_;refine cd lK.i rfl rfl (by intro v ac;simp at ac;rcases ac with rfl|rfl|rfl<;>rfl) cI λdS cJ dT a1=>?_;have aI:=bV.put cJ Ω;have bX:=((be.F aZ).F aH).F aI;have dU:=aI.size;rw[aF Ψ ((K.W aI).cell rfl),aF Ψ ((V.W aI).cell rfl)];refine(l4 (h.W bX) H.ah).Y ?_;rintro sv dV _ ⟨aK,gs,dW,aL⟩;have dX:=ss aL (by have:=H.len;omega);refine r7 λm dY dZ ay bY=>?_;refine bF mm.i λea eb ec bZ cK=>?_;refine bs mm.i rfl rfl cK (by show 0<1;omega) λbi cL ed az=>?_;have az:=az;have aA:=bZ.put cL Ω;have ee:=aK.size;have ef:=ay.size;have eg:=aA.size;have bj:=((aI.F aK).F ay).F aA;have b0:=((bX.F aK).F ay).F aA;have K:=K.W bj;have V:=V.W bj;have Q:=Q.W bj;have a1:=((a1.W aK).W ay).W aA;have aL:=(aL.W ay).W aA;have bk:=bY.W aA;have eh:=bk.lt;have ei:=bY.lt;have ej:=K.lt;have ek:=V.lt;have em:=Q.lt;have en:=a1.lt;have ep:=az.lt;intro er X _ _;have es:=X.size;have et:=X;have cM:=b0.F X;rw[aF Ψ ((K.W X).cell rfl),aF Ψ ((Q.W X).cell rfl)];refine om rfl au.u al.i (aL.W X).ls H.hi λcN cO bm=>?_;rw[aF Ψ bm];refine(jv (h.W cM)).Y ?_;rintro _ eu _ ⟨⟨b,ev,rfl,B⟩,bn⟩;refine(mE).Y ?_;rintro _ cP _ ⟨bo,cQ,rfl,ew,bp⟩;have bq:=lr B bc.1 J;have ey:=bn.size;have z12:=bo.size;have aM:=(X.F bn).F bo;have bt:=b0.F aM;have ez:=bp.lt;obtain⟨E,aj⟩:∃E:Nat->List (x4×x4),E=λz=>(((aG x).take z).filter λv=>decide (0<need v)).map (nh need):=⟨_,rfl⟩;have cR:(aG x).Nodup:=p0 _;refine ky.old ⟨_,sp,jG,#[Γ cQ],_,_,_,_,λz I=>ai (λr=>r=m) cP I/\db I m (E z),λ_ _ _=>False,rfl,(mD B.1).s,?_,
  λ_ _ J h=>⟨h.1.W J,h.2.W J⟩,λ_ _ _ J h=>⟨h.1.F (J.aa _),h.2.W J⟩,λ_ _ _ _ _ h=>h,⟨bp,aE.W bt⟩,⟨ai.refl _ _,by rw[aj];exact bk.W aM⟩,?_,?_,λ_ _ h=>h.elim,λ_ _ _ h=>h.elim⟩
 .rintro _ _ _ _ ⟨_,_,_,_,rfl⟩;rfl
 .rintro _ z _ eA ⟨b1,b2⟩ ⟨cS,rfl,v,bw,bx⟩ ⟨L,S⟩;cases bx;intro cT a2 _ _;have aN:(aG x)[z]?=σ (v:Int):=by rw[<-bq,u4,bw];rfl
  have cU:=x7 aN;have eB:=L.size;have b3:=bt.then L λr a6 h=>by have h:=h;omega
  have a8:∀{g:Nat}{e:o4}{cs:List x4},g≠m->ak bi g e cs->ak cT g e cs:=λO aO=>((aO.W aM).aa L O).W a2;rw[aF Ψ ((a8 Ω K).cell rfl),aF Ψ ((a8 Ω V).cell rfl),aF Ψ ((a8 Ω Q).cell rfl)];have aP:(aG x).take (z+1)=(aG x).take z++[(v:Int)]:=by rw[u9,aN];rfl
  refine(RU (h.W (b3.F a2)) (aE.W (b3.F a2))).Y ?_;rintro _ eC _ ⟨b4,cV⟩;have cW:nT s (j:Int) (pos:Int) (v:Int) f i x:=⟨Ω,by rw[u7];exact H.ah,H.live,Ω,by rw[u7];exact H.hi,bc.1,J,cU⟩;have a6:=(cV.2 f i x cW).2 H.len o y (by rw[show((1:Int)-(pos:Int)).toNat=1-pos by omega];exact H.aC) bd;rw[u7]at a6;subst a6;have cX:(dC n.k (aG y) (jx n s j (pos:Int) (v:Int) o)).1=need (v:Int):=by rw[aX];unfold jB;rw[bU]
  rw[fN,fO,fP,cX,bW,ao];have Y:=a2.F b4;refine⟨λbz=>?_,λbz=>?_⟩
  .rw[aF Ψ (((a8 Ω az).W b4).cell rfl)];have bA:E (z+1)=E z++[nh need (v:Int)]:=by
    rw[aj];simp only;rw[aP,List.filter_append,Z0,List.filter_cons_of_pos (by exact ms bz)];rfl
   have cY:∀p∈E z,p.1≠ Δ (v:Int):=λp ae e=>by
    rw[aj]at ae;obtain⟨u,hu,rfl⟩:=l9.1 ae;have hu:=(S6.1 hu).1;have e:u=(v:Int):=by
     have e:=e;cases e;rfl
    subst e;obtain⟨q,am⟩:=Y5.1 hu;have cZ:=(x6.1 am).1;rw[Z3]at cZ;rw[V1 Ω]at am;have:=lT cR am aN;omega
   refine qQ mm.u UE (S.W Y) (λp ae=>?_) ⟨_,rfl⟩ (λq v0 I am _ _=>m6 rfl (cY _ (x7 am))) λeE _ c0 bB=>?_
   .rw[aj]at ae;obtain⟨u,_,rfl⟩:=l9.1 ae;exact⟨u,rfl⟩
   .refine⟨⟨((b1.W Y)).aa bB λe=>by have e:=e;omega,iz bB (λe=>by have e:=e;omega) (b2.W Y)⟩,⟨(L.F (Y.aa _)).F bB,by rw[bA];exact c0⟩,λh=>by cases h⟩
  .have bA:E (z+1)=E z:=by
    rw[aj];simp only;rw[aP,List.filter_append,Z0,List.filter_cons_of_neg (by rw[rc bz];decide)];simp
   exact⟨⟨b1.W Y,b2.W Y⟩,⟨L.F (Y.aa _),by rw[bA];exact S.W Y⟩,λh=>by cases h⟩
 rintro c1 c2 rfl ⟨L,S⟩;rw[aj]at S;simp only at S;rw[j5 (by rw[<-bq,r9];exact o6 _),<-cE]at S;clear aj E;have eF:=L.size;have b5:=bt.then L λr a6 h=>by have h:=h;omega
 have aQ:∀{g:Nat}{e:o4}{cs:List x4},g≠m->ak bi g e cs->ak c2 g e cs:=λO aO=>(aO.W aM).aa L O;rw[aF Ψ ((aQ Ω az).cell rfl),C1 mm.u S,bl,ao];refine⟨λbD=>?_,λbD=>?_⟩
 .intro eH c3 _;refine .inl ⟨?_,rfl,cz.same h aE bS aC (b5.F c3)⟩;rw[r9]at bD;exact b8 Ω
 obtain⟨N,aS⟩:∃N:Λ,N=dN n s j pos i o:=⟨_,rfl⟩;have c4:N≠[]:=λe=>bD (by rw[<-aS,e];rfl);rw[<-aS]at S;intro eJ an _ _;have b6:=b5.F an;have eK:=an.size;have c5:=((aQ Ω K).W an).Qz rfl;have c6:=((aQ Ω Q).W an).Qz rfl;rw[aF Ψ c5,aF Ψ c6,dm,lm Ω Ω,show(1:Int)-(pos:Int)=((1-pos:Nat):Int) by omega];have c7:=((aL.W aM).aa L λ_ e=>by have e:=e;omega).W an;refine om rfl au.u al.i c7.ls H.aC λcN cO bm=>?_;rw[aF Ψ bm];refine(jv (h.W b6)).Y ?_;rintro _ eL _ ⟨⟨eM,eN,rfl,b7⟩,b9⟩;refine(mE).Y ?_;rintro _ Z _ ⟨ca,bf,rfl,eO,cb⟩;have cc:=lr b7 bc.2.2.1 bd;have bE:=b9.F ca;have ce:=b6.F bE;have eP:=b9.size;have eQ:=ca.size;have eR:=cb.lt;have cf:=(S.W an).W bE;have aT:∀{g:Nat}{e:o4}{cs:List x4},g≠m->ak bi g e cs->ak Z g e cs:=λO aO=>((aQ O aO).W an).W bE;have cg:=aT Ω K;have ch:=aT Ω V;have ci:=aT Ω Q;have c8:=aT Ω a1;have cj:=aT Ω az;have eS:∀{B C:Λ}{q:Int},(B++C).Perm N->q∈C->q∈N:=λae am=>ae.mem_iff.1 (j9.2 (.inr am));clear L S bk be aZ aH bV aK ay bZ X bn bo bp B bq aQ;refine ky.old ⟨_,sp,jG,#[Γ bf],_,_,_,_,λz I=>dx ax w af ag A R n w.heap.size (λr=>Z.heap.size<=r) (gn n j pos need N ((aG y).take z) s) I/\ai (λr=>r<w.heap.size\/Z.heap.size<=r) Z I,λ_ _ _=>False,rfl,(mD b7.1).s,?_,
  λ_ _ J h=>⟨h.1.W J,h.2.W J⟩,λ_ _ _ J h=>⟨h.1.W J,h.2.F (J.aa _)⟩,λ_ _ _ _ _ h=>h,⟨cb,aE.W ce⟩,⟨dx.start h aE bS aC ce (o6 _),ai.refl _ _⟩,?_,?_,λ_ _ h=>h.elim,λ_ _ _ h=>h.elim⟩
 .rintro _ _ _ _ ⟨_,_,_,_,rfl⟩;rfl
 .rintro _ z _ eU ⟨c9,da⟩ ⟨cS,rfl,v,bw,bx⟩ ⟨aB,G⟩;cases bx;intro eV W _ _;have aN:(aG y)[z]?=σ (v:Int):=by rw[<-cc,u4,bw];rfl
  have aP:gn n j pos need N ((aG y).take (z+1)) s=(bh n.k (gn n j pos need N ((aG y).take z) s) (fa s2 j (1-pos) (v:Int) (fi (gn n j pos need N ((aG y).take z) s) j pos need N (v:Int)))).1:=by
   rw[u9,aN,Hi];rfl
  generalize gn n j pos need N ((aG y).take z) s=s1 at aB aP;obtain⟨dc,dd,aU,bG,bH,bJ⟩:=aB.p6;have de:=aU.2.2.2.1;have z22:=G.size;have eW:=W.size;have df:=(cg.aa G Ω).W W;have dg:=(ch.aa G Ω).W W;have dh:=(ci.aa G Ω).W W;have di:=(c8.aa G Ω).W W;rw[aF Ψ (((cj.aa G Ω).W W).cell rfl)];refine uu mm.u ((cf.aa G Ω).W W) λP dj dl ck _ bK=>?_;refine⟨λqY aD=>∃B C left aV,qY=Δ (fi s1 j pos need B (v:Int))/\Ext dj aD/\io aD P m (N.map (nh need)) left aV/\left=C.map (nh need)/\(B++C).Perm N,λ_ aD=>lg aD P,⟨[],N,_,ν,rfl,Ext.refl _,bK,rfl,S0.refl _⟩,?_⟩;rintro _ aD ⟨B,C,left,aV,rfl,bL,cl,rfl,ap⟩;refine uv cl (λ_=>by show w.heap.size<=P;omega) (λbM=>?_) (λq p eX ae cm eY cn=>?_)
  .rw[gd (v:=.bool sp) rfl,bb];have:C=[]:=List.map_eq_nil_iff.1 bM;subst this;rw[T5]at ap;have a7:=ck.F bL;have aW:=W.F a7;rw[UB ap,aF Ψ ((df.W a7).cell rfl),aF Ψ ((dg.W a7).cell rfl),aF Ψ ((dh.W a7).cell rfl),dm,lm Ω Ω,show(1:Int)-(pos:Int)=((1-pos:Nat):Int) by omega];refine(Gn (a:=fa s2 j (1-pos) (v:Int) (fi s1 j pos need N (v:Int))) rfl (aU.W aW) (da.W aW) bH bG).Y ?_;rintro _ dp _ ⟨_,bN,dq,aR,bu,O,bO,bQ,dr⟩;have z25:=aW.size;obtain⟨bR,ba,cp⟩:=bJ (iF aW bN) ((Grow.W aW).F O) bO bQ (λr h=>h) λr ds dt=>Ω
   refine⟨⟨c9.aa ba Ω,dq⟩,⟨?_,G.F ba⟩,λh=>by cases h⟩;show dx ax w af ag A R n w.heap.size (λr=>Z.heap.size<=r) (gn n j pos need N ((aG y).take (z+1)) s) dp;rw[aP];exact bR
  .rw[gd (v:=.bool s2) rfl,bT];refine uw cn ?_;obtain⟨u,hu,rfl⟩:∃u,C[q]?=σ u/\nh need u=p:=by
    rw[u4]at ae;exact Z9.1 ae
   have cq:=(ck.F bL).F cm;have du:=W.F cq;rw[gd rfl,gd (v:=Δ (need u)) rfl,bI lK.p lK.i rfl (di.W cq).range];refine(UC (v:=u) (u:=(v:Int)) (aU.W du)).Y ?_;rintro _ dv dw ⟨rfl,cr⟩;have eZ:=vl (s:=s1) (j:=j) (tl:=dk pos u (v:Int)) de;have e0:=cF u;rw[dm,lm Ω Ω,rP];have ct:=cn.W cr dw.kv;refine⟨⟨B++[u],C.eraseIdx q,_,_,?_,(bL.F cm).F cr,ct,mI (nh need) C q,?_⟩,?_⟩
   .unfold fi;rw[List.foldl_append];rfl
   .refine S0.F ?_ ap;rw[T1];exact S0.append_left B (sh hu)
   .show lg dv P<lg aD P;rw[oz ct,oz cl];have:=uz (x6.1 ae).1;omega
 rintro c1 e1 rfl ⟨aB,G⟩;rw[j5 (by rw[<-cc,r9];exact o6 _)]at aB;have cu:∀M,lB n s j pos i o M=ku n j pos need M (gn n j pos need N (aG y) s):=λM=>by unfold lB;rw[<-aX,<-aS,bU]
 generalize gn n j pos need N (aG y) s=dy at aB cu;have e2:=G.size;rw[aF Ψ ((cj.aa G Ω).cell rfl)];refine uu mm.u (cf.aa G Ω) λP e3 dl cw _ bK=>?_;refine⟨λav=>∃B C left aV,(dx ax w af ag A R n w.heap.size (λr=>Z.heap.size<=r) (ku n j pos need B dy) av/\ai (λr=>r<w.heap.size\/Z.heap.size<=r) Z av)/\io av P m (N.map (nh need)) left aV/\left=C.map (nh need)/\(B++C).Perm N,λav=>lg av P,⟨[],N,_,ν,⟨aB.W cw,G.F (cw.aa _)⟩,bK,rfl,S0.refl _⟩,?_⟩;rintro av ⟨B,C,left,aV,⟨d1,d2⟩,cA,rfl,ap⟩;refine uv cA (λ_=>by show w.heap.size<=P;omega) (λbM=>?_) (λq p e4 ae ad e5 cB=>?_)
 .rw[gd (v:=.bool sp) rfl,bb];have:C=[]:=List.map_eq_nil_iff.1 bM;subst this;rw[T5]at ap;intro e6 dz _;refine .inr ⟨by rw[<-aS];exact c4,rfl,B,by rw[<-aS];exact ap,?_⟩;rw[cu];exact d1.done dz
 .rw[gd (v:=.bool s2) rfl,bT];refine uw cB ?_;obtain⟨u,hu,rfl⟩:∃u,C[q]?=σ u/\nh need u=p:=by
   rw[u4]at ae;exact Z9.1 ae
  obtain⟨dc,dd,aU,bG,bH,bJ⟩:=d1.p6;have e7:=d2.size;have e8:=ad.size;rw[gd rfl,gd rfl,aF Ψ (((cg.aa d2 Ω).W ad).cell rfl),aF Ψ (((ch.aa d2 Ω).W ad).cell rfl),aF Ψ (((ci.aa d2 Ω).W ad).cell rfl)];refine(zm (a:=fa sp j pos u (need u)) rfl (aU.W ad) (d1.2.1.1.W ad) bH bG).Y ?_;rintro _ dA dD ⟨_,bN,e9,aR,bu,O,bO,bQ,dr⟩;obtain⟨bR,ba,cp⟩:=bJ (iF ad bN) ((Grow.W ad).F O) bO bQ (λr h=>h) λr ds dt=>Ω
  have cC:=cB.a8 O.1 (λdE=>by have:=cp m (O.2.2 m dE);omega) dD.kv;refine⟨⟨B++[u],C.eraseIdx q,_,_,⟨?_,d2.F ba⟩,cC,mI (nh need) C q,?_⟩,?_⟩
  .rw[Hj];exact bR
  .refine S0.F ?_ ap;rw[T1];exact S0.append_left B (sh hu)
  .show lg dA P<lg av P;rw[oz cC,oz cA];have:=uz (x6.1 ae).1;omega
end
section
variable{ax:List aB}{w:x5}{af ag:Nat}{A R:aj}{n:aI}{s:am}{t:aB}
def UG(ax:List aB)(w:x5)(af ag:Nat)(A R:aj)(n:aI)(s:am)(r:x4)(I:x5):Prop:=∃(O:List Nat)(q:am×Bool×Bool),O.Perm (ix s s.ho.length)/\ng n O s q/\zB ax w af ag A R n q r I
theorem Hk(h:bC w af ag A R n s t)(aw:Laid w)(ay:¬A 0)(aC:eo ax t)(ad:bY s)(ah:s.ho.length<=1000000):aq x8 Iu [Γ af] w (UG ax w af ag A R n s):=by
 have aA:=h.2.2.2.1;refine aE func22 ?_;refine(Uz h aw ay aC ad ah).Y ?_;rintro _ U _ ⟨O,N,rfl,P⟩;obtain⟨aY,aZ,a1,aB⟩:=GS (n:=n) aA ad;have E:∀q,(if(dJ n O s).2.2=s2\/(dJ n O s).2.1=s2 then q=dJ n O s else(rm n s/\q=(s,sp,sp))\/∃(j:Nat)(f:bP)(i o:Int)(M:Λ),dM n s j 0 f i o/\dN n s j 0 i o≠[]/\M.Perm (dN n s j 0 i o)/\q=(lB n s j 0 i o M,s2,sp))->ng n O s q:=λq h=>h;rw[bA,bB];refine a6 (λv ab=>U=ab/\v= .bool ((dJ n O s).2.2||(dJ n O s).2.1)) ?_ λaz z=>?_
 rotate_left
 .rw[bO,ao];refine⟨λK=>z _ _ ⟨rfl,?_⟩,λhe=>z _ _ ⟨rfl,?_⟩⟩
  .cases he:(dJ n O s).2.2 with
   |true=>rfl
   |false=>rw[he]at K;exact m6 rfl K
  .have he:(dJ n O s).2.2=sp:=by
    cases aD:(dJ n O s).2.2 with
    |true=>rw[aD]at he;exact m6 Φ he
    |false=>rfl
   rw[he,Bool.false_or]
 rintro _ _ ⟨rfl,rfl⟩;rw[b4];refine⟨λB=>⟨O,dJ n O s,N,E _ (by rw[m3 (by simpa using B)]),rfl,P⟩,λB=>?_⟩;rw[T4]at B;obtain⟨V,_,_⟩:=aB B.1 B.2;have E:∀q,((rm n s/\q=(s,sp,sp))\/∃(j:Nat)(f:bP)(i o:Int)(M:Λ),dM n s j 0 f i o/\dN n s j 0 i o≠[]/\M.Perm (dN n s j 0 i o)/\q=(lB n s j 0 i o M,s2,sp))->ng n O s q:=λq h=>E q (by rw[m5 (by rw[B.1,B.2];simp)];exact h);rw[V]at P;obtain⟨a2,a7,ae,aF,aG,aH,aI⟩:=P.open;refine(q6 ae).Y ?_;rintro _ a8 _ ⟨rfl,aK⟩;refine⟨λ_ _ c ai=>∃r:Nat,c=Δ (r:Int)/\r<=s.ho.length/\cz ax w af ag A R n s ai/\∀j f i o,j<r->dM n s j 0 f i o->dN n s j 0 i o=[],λ_ _ c _=>s.ho.length-(b1 c).toNat,⟨0,rfl,Ω,aI (cz.same ae aF aG aH aK),λj f i o aL=>Ω⟩,?_⟩;rintro aM t3 _ ai ⟨r,rfl,aj,L,ak⟩;rw[aW,ao];refine⟨λbc=>?_,λbd=>?_⟩
 rotate_left
 .refine⟨O,(s,sp,sp),N,E _ (.inl ⟨λj f i o x=>ak j f i o ?_ x,rfl⟩),rfl,L⟩;have:=(x6.1 x.ah).1;omega
 have aj:r<s.ho.length:=Ω
 obtain⟨f,G⟩:=aJ (l:=s.ho) aj;obtain⟨be,t4,Q,aN,aO,aP,al⟩:=L.open;have go:∀{I:x5}{am:x4->x4->x4->x5->Prop},(∀a b c S,(∃r:Nat,c=Δ (r:Int)/\r<=s.ho.length/\cz ax w af ag A R n s S/\∀j f i o,j<r->dM n s j 0 f i o->dN n s j 0 i o=[])/\s.ho.length-(b1 c).toNat<s.ho.length-r->am a b c S)->cz ax w af ag A R n s I->(∀y i o,dM n s r 0 y i o->dN n s r 0 i o=[])->am aM t3 (Δ ((r:Int)+1)) I:=λaQ hm H=>by
  refine aQ _ _ _ _ ⟨⟨r+1,rfl,Ω,hm,λj f i o aL x=>?_⟩,?_⟩
  .by_cases e:j=r
   .subst e;exact H f i o x
   .exact ak j f i o Ω x
  .show s.ho.length-((r:Int)+1).toNat<s.ho.length-r;omega
 refine a6 (λv W=>(v= .bool sp/\cz ax w af ag A R n s W/\∀y i o,dM n s r 0 y i o->dN n s r 0 i o=[])\/(v= .bool s2/\∃y i o M,dM n s r 0 y i o/\dN n s r 0 i o≠[]/\M.Perm (dN n s r 0 i o)/\cz ax w af ag A R n (lB n s r 0 i o M) W)) ?_ λaz z=>?_
 .rintro _ W (⟨rfl,X,aR⟩|⟨rfl,y,i,o,M,x,K,Y,X⟩)
  .rw[bb,aT,lm (by have:=ah;omega) (by have:=ah;omega)];exact go (λa b c S h=>h) X aR
  .rw[bT];exact⟨O,_,N,E _ (.inr ⟨r,y,i,o,M,x,K,Y,rfl⟩),rfl,X⟩
 refine(sO Q).Y ?_;rintro _ bf _ ⟨rfl,Z⟩;rw[ms Ω,S7,u7,b4];refine⟨λC=>?_,λC=>z _ _ (.inl ⟨rfl,L.W Z,λy i o x=>?_⟩)⟩
 rotate_left
 .have:=x.live;unfold e0 at C;rw[x.ah]at C;exact m6 this (by simpa using C)
 have aS:f.live≠0:=by
  unfold e0 at C;rw[G]at C;exact rs C
 refine(l4 (h:=Q.W Z) G).Y ?_;rintro sv bg _ ⟨aU,gs,bh,aV⟩;have J:=Z.F aU;rw[ba au.u aV.ls,bl,ao];refine⟨λaX=>?_,λaX=>z _ _ (.inl ⟨rfl,L.W J,λy i o x=>?_⟩)⟩
 rotate_left
 .have e:=x.ah;rw[G]at e;cases e;have:=x.len;omega
 obtain⟨i,hi⟩:=aJ (l:=f.sc) (i:=0) Ω;obtain⟨o,an⟩:=aJ (l:=f.sc) (i:=1) Ω;have x:dM n s r 0 f i o:=⟨G,aS,Ω,.inl rfl,hi,an⟩;refine(UF (Q.W J) (aN.W J) aO aP x).Y ?_;rintro _ bi _ (⟨H,rfl,aa⟩|⟨H,rfl,M,Y,aa⟩)
 .refine z _ _ (.inl ⟨rfl,al (aa.before J),λy bj o' ac=>?_⟩);have e:=ac.ah;rw[G]at e;cases e;have ap:=ac.hi;rw[hi]at ap;cases ap;have av:=ac.aC;rw[show 1-0=1 from rfl,an]at av;cases av;exact H
 .exact z _ _ (.inr ⟨rfl,f,i,o,M,x,H,Y,al (aa.before J)⟩)
end
def s9(s:am):List (Nat×Int×Int):=(Y9 s.ho.length).filterMap λj=>match s.ho[j]? with
 |some f=>if f.live≠0 then(match f.sc with
  |[a,b]=>σ (j,a,b)
  |_=>ν)else ν
 |none=>ν
def vX(n:aI)(O:List Nat)(s:am):Option (am×Bool×Bool):=if(dJ n O s).2.2=s2\/(dJ n O s).2.1=s2 then σ (dJ n O s)else
 match(s9 s).filter λp=>!(dN n s p.1 0 p.2.1 p.2.2).isEmpty with
 |[]=>σ (s,sp,sp)
 |[p]=>match dN n s p.1 0 p.2.1 p.2.2 with
  |[v]=>σ (lB n s p.1 0 p.2.1 p.2.2 [v],s2,sp)
  |_=>ν
 |_=>ν
def qc(n:aI)(O:List Nat):Nat->am->Option (am×Bool)
 |0,_=>ν
 |f+1,s=>match vX n O s with
  |none=>ν
  |some q=>if q.2.2=s2 then σ (q.1,s2)else if q.2.1=s2 then qc n O f q.1 else σ (q.1,sp)
section
variable{n:aI}{s:am}
theorem UH{i o:Int}:(j,i,o)∈s9 s↔ ∃f,dM n s j 0 f i o:=by
 unfold s9;rw[List.mem_filterMap];constructor
 .rintro⟨k,hk,h⟩;cases ah:s.ho[k]? with
  |none=>rw[ah]at h;cases h
  |some f=>
   rw[ah]at h;simp only at h;by_cases q:f.live≠0
   .rw[m3 q]at h
    match e:f.sc,h with
    |[a,b],h=>
     cases h;exact⟨f,ah,q,by rw[e];rfl,.inl rfl,by rw[e];rfl,by rw[e];rfl⟩
   .rw[m5 q]at h;cases h
 .rintro⟨f,h⟩;refine⟨j,List.mem_range.2 (x6.1 h.ah).1,?_⟩;have h1:=h.hi;have r:=h.aC;have w:=h.len;rw[h.ah];simp only;rw[m3 h.live]
  match e:f.sc,w with
  |[a,b],_=>
   rw[e]at h1 r;cases h1;cases r;rfl
theorem UI{q r:am×Bool×Bool}(h:vX n O s=σ q)(a:ng n O s r):r=q:=by
 unfold vX at h;unfold ng at a;by_cases z:(dJ n O s).2.2=s2\/(dJ n O s).2.1=s2
 .rw[m3 z]at h a;cases h;exact a
 rw[m5 z]at h a;have e:∀p,p∈((s9 s).filter λp=>!(dN n s p.1 0 p.2.1 p.2.2).isEmpty)↔(∃f,dM n s p.1 0 f p.2.1 p.2.2)/\dN n s p.1 0 p.2.1 p.2.2≠[]:=λp=>by
  rw[S6,<-UH];refine and_congr_right λ_=>?_;cases dN n s p.1 0 p.2.1 p.2.2<;>simp
 generalize ((s9 s).filter λp=>!(dN n s p.1 0 p.2.1 p.2.2).isEmpty)=L at h e;rcases a with⟨B,rfl⟩|⟨j,f,i,o,M,w,x,A,rfl⟩
 .cases L with
  |nil=>cases h;rfl
  |cons p L=>
   obtain⟨⟨f,w⟩,x⟩:=(e p).1 (.head _);exact m6 (B _ _ _ _ w) x
 .have y:=(e (j,i,o)).2 ⟨⟨f,w⟩,x⟩
  match L,y,h with
  |[p],y,h=>
   obtain rfl:=Y4.1 y;simp only at h
   match C:dN n s j 0 i o,h with
   |[v],h=>
    cases h;rw[C]at A;rw[List.perm_singleton.1 A]
end
section
variable{ax:List aB}{w:x5}{af ag:Nat}{A R:aj}{n:aI}{s:am}{t:aB}
theorem UJ(h:bC w af ag A R n s t)(H:Laid w)(J:¬A 0)(aC:eo ax t)(K:bY s)(ah:s.ho.length<=1000000):aq x8 AQ [Γ af] w λr I=>∃q:am×Bool,TT (vW n) n s q/\r=Δ (if q.2=s2 then 8 else 0)/\cz ax w af ag A R n q.1 I:=by
 have L:=h.2.2.2.1;refine aE func10 ?_;refine b3.sink (λm U=>∃s1,cz ax w af ag A R n s1 U/\fw n.k n.d6 s s1/\gM n s1=m/\(iP n s->vW n s->s1=s)) ⟨s,cz.same h H J aC (Ext.refl _),.rfl L K,rfl,λ_ _=>rfl⟩ ?_;rintro m _ U aa ⟨s1,hm,f,ac,B⟩ M;obtain⟨ad,ae,N,P,Q,S,T⟩:=hm.open;have ai:=f.same.ho;refine(Hk N P Q S f.gJ Ω).Y ?_;rintro _ ab _ ⟨O,q,V,W,rfl,y⟩;have a:=Uu f.ok f.gJ (Uv V) W;have y:=T y;have aj:=f.ok.d9;rw[bA,bB];refine a6 (λr I=>I=ab/\r= .bool (q.2.2|| !q.2.1)) ?_ λaz C=>?_
 .rintro _ _ ⟨rfl,rfl⟩;rw[b4];refine⟨λj=>?_,λj=>?_⟩
  .cases he:q.2.2 with
   |true=>
    obtain⟨_,i,hi,X,Y⟩:=a.emp he;refine⟨(q.1,s2),⟨f.F a.a8,λ_=>⟨i,hi,?_,Y⟩,λh=>(by cases h),λh1 x=>?_⟩,rfl,y⟩
    .show dh q.1 i=sp;rw[GU a.a8.same Ω];exact X
    .have e:=B h1 x;subst e;rw[a.quiet h1 x]at he;cases he
   |false=>
    rw[he,Bool.false_or,Bool.not_eq_true']at j;obtain⟨e,h1,x⟩:=a.same he j;refine⟨(q.1,sp),⟨f.F a.a8,λh=>(by cases h),λ_=>?_,λE z=>?_⟩,rfl,y⟩
    .show iP n q.1/\vW n q.1;rw[e];exact⟨h1,x⟩
    .rw[e,B E z]
  .rw[T4,Bool.not_eq_false']at j;have E:=a.less j.1 j.2;refine M (gM n q.1) _ _ Ω ⟨q.1,y,f.F a.a8,rfl,λh1 x=>?_⟩;have e:=B h1 x;subst e;have z:=j.2;rw[a.quiet h1 x]at z;cases z
 rw[bO,ao];refine⟨λG=>C _ _ ⟨rfl,?_⟩,λhe=>?_⟩
 .cases he:q.2.2 with
  |true=>rfl
  |false=>rw[he]at G;exact m6 rfl G
 .have he:q.2.2=sp:=by
   cases Z:q.2.2 with
   |true=>rw[Z]at he;exact m6 Φ he
   |false=>rfl
  rw[bR];exact C _ _ ⟨rfl,by rw[he,Bool.false_or]⟩
theorem UK{u:Nat}{E:am×Bool}(h:bC w af ag A R n s t)(G:Laid w)(H:¬A 0)(aC:eo ax t)(J:bY s)(ah:s.ho.length<=1000000)(K:∀j,j.Perm (ix s s.ho.length)->j=O)(L:qc n O u s=σ E):
  aq x8 AQ [Γ af] w λr I=>r=Δ (if E.2=s2 then 8 else 0)/\cz ax w af ag A R n E.1 I:=by
 have M:=h.2.2.2.1;refine aE func10 ?_;refine b3.sink (λm U=>∃s1,cz ax w af ag A R n s1 U/\fw n.k n.d6 s s1/\qc n O m s1=σ E) ⟨s,cz.same h G H aC (Ext.refl _),.rfl M J,L⟩ ?_;rintro m _ U Z ⟨s1,hm,e,a⟩ N;obtain⟨aa,ac,P,Q,S,T,V⟩:=hm.open;have ad:=e.same.ho;cases m with
 |zero=>cases a
 |succ m=>
 rw[qc]at a;refine(Hk P Q S T e.gJ Ω).Y ?_;rintro _ ab _ ⟨j,q,W,z,rfl,x⟩;obtain rfl:=K j (by rw[<-Hh e.same];exact W);have x:=V x;have X:=(Hd e.ok e.gJ z).1;cases y:vX n j s1 with
 |none=>rw[y]at a;cases a
 |some ae=>
 rw[y]at a;obtain rfl:=UI y z;simp only at a;rw[bA,bB];refine a6 (λr I=>ab=I/\r= .bool (q.2.2|| !q.2.1)) ?_ λaz B=>?_
 .rintro _ _ ⟨rfl,rfl⟩;rw[b4];refine⟨λf=>?_,λf=>?_⟩
  .cases he:q.2.2 with
   |true=>
    rw[he,m3 rfl]at a;cases a;exact⟨by rw[m3 rfl],x⟩
   |false=>
    rw[he,Bool.false_or,Bool.not_eq_true']at f;rw[he,f,m5 Φ,m5 Φ]at a;cases a;exact⟨rfl,x⟩
  .rw[T4,Bool.not_eq_false']at f;rw[f.1,f.2,m5 Φ,m3 rfl]at a;exact N m _ _ Ω ⟨q.1,x,e.F X,a⟩
 rw[bO,ao];refine⟨λC=>B _ _ ⟨rfl,?_⟩,λhe=>?_⟩
 .cases he:q.2.2 with
  |true=>rfl
  |false=>rw[he]at C;exact m6 rfl C
 .have he:q.2.2=sp:=by
   cases Y:q.2.2 with
   |true=>rw[Y]at he;exact m6 Φ he
   |false=>rfl
  rw[bR];exact B _ _ ⟨rfl,by rw[he,Bool.false_or]⟩
end
theorem Hl{w:x5}{p:x4}(ae:aQ .u8 w p pl)(Q:Bytes pl)(aX:fD w):aq x8 Iv [p] w (Si w (pl.take 300)):=by
 refine aE func24 ?_;refine bF aM.i λz U bM ai X=>?_;have X:ak U z aM z12:=X;rw[ba cV.u (ae.W ai),mp];refine L2 (i:=min pl.length 300) Ω cV.u cT.i (ae.W ai) Ω λbN aj=>?_;have aY:pl.take (min pl.length 300)=pl.take 300:=by
  by_cases h:pl.length<=300
  .rw[Nat.min_eq_left h,o9,j5 h]
  .rw[Nat.min_eq_right Ω]
 rw[aY]at aj;have Y:Bytes (pl.take 300):=λb a=>Q b (List.mem_of_mem_take a);have aZ:(pl.take 300).length<=300:=by rw[Z3];omega
 generalize pl.take 300=q at aj Y aZ;refine(Rf aj Ω).Y ?_;rintro bP ab _ ⟨am,bQ,an⟩;have aG:=ai.F am;refine(OY an.ls Y Ω (aX.W aG)).Y ?_;rintro bR bS _ ⟨S,B⟩;have aH:=aG.F S;cases E:il q with
 |none=>
  rw[E]at B;obtain⟨n,e,rfl,he⟩:=B;rw[fN,fO,fP];refine(E2 (an.W S).ls Y Ω).Y ?_;rintro a1 ap _ ⟨K,a2,a7,au,_⟩;obtain rfl:=au E;rw[fN,fO,fP];refine a6 (λv W=>v= .bool s2/\Ext ap W) ?_ ?_
  .rintro _ W ⟨rfl,H⟩;rw[bT,dn (cs:=#[Δ 0,.slice ν 0 0,Δ 0,.slice ν 0 0,.slice ν 0 0,.slice ν 0 0,.slice ν 0 0,.slice ν 0 0]) Ψ];obtain⟨_,_,s,C⟩:=Fr;refine cd (vs:=z12) aM.i rfl rfl (by intro u hu;simp[z12]at hu;rcases hu with rfl|rfl|rfl|rfl<;>rfl) ((((X.W am).W S).W K).W H) λbU bc bV bd=>?_;rw[fA aM.p aM.i rfl bd.range];refine⟨((aH.F K).F H).then bc λr B he=>by have he:r=z:=he;omega,_,_,sp,rfl,⟨rfl,(Fr).elim λ_ h=>by obtain⟨_,_,h⟩:=h;exact λu hu=>by simp[z12]at hu;rcases hu with rfl|rfl|rfl|rfl<;>rfl⟩,.inl ⟨rfl,rfl⟩,λf ah=>?_⟩;rw[E]at ah;cases ah
  .intro az I;rw[bO,ao];exact⟨λ_=>I _ _ ⟨rfl,Ext.refl _⟩,λh=>m6 he h⟩
 |some f=>
  rw[E]at B;obtain⟨bW,n,rfl,be⟩:=B;obtain⟨N,bf,L,bg,bh⟩:=Rc Ω E;have M:=DO L;have Z:=yM L;rw[fN,fO,fP];refine(E2 (an.W S).ls Y Ω).Y ?_;rintro a1 ap _ ⟨K,a2,a7,_,au⟩;obtain⟨bX,rfl,bi⟩:=au f E;rw[fN,fO,fP];refine a6 (λv W=>v= .bool sp/\Ext ap W) ?_ ?_
  rotate_left
  .intro az I;rw[bO,ao];refine⟨λh=>m6 rfl h,λ_=>?_⟩;rw[dj wY.u];exact I _ _ ⟨rfl,Ext.refl _⟩
  rintro _ W ⟨rfl,H⟩;rw[bb];have aI:=(aH.F K).F H;refine(P7 ((be.W K).W H) L bf ⟨bg,bh⟩).Y ?_;rintro bY bj _ ⟨av,bk⟩;have ad:=aI.F av;have O:=((((X.W am).W S).W K).W H).W av;have aJ:=(bi.W H).W av;have bZ:=ad.size;have b0:w.heap.size<=z:=Ω
  have b1:=O.lt;rcases bk with⟨bm,e,he,rfl⟩|⟨b2,rfl,bn⟩
  .rw[bA,bB];refine Re.Y ?_;rintro _ aL _ ⟨rfl,j⟩;refine jF (λaw t4 x=>aw= .pointer ν/\t4= .bool sp/\Ext w x/\∃cs:List x4,ak x z aM cs/\cs.length=8/\∀u∈cs,u.oneCell'=s2) ?_ ?_
   .rintro _ _ x ⟨rfl,rfl,ax,cs,ay,s,C⟩;rw[fA aM.p aM.i s ay.range];exact⟨ax,_,cs,sp,rfl,⟨s,C⟩,.inl ⟨rfl,rfl⟩,λb3 aN bo=>m6 bo (by rw[E]at aN;cases aN;exact bm)⟩
   .intro az I;have bp:=j.size;refine(Fc (aJ.W j) L).Y ?_;rintro bq aA _ ⟨y,aB⟩;refine(FP (R:=λr=>w.heap.size<=r/\∃c,ak aA r al c) (λr h=>h.2.elim λc a=>a.lt) (λr c Q a=>⟨Ω,c,a⟩) aB M.1 Z).Y ?_;rintro br bs _ ⟨G,A9,cs,rfl,P,aC⟩;obtain⟨s,C⟩:=P.len;rw[bl,ao];refine⟨λh=>m6 h he,λ_=>?_⟩;refine cd (vs:=cs) aM.i s rfl C (((O.W j).W y).W G) λbt J aO aD=>?_;exact I _ _ _ ⟨rfl,rfl,(((ad.F j).F y).F G).then J λr B he=>by have he:r=z:=he;omega,cs,aD,s,C⟩
  .rw[bA,bB];obtain⟨b4,bu,aP,bw⟩:=bn;have z5:=aI.size;refine(Qu (R0:=λr=>w.heap.size<=r/\r<bj.heap.size) bu aP (λr o h V=>⟨by have:=bw r o h V;omega,(Y1.1 (aP.a8 r o h V)).1⟩) (λr h=>h.2) M.1 Z).Y ?_;rintro _ aL _ ⟨j,af,ag,A,R,t,rfl,bx,ac,aR,aS,bz⟩;have aT:bC aL af ag A R (cA f) (cY (cA f)) t:=⟨bx,ac,Rh M.1 Z ac aR,Qg M.1,M.1⟩;refine jF (λaw t4 x=>aw=Γ af/\t4= .bool s2/\Ext w x/\∃cs:List x4,ak x z aM cs/\cs.length=8/\(∀u∈cs,u.oneCell'=s2)/\∃R' A9 aK,bC x af ag A R' (cA f) (cY (cA f)) t/\iw s2 A9 aK x cs (cA f).k (cA f).d6 (cY (cA f))/\(∀q r,A9 q r->¬A r/\¬R' r/\w.heap.size<=r)/\(∀r,aK r->¬eR x r/\r<x.heap.size/\w.heap.size<=r)/\∀r,R' r->w.heap.size<=r) ?_ ?_
   .rintro _ _ x ⟨rfl,rfl,ax,cs,ay,s,C,R',A9,aK,bD,P,bE,bG⟩;rw[fA aM.p aM.i s ay.range];exact⟨ax,_,cs,s2,rfl,⟨s,C⟩,.inr ⟨rfl,f,E,af,ag,A,R',t,N,A9,aK,L,rfl,bD,aR,λr B=>by have:=aS r B;omega,P,bE,bG⟩,λ_ _ _=>rfl⟩
   .intro az I;have bp:=j.size;refine(Fc (aJ.W j) L).Y ?_;rintro bq aA _ ⟨y,aB⟩;refine(FP (R:=λr=>w.heap.size<=r/\∃c,ak aA r al c) (λr h=>h.2.elim λc a=>a.lt) (λr c Q a=>⟨Ω,c,a⟩) aB M.1 Z).Y ?_;rintro br bs _ ⟨G,A9,cs,rfl,P,aC⟩;obtain⟨s,C⟩:=P.len;rw[bl,ao];refine⟨λ_=>?_,λh=>m6 rfl h⟩;rw[w3 eD.u];have aU:=((O.W j).W y).W G;have bH:=((ad.F j).F y).F G;refine cd (vs:=cs) aM.i s rfl C aU λbt J aO aD=>?_;have aV:=(aT.W y).W G;obtain⟨R',aW,bI⟩:=aV.1.put aU J λh=>by have:=aS z h;omega
    have b5:=((ad.F j).F y).size;have b6:=G.size;obtain⟨_,_,_,_,⟨_,_,bJ,bK⟩,_⟩:=(aT.W y).1;have b7:=O.lt;have b8:=(j.F y).size;have bL:=P.aa J λr B h he=>by
     have he:r=z:=he;rcases h with⟨q,h⟩|⟨_,c,a⟩
     .have:=aC q r h;omega
     .subst he;exact m6 (fE a (((O.W j).W y))) Φ
    refine I _ _ _ ⟨rfl,rfl,bH.then J λr B he=>by have he:r=z:=he;omega,cs,aD,s,C,R',A9,_,⟨bI,aV.2⟩,bL,λq r h=>?_,λr h=>?_,λr h=>?_⟩
    .have b9:=aC q r h;refine⟨λaF=>by have:=bK r aF;omega,λaF=>by have:=bJ r (aW r aF).1;omega,Ω⟩
    .obtain⟨Q,c,a⟩:=h;have ca:=a.lt;have aO:=J.size;refine⟨Rb ((a.W G).aa J λhe=>?_) Φ,Ω,Q⟩;have he:r=z:=he;subst he;exact m6 (fE a (((O.W j).W y))) Φ
    .rcases bz r (aW r h).1 with h|h
     .exact h.1
     .omega
section
variable{Z aK:aj}{w I:x5}{af ag av:Nat}{A R:aj}{A9:Nat->aj}{n:aI}{s s':am}{t:aB}{cs:List x4}{a:fV}
theorem UL(h:fx Z aK w af ag av n s)(W:a.ok):aq x8 wI [Γ af,Γ av,.agg a.cb.toArray] w λ_ I=>lz Z aK w af ag av n (nd n s a) I:=by
 obtain⟨A,R,A9,t,cs,p,⟨aA,Q⟩,aB,S,aC⟩:=id h;have O:=p.dG.2.2.2.1;have bs:=O.eI;have bt:=a.Tr;have G:¬A 0:=λh=>Q ((S 0).2 (.inl h));have X:=Ts (a:=a) aB O;refine aE func27 ?_;refine br λga U bu aD Y=>?_;have Y:ak U ga dg [.int .u8 a.d,Δ a.i,Δ a.pos,Δ a.v,Δ a.c]:=Y;intro ab aG _ _;have C:=aD.F aG;have B:=Y.W aG;have bw:=aD.size;have bx:=C.size;have bz:=B.lt;have ac:(a.d % 7).toNat=a.kind:=rfl;obtain⟨hv,bA,bB,bC,bD,bE,aV,_⟩:=p.p2;have aW:cs[0]?=σ (Δ n.k):=by rw[aV];rfl
 have hu:U4.wrap a.c=a.c.emod 18446744073709551616:=rfl;have aX:0<=a.c.emod 18446744073709551616:=Int.emod_nonneg _ Φ;have bF:=Int.emod_nonneg (a.c.emod 18446744073709551616) (show n.k+1≠0 by omega);have bG:=Int.emod_lt_of_pos (a.c.emod 18446744073709551616) (show 0<n.k+1 by omega);have aY:a.c.emod 18446744073709551616 % (n.k+1)=vP n.k a:=rfl;rw[aP dg.p 4 B rfl,fM ay.u fZ.u,aO aM.p 0 (p.box.W C) aW,aT,lm Ω Ω,fM ay.u fZ.u,lw (x:=n.k+1) Ω Ω,hu,rO Ω,Int.tmod_eq_emod_of_nonneg aX,fM fZ.u ay.u,lm Ω Ω,aY,
  aP dg.p 0 B rfl,zt W.1,ac,bl,ao]
 have E:=p.W C;refine⟨λad=>?_,λad=>?_⟩
 .have ad:a.kind=6:=Ω
  have H:nd n s a=if eB n a.i a.v then dX s a.i.toNat a.v.toNat else s:=by unfold nd;rw[m3 ad]
  refine dd (λI=>lz Z aK w af ag av n (nd n s a) I) (λI h=>h) λaz aH=>?_;rw[aP dg.p 1 B rfl,aP dg.p 3 B rfl];refine(yL (i:=a.i) (v:=a.v) E.dG (.inl p.iJ.1)).Y ?_;rintro bH bI _ ⟨a1,a2⟩;by_cases L:eB n a.i a.v
  rotate_left
  .obtain⟨rfl,a6⟩:=a1 L;rw[bl,ao];exact⟨λh=>m6 h Φ,λ_=>aH _ (by rw[H,m5 L];exact lz.same h (C.F a6))⟩
  obtain⟨rfl,aI,aR,y,ae,a7⟩:=a2 L;rw[m3 L]at H;rw[bl,ao];refine⟨λ_=>?_,λh=>m6 rfl h⟩;have a8:=E.prog aI ae a7 E.iJ.set (λ_ h=>.inl h) (λ_ _ _ h=>h) E.box.lt;obtain⟨ba,x,J,bb,bJ⟩:=Gx O L;obtain⟨ah,V⟩:=W9 ba;rw[V,u7]at J;intro ai aj _ _;have j:=a8.W aj;have am:∀r,A r->r<w.heap.size:=λr h=>nU p.dG r (.inl h);have P:=(B.aa ae.1 λh=>by have:=am ga h;omega).W aj;rw[V]at P;have aJ:ah<s.d9.length:=(x6.1 J).1;obtain⟨g,cap,aL,gy,e,an,bc,bd,be,bf⟩:=Tt j J;have bK:=vG x;have bL:x.un.length<=32:=by obtain⟨bM,aN,bN,bg,_⟩:=L.var O;rw[V,u7,J]at aN;cases aN;exact bg
  have ap:∀r,lc aL r->r≠ga/\r≠av:=λr f=>by
   have h1:A9 0 r/\r<ab.heap.size:=be r f;exact⟨λhe=>by have:=aC 0 r h1.1;omega,λhe=>(p.apart 0 r h1.1).2.2 he⟩
  rw[aO aM.p 3 j.box an,aP dg.p 1 P rfl,aO aM.p 3 j.box an,aP dg.p 1 P rfl,e2 cq.u au.i aJ λ_=>rfl,aF (v:=aL) (o:=0+ah*1) Ψ bc,lM];refine(RW (p:=λy=>decide (y=a.v)) bd Ω λI y bi bO=>?_).Y ?_
  .refine aE func72 ?_;rw[aP dg.p 3 (P.aa bi λh=>(ap ga h).1 rfl) rfl,bl];exact⟨rfl,Ext.refl _⟩
  rintro bP aw _ ⟨ax,bj,bk⟩;have bm:=P.aa ax λh=>(ap ga h).1 rfl;have bn:=j.box.aa ax λh=>(ap av h).2 rfl;refine⟨.inr ⟨tZ Ψ (bm.cell (o:=0+1) rfl),Go.Vc.mK λK=>aZ dg.p rfl,tZ Ψ (bn.cell (o:=0+3) an),Go.Vc.mK λK=>aZ aM.p rfl,Go.Vc.mK λK=>b5,trivial⟩,?_⟩;rw[e2 cq.u au.i aJ λ_=>rfl];refine bf (m:=((x.mask.toNat ||| 2 ^ a.v.toNat:Nat):Int)) (Ext.refl _) ax (by rw[y4 bb];exact bj) bk λbQ aQ=>aH _ ?_;have bo:dX s a.i.toNat a.v.toNat={s with d9:=s.d9.set ah {x with mask:=((x.mask.toNat ||| 2 ^ a.v.toNat:Nat):Int)}}:=by rw[V,u7];unfold dX;rw[J]
  rw[H];rw[<-bo]at aQ;have bp:=cB.comp (aj.aa _) (λq r f=>.inl ⟨q,f⟩) aQ;exact lz.before C (fx.Tu E S (by rw[<-H];exact X) Q (aA.W C) aI ae (λq r (f:A9 q r/\r<ab.heap.size)=>f.1) bp)
 have bR:(mb n.k a).kind=a.kind:=rfl;have H:nd n s a=(bh n.k s (mb n.k a)).1:=by unfold nd;rw[m5 Ω]
 rw[aP dg.p 0 B rfl,zt W.1,ac,fM cT.u al.u,lm Ω Ω,aP dg.p 1 B rfl,aP dg.p 2 B rfl,aP dg.p 3 B rfl];refine(Tc (m:=mb n.k a) E O aB.1 Ω).Y ?_;rintro _ ai _ ⟨rfl,aS⟩;obtain⟨aU,bS,bT,j,bU⟩:=id aS;have am:∀r,(∃q,A9 q r)\/r=av->r<w.heap.size:=λr f=>f.elim (λ⟨q,h⟩=>aC q r h) λh=>by rw[h];exact p.box.lt
 have z:=B.aa aU λf=>by have:=am ga f;omega
 have M:Laid ai:=iz aU (λh=>Q ((S 0).2 (h.elim (λh=>.inr (.inr (.inl h))) λh=>.inr (.inr (.inr (.inr h)))))) (aA.W C);have N:∀{r:x4}{aw:x5},p8 [] ai af ag A R n s (mb n.k a) r aw->lz Z aK w af ag av n (nd n s a) aw:=λbq=>by
  rw[H]at X ⊢;exact lz.before C (fx.step E S X Q aS (Ext.refl _) bq.2)
 rw[aP dg.p 0 z rfl,zt W.1,ac,bl,ao];refine⟨λhk=>?_,λbV=>?_⟩
 .rw[aP dg.p 1 z rfl,aP dg.p 2 z rfl,aP dg.p 3 z rfl];exact(zm (a:=mb n.k a) Ω j.dG M G j.iJ.m).Y λr I _ f=>N f
 rw[bl,ao];refine⟨λhk=>?_,λbW=>?_⟩
 .rw[aP dg.p 1 z rfl,aP dg.p 2 z rfl,aP dg.p 3 z rfl];exact(Gn (a:=mb n.k a) Ω j.dG M G j.iJ.m).Y λr I _ f=>N f
 rw[bl,ao];refine⟨λhk=>?_,λbX=>?_⟩
 .rw[aP dg.p 1 z rfl];exact(Gs (a:=mb n.k a) Ω j.dG M G j.iJ.m).Y λr I _ f=>N f
 rw[bl,ao];refine⟨λhk=>?_,λbY=>?_⟩
 .rw[aP dg.p 1 z rfl];exact(SR (a:=mb n.k a) Ω j.dG M G j.iJ.m).Y λr I _ f=>N f
 rw[bl,ao];refine⟨λhk=>?_,λbZ=>?_⟩
 .rw[aP dg.p 1 z rfl,aP dg.p 3 z rfl];exact(Gt (a:=mb n.k a) Ω j.dG M G j.iJ.m).Y λr I _ f=>N f
 .rw[aP dg.p 1 z rfl,aP dg.p 3 z rfl];exact(SS (a:=mb n.k a) Ω j.dG M G j.iJ.m).Y λr I _ f=>N f
end
section
variable{w0 w I:x5}{af ag av:Nat}{n:aI}{s:am}{Z aK:aj}
theorem ne.UM{a:fV}(h:ne w0 w af ag av n)(q:a.ok):aq x8 wI [Γ af,Γ av,.agg a.cb.toArray] w λ_ I=>ne w0 I af ag av n:=by
 obtain⟨e,s,Z,aK,x,f⟩:=h;refine(UL x q).Y ?_;rintro v U _ ⟨y,A,B,C⟩;have z:=e.size;exact⟨e.then y λr j h=>by have:=f r h.1;omega,_,A,aK,C,λr j=>(B r j).elim (f r) λh=>Ω⟩
theorem UN{e:x4}{L:List nc}{K:x4->x5->Prop}{i:Nat}{x:nc}(j:Seen fB w [e] L)(J:L[i]?=σ x)(q:∀g I,Ext w I->w.heap.size<=g->ak I g dg (oU x).cb->K (Γ g) I):
  ad x8 (n9 pi e (Δ (i:Int))) w λr=>
  ad x8 (u5 dg r) w λs=>
  aL x8 (Instr.alloc dg s2 (.tuple #[])) w λa f=>
  aL x8 (o7 dg a s) f λ(_:Unit)h=>K a h:=by
 refine nH (α:=nc) dg.p rfl pi.u dg.i j J λcs y=>?_;obtain rfl:=Tp y;refine bF dg.i λgy f E z A=>?_;refine cd (vs:=(oU x).cb) dg.i rfl rfl (fV.one _) A λh B F C=>?_;exact q _ _ (z.put B Ω) Ω C
theorem UO{r:x4}{L:List nc}{m:Int}{K:x5->Prop}(h:ne w0 w af ag av n)(e:Seen fB w0 [r] L)(H:∀x∈L,(oU x).ok)(J:∀I,ne w0 I af ag av n->K I):
  ad x8 (X7 #[pi] al #[r]) w λM=>
 b3 (Δ 0) w λj a k=>
  ad x8 (aS .lss al sp sp j M) a λN=>
  Split N (cG (α:=x5->Prop) (λ(y:x5)=>
   ad x8 (aS .add al sp s2 j (Δ 1)) y λO=>
   k O y) λz=>
  ad x8 (n9 pi r j) a λP=>
  ad x8 (u5 dg P) a λQ=>
  aL x8 (Instr.alloc dg s2 (.tuple #[])) a λb A=>
  aL x8 (o7 dg b Q) A λ(_:Unit)q=>
  ad x8 (aS .lss al sp s2 j (Δ m)) q λR=>
  Split R (ad x8 (u5 dg b) q λS=>
   aq x8 wI [Γ af,Γ av,S] q λZ B=>
   z B)
   (z q))
   (K a):=by
 rw[ij pi.u (bD e h.1)];refine b3.range L.length (λi s=>ne w0 s af ag av n) (pt e) h ?_ ?_
 .rintro i s U hi f V;obtain⟨x,C⟩:=aJ (l:=L) hi;have W:=H x (x7 C);refine bK Ω ?_;refine dd (λa=>ne w0 a af ag av n) (λa X=>by rw[aT];exact V _ X) λaz E=>?_;refine UN (bD e f.1) C λgy A G _ Y=>?_;rw[aW,ao];refine⟨λ_=>?_,λ_=>E _ (f.W G)⟩;rw[bI dg.p dg.i rfl Y.range];exact((f.W G).UM W).Y λv B _ e=>E _ e
 .rintro s U f;exact ck Ω (J _ f)
end
theorem UP{p Y:x4}{L:List nc}{w:x5}(ae:aQ .u8 w p pl)(aA:∀b∈pl,0<=b/\b<256)(aB:Seen fB w [Y] L)(aC:∀x∈L,(oU x).ok)(aD:fD w)(M:Laid w):aq x8 In [p,Y] w (Gz w pl):=by
 have a1:=rh M;refine aE func7 ?_;refine bF aM.i λj U a2 y aa=>?_;have a7:=aa.lt;have a8:=y.size;refine(Hl (ae.W y) aA (aD.W y)).Y ?_;rintro _ ab _ ⟨N,ba,cs,ok,rfl,⟨E,G⟩,aF,_⟩;rw[fN,fO,fP];refine bF aM.i λav bc bd aG aH=>?_;refine cd (vs:=cs) aM.i E rfl G aH λH aI be O=>?_;have ac:Ext ab H:=aG.put aI Ω;have I:=N.F ac;have aj:=y.F I;have bf:=N.size;have out:∀{a:x5}{z:List x4}{K:x4->x5->Prop},Ext U a->ak a av aM z->z.length=8->(∀u∈z,u.oneCell'=s2)->(∀e,ai (λr=>r=j) a e->K (.agg z.toArray) e)->
   ad x8 (u5 aM (Γ av)) a λt25=>aL x8 (o7 aM (Γ j) t25) a λ(_:Unit)e=>ad x8 (do loadVar aM (<-asAddr (Γ j))) e λr=>K r e:=λ{a z K}J aJ P aN aO=>by
  rw[bI aM.p aM.i P aJ.range];refine cd (vs:=z) aM.i P rfl aN (aa.W J) λe B bg aR=>?_;rw[fA aM.p aM.i P aR.range];exact aO _ B
 have no:∀{e:x5},(∃a,Ext H a/\ai (λr=>r=j) a e)->Gz w pl (.tuple #[.pointer ν,.agg cs.toArray,.bool sp]) e:=λ⟨a,q,aS⟩=>⟨(aj.F q).then aS λr C h=>by have h:r=j:=h;omega,.inl ⟨cs,rfl,E,G⟩⟩;rcases aF with⟨rfl,rfl⟩|⟨rfl,f,ah,aT⟩
 .refine a6 (λv Q=>Q=H/\v= .bool s2) ?_ λaz S=>?_
  .rintro _ _ ⟨rfl,rfl⟩;rw[bT];intro a q _ _;exact out (I.F q) (O.W q) E G λe B=>no ⟨a,q,B⟩
  .rw[bR,X5,bT];exact S _ _ ⟨rfl,rfl⟩
 obtain⟨af,ag,Z,aK,rfl,al,aU⟩:=Td aT ac O Ω N.size (rh (M.W y)) (M.W aj);obtain⟨hv,bh,bi,bj,bk,bl,aV,_⟩:=al.look;refine a6 (λv Q=>Q=H/\v= .bool (decide (1000<(cA f).k))) ?_ λaz S=>?_
 rotate_left
 .rw[bR,Y7,bb,aP aM.p 0 aV rfl,bW];exact S _ _ ⟨rfl,rfl⟩
 rintro _ _ ⟨rfl,rfl⟩;rw[ao];refine⟨λhk=>?_,λhk=>?_⟩
 .intro a q _ _;exact out (I.F q) (O.W q) E G λe B=>no ⟨a,q,B⟩
 refine UO (w0:=U) ⟨I,_,Z,aK,al,aU⟩ (bD aB y) aC λbm aW=>?_;obtain⟨am,s,an,aX,aY,ap⟩:=aW;intro bn V _ _;have au:=aY.W V;obtain⟨W,aw,aZ⟩:=au.dy;have ax:W.length=8/\∀u∈W,u.oneCell'=s2:=by
  obtain⟨A,R,A9,t,p,_⟩:=id aw;exact bG.len p.doc
 have ay:∀r,an r->¬r=j:=λr C h=>by have:=ap r C;omega
 refine out (am.F V) aZ ax.1 ax.2 λbo X=>⟨((y.F am).F V).then X λr C h=>by have h:r=j:=h;omega,.inr ⟨f,af,ag,av,an,aX,s,W,rfl,ah,Ω,au.side X ay (λh=>by have h:0=j:=h;omega),aw.side X ay (λh=>by have h:0=j:=h;omega),λr C=>by have:=ap r C;omega⟩⟩
def md:Λ:=[116,32,50,32,50,32,50,32,57,32,49,32,50,32,49,32,49,32,48,32,49,32,48,32,50,32,50,32,48,32,49,32,48,32,49,32,48,32,49,32,50]
def ib:cg:=⟨[116],9,[1,2],[⟨[1],[2],0,[([0],2)]⟩,⟨[0,1],[1,2],0,[([0,1],2)]⟩]⟩
theorem UQ:il md=σ ib:=by
 have h:(match il md with
  |some f=>decide (f.name=ib.name/\f.k=ib.k/\f.d6=ib.d6)&&decide (f.ho.map (λx=>(x.scope,x.d6,x.other,x.lines))=ib.ho.map λx=>(x.scope,x.d6,x.other,x.lines))
  |none=>sp)=s2:=by decide+kernel
 cases q:il md with
 |none=>rw[q]at h;cases h
 |some f=>
  rw[q]at h;simp only[T9,ro]at h;obtain⟨⟨h1,r,s⟩,e⟩:=h;obtain⟨nm,k,z,j⟩:=f;simp only at h1 r s e;subst h1;subst r;subst s;have:j=ib.ho:=by
   have w:j.length=2:=by have:=congrArg List.length e;simpa[ib]using this
   match j,w with
   |[x,y],_=>
    obtain⟨a,b,c,d⟩:=x;obtain⟨a',A,B,C⟩:=y;simp[ib]at e;obtain⟨⟨rfl,rfl,rfl,rfl⟩,rfl,rfl,rfl,rfl⟩:=e;rfl
  subst this;rfl
theorem UR:nP ib.ho<=16384:=by decide+kernel
theorem US:∃E,qc (cA ib) [0] 20 (cY (cA ib))=σ E/\E.2=sp/\E.1.zero=2/\(E.1.d9[1]?.map λx=>(aG x,x.un.length))=σ ([0,1],2):=by
 have h:(match qc (cA ib) [0] 20 (cY (cA ib))with
  |some E=>decide (E.2=sp/\E.1.zero=2/\(E.1.d9[1]?.map λx=>(aG x,x.un.length))=σ ([0,1],2))
  |none=>sp)=s2:=by decide+kernel
 cases a:qc (cA ib) [0] 20 (cY (cA ib))with
 |none=>rw[a]at h;cases h
 |some E=>
  rw[a]at h;exact⟨E,rfl,rs h⟩
theorem UT:ix (cY (cA ib)) (cY (cA ib)).ho.length=[0]:=by decide+kernel
theorem UU:(cY (cA ib)).ho.length<=1000000:=by decide+kernel
theorem UV{w:x5}(Q:fD w)(y:Laid w):aq x8 Im [] w λv I=>v= .bool s2/\Ext w I:=by
 refine aE func6 ?_;refine k5 (k:=1) (cs:=(ints .u8 md).toArray) cV.u cT.i Ω Ψ λg U aV a q=>?_;have z:aH .u8 cT U g (.slice (σ ⟨g,0,ν⟩) 41 41) md:=aH.of (n:=41) (b7.full (by simpa using q) (by simp[md]) (by simp[maxLen]));refine Sm q λB C G=>?_;have a:=a.put C Ω;have ae:aQ .u8 B (.slice (σ ⟨g,0,ν⟩) 41 41) md:=by
  obtain⟨S,b,o,base,cap,V,W,X,Y,Z⟩:=z.ls;cases V;cases Y (by simp[md]);exact⟨S,g,0,_,41,rfl,W,X,λ_=>rfl,G _ _ Z⟩
 clear z q G C;refine(Hl ae (by intro b aa;simp[md]at aa;omega) (Q.W a)).Y ?_;rintro _ ab _ ⟨ac,ad,cs,ok,rfl,⟨ai,aj⟩,ak,al⟩;have H:il (md.take 300)=σ ib:=by
  rw[j5 Φ];exact UQ
 have am:=al ib H UR;subst am;obtain⟨f,ah,af,ag,A,R,t,N,A9,aK,aW,rfl,an,ap,K,_⟩:∃f,il (md.take 300)=σ f/\vC B.heap.size ab ad cs f:=by
  rcases ak with⟨h,_⟩|⟨_,h⟩
  .cases h
  .exact h
 rw[H]at ah;cases ah;have L:=a.F ac;rw[fN,fO,fP];refine bF aM.i λav aX aY au aw=>?_;refine cd aM.i ai rfl aj aw λaZ ax a1 ay=>?_;have s:=au.put ax Ω;have aA:=an.W s;have aB:¬A 0:=λh=>by have:=K 0 h;have:=rh (y.W a);omega
 refine a6 (λv aC=>v= .bool s2/\Ext w aC) (λ_ _ h=>h) λaz aD=>?_;rw[bT];obtain⟨E,aF,aG,aI,aJ⟩:=US;refine(UK aA (y.W (L.F s)) aB ap.2.2.1.m (F9 _) UU (λa2 aL=>List.perm_singleton.1 (UT▸aL)) aF).Y ?_;rintro _ a7 _ ⟨rfl,hm⟩;obtain⟨a8,ba,aR,bu,aN,M,_⟩:=hm;have aO:=(L.F s).then aN.1 λr bb h=>by have:=K r h;have:=a.size;omega
 rw[aG,m5 Φ,bl,ao];refine⟨λ_=>?_,λh=>m6 rfl h⟩;refine(pU M).Y ?_;rintro _ bc _ ⟨rfl,O⟩;rw[aI,bl,ao];refine⟨λ_=>?_,λh=>m6 rfl h⟩;refine(jv (M.W O)).Y ?_;rintro _ bd _ ⟨⟨b,aP,rfl,e⟩,aS⟩;refine(TR e.1).Y ?_;rintro _ be _ ⟨rfl,aT⟩;obtain⟨x,J,P⟩:=Z9.1 aJ;simp only[R2]at P;have j:=lr e Ω J;have bf:=(e.2.2 x Ω J).1;have ay:=e.1.2;have aU:aP=2:=Ω
 subst aU;rw[P.1]at j;rw[bl];refine aD _ _ ⟨?_,((aO.F O).F aS).F aT⟩;rcases(show b=0\/b=1\/b=2\/b=3 by omega)with rfl|rfl|rfl|rfl
 .exact m6 j Φ
 .exact m6 j Φ
 .exact m6 j Φ
 .rfl
theorem UW{sv:x4}{l:Λ}{w:x5}(h:aQ .i64 w sv l)(V:∀x∈l,1<=x/\x<=32)(an:l.length<=64):
  aq x8 Io [sv] w λv I=>Ext w I/\∃L,bw (e4 w.heap.size) bU I [v] L/\Te l L:=by
 refine aE func8 ?_;have ae:=mu l V;refine a6 (λv ab=>Ext w ab/\∃b,v= .bool b/\(b=s2->l.length<=11/\aV l<=90)) ?_ λaz K=>?_
 rotate_left
 .rw[ba au.u h,aW,ao];refine⟨λap=>?_,λ_=>K _ _ ⟨Ext.refl _,sp,rfl,λh=>by cases h⟩⟩;refine(Ti h V).Y ?_;rintro _ U _ ⟨⟨c,rfl,P⟩,e⟩;rw[lL];exact K _ _ ⟨e,_,rfl,λh=>⟨Ω,by rw[<-P Ω];exact rs h⟩⟩
 rintro _ U ⟨e,b,rfl,Q⟩;rw[b4];refine⟨λS=>?_,λ_=>?_⟩
 .obtain⟨av,ax⟩:=Q S;refine(xi l (h.W e) ⟨Ω,V,Ω⟩).Y ?_;rintro v ab _ ⟨f,aC⟩;have ay:=kF V;have W:=e.size;exact⟨e.F f,bt l,aw.Y aC (λr _ h=>by have h:U.heap.size<=r:=h;show w.heap.size<=r;omega) λ_ _ h=>h,Ω,λa C=>Tg C⟩
 have W:=e.size;refine cp.range 60 (λk out ab=>Ext U ab/\bw (e4 U.heap.size) bU ab [out] ((Y9 k).map (ma l))) Ω ⟨Ext.refl _,gx⟩ ?_ ?_
 .rintro k out ab X hk ⟨f,aC⟩ Y;refine bK Ω ?_;have E:=e.F f;rw[ba au.u (h.W E)];refine kD (k:=.i64) au.u al.i Ω Ω λs Z aA M N=>?_;have aa:aH .i64 al Z s (.slice (σ ⟨s,0,ν⟩) l.length l.length) (o5 l.length 0):=by
   refine aH.of (n:=l.length) ⟨Ξ,.inr ⟨l.length,ints .i64 (o5 l.length 0),rfl,N,Ω,by simp only[maxLen];omega,Ξ,Ξ⟩⟩
  have ac:=E.F M;have aB:=f.size;have aD:=N.lt;rw[ba au.u (h.W ac)];refine b3.range l.length (λq B=>Ext ab B/\aH .i64 al B s (.slice (σ ⟨s,0,ν⟩) l.length l.length) (upto (ma l k) 0 q)) h.le ⟨M,by rw[qG,s7];exact aa⟩ ?_ ?_
  .rintro q B ad af ⟨y,j⟩ ag;obtain⟨z,G⟩:=aJ (l:=l) af;have aF:=V z (x7 G);refine bK Ω ?_;have aG:0<=(k:Int)*(2*(q:Int)+1)/\(k:Int)*(2*(q:Int)+1)<=60*200:=⟨Int.mul_nonneg Ω Ω,Int.mul_le_mul Ω Ω Ω Ω⟩;have aI:0<=(k:Int) / 3/\(k:Int) / 3<=60:=Ω
   have aK:(2*(q:Int)+1)=2*(q:Int)+1:=rfl;rw[bp au.u al.i Ψ (h.W (E.F y)) G,fL,lm (x:=2*(q:Int)) Ω Ω,aT,lm Ω Ω,fL,lm Ω Ω,oh Φ,Int.tdiv_eq_ediv_of_nonneg Ω,lm Ω Ω,aT,lm Ω Ω,rO Ω,Int.tmod_eq_emod_of_nonneg Ω,
    jk rfl au.u al.i j (by rw[pA,s7];omega)]
   refine jl al.i j (by rw[pA,s7];omega) λah H aL ai=>?_;rw[aT];refine ag _ ⟨y.then H λr aj he=>by have he:r=s:=he;omega,?_⟩;rw[<-qI (Gw G)];exact ai
  rintro B ad ⟨y,j⟩;refine ck Ω ?_;rw[show upto (ma l k) 0 l.length=ma l k by rw[<-s7 l k,qH]]at j;have z4:=y.size;refine jL (α:=Λ) (a:=ma l k) (A:=e4 ab.heap.size) (R:=bU) cq.u au.i Φ (lO (mr j (R:=bU))) (aw.Y (mr j) (λr _ h=>by subst h;show ab.heap.size<=r;omega) λ_ _ h=>h) λaM ah J _ H=>?_;have O:=y.F J;have z5:=J.size;refine oj (α:=Λ) (a:=ma l k) (A:=e4 ab.heap.size) cq.u au.i rfl (bD (nE aC) O) H (bD (aw.Y (mr j) (λr _ h=>by subst h;show ab.heap.size<=r;omega) λ_ _ h=>h) J) (λr _ h be=>?_) (by simp only[r9,List.length_range];omega) (by simp only[r9,List.length_range];omega) λaN aO ak am=>?_
  .rcases be with be|be
   .have:=h.2;have:ab.heap.size<=r:=be;omega
   .exact be
  rw[aT];refine Y _ _ ⟨(f.F O).then am (λr aj h=>by have:=h.1;have:U.heap.size<=r:=this;omega),?_⟩;rw[List.range_succ,Z0,List.map_singleton];refine aw.Y ak (λr _ h=>?_) λ_ _ h=>h;show U.heap.size<=r;rcases h with h|h|h
  .exact h.1
  .have:ab.heap.size<=r:=h;omega
  .omega
 .rintro out ab X ⟨f,aC⟩;rw[show((60:Nat):Int)=60 from rfl,aW,ao];refine⟨λh=>Ω,λ_=>⟨e.F f,_,aw.Y aC (λr _ h=>by have h:U.heap.size<=r:=h;show w.heap.size<=r;omega) λ_ _ h=>h,Ξ,λa C=>?_⟩⟩;obtain⟨k,_,rfl⟩:=l9.1 C;exact Tf k V
theorem UX{p aD:x4}{L:List nc}{w:x5}{Q:x4->x5->Prop}(S:∀I,Ext w I->Q (.bool s2) I)(ae:aQ .u8 w p pl)(bd:∀b∈pl,0<=b/\b<256)(be:Seen fB w [aD] L)(V:∀x∈L,(oU x).ok)(aF:fD w)(aG:Laid w):
  aq x8 AP [p,aD] w Q:=by
 refine aE func3 ?_;refine(UV aF aG).Y ?_;rintro _ U _ ⟨rfl,B⟩;rw[bR,Y7,bb];refine(UP (ae.W B) bd (bD be B) V (aF.W B) (aG.W B)).Y ?_;rintro _ ab _ ⟨aH,bf⟩;have aI:=B.F aH;have cr:=B.size;have ct:=aH.size;rcases bf with⟨cs,rfl,bg,bh⟩|⟨f,af,ag,cu,Z,aK,s,cs,rfl,ah,hk,W,X,bi⟩
 .rw[fN,fO,fP];refine bF aM.i λav bj bk M Y=>?_;refine cd (vs:=cs) aM.i bg rfl bh Y λac ad bm ai=>?_;rw[bR,X5,bT,dj eD.u];exact S _ (aI.F (M.put ad Ω))
 rw[fN,fO,fP];have aj:cs.length=8/\∀u∈cs,u.oneCell'=s2:=by
  obtain⟨A,R,A9,t,p,_⟩:=id X;exact bG.len p.doc
 refine bF aM.i λav bj bk M Y=>?_;refine cd (vs:=cs) aM.i aj.1 rfl aj.2 Y λac ad bm ai=>?_;have aL:Ext ab ac:=M.put ad Ω;have bn:=aI.F aL;rw[bR,Y7,bb];have aN:=X.W aL;have aO:mZ ac av (cA f).k (cA f).d6 s:=j0.box aN.ok.2 (Ext.refl _) ai;obtain⟨hv,cw,cz,cB,cC,cD,ak,bo,_⟩:=id aO;obtain⟨y,aR,C,_⟩:=W.ok;have bp:s.ho.length<=256:=W.live.2;rw[aP aM.p 0 ak rfl,aP aM.p 1 ak rfl];refine(UW bo y.eQ.2.2 y.eQ.2.1).Y ?_;rintro dy bq _ ⟨aS,H,br,cE,al⟩;have am:=jJ br;rw[ij cq.u am];refine cp.range H.length (λi c an=>Ext bq an/\c=Δ (((H.take i).map (ej (cA f).k s)).foldl min (cA f).k)) (pt am) ⟨Ext.refl _,rfl⟩ ?_ ?_
 .rintro i _ an bs hi ⟨K,rfl⟩ bt;obtain⟨tl,ap⟩:=aJ (l:=H) hi;have E:=zs y (al tl (x7 ap));refine bK Ω ?_;refine kf (α:=Λ) (a:=tl) rfl rfl cq.u au.i Ψ (bD am K) ap λaX bu=>?_;refine(aO.W (aS.F K)).load λcF bw=>?_;refine(R3 bw y aR E (ew (jJ bu))).Y ?_;rintro _ cG _ ⟨rfl,bx⟩;rw[mp,aT];refine bt _ _ ⟨K.F bx,?_⟩;rw[u9,ap,j4,Z0,List.foldl_append];rfl
 rintro _ an bs ⟨K,rfl⟩;rw[o9];refine ck Ω ?_;have N:=aS.F K;have bz:=X.lt;obtain⟨A,R,t,bC,bE,bH,bL,bM⟩:=(aN.W N).go;refine(UJ bC bE bH bL aR Ω).Y ?_;rintro _ bN _ ⟨q,bP,rfl,hm⟩;obtain⟨aw,cH,cI,bQ⟩:=bM (Ext.refl _) hm;have aU:Ext w bN:=(bn.F N).then aw λr cJ h=>by have:=bi r h.1;omega
 have aV:¬(Z av/\¬aK av):=λh=>by have:=bz av h.1;have:=M.size;omega
 have bS:=(ai.W N).aa aw aV;have aY:=(ak.W N).aa aw aV;obtain⟨e,bU,bV,_⟩:=bP;have ax:∀c,c<=(H.map (ej (cA f).k s)).foldl min (cA f).k↔c<=(cA f).k/\∀a∈H,c<=ej (cA f).k s a:=λc=>by
  rw[oP];exact and_congr_right λ_=>⟨λh a z=>h _ (l9.2 ⟨a,z,rfl⟩),λh x J=>by obtain⟨a,z,rfl⟩:=l9.1 J;exact h a z⟩
 cases he:q.2 with
 |true=>
  obtain⟨i,hi,G,bW⟩:=bU he;rw[m3 rfl,bl,ao];refine⟨λ_=>?_,λh=>m6 rfl h⟩;rw[aP aM.p 0 aY rfl,bl,ms ?_]
  .exact S _ aU
  .have h1:=(ax (cA f).k).2 ⟨T3 _,λa z=>by
    have E:=zs y (al a z);rw[<-e.val a E,TH e.ok (vz e.same E) hi G bW];exact T3 _⟩
   have bX:=((ax _).1 (T3 _)).1;omega
 |false=>
  have aZ:=(bV he).1;rw[m5 Φ,bl,ao];refine⟨λh=>m6 h Φ,λ_=>?_⟩;have bY:∀g∈s.ho,g.live≠0:=λg V=>by
   obtain⟨j,a1⟩:=Y5.1 V;obtain⟨bZ,G⟩:=aJ (l:=(cY (cA f)).ho) (i:=j) (by have:=(x6.1 a1).1;have:=C.ho;omega);rw[(C.fn j bZ g G a1).2.2.1];unfold cY at G;simp only[u4,Z9]at G;obtain⟨c,_,rfl⟩:=G;show(1:Int)≠0;decide
  have bp:s.ho.length<=256:=by
   have h1:=C.ho;have bX:(cY (cA f)).ho.length=(cA f).ho.length:=by unfold cY;simp
   have:=W.ok.2.2.2;omega
  have b0:s.eJ.length<=1000:=by rw[C.eJ];exact W3 _
  rw[bI aM.p aM.i aj.1 bS.range];obtain⟨cK,cL,cM,cN,ay,⟨b1,_,_⟩,_⟩:=id bQ;refine(UA ay b1 e.same y bY Ω b0).Y ?_;rintro _ b2 _ ⟨b3,cO,bJ,rfl,a2,cP⟩;obtain⟨b4,b5⟩:=bG.len a2;refine bF aM.i λgy cQ cR b6 b7=>?_;refine cd (vs:=bJ) aM.i b4 rfl b5 b7 λaA b8 cS b9=>?_;have a7:Ext b2 aA:=b6.put b8 Ω;have ca:=b3.F a7;have a8:mZ aA gy (cA f).k (cA f).d6 q.1:=j0.box (iw.yZ a2) a7 b9;obtain⟨_,_,_,_,_,_,cb,cc,_⟩:=id a8;rw[aP aM.p 1 cb rfl,ba au.u cc];refine cp.range (cA f).d6.length (λi _ aB=>Ext aA aB) (by have:=y.eQ.2.1;omega) (Ext.refl _) ?_ ?_
  .rintro i t4 aB ce hi O cf;obtain⟨x,J⟩:=aJ (l:=q.1.d9) (i:=i) (by have:=e.ok.d9;omega);refine bK Ω ?_;refine(a8.W O).load λcT cg=>?_;refine(Tn (i:=i) cg e.ok J).Y ?_;rintro _ cU _ ⟨ch,rfl⟩;have ci:=((TS e.ok J).1 (aZ i hi) (Gy (C.F e.same) J)).2.1;rw[bA,bB,bO,ao];refine⟨λh=>m6 ci h,λ_=>?_⟩;rw[aT];exact cf _ _ (O.F ch)
  .rintro t4 aB ce O;refine ck Ω ?_;refine a6 (λv I=>v= .bool s2/\Ext w I) (λv I h=>by rw[h.1];exact S _ h.2) λaz cj=>?_;intro cV cl _ _;have P:=(ca.F O).F cl;have cW:=y.eQ.1;obtain⟨x,J⟩:=aJ (l:=q.1.d9) (i:=0) (by have:=e.ok.d9;omega);have cm:=TG (i:=0) e.ok aZ Ω (by unfold dh;rw[J];simp[Gy (C.F e.same) J]);have cn:=(ax q.1.zero).2 ⟨Ω,λa z=>by
    have E:=zs y (al a z);rw[<-e.val a E];exact zero_le e.ok⟩
   rw[bl,ao];refine⟨λ_=>?_,λh=>m6 rfl h⟩;refine(pU (ay.dG.W P)).Y ?_;rintro _ cX _ ⟨rfl,aC⟩;rw[lL,ao];refine⟨λ_=>?_,λh=>m6 cn h⟩;rw[aP aM.p 0 (aY.W (P.F aC)) rfl];refine(pU (ay.dG.W (P.F aC))).Y ?_;rintro _ cZ _ ⟨rfl,bc⟩;refine⟨.inl bc,?_⟩;rw[aW];exact cj _ _ ⟨by rw[ms cm],aU.F ((P.F aC).F bc)⟩
theorem UY{p:x4}{L:List nc}{w:x5}(ae:aQ .u8 w p pl)(e:∀b∈pl,0<=b/\b<256)(f:Seen fB w [a] L)(h:∀x∈L,(oU x).ok)(j:fD w)(q:Laid w):
  aq x8 AP [p,a] w λv I=>v= .bool s2/\Ext w I:=UX (λI J=>⟨rfl,J⟩) ae e f h j q
end Go.Proofs.YtlcdcbgoaljiiaaGreatDoor
