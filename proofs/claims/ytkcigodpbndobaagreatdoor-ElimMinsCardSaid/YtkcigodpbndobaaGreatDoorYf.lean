/- own texts, made small by a tool (wip/ holds them as they were written): no statement of the seat. -/
import Derived.Test.YtkcigodpbndobaaGreatDoorYe
set_option linter.unusedVariables false
set_option linter.unusedSimpArgs false
set_option linter.unnecessarySimpa false
open Array renaming getElem?_eq_some_iff→Z9
open Bool renaming false→sp,true→rs,not_true→Y2,not_false→X1,true_and→W7,and_eq_true→V8,eq_iff_iff→U5
open Decidable renaming not_not→Z2
open Go renaming Value→x1,World→x3,TypeId→r8,IntKind→o4,FuncId→S9
open Go.Builtin renaming len_→X7
open Go.Instr renaming loadAt→u4,fieldAt→u6,storeAt→o6,indexAt→j0,extract→c7,alloc→S5
open Go.IntKind renaming i64→Y6,u64→V9
open Go.Proofs.Tryz renaming prog→x7
open Go.Value renaming cells→T5
open Int renaming toNat_natCast→u7,mul_le_mul_of_nonneg_right→W6,eq_ofNat_of_zero_le→U8
open List renaming getElem?_eq_some_iff→x4,mem_of_getElem?→x5,getElem?_eq_getElem→x6,getElem?_map→x8,getD_eq_getElem?_getD→v8,take_add_one→u5,replicate→u9,length_map→r9,take_length→p8,take_of_length_le→o7,mem_map→o8,mem_append→o9,map_append→n9,length_take→j6,ext_getElem?→j9,mem_iff_getElem?→c8,eq_nil_of_length_eq_zero→c9,mem_singleton→b8,range→Z4,getElem?_set_self→Z5,getElem?_set→Y8,length_eq_one_iff→X3,pairwise_iff_getElem→X5,getElem?_set_ne→W5,mem_of_mem_take→V4,map_set→V5,map_cons→U4,mem_range→T1,mem_filter→T2,length_filter_le→S8
open Nat renaming le_refl→o5,le_trans→Y1,zero_add→V0,mul_one→V1,pow_le_pow_right→T3
open Option renaming toList_some→l7,isNone_some→l9,some→b9,map_some→Z0,map_eq_some_iff→Z6,isSome_some→S2,isSome_none→S3
open Option.some renaming inj→Z7
set_option maxHeartbeats 16000000
open Option renaming some→σ,none→ν
variable{k most v:Int}{cs l sc co:Λ}{a j:Nat}{I J V w:x3}
namespace Go.Proofs.YtkcigodpbndobaaGreatDoor
open Go Go.Vc Go.RowKit Go.Proofs Go.Proofs.Tryz
set_option maxRecDepth 100000
def pd(t:aw):Prop:=∀m,t.marks.getLast? =σ m->(m.olds<=40000000/\t.cells.length<=40000000)/\t.olds.length<=m.olds+t.cells.countP λc=>decide (c.st=m.st)
def dg(ap:List aw)(t:aw):Prop:=gI t ap/\pd t
theorem gI.m{t:aw}(h:gI t []):dg [] t:=⟨h,λm hm=>by rw[h.1]at hm;cases hm⟩
theorem dg.room{ap:List aw}{t:aw}(h:dg ap t):Room t:=by
 cases hm:t.marks.getLast? with
 |none=>exact .inl (List.getLast?_eq_none_iff.1 hm)
 |some m=>
  obtain⟨h1,a⟩:=h.2 m hm;have:=List.countP_le_length (p:=λc:Cell=>decide (c.st=m.st)) (l:=t.cells);exact .inr Ω
theorem pd.set{t:aw}{i:Nat}{x:Int}(h:pd t):pd (t.set i x):=by
 unfold aw.set;cases e:t.cells[i]? with
 |none=>exact h
 |some c=>
  obtain⟨f,j⟩:=x4.1 e;cases hm:t.marks.getLast? with
  |none=>
   intro m a
   grind
  |some m=>
   obtain⟨h1,p⟩:=h m hm;simp only;split
   .rename_i q;intro cn a
    grind
   .intro cn a
    grind
theorem dg.set{ap:List aw}{t:aw}{i:Nat}{x:Int}(h:dg ap t):dg ap (t.set i x):=⟨h.1.set,h.2.set⟩
def dj(ap:List aw)(w:x3)(ac ad:Nat)(A R:ah)(n:aG)(s':al)(I:x3):Prop:=af (dv w) w I/\Laid I/\∃aJ t',Grow A w aJ I/\be I ac ad aJ R n s' t'/\dg ap t'/\¬aJ 0
def fw(ap:List aw)(w:x3)(ac ad:Nat)(A R:ah)(n:aG)(m:Nat)(D:Nat->Prop)(s':al)(I:x3):Prop:=
 af (λr=>dv w r\/w.heap.size<=r) w I/\(Laid I/\w.heap.size<=m/\0<w.heap.size/\(∀r,A r\/R r->r<w.heap.size))/\∃aJ t',Grow A w aJ I/\be I ac ad aJ R n s' t'/\(dg ap t'/\¬aJ 0)/\∀r,aJ r->r<m\/D r
section
variable{ap:List aw}{w J V:x3}{ac ad m:Nat}{A R:ah}{n:aG}{s s' qo:al}{t:aw}{D D' S:Nat->Prop}
theorem fw.start(h:be w ac ad A R n s t)(f:Laid w)(j:¬A 0)(p:dg ap t)(a:Ext w J)(hm:w.heap.size<=m):fw ap w ac ad A R n m D s J:=
 ⟨a.aa _,⟨f.W a,hm,by
  obtain⟨q,x,y,z,⟨h1,_,_,B⟩,_⟩:=h.1
  grind,λr e=>h.lt e⟩,A,t,Grow.W a,h.W a,⟨p,j⟩,λr e=>.inl (by have:=h.lt (.inl e);omega)⟩
theorem fw.own(h:fw ap w ac ad A R n m D s' J)(a:af S J V)(B:∀r,S r->m<=r/\¬D r):fw ap w ac ad A R n m D s' V:=by
 obtain⟨h1,⟨f,j,p,q⟩,aJ,t',⟨g1,s,x⟩,e,y,z⟩:=h;refine⟨h1.F (a.X (by grind)),⟨gW a (by grind) f,j,p,q⟩,aJ,t',⟨?_,s,x⟩,⟨e.1.aa a λr _ C U=>?_,e.2⟩,y,z⟩
 .exact ((g1.X (by grind)).F (a.X (by grind)):af (λr=>A r\/m<=r) w V).X (by grind)
 grind
theorem fw.W(h:fw ap w ac ad A R n m D s' J)(a:Ext J V):fw ap w ac ad A R n m D s' V:=h.own (a.aa λ_=>False) λ_ h=>h.elim
theorem fw.Tu(h:fw ap w ac ad A R n m D s' J):∃aJ t',be J ac ad aJ R n s' t'/\dg ap t'/\¬aJ 0/\∀{V:x3}{qo:al}{D' a:Nat->Prop}{f:aw},af (dv J) J V->Grow aJ J a V->be V ac ad a R n qo f->dg ap f->(∀r,D r->D' r)->(∀r,J.heap.size<=r->r<V.heap.size->D' r)->
  fw ap w ac ad A R n m D' qo V/\af (λr=>r<m\/D r) J V/\∀r,a r->r<m\/D' r:=by
 obtain⟨h1,⟨x,y,z,B⟩,aJ,t',C,E,j,L⟩:=h;refine⟨aJ,t',E,j.1,j.2,λ{V qo D' a f}F e q G M H=>?_⟩;have N:=h1.size;have I:¬a 0:=λh=>(e.2.1 0 h).elim j.2 Ω;have s:∀r,a r->r<m\/D' r:=λr p=>(e.2.1 r p).elim (by grind) λh=>.inr (H r h (q.lt (.inl p)));refine⟨⟨h1.F (F.X λr _ h=>?_),⟨gW e.1 j.2 x,y,z,B⟩,a,f,C.F e,q,⟨G,I⟩,s⟩,e.1.X (by grind),s⟩;by_cases p:w.heap.size<=r
 .omega
 .exact .inl (oN (λo K U O=>h1.a8 r o K U (by grind)) h)
theorem fw.open(h:fw ap w ac ad A R n m D s' J):∃aJ t',be J ac ad aJ R n s' t'/\dg ap t'/\∀{V:x3}{qo:al}{D' a:Nat->Prop}{e:aw},af (dv J) J V->Grow aJ J a V->be V ac ad a R n qo e->dg ap e->(∀r,D r->D' r)->(∀r,J.heap.size<=r->r<V.heap.size->D' r)->
  fw ap w ac ad A R n m D' qo V/\af (λr=>r<m\/D r) J V/\∀r,a r->r<m\/D' r:=by
 grind [fw.Tu]
theorem fw.done(h:fw ap w ac ad A R n m D s' J)(e:Ext J V):dj ap w ac ad A R n s' V:=by
 obtain⟨h1,⟨f,q,r,s⟩,aJ,t',j,p,a,x⟩:=h.W e;exact⟨h1.X (by grind),f,aJ,t',j,p,a.1,a.2⟩
end
section
variable{ap:List aw}{w:x3}{ac ad:Nat}{A R:ah}{n:aG}{s:al}{t:aw}
theorem rQ{u:Nat}{x:br}(a:a6 n.k n.co s)(e:s.d6[u]?=σ x)(h:v∈aM x):eL n (u:Int) v:=by
 have p:=(x4.1 e).1;have q:=a.d6;obtain⟨z,f⟩:=aC (l:=n.co) (i:=u) Ω;have r:=(a.var _ x z e f).1;have w:=a.cF.2.2 z (x5 f);have j:=(jN.1 h).1;refine⟨Ω,Ω,j.1,?_⟩
 grind
theorem G4{f:bF}{g:Int->Int}(a:a6 k co s)(e:s.d7[j]?=σ f):dw s j f (er g [] f.szs f.cs)=s:=by
 obtain⟨h,p⟩:=l5 a (x5 e);rw[RY h Ω (by grind)];have:s.d7.set j f=s.d7:=by
  apply j9
  grind
 unfold dw;show{s with d7:=s.d7.set j f}=s;rw[this]
theorem G5{pos u:Nat}{c:Int}{f:bF}{x:br}{F1 F2:S9}{tup un:Int->Int}(h:be w ac ad A R n s t)(aP:Laid w)(bg:¬A 0)(bh:dg ap t)(C:s.d7[j]?=σ f)(bi:f.live≠0)(Y:f.sc[pos]?=σ (u:Int))(q:s.d6[u]?=σ x)(bk:v∈aM x)(h1:∀tl∈cQ s f.sc pos v,(0<=tup (bd f.szs f.cs tl)/\tup (bd f.szs f.cs tl)<=n.k)/\∀{w:x3}{A:ah}{s:al}{t:aw},be w ac ad A R n s t->ak x7 F1 [Γ ac,Δ (bd f.szs f.cs tl),Δ c] w λr I=>r=Δ (tup (bd f.szs f.cs tl))/\Ext w I)(aQ:(0<=un (x.un.getD v.toNat 0)/\un (x.un.getD v.toNat 0)<=n.k)/\∀{w:x3}{A:ah}{s:al}{t:aw},be w ac ad A R n s t->ak x7 F2 [Γ ac,Δ (x.un.getD v.toNat 0),Δ c] w λr I=>r=Δ (un (x.un.getD v.toNat 0))/\Ext w I):
  ak x7 KP [.agg #[.func (.func F1) #[] #[],.func (.func F2) #[] #[]],Γ ac,Δ (j:Int),Δ (pos:Int),Δ v,Δ c] w λ_ I=>dj ap w ac ad A R n (kg s j f pos u x v tup un) I:=by
 have E:=h.2.2.2.1;have an:=x5 C;obtain⟨ao,b0,_⟩:=E.d7 f an;have aR:∀u',f.sc[pos]?=σ u'->v∈dn s u':=by grind [dn]
 have bl:=Gn E an aR;refine je func250 ?_;refine bj λbm J b1 aS P=>?_;refine bj λg1 V b2 aq a=>?_;refine bj λb3 b4 b5 Z y=>?_;refine bj λb6 z b7 ab Q=>?_;have P:ag z bm r6 [.func (.func F1) #[] #[],.func (.func F2) #[] #[]]:=((ag.W P aq).W Z).W ab;have a:ag z g1 dx [Γ ac]:=(ag.W a Z).W ab;have y:=ag.W y ab;have Q:=Q;have au:=((aS.F aq).F Z).F ab;have b8:=aS.size;have b9:=aq.size;have z3:=Z.size;have ca:=au.size;have aT:=P.lt;have G:=a.lt;have aV:=y.lt;have aW:=Q.lt;rw[av Ψ (a.cell rfl),av Ψ (y.cell rfl)];refine(rE (h.W au) C).X ?_;rintro cb cc _ ⟨bp,_,_,bq⟩;rw[ba ai.u ae.i Ψ bq.ls Y];intro cd bs _ _;have H:=bp.F bs;have ax:=au.F H;have z46:=H.size;rw[av Ψ ((a.W H).cell rfl),av Ψ ((a.W H).cell rfl),av Ψ ((y.W H).cell rfl)];refine GY (h.W ax) (aP.W ax) C λaI gs bJ bx aU aX ay bt bu=>?_;have ce:=ay.size;have bw:=H.F ay;refine⟨Nat,rs,sp,nx,#[Γ bJ,Γ bx,Γ aU,Γ gs],0,_,_,_,
  λD k I=>fw ap w ac ad A R n w.heap.size D (dw s j f (er tup ((cQ s f.sc pos v).take k) f.szs f.cs)) I/\(af (λr=>r<w.heap.size\/aX.heap.size<=r) z I/\aX.heap.size<=I.heap.size),
  λ_ _ _ _=>False,rfl,GW (λu Y=>⟨(ao.scope.1 u Y).1,ao.d6 u Y⟩) ao.scope.2,?_,λ_ _ _ q h=>h.W q,?_,by grind,bu,?_,?_,?_,by grind,by grind⟩
 .grind
 .rintro D k cf cg S ch ⟨K,L,az⟩;exact⟨K.own S (by grind),L.F (S.X Ω),Y1 az S.size⟩
 .refine⟨?_,bw.aa _,o5 _⟩;have e:dw s j f (er tup ((cQ s f.sc pos v).take 0) f.szs f.cs)=s:=G4 E C;rw[e];exact fw.start h aP bg bh (ax.F ay) (o5 _)
 .rintro aO D k ci aA cj ck bz ⟨rfl,tl,cl,aB,e,aY⟩ ⟨K,L,az⟩;cases e;intro cm U _ bA;obtain⟨m,hm⟩:=vV E an aR (x5 aB);obtain⟨bB,bC⟩:=Gp E C bl aB hm;obtain⟨⟨bD,bE⟩,bG⟩:=h1 tl (x5 aB);have a8:∀{W:x3}{g:Nat}{e:r8}{cs:List x1},Ext aA W->w.heap.size<=g->g<z.heap.size->ag z g e cs->ag W g e cs:=λq aj bH aC=>(aC.aa L Ω).W q;have bI:=(x4.1 C).1;have aZ:(dw s j f (er tup ((cQ s f.sc pos v).take k) f.szs f.cs)).d7[j]?=σ {f with cs:=er tup ((cQ s f.sc pos v).take k) f.szs f.cs}:=Z5 bI;obtain⟨aj,S⟩:=wp aZ bi hm;obtain⟨A9,t9,aD,a1,aE⟩:=K.open;rw[av Ψ ((a8 U Ω G a).cell rfl),av Ψ ((a8 U Ω aV y).cell rfl)];refine(rA (aD.W U) (aY.W U)).X ?_;rintro _ cn bK ⟨rfl,bL⟩;rw[m5 aj,S,bn,bo];intro bM bN _ bO;have B:=(U.F bL).F bN;rw[av Ψ ((a8 B Ω G a).cell rfl),av Ψ ((a8 B Ω aV y).cell rfl),
   aK r6.p 0 (a8 B Ω aT P) rfl,av Ψ ((a8 B Ω G a).cell rfl),av Ψ ((a8 B Ω aW Q).cell rfl)]
  show ak x7 F1 [Γ ac,Δ (bd f.szs (er tup ((cQ s f.sc pos v).take k) f.szs f.cs) tl),Δ c] bM _;rw[bB];refine(bG (aD.W B)).X ?_;rintro _ cp bP ⟨rfl,a2⟩;have X:=B.F a2;refine⟨.inl a2,(FV (aD.W X) a1.room (aY.W X)).X ?_⟩;rintro r a6 bQ ⟨_,_,aF⟩;obtain⟨_,am,aJ,bR,bS,aG,M⟩:=aF aj ⟨bD,bE⟩ _ m aZ hm;rw[bC]at M;have cq:=X.size;have cr:=am.size;obtain⟨a7,aH,bT⟩:=aE (D':=λr=>D r\/aA.heap.size<=r/\r<a6.heap.size) (gM X am) ((Grow.W X).F aG) M a1.set (by grind) Ω;refine⟨⟨λr=>D r\/aA.heap.size<=r/\r<a6.heap.size,λr h=>h,by grind,?_,a7,L.F (aH.X (by grind)),Ω⟩,bA.F ((((bK.F bO).F bP).F bQ).lE),aH.X (by grind)⟩;refine bz.put aH bt (λr N=>?_) a7.2.1.1 M (λ_=>rfl) λr N=>?_
  .grind
  .rcases N with N|N
   .exact (bT r N).imp Ω id
   .exact .inl (by have:=h.lt (.inr N);omega)
 .rintro D k bU rfl ⟨K,L,az⟩;rw[o7 (o5 _)]at K;have bb:=rQ E q bk;obtain⟨ct,cu,aL,bc,aE⟩:=K.open;have a8:∀{W:x3}{g:Nat}{e:r8}{cs:List x1},Ext bU W->w.heap.size<=g->g<z.heap.size->ag z g e cs->ag W g e cs:=λq aj bH aC=>(aC.aa L Ω).W q;rw[av Ψ ((a8 (Ext.refl _) Ω G a).cell rfl)];refine(l2 aL).X ?_;rintro _ cw _ ⟨rfl,bV⟩;have bW:fG (dw s j f (er tup (cQ s f.sc pos v) f.szs f.cs)) (u:Int).toNat v.toNat=x.un.getD v.toNat 0:=by
   grind [fG,u7,dw]
  rw[m5 bb,bW,bn,bo];intro bX bY _ _;have O:=bV.F bY;rw[av Ψ ((a8 O Ω G a).cell rfl),aK r6.p 1 (a8 O Ω aT P) rfl,av Ψ ((a8 O Ω G a).cell rfl),av Ψ ((a8 O Ω aW Q).cell rfl)];show ak x7 F2 [Γ ac,Δ (x.un.getD v.toNat 0),Δ c] bX _;refine(aQ.2 (aL.W O)).X ?_;rintro _ cz _ ⟨rfl,bf⟩;have aN:=O.F bf;refine⟨.inl bf,(zi (aL.W aN) bc.room).X ?_⟩;rintro r cA _ ⟨_,_,aF⟩;obtain⟨_,am,aJ,bR,bS,aG,M⟩:=aF bb aQ.1;have e:kP (dw s j f (er tup (cQ s f.sc pos v) f.szs f.cs)) (u:Int).toNat v.toNat (un (x.un.getD v.toNat 0))=kg s j f pos u x v tup un:=by
   unfold kP kg dD;rw[u7,show(dw s j f (er tup (cQ s f.sc pos v) f.szs f.cs)).d6[u]?=σ x from q]
  rw[e]at M;intro cB bZ _;exact(aE (gM aN am) ((Grow.W aN).F aG) M bc.set (by grind) λ_ _ _=>trivial).1.done bZ
end
theorem tA(h e:Nat){l:Nat}(f:l<256)(hm:a<256):(256*h+l) &&& (256*e+a)=256*(h &&& e)+(l &&& a):=by
 have j:l &&& a<2 ^ 8:=Nat.and_lt_two_pow _ hm;apply Nat.eq_of_testBit_eq;intro i;rw[Nat.testBit_and,show 256=2 ^ 8 from rfl,Nat.testBit_two_pow_mul_add _ f,Nat.testBit_two_pow_mul_add _ hm,Nat.testBit_two_pow_mul_add _ j]
 grind
def iJ(m x:Nat):Nat:=(x / 2 &&& m)+(x &&& m)
def jq(m x:Nat):Nat:=(x / 4 &&& m)+(x &&& m)
def lA(m x:Nat):Nat:=(x / 16+x) &&& m
def cX(a:Nat):Nat:=lA 15 (jq 51 (iJ 85 a))
theorem Tv:∀e<2,∀l<256,(128*e+l / 2) &&& 85=l / 2 &&& 85:=by decide+kernel
theorem Tw:∀e<4,∀l<256,(64*e+l / 4) &&& 51=l / 4 &&& 51:=by decide+kernel
theorem Tx:∀e<5,∀l<69,(16*e+l / 16+l) &&& 15=(l / 16+l) &&& 15:=by decide+kernel
theorem pe:∀l<256,iJ 85 l<256/\jq 51 (iJ 85 l)<69/\jq 51 (iJ 85 l) % 16<5/\cX l<=8/\(cX l=0->l=0):=by decide+kernel
theorem wr(h a:Nat){l:Nat}(e:l<256):iJ (256*a+85) (256*h+l)=256*iJ a h+iJ 85 l:=by
 unfold iJ;rw[show(256*h+l) / 2=256*(h / 2)+(128*(h % 2)+l / 2) by omega,tA _ _ Ω Ω,tA _ _ e Ω,Tv _ Ω _ e];omega
theorem ws(h a:Nat){l:Nat}(e:l<256):jq (256*a+51) (256*h+l)=256*jq a h+jq 51 l:=by
 unfold jq;rw[show(256*h+l) / 4=256*(h / 4)+(64*(h % 4)+l / 4) by omega,tA _ _ Ω Ω,tA _ _ e Ω,Tw _ Ω _ e];omega
theorem wu(h a:Nat){l:Nat}(e:l<69)(he:h % 16<5):lA (256*a+15) (256*h+l)=256*lA a h+lA 15 l:=by
 unfold lA;rw[show(256*h+l) / 16+(256*h+l)=256*(h / 16+h)+(16*(h % 16)+l / 16+l) by omega,tA _ _ Ω Ω,Tx _ he _ e]
def four(a b c d:Nat):Nat:=256*(256*(256*d+c)+b)+a
theorem Ty{b c d:Nat}(e:a<256)(f:b<256)(h:c<256)(j:d<256):iJ 6148914691236517205 (four a b c d)=four (iJ 85 a) (iJ 85 b) (iJ 85 c) (iJ 85 d):=by
 unfold four;rw[show 6148914691236517205=256*(256*(256*(256*1431655765+85)+85)+85)+85 from rfl,wr _ _ e,wr _ _ f,wr _ _ h];have:=wr 0 1431655765 j
 grind [iJ]
theorem Tz{b c d:Nat}(e:a<256)(f:b<256)(h:c<256)(j:d<256):jq 3689348814741910323 (four a b c d)=four (jq 51 a) (jq 51 b) (jq 51 c) (jq 51 d):=by
 unfold four;rw[show 3689348814741910323=256*(256*(256*(256*858993459+51)+51)+51)+51 from rfl,ws _ _ e,ws _ _ f,ws _ _ h];have:=ws 0 858993459 j
 grind [jq]
theorem TA{b c d:Nat}(e:a<69)(f:b<69/\b % 16<5)(h:c<69/\c % 16<5)(j:d<69/\d % 16<5):lA 1085102592571150095 (four a b c d)=four (lA 15 a) (lA 15 b) (lA 15 c) (lA 15 d):=by
 unfold four;rw[show 1085102592571150095=256*(256*(256*(256*252645135+15)+15)+15)+15 from rfl,wu _ _ e Ω,wu _ _ f.1 Ω,wu _ _ h.1 Ω];have:=wu 0 252645135 j.1 Ω
 grind [lA]
def tB(x:Nat):Nat:=cX (x % 256)+cX (x / 256 % 256)+cX (x / 65536 % 256)+cX (x / 16777216)
theorem TB{x:Nat}(h:x<4294967296):tB x=0↔x=0:=by
 constructor
 .intro a;unfold tB at a;have h1:=(pe (x % 256) Ω).2.2.2.2 Ω;have e:=(pe (x / 256 % 256) Ω).2.2.2.2 Ω;have f:=(pe (x / 65536 % 256) Ω).2.2.2.2 Ω;have j:=(pe (x / 16777216) Ω).2.2.2.2 Ω;omega
 .rintro rfl;decide
theorem TC{x:Nat}(ag:x<4294967296):ak x7 Lc [.int .u64 (x:Int)] w λv I=>v=Δ (tB x:Int)/\Ext w I:=by
 obtain⟨a,b,c,d,E,G,H,J,e,ah,ai,aj,al⟩:∃a b c d,a<256/\b<256/\c<256/\d<256/\x=four a b c d/\a=x % 256/\b=x / 256 % 256/\c=x / 65536 % 256/\d=x / 16777216:=
  ⟨x % 256,x / 256 % 256,x / 65536 % 256,x / 16777216,Ω,Ω,Ω,Ω,by grind [four],rfl,rfl,rfl,rfl⟩
 obtain⟨N,O,a3,a4,_⟩:=pe a E;obtain⟨P,Q,R,am,_⟩:=pe b G;obtain⟨S,U,V,an,_⟩:=pe c H;obtain⟨d1,d2,d3,d4,_⟩:=pe d J;have g1:=Ty E G H J;have W:=Tz N P S d1;have X:=TA O ⟨Q,R⟩ ⟨U,V⟩ ⟨d2,d3⟩;have Y:tB x=cX a+cX b+cX c+cX d:=by grind [tB]
 rw[<-e]at g1;have Z:iJ 6148914691236517205 x<4294967296:=by grind [four]
 have L:jq 3689348814741910323 (iJ 6148914691236517205 x)<4294967296:=by grind [four]
 have A:lA 1085102592571150095 (jq 3689348814741910323 (iJ 6148914691236517205 x))=four (cX a) (cX b) (cX c) (cX d):=by rw[g1,W,X];rfl
 have aa:four (cX a) (cX b) (cX c) (cX d)<4294967296:=by grind [four]
 refine ay func294 ?_;have s:∀{t:r8}{cx cy:Bool}{K:x1->Prop}(p q:Nat),p+q<18446744073709551616->ab x7 (aQ .add t cx cy (.int .u64 (p:Int)) (.int .u64 (q:Int))) w K=K (.int .u64 ((p+q:Nat):Int)):=λp q h=>by
  rw[aL,lw Ω Ω];rfl
 have small:∀(p m:Nat),p &&& m<=p:=λp m=>Nat.and_le_left;rw[show(1:Int)=((1:Nat):Int)from rfl,mI Ω,show(6148914691236517205:Int)=((6148914691236517205:Nat):Int)from rfl,u64_and Ω Ω,u64_and Ω Ω,s (x / 2 ^ 1 &&& 6148914691236517205) (x &&& 6148914691236517205) (by grind)];obtain⟨y,B⟩:∃y,(x / 2 ^ 1 &&& 6148914691236517205)+(x &&& 6148914691236517205)=y:=⟨_,rfl⟩;rw[B];have B:iJ 6148914691236517205 x=y:=B;rw[B]at Z L A;rw[show(2:Int)=((2:Nat):Int)from rfl,mI Ω,show(3689348814741910323:Int)=((3689348814741910323:Nat):Int)from rfl,u64_and Ω Ω,u64_and Ω Ω,s (y / 2 ^ 2 &&& 3689348814741910323) (y &&& 3689348814741910323) (by grind)];obtain⟨z,C⟩:∃z,(y / 2 ^ 2 &&& 3689348814741910323)+(y &&& 3689348814741910323)=z:=⟨_,rfl⟩;rw[C];have C:jq 3689348814741910323 y=z:=C;rw[C]at L A;rw[show(4:Int)=((4:Nat):Int)from rfl,mI Ω,s (z / 2 ^ 4) z Ω,show(1085102592571150095:Int)=((1085102592571150095:Nat):Int)from rfl,u64_and Ω Ω];have A:z / 2 ^ 4+z &&& 1085102592571150095=four (cX a) (cX b) (cX c) (cX d):=A;rw[A];obtain⟨j,M⟩:∃j,four (cX a) (cX b) (cX c) (cX d)=j:=⟨_,rfl⟩;rw[M]at aa ⊢;unfold four at M;rw[show(8:Int)=((8:Nat):Int)from rfl,mI Ω,s j (j / 2 ^ 8) Ω];obtain⟨r,ac⟩:∃r,j+j / 2 ^ 8=r:=⟨_,rfl⟩;rw[ac];rw[show(16:Int)=((16:Nat):Int)from rfl,mI Ω,s r (r / 2 ^ 16) Ω];obtain⟨f,ad⟩:∃f,r+r / 2 ^ 16=f:=⟨_,rfl⟩;rw[ad];rw[show(32:Int)=((32:Nat):Int)from rfl,mI Ω,s f (f / 2 ^ 32) Ω,e9 fL.u ae.u,lm Ω Ω,show(127:Int)=((127:Nat):Int)from rfl,FN Ω Ω];refine⟨?_,Ext.refl _⟩;rw[Y,show 127=2 ^ 7-1 from rfl,Nat.and_two_pow_sub_one_eq_mod];have ao:j / 2 ^ 8=65536*cX d+256*cX c+cX b:=Ω
 have ap:r / 2 ^ 16=256*cX d+(cX c+cX d):=Ω
 have aq:f / 2 ^ 32=0:=Ω
 have au:f=128*(131072*cX d+512*(cX c+cX d)+2*(cX b+cX c+cX d))+(cX a+cX b+cX c+cX d):=Ω
 have af:(f+f / 2 ^ 32) % 2 ^ 7=cX a+cX b+cX c+cX d:=Ω
 rw[af]
theorem ea{b n:Nat}(a:mJ b n):ak x7 KS [j3 b n] w λr I=>(∃q:Int,r=Δ q/\(q=0↔b=0))/\Ext w I:=by
 have e:b<4294967296:=by
  have:=a.2;have:(2:Nat) ^ n<=2 ^ 32:=T3 Ω a.1;omega
 refine ay func253 ?_;refine bj λg J s f h=>?_;rw[aK b3.p 0 h rfl];refine(TC e).X ?_;rintro _ V _ ⟨rfl,j⟩;refine⟨⟨_,rfl,?_⟩,f.F j⟩
 grind [TB]
def qp(ap:List aw)(w:x3)(ac ad:Nat)(A R:ah)(n:aG)(s:al)(a:iZ)(r:x1)(I:x3):Prop:=r=Δ (cL n.k s a).2/\dj ap w ac ad A R n (cL n.k s a).1 I
section
variable{ap:List aw}{w:x3}{ac ad:Nat}{A R:ah}{n:aG}{s:al}{t:aw}{a:iZ}
theorem dj.same(h:be w ac ad A R n s t)(a:Laid w)(e:¬A 0)(f:dg ap t)(j:Ext w I):dj ap w ac ad A R n s I:=(fw.start (m:=w.heap.size) (D:=λ_=>False) h a e f j (o5 _)).done (Ext.refl _)
theorem dj.before{s':al}(a:Ext w J)(h:dj ap J ac ad A R n s' I):dj ap w ac ad A R n s' I:=by
 obtain⟨h1,e,aJ,t',f,j⟩:=h;exact⟨gM a h1,e,aJ,t',(Grow.W a).F f,j⟩
theorem zU{j pos u:Int}{f:bF}{x:br}(h:eX s j pos v=σ (f,u,x)):∃p e u':Nat,j=p/\pos=e/\u=u'/\s.d7[p]?=σ f/\f.live≠0/\f.sc[e]?=σ (u':Int)/\s.d6[u']?=σ x/\v∈aM x/\∀q,f.sc[e]?=σ q->v∈dn s q:=by
 obtain⟨h1,z,A,B,a,C⟩:=o0 h;obtain⟨E,r,F,w⟩:=l8 C;obtain⟨j,rfl⟩:=U8 h1;obtain⟨pos,rfl⟩:=U8 z;obtain⟨u,rfl⟩:=U8 E;refine⟨j,pos,u,rfl,rfl,rfl,A,B,a,r,w,λu' y=>?_⟩;have a:f.sc[pos]?=σ (u:Int):=a;rw[a]at y;cases y;unfold dn;rw[r];exact w
theorem TD(hk:a.kind=0)(h:be w ac ad A R n s t)(z:Laid w)(E:¬A 0)(G:dg ap t):ak x7 JY [Γ ac,Δ a.i,Δ a.pos,Δ a.v,Δ a.c] w (qp ap w ac ad A R n s a):=by
 have L:=h.2.2.2.1;refine ay func169 ?_;refine(GV h).X ?_;rintro _ J _ ⟨y,u,e,rfl,q⟩;rw[bn,bo];have p:cL n.k s a=match eX s a.i a.pos a.v with
  |none=>(s,1)
  |some (f,u,x)=>if eg n.k a.c (n8 n.k s f a.pos.toNat a.v)≠0 then(s,eg n.k a.c (n8 n.k s f a.pos.toNat a.v))else(kg s a.i.toNat f a.pos.toNat u.toNat x a.v (λg=>dQ n.k g a.c) λg=>dR n.k g a.c,0):=by unfold cL;rw[m5 hk]<;>cases eX s a.i a.pos a.v<;>rfl
 rcases q with⟨rfl,f,x,q⟩|⟨rfl,q⟩
 rotate_left
 .rw[q]at p;rw[bz,aj];exact⟨λ_=>⟨by rw[p],by rw[p];exact dj.same h z E G y⟩,λh=>m7 Φ h⟩
 rw[q]at p;rw[bz,aj];refine⟨λh=>m7 rfl h,λ_=>?_⟩;obtain⟨j,pos,u,W,X,Y,H,M,Z,N,aa,ab⟩:=zU q;have ae:=x5 H;simp only[W,X,Y,u7]at p ⊢;refine(Tj (j:=j) (pos:=pos) (h.W y) (z.W y) H M ab).X ?_;rintro _ V _ ⟨rfl,O⟩;refine(wm (h.W (y.F O))).X ?_;rintro _ al _ ⟨af,rfl⟩;have B:=(y.F O).F af;refine dh (λI=>dj ap w ac ad A R n (cL n.k s a).1 I) ?_ λaz P=>?_
 .intro I ag;refine⟨?_,ag⟩;rw[p];split
  .rfl
  .rename_i r;rw[Z2.1 r]
 rw[bi,aj];refine⟨λr=>?_,λr=>P _ ?_⟩
 .obtain⟨C,hm⟩:=oZ (λh=>h r);rw[dq (cs:=#[.func (.func ps) #[] #[],.func (.func pt) #[] #[]]) Ψ];have Q:∀t∈cQ s f.sc pos a.v,a.c<=bd f.szs f.cs t:=λt ah=>((tm _ _ _).1 hm).2 _ (o8.2 ⟨t,ah,rfl⟩);have S:=jp (v:=a.v.toNat) L N;refine(G5 (t:=t) (F1:=ps) (F2:=pt) (tup:=λg=>dQ n.k g a.c) (un:=λg=>dR n.k g a.c) (h.W B) (z.W B) E G H M Z N aa (λtl T=>?_) ⟨o2 S C.1,λ{w A s t}K=>tx K S C⟩).X ?_
  .have U:=qj (t:=tl) L ae;exact⟨o1 U ⟨C.1,Q tl T⟩,λ{w A s t}K=>wn K U C (.inr (Q tl T))⟩
  .rintro _ am _ ai;refine P _ ?_;rw[p,m6 (λh=>h r)];exact ai.before B
 .rw[p,m5 r];exact dj.same h z E G B
theorem TE(hk:a.kind=1)(h:be w ac ad A R n s t)(E:Laid w)(G:¬A 0)(H:dg ap t):ak x7 JZ [Γ ac,Δ a.i,Δ a.pos,Δ a.v,Δ a.c] w (qp ap w ac ad A R n s a):=by
 have K:=h.2.2.2.1;refine ay func170 ?_;refine(GV h).X ?_;rintro _ J _ ⟨y,u,e,rfl,q⟩;rw[bn,bo];have p:cL n.k s a=match eX s a.i a.pos a.v with
  |none=>(s,1)
  |some (f,u,x)=>if eg n.k a.c (x.un.getD a.v.toNat 0)≠0 then(s,eg n.k a.c (x.un.getD a.v.toNat 0))else(kg s a.i.toNat f a.pos.toNat u.toNat x a.v (λg=>dR n.k g a.c) λg=>dQ n.k g a.c,0):=by unfold cL;rw[m6 Ω,m5 hk];cases eX s a.i a.pos a.v<;>rfl
 rcases q with⟨rfl,f,x,q⟩|⟨rfl,q⟩
 rotate_left
 .rw[q]at p;rw[bz,aj];exact⟨λ_=>⟨by rw[p],by rw[p];exact dj.same h E G H y⟩,λh=>m7 Φ h⟩
 rw[q]at p;rw[bz,aj];refine⟨λh=>m7 rfl h,λ_=>?_⟩;obtain⟨j,pos,u,T,U,W,M,X,Y,z,N,ag⟩:=zU q;have Z:=x5 M;simp only[T,U,W,u7]at p ⊢;refine(l2 (i:=(u:Int)) (v:=a.v) (h.W y)).X ?_;rintro _ V _ ⟨rfl,O⟩;have aa:fG s (u:Int).toNat a.v.toNat=x.un.getD a.v.toNat 0:=by
  unfold fG;rw[u7,z]
 rw[m5 (rQ K z N),aa,bn,bo];refine(wm (h.W (y.F O))).X ?_;rintro _ ah _ ⟨ab,rfl⟩;have B:=(y.F O).F ab;refine dh (λI=>dj ap w ac ad A R n (cL n.k s a).1 I) ?_ λaz P=>?_
 .intro I ae;refine⟨?_,ae⟩;rw[p];split
  .rfl
  .rename_i r;rw[Z2.1 r]
 rw[bi,aj];refine⟨λr=>?_,λr=>P _ ?_⟩
 .obtain⟨C,hm⟩:=oZ (λh=>h r);rw[dq (cs:=#[.func (.func pt) #[] #[],.func (.func ps) #[] #[]]) Ψ];have Q:=jp (v:=a.v.toNat) K z;refine(G5 (t:=t) (F1:=pt) (F2:=ps) (tup:=λg=>dR n.k g a.c) (un:=λg=>dQ n.k g a.c) (h.W B) (E.W B) G H M X Y z N (λtl ai=>?_) ⟨o1 Q ⟨C.1,hm⟩,λ{w A s t}L=>wn L Q C (.inr hm)⟩).X ?_
  .have S:=qj (t:=tl) K Z;exact⟨o2 S C.1,λ{w A s t}L=>tx L S C⟩
  .rintro _ al _ af;refine P _ ?_;rw[p,m6 (λh=>h r)];exact af.before B
 .rw[p,m5 r];exact dj.same h E G H B
end
def jr(s:al)(i:Int):Option br:=match(if 0<=i then s.d6[i.toNat]? else ν)with
 |some x=>if x.gone=0 then σ x else ν
 |none=>ν
theorem zV{s:al}{i:Int}{x:br}(h:jr s i=σ x):0<=i/\s.d6[i.toNat]?=σ x/\x.gone=0:=by
 grind [jr]
theorem G6{g:Int->Int}{un L:Λ}(h:L[j]?=σ v):eE g un (L.take (j+1))=(eE g un (L.take j)).set v.toNat (g ((eE g un (L.take j)).getD v.toNat 0)):=by
 grind [eE,u5]
theorem TF{i:Nat}:∀(L M:Λ)(s:al),gP s i v (L++M)=gP (gP s i v L) i v M
 :=by
 intro a;induction a<;>grind [gP]
theorem TG{s:al}{i:Nat}{w:Int}{L:Λ}(h:L[j]?=σ w):gP s i v (L.take (j+1))=if w≠v then eD (gP s i v (L.take j)) i w.toNat else gP s i v (L.take j):=by
 rw[u5,h,l7,TF];rfl
def me(m u:Int):Int:=if m<0\/u<m then u else m
theorem TH:∀(l:Λ)(m:Int),0<=m->(∀c∈l,0<=c)->l.foldl me m=l.foldl min m
 :=by
 intro a;induction a<;>grind [me]
theorem TI{x:br}(h:∀v∈aM x,0<=x.un.getD v.toNat 0):((aM x).map λv=>x.un.getD v.toNat 0).foldl me (-1)=lx x:=by
 unfold lx;have a:∀c∈(aM x).map (λv=>x.un.getD v.toNat 0),0<=c:=by grind
 generalize (aM x).map (λv=>x.un.getD v.toNat 0)=l at a;cases l with
 |nil=>rfl
 |cons c l=>exact TH l c (a c (.head _)) λc h=>a c (.tail _ h)
section
variable{ap:List aw}{w:x3}{ac ad:Nat}{A R:ah}{n:aG}{s:al}{t:aw}{a:iZ}
theorem G7{i:Int}(h:be w ac ad A R n s t):ak x7 KQ [Γ ac,Δ i] w λr I=>Ext w I/\r=Δ (if(jr s i).isSome=rs then 0 else 1):=by
 have a:=h.2.2.2.1;have G:=a.d6;refine ay func251 ?_;rw[cV dx.u];simp only[l9,aW];refine aV (λr J=>r= .bool (!(jr s i).isSome)/\Ext w J) ?_ ?_
 .rintro _ J ⟨rfl,H⟩;rw[bM]
  grind
 intro az f;refine(oT h).X ?_;rintro _ V _ ⟨rfl,e⟩;rw[bM];refine⟨λB=>f _ _ ⟨?_,e⟩,λB=>?_⟩
 .grind [jr,cG]
 refine(kN (i:=i) (h.W e)).X ?_;rintro _ K _ ⟨⟨b,m,rfl,j⟩,C⟩;refine(uK).X ?_;rintro _ L _ ⟨rfl,E⟩;rw[bi];refine f _ _ ⟨?_,(e.F C).F E⟩;congr 1;by_cases p:0<=i/\i<n.co.length
 .obtain⟨x,q⟩:=aC (l:=s.d6) (i:=i.toNat) Ω;obtain⟨z,y⟩:=aC (l:=n.co) (i:=i.toNat) Ω;have M:=a.cF.2.2 z (x5 y);have N:=(a.var _ x z q y).1;have hm:=(j.2.2 x p.1 q).1
  grind [cG,jr]
 .obtain⟨rfl,rfl⟩:=j.2.1 p
  grind [jr]
theorem G8{u:Nat}{c:Int}{x:br}{F1 F2:S9}{g z:Int->Int}(h:be w ac ad A R n s t)(aA:Laid w)(aV:¬A 0)(aW:dg ap t)(a:s.d6[u]?=σ x)(h1:∀v∈aM x,(0<=g (x.un.getD v.toNat 0)/\g (x.un.getD v.toNat 0)<=n.k)/\∀{w:x3}{A:ah}{s:al}{t:aw},be w ac ad A R n s t->ak x7 F1 [Γ ac,Δ (x.un.getD v.toNat 0),Δ c] w λr I=>r=Δ (g (x.un.getD v.toNat 0))/\Ext w I)(aB:(0<=z s.zero/\z s.zero<=n.k)/\∀{w:x3}{A:ah}{s':al}{t:aw},be w ac ad A R n s' t->ak x7 F2 [Γ ac,Δ s.zero,Δ c] w λr I=>r=Δ (z s.zero)/\Ext w I):
  ak x7 KR [Γ ac,Δ (u:Int),Δ c,.func (.func F1) #[] #[],.func (.func F2) #[] #[]] w λ_ I=>dj ap w ac ad A R n (l6 s u x g z) I:=by
 have aX:=h.2.2.2.1;have aC:=(x4.1 a).1;refine je func252 ?_;refine bj λg1 J bu aD f=>?_;refine bj λaY V bw W q=>?_;refine bj λbx bz bA K C=>?_;refine bj λbB B bC L M=>?_;have f:ag B g1 dx [Γ ac]:=((ag.W f W).W K).W L;have q:ag B aY ae [Δ (u:Int)]:=(ag.W q K).W L;have C:=ag.W C L;have M:=M;have N:=((aD.F W).F K).F L;have bD:=aD.size;have bE:=W.size;have z3:=K.size;have bF:=N.size;have O:=f.lt;have aE:=q.lt;have aF:=C.lt;have aZ:=M.lt;rw[av Ψ (f.cell rfl),av Ψ (q.cell rfl)];refine(kN (i:=(u:Int)) (h.W N)).X ?_;rintro _ bG _ ⟨⟨b,bH,rfl,aG⟩,aH⟩;refine(pJ).X ?_;rintro _ X _ ⟨a1,aI,rfl,bI,aK⟩;have bJ:=n3 aG Ω (show s.d6[(u:Int).toNat]?=σ x by grind);have E:=aH.F a1;have z5:=aH.size;have z46:=E.size;have bK:=aK.lt;have a2:=ti x;have a6:dD s u x (eE g x.un ((aM x).take 0))=s:=by
  unfold dD;show{s with d6:=s.d6.set u x}=s;have:s.d6.set u x=s.d6:=by
   apply j9
   grind
  rw[this]
 refine mo.old ⟨_,sp,k4,#[Γ aI],_,_,_,_,λj I=>fw ap w ac ad A R n w.heap.size (λr=>X.heap.size<=r) (dD s u x (eE g x.un ((aM x).take j))) I/\af (λr=>r<w.heap.size\/X.heap.size<=r) X I,λ_ _ _=>False,rfl,(pI (g:=aI) aG.1).s,?_,
  λ_ _ a h=>⟨h.1.W a,h.2.W a⟩,λ_ _ _ a h=>⟨h.1.W a,h.2.F (a.aa _)⟩,by grind,⟨aK,aA.W (N.F E)⟩,?_,?_,?_,by grind,by grind⟩
 .grind
 .refine⟨?_,af.refl _ _⟩;rw[a6];exact fw.start h aA aV aW (N.F E) (o5 _)
 .rintro _ j _ a7 ⟨ba,bL⟩ ⟨bM,rfl,v,bN,bb⟩ ⟨P,G⟩;cases bb;intro bO Q _ _;have Y:(aM x)[j]?=σ (v:Int):=by grind
  have aL:=x5 Y;have a8:∀{H:x3}{g:Nat}{e:r8}{cs:List x1},Ext a7 H->w.heap.size<=g->g<B.heap.size->ag B g e cs->ag H g e cs:=λa bc bd Z=>((Z.W E).aa G Ω).W a;obtain⟨bP,bQ,ab,aN,ai⟩:=P.open;have aO:eL n (u:Int) (v:Int):=rQ aX a aL;have bR:∀y∈aM x,0<=y/\y<x.un.length:=by grind [jN]
  have aj:=vN (g:=g) ((aM x).take j) x.un (v:Int) (by grind) (by grind) Ω;rw[m6 (zx a2 Y)]at aj;have bf:fG (dD s u x (eE g x.un ((aM x).take j))) (u:Int).toNat (v:Int).toNat=x.un.getD (v:Int).toNat 0:=by
   unfold fG dD;rw[u7,Z5 aC];exact aj
  rw[av Ψ ((a8 Q Ω O f).cell rfl),av Ψ ((a8 Q Ω aE q).cell rfl)];refine(l2 (ab.W Q)).X ?_;rintro _ bS _ ⟨rfl,bg⟩;rw[m5 aO,bf,bn,bo];intro bh bi _ _;have p:=(Q.F bg).F bi;rw[av Ψ ((a8 p Ω O f).cell rfl),av Ψ ((a8 p Ω aE q).cell rfl),
   av Ψ ((a8 p Ω aZ M).cell rfl),av Ψ ((a8 p Ω O f).cell rfl),av Ψ ((a8 p Ω aF C).cell rfl)]
  show ak x7 F1 [Γ ac,Δ (x.un.getD (v:Int).toNat 0),Δ c] bh _;obtain⟨bk,bl⟩:=h1 v aL;refine(bl (ab.W p)).X ?_;rintro _ bT _ ⟨rfl,aP⟩;have am:=p.F aP;refine⟨.inl aP,(zi (ab.W am) aN.room).X ?_⟩;rintro r bU _ ⟨_,_,an⟩;obtain⟨_,ao,aJ,bm,bp,aq,S⟩:=an aO bk;have e:kP (dD s u x (eE g x.un ((aM x).take j))) (u:Int).toNat (v:Int).toNat (g (x.un.getD (v:Int).toNat 0))=dD s u x (eE g x.un ((aM x).take (j+1))):=by
   rw[G6 Y,aj];unfold kP dD;rw[u7,Z5 aC]
   grind [List.set_set]
  rw[e]at S;have bV:=G.size;obtain⟨aQ,aR,bW⟩:=ai (gM am ao) ((Grow.W am).F aq) S aN.set (λr h=>h) Ω;exact⟨⟨ba.aa aR Ω,aQ.2.1.1⟩,⟨aQ,G.F aR⟩,by grind⟩
 .rintro k bq rfl ⟨P,G⟩;rw[o7 (by grind)]at P;obtain⟨bX,bY,au,aS,ai⟩:=P.open;have a8:∀{H:x3}{g:Nat}{e:r8}{cs:List x1},Ext bq H->w.heap.size<=g->g<B.heap.size->ag B g e cs->ag H g e cs:=λa bc bd Z=>((Z.W E).aa G Ω).W a;intro bZ U _ _;have ax:=a8 U Ω O f;rw[av Ψ (ax.cell rfl),av Ψ (ax.cell rfl),av Ψ (ax.cell rfl),av Ψ ((a8 U Ω aF C).cell rfl)];refine(rz (au.W U)).X ?_;rintro _ bs _ ⟨rfl,ay⟩;have aT:=U.F ay;refine⟨.inl ay,?_⟩;show ak x7 F2 [Γ ac,Δ s.zero,Δ c] bs _;refine(aB.2 (au.W aT)).X ?_;rintro _ b0 _ ⟨rfl,aU⟩;have az:=aT.F aU;refine⟨.inl (ay.F aU),(FU (au.W az) aS.room).X ?_⟩;rintro r b1 _ ⟨_,an⟩;obtain⟨_,ao,aJ,bm,bp,aq,S⟩:=an aB.1;intro b2 bt _;exact(ai (gM az ao) ((Grow.W az).F aq) S aS.set (by grind) λ_ _ _=>trivial).1.done bt
end
section
variable{w:x3}{ac ad am:Nat}{A R:ah}{A9:Nat->ah}{aE:ah}{n:aG}{s u:al}{t:aw}{h:List aw}{cs:List x1}{a:iZ}
theorem TJ(hk:a.kind<2):cL n.k u a=match eX u a.i a.pos a.v with
  |none=>(u,1)
  |some (f,v,x)=>if eg n.k a.c (if a.kind=1 then x.un.getD a.v.toNat 0 else n8 n.k u f a.pos.toNat a.v)≠0 then(u,eg n.k a.c (if a.kind=1 then x.un.getD a.v.toNat 0 else n8 n.k u f a.pos.toNat a.v))
   else(kg u a.i.toNat f a.pos.toNat v.toNat x a.v (λg=>if a.kind=0 then dQ n.k g a.c else dR n.k g a.c) λg=>if a.kind=0 then dR n.k g a.c else dQ n.k g a.c,0):=by
 grind [cL]
theorem getD_some{i:Nat}(h:i<l.length):l[i]?=σ (l.getD i 0):=by
 grind
theorem TK(p:cg w ac ad am A R A9 aE n s u t h cs)(G:a6 n.k n.co u)(bE:cw u)(hk:a.kind<2):ak x7 xd [Γ am,Δ (a.kind:Int),Δ a.i,Δ a.pos,Δ a.v,Δ a.c] w λr I=>r=Δ (cL n.k u a).2/\dz w ac ad am A R A9 aE n s t h (cL n.k u a).1 I:=by
 have N:=TJ (n:=n) (u:=u) hk;have cR:=G.d6;have bH:=G.dy;refine ay func168 ?_;have bI:cs[0]?=σ (Δ n.k):=by grind [cg.qh]
 rw[aN aZ.p 0 p.box bI,aP,aj];refine⟨λ_=>?_,λh=>Ω⟩;rw[bS];refine p.look.load λdG bJ=>?_;refine(Tp bJ G bE).X ?_;rintro _ J _ ⟨bK,rfl⟩;cases aK:eX u a.i a.pos a.v with
 |none=>
  rw[aK]at N;simp only;rw[bn,bo,bA,X1,bZ]
  grind [dz.same]
 |some q=>
 obtain⟨f,O,x⟩:=q;rw[aK]at N;simp only;rw[bn,bo,bA,Y2,aW];obtain⟨j,pos,O,bL,bN,bO,S,cS,bk,L,bP,aM⟩:=zU aK;have aq:=x5 S;simp only[bL,bN,bO,u7]at N ⊢;have bQ:=(x4.1 S).1;have bl:=(x4.1 L).1;have bT:=(x4.1 bk).1;obtain⟨bU,cT⟩:=l5 G aq;have bV:=Gn G aq aM;have bW:=(jN.1 bP).1;obtain⟨v,U⟩:=U8 bW.1;have bm:=jp (v:=a.v.toNat) G L;have aw:=p.W bK;have bp:∀{V:x3}{e2:al}{bq:List x1}{br:Nat->ah}{f2:bF},cg V ac ad am A R br aE n s e2 t h bq->e2.d7[j]?=σ f2->∃P cap W aQ y,bq[6]?=σ (.slice (σ ⟨P,0,ν⟩) e2.d7.length cap)/\j<e2.d7.length/\V.cell? ⟨P,0+j*4+0+0,ν⟩=σ W/\V.cell? ⟨P,0+j*4+0+2,ν⟩=σ y/\aF .i64 V W f2.sc/\aF .i64 V y f2.cs/\
   ∀{I:x3}{m:Nat}{c:Int}{K:Unit->x3->Prop},Ext V I->m<f2.cs.length->(∀bs,dz V ac ad am A R br aE n s t h (dw e2 j f2 (f2.cs.set m c)) bs->K () bs)->ab x7 (j0 au y (Δ (m:Int))) I λa=>aD x7 (o6 ao a (Δ c)) I K:=λbX ax=>by
  obtain⟨P,cap,W,aQ,y,bY,bu,b0,b1,Q⟩:=Tr bX ax;exact⟨P,cap,W,aQ,y,bY,(x4.1 ax).1,by rw[V0];exact bu 0 _ rfl,by rw[V0];exact bu 2 _ rfl,b0,b1,Q⟩
 obtain⟨P,cU,W,aQ,cV,b2,b3,b4,_,b5,_,_⟩:=bp aw S;rw[aN aZ.p 6 aw.box b2,fs fq.u dF.i b3 λ_=>rfl,aT dF.p rfl,aT a7.p rfl,av Ψ b4,ba ai.u ae.i Ψ b5 bk];generalize cW:(if a.kind=1 then x.un.getD a.v.toNat 0 else n8 n.k u f pos a.v)=most at N;refine aV (λr V=>r=Δ most/\Ext w V) ?_ λaz cX=>?_
 rotate_left
 .rw[bi,aj];refine⟨λh1=>?_,by grind⟩;have h1:a.kind=1:=Ω
  obtain⟨aR,bw,y,aU,aX,aA,_⟩:=zT aw L;rw[aN aZ.p 5 aw.box aU,fs eP.u au.i bl λ_=>rfl,av Ψ (by rw[V0,V1];exact aX),U,ba au.u ao.i Ψ aA (getD_some Ω)]
  grind [u7]
 rintro _ V ⟨rfl,b7⟩;refine Cf.X ?_;rintro _ cY _ ⟨rfl,b8⟩;have aY:=b7.F b8;have b9:cK a.c n.k↔0<=a.c/\a.c<=n.k:=⟨λh=>h.2,λax=>⟨bH,ax⟩⟩;rw[bA,bM];refine⟨λa1=>?_,λa1=>?_⟩
 .grind [eg,dz.same]
 have cZ:=b9.1 (by grind);rw[bG,aj];refine⟨λc0=>?_,λc1=>?_⟩
 .grind [eg,dz.same]
 have aB:eg n.k a.c most=0:=by grind [eg]
 rw[m6 (λh=>h aB)]at N;have ca:=p.W aY;rw[bS];refine ca.look.load λc2 cb=>?_;refine(G2 cb G S bT aM).X ?_;rintro aO a2 _ ⟨cc,bx,cd⟩;have bz:=aY.F cc;rw[aS ai.u bx];have cf:(ne u f pos a.v).length=(cQ u f.sc pos a.v).length:=by grind [ne]
 rw[cf];obtain⟨tup,a8⟩:∃tup:Int->Int,tup=λg=>if a.kind=0 then dQ n.k g a.c else dR n.k g a.c:=⟨_,rfl⟩;obtain⟨un,bb⟩:∃un:Int->Int,un=λg=>if a.kind=0 then dR n.k g a.c else dQ n.k g a.c:=⟨_,rfl⟩;rw[<-a8,<-bb]at N;have c3:=p.olds.W bz;have c4:=p.box.lt;have c5:=aY.size;have ch:∀{I:x3},af (λr=>(∃q,A9 q r/\r<w.heap.size)\/r=am) a2 I->aF .i64 I aO (ne u f pos a.v):=λcj=>jg bx cj λr aB b n c e a1=>by
  have:=cd r ⟨b,n,c,e,a1⟩;omega
 refine ce.range (cQ u f.sc pos a.v).length (λq I=>dz a2 ac ad am A R (λq r=>A9 q r/\r<w.heap.size) aE n s t h (dw u j f (er tup ((cQ u f.sc pos a.v).take q) f.szs f.cs)) I) (by grind [aF.le]) ?_ ?_ ?_
 .grind [G4,dz.same,Ext.refl]
 .rintro q X ck cl aG cm;obtain⟨tl,bc⟩:=aC (l:=cQ u f.sc pos a.v) cl;obtain⟨m,hm⟩:=vV G aq aM (x5 bc);have cn:(ne u f pos a.v)[q]?=σ (m:Int):=by
   unfold ne;rw[x8,bc]
   grind [qn]
  obtain⟨bB,cp⟩:=Gp G S bV bc hm;have c6:=(x4.1 (oD bU hm)).1;have c7:m<f.cs.length:=Ω
  obtain⟨Q,cq,bC,M,be⟩:=id aG;obtain⟨ci,cr⟩:∃ci,ci=er tup ((cQ u f.sc pos a.v).take q) f.szs f.cs:=⟨_,rfl⟩;have c8:ci.length=f.cs.length:=by grind [rC]
  rw[<-cr]at M bB cp;have bD:(dw u j f ci).d7[j]?=σ {f with cs:=ci}:=Z5 bQ;obtain⟨aH,ct,c9,da,cu,cz,cA,_,bf,_,cB,cC⟩:=bp M bD;have cD:ci[m]?=σ (bd f.szs f.cs tl):=by
   rw[getD_some Ω,<-bB];unfold bd;rw[hm];simp
  have db:=qj (t:=tl) G aq;have dc:bC[0]?=σ (Δ n.k):=by obtain⟨_,_,_,_,_,_,rfl,_⟩:=M.qh;rfl
  have cE:=ch Q;refine bt Ω ?_;refine dh (λH=>dz a2 ac ad am A R (λq r=>A9 q r/\r<w.heap.size) aE n s t h (dw u j f (er tup ((cQ u f.sc pos a.v).take (q+1)) f.szs f.cs)) H) (λH aI=>by rw[aL];exact cm _ aI) λcF cG=>?_;have Y:∀{C:x3},Ext X C->ab x7 (j0 au cu (Δ (m:Int))) C λa'=>aD x7 (o6 ao a' (Δ (tup (bd f.szs f.cs tl)))) C λ(_:Unit)H=>cF H:=λbg=>by
   refine cC bg (by grind) λH aI=>cG _ (dz.comp Q be ?_);have dd:dw (dw u j f ci) j {f with cs:=ci} (ci.set m (tup (bd f.szs f.cs tl)))=kQ (dw u j f ci) j m (tup (bd f.szs f.cs tl)):=by unfold kQ;rw[bD];rfl
   grind
  have row:∀{z:x3}{K:x1->x1->x1->x1->x1->x1->Prop},Ext X z->K (Γ am) (.pointer (σ ⟨am,0+6,ν⟩)) (.slice (σ ⟨aH,0,ν⟩) (dw u j f ci).d7.length ct) (.pointer (σ ⟨aH,0+j*4,ν⟩)) (.pointer (σ ⟨aH,0+j*4+0,ν⟩)) (.pointer (σ ⟨aH,0+j*4+0+2,ν⟩))->
    ab x7 (bR (Γ am)) z λZ=>ab x7 (u6 aZ Z 6) z λag=>ab x7 (u4 fq ag) z λan=>ab x7 (j0 fq an (Δ (j:Int))) z λap=>ab x7 (u6 dF ap 0) z λaJ=>ab x7 (u6 a7 aJ 2) z λcH=>K Z ag an ap aJ cH:=λL bh=>by
   rw[aN aZ.p 6 (M.box.W L) cz,fs fq.u dF.i cA λ_=>rfl,aT dF.p rfl,aT a7.p rfl];exact bh
  rw[ba ai.u ae.i Ψ cE cn];refine row (Ext.refl _) ?_;rw[av Ψ bf,ba au.u ao.i Ψ cB cD,bi,aj];refine⟨λbj=>?_,λbj=>?_⟩
  .intro z B _ _;refine row B ?_;rw[av Ψ (jV B bf)];refine(wq Ω Ω).X ?_;rintro _ C _ ⟨rfl,E⟩;refine⟨.inl E,?_⟩;have:=Y (B.F E);rw[a8]at this;simp only[m5 (show a.kind=0 by omega)]at this;exact this
  .intro z B _ _;refine row B ?_;rw[av Ψ (jV B bf)];refine(oI Ω Ω).X ?_;rintro _ C _ ⟨rfl,E⟩;refine⟨.inl E,?_⟩;have:=Y (B.F E);rw[a8]at this;simp only[m6 (show¬a.kind=0 by omega)]at this;exact this
 .rintro X ck aG;rw[p8]at aG;refine b6 Ω ?_;obtain⟨Q,cq,bC,M,be⟩:=id aG;have cI:(dw u j f (er tup (cQ u f.sc pos a.v) f.szs f.cs)).d6[O]?=σ x:=L;obtain⟨aR,bw,y,aU,aX,aA,cJ⟩:=zT M cI;refine dh (λH=>dz w ac ad am A R A9 aE n s t h (kg u j f pos O x a.v tup un) H) (by grind) λcM cN=>?_;have cO:O<(dw u j f (er tup (cQ u f.sc pos a.v) f.szs f.cs)).d6.length:=bl;have row:∀{z:x3}{K:x1->x1->x1->x1->x1->Prop},Ext X z->K (Γ am) (.pointer (σ ⟨am,0+5,ν⟩)) (.slice (σ ⟨aR,0,ν⟩) (dw u j f (er tup (cQ u f.sc pos a.v) f.szs f.cs)).d6.length bw) (.pointer (σ ⟨aR,0+O*1,ν⟩)) y->
    ab x7 (bR (Γ am)) z λZ=>ab x7 (u6 aZ Z 5) z λag=>ab x7 (u4 eP ag) z λan=>ab x7 (j0 eP an (Δ (O:Int))) z λap=>ab x7 (u4 au ap) z λaJ=>K Z ag an ap aJ:=λL bh=>by
   rw[aN aZ.p 5 (M.box.W L) aU,fs eP.u au.i cO λ_=>rfl,av Ψ (by rw[V0,V1];exact jV L aX)];exact bh
  have Y:∀{C:x3},Ext X C->ab x7 (j0 au y (Δ (v:Int))) C λa'=>aD x7 (o6 ao a' (Δ (un (x.un.getD v 0)))) C λ(_:Unit)H=>cM H:=λbg=>by
   refine cJ bg Ω λH aI=>cN _ ?_;have cP:=dz.comp Q be aI.G3;have:=dz.comp (bz.aa _) (λq r aB=>.inl ⟨q,aB.1⟩) cP
   grind [kg,Int.toNat]
  rw[bi,aj];refine⟨λbj=>?_,λbj=>?_⟩
  .intro z B _ _;refine row B (row B ?_);rw[U,ba au.u ao.i Ψ (aA.W B) (getD_some Ω)];rw[U,u7]at bm;refine(oI Ω Ω).X ?_;rintro _ C _ ⟨rfl,E⟩;refine⟨.inl E,?_⟩;have:=Y (B.F E);rw[bb]at this;simp only[m5 (show a.kind=0 by omega)]at this;exact this
  .intro z B _ _;refine row B (row B ?_);rw[U,ba au.u ao.i Ψ (aA.W B) (getD_some Ω)];rw[U,u7]at bm;refine(wq Ω Ω).X ?_;rintro _ C _ ⟨rfl,E⟩;refine⟨.inl E,?_⟩;have:=Y (B.F E);rw[bb]at this;simp only[m6 (show¬a.kind=0 by omega)]at this;exact this
end
section
variable{ap:List aw}{w:x3}{ac ad:Nat}{A R:ah}{n:aG}{s:al}{t:aw}{a:iZ}
theorem dj.step{aJ:ah}{s':al}{t':aw}(h:be w ac ad A R n s t)(j:Laid w)(f:¬A 0)(a:Ext w J)(p:af (dv J) J V)(e:Grow A J aJ V)(q:be V ac ad aJ R n s' t')(r:dg ap t'):dj ap w ac ad A R n s' V:=by
 refine⟨gM a p,gW e.1 f (j.W a),aJ,t',(Grow.W a).F e,q,r,λx=>(e.2.1 0 x).elim f λy=>?_⟩;obtain⟨z,B,C,E,⟨h1,_⟩,_⟩:=h.1;have:=h.lt (.inl h1);have:=a.size;omega
theorem zW(hk:a.kind=2):cL n.k s a=match jr s a.i with
  |none=>(s,1)
  |some x=>if eg n.k a.c (lx x)≠0 then(s,eg n.k a.c (lx x))else(l6 s a.i.toNat x (λg=>dQ n.k g a.c) λg=>dR n.k g a.c,0):=by
 unfold cL jr;rw[m6 Ω,m6 Ω,m5 hk];cases (if 0<=a.i then s.d6[a.i.toNat]? else ν)with
 |none=>rfl
 |some x=>
  simp only;by_cases e:x.gone=0
  .rw[m6 Ω,m5 e]
  .rw[m5 e,m6 e]
theorem zX(hk:a.kind=3):cL n.k s a=match jr s a.i with
  |none=>(s,1)
  |some x=>if eg n.k a.c (if aM x=[]then-1 else s.zero)≠0 then(s,eg n.k a.c (if aM x=[]then-1 else s.zero))else(l6 s a.i.toNat x (λg=>dR n.k g a.c) λg=>dQ n.k g a.c,0):=by
 unfold cL jr;rw[m6 Ω,m6 Ω,m6 Ω,m5 hk];cases (if 0<=a.i then s.d6[a.i.toNat]? else ν)with
 |none=>rfl
 |some x=>
  simp only;by_cases e:x.gone=0
  .rw[m6 Ω,m5 e]
  .rw[m5 e,m6 e]
theorem TL(hk:a.kind=2)(h:be w ac ad A R n s t)(O:Laid w)(Z:¬A 0)(ab:dg ap t):ak x7 J0 [Γ ac,Δ a.i,Δ a.c] w (qp ap w ac ad A R n s a):=by
 have G:=h.2.2.2.1;have f:=zW (n:=n) (s:=s) hk;refine je func171 ?_;refine bj λg1 J bD aB H=>?_;refine bj λaC V bE ah K=>?_;have H:=ag.W H ah;have K:=K;have ai:=aB.F ah;have bF:=aB.size;have bG:=ah.size;have bH:=H.lt;have bI:=K.lt;rw[av Ψ (H.cell rfl),av Ψ (K.cell rfl)];refine(G7 (h.W ai)).X ?_;rintro _ bJ _ ⟨al,rfl⟩;have a2:=ai.F al;have z3:=al.size;cases B:jr s a.i with
 |none=>
  rw[B]at f;rw[m6 Ξ,bz,aj];refine⟨λ_=>?_,λh=>m7 Φ h⟩;intro a6 a7 _;exact⟨by rw[f],by rw[f];exact dj.same h O Z ab (a2.F a7)⟩
 |some x=>
 rw[B]at f;simp only at f;obtain⟨aD,e,bK⟩:=zV B;obtain⟨u,C⟩:=U8 aD;rw[C,u7]at e;rw[C,u7]at f;rw[m5 (by rfl),bz,aj];refine⟨λh=>m7 rfl h,λ_=>?_⟩;refine bu ao.i λaE bL bM aF aG=>?_;refine bw ao.i rfl rfl aG (by simp[T5]) λaH am bN P=>?_;have P:=P;have z5:=aF.size;have bO:=aG.lt;have an:=al.F aF;have aq:ag aH g1 dx [Γ ac]:=(H.W an).aa am Ω;have au:ag aH aC ae [Δ a.i]:=(K.W an).aa am Ω;have Q:=(ai.F an).then am (by rintro r aI rfl;omega);rw[av Ψ (aq.cell rfl),av Ψ (au.cell rfl)];refine(kN (i:=a.i) (h.W Q)).X ?_;rintro _ bP _ ⟨⟨b,bQ,rfl,aK⟩,aL⟩;refine(pJ).X ?_;rintro _ a8 _ ⟨ba,aN,rfl,bR,aO⟩;have aQ:=n3 aK aD (show s.d6[a.i.toNat]?=σ x by rw[C,u7];exact e);have p:=aL.F ba;have bS:=aL.size;have bT:=aO.lt;have bU:=P.lt;have aR:∀j (v:Nat),(aM x)[j]?=σ (v:Int)->(((aM x).take (j+1)).map λv=>x.un.getD v.toNat 0).foldl me (-1)=me ((((aM x).take j).map λv=>x.un.getD v.toNat 0).foldl me (-1)) (x.un.getD v 0):=λj v aS=>by
  rw[u5,aS,l7,n9,List.foldl_append];rfl
 refine mo.old ⟨_,sp,k4,#[Γ aN],_,_,_,_,λj I=>af (λr=>r=aE) a8 I/\ag I aE ao [Δ ((((aM x).take j).map λv=>x.un.getD v.toNat 0).foldl me (-1))],λ_ _ _=>False,rfl,(pI (g:=aN) aK.1).s,?_,
  λ_ _ e h=>⟨h.1.W e,h.2.W e⟩,λ_ _ _ e h=>⟨h.1.F (e.aa _),h.2.W e⟩,λ_ _ _ _ _ h=>h,⟨aO,O.W (Q.F p)⟩,⟨af.refl _ _,P.W p⟩,?_,?_,λ_ _ h=>h.elim,λ_ _ _ h=>h.elim⟩
 .rintro _ _ _ _ ⟨_,_,_,_,rfl⟩;rfl
 .rintro _ j _ bV ⟨aT,aU⟩ ⟨aS,rfl,v,bb,bc⟩ ⟨y,S⟩;cases bc;intro bW aW _ _;have aw:(aM x)[j]?=σ (v:Int):=by rw[<-aQ,x8,bb];rfl
  have bd:=rQ G e (x5 aw);have ax:=y.F (aW.aa _);have bf:=(Q.F p).then ax (by rintro r aI rfl;omega);rw[av Ψ (((aq.W p).aa ax Ω).cell rfl),av Ψ (((au.W p).aa ax Ω).cell rfl)];refine(l2 (h.W bf)).X ?_;rintro _ bg _ ⟨rfl,bh⟩;have bk:fG s a.i.toNat (v:Int).toNat=x.un.getD v 0:=by
   unfold fG;rw[C,u7,e];rfl
  rw[m5 (by rw[C];exact bd),bk,bn,bo];have L:=aW.F bh;have M:=S.W L;refine aV (λr bl=>(r= .bool (decide ((((aM x).take j).map λv=>x.un.getD v.toNat 0).foldl me (-1)<0\/x.un.getD v 0<(((aM x).take j).map λv=>x.un.getD v.toNat 0).foldl me (-1))))/\bl=bg) ?_ λaz N=>?_
  .rintro _ _ ⟨rfl,rfl⟩;rw[aj];refine⟨λU=>?_,λW=>?_⟩
   .refine bw ao.i rfl rfl M Ξ λbX bm bY bp=>?_;have q:=(L.aa _).F bm;refine⟨⟨aT.aa q Ω,gW q Ω aU⟩,⟨y.F q,?_⟩,λh=>by cases h⟩;rw[aR j v aw];unfold me at U ⊢;rw[m5 U];exact bp
   .refine⟨⟨aT.W L,aU.W L⟩,⟨y.F (L.aa _),?_⟩,λh=>by cases h⟩;rw[aR j v aw];unfold me at W M ⊢;rw[m6 W];exact M
  rw[av Ψ (M.cell rfl),aP,aj];refine⟨λU=>N _ _ ⟨by rw[ms (Or.inl U)],rfl⟩,λW=>?_⟩;rw[av Ψ (M.cell rfl),aP];refine N _ _ ⟨?_,rfl⟩;congr 1;exact decide_eq_decide.2 ⟨.inr,λh=>h.resolve_left W⟩
 .rintro k aX rfl ⟨y,S⟩;rw[o7 (by rw[<-aQ,r9];exact o5 _),TI λv _=>(jp G e).1]at S;have aY:=(Q.F p).then y (by rintro r aI rfl;omega);have aZ:ag aX g1 dx [Γ ac]:=(aq.W p).aa y Ω;have bq:ag aX aC ae [Δ a.i]:=(au.W p).aa y Ω;rw[av Ψ (aZ.cell rfl),av Ψ (S.cell rfl)];refine(wm (h.W aY)).X ?_;rintro _ bZ _ ⟨ay,rfl⟩;have X:=aY.F ay;refine dh (λI=>dj ap w ac ad A R n (cL n.k s a).1 I) ?_ λaz N=>?_
  .intro I br b0 Y _;obtain⟨bs,bt,aJ,t',bx,bA,bB⟩:=br;refine⟨?_,bs.F (Y.aa _),bt.W Y,aJ,t',bx.F (Grow.W Y),bA.W Y,bB⟩;rw[f];split
   .rfl
   .rename_i E;rw[Z2.1 E]
  rw[bi,aj];refine⟨λE=>?_,λE=>N _ ?_⟩
  .obtain⟨q,hm⟩:=oZ (λh=>h E);rw[av Ψ ((aZ.W ay).cell rfl),av Ψ ((bq.W ay).Qz rfl),C];refine(G8 (t:=t) (u:=u) (F1:=ps) (F2:=pt) (g:=λg=>dQ n.k g a.c) (z:=λg=>dR n.k g a.c) (h.W X) (O.W X) Z ab e (λv B=>?_) ⟨o2 G.zero q.1,λ{w A s' t}aA=>tx aA G.zero q⟩).X ?_
   .have a1:=jp (v:=v.toNat) G e;exact⟨o1 a1 ⟨q.1,zw B hm⟩,λ{w A s t}aA=>wn aA a1 q (.inr (zw B hm))⟩
   .rintro _ a6 _ bC;refine N _ ?_;rw[f,m6 (λh=>h E)];exact bC.before X
  .rw[f,m5 E];exact dj.same h O Z ab X
theorem TM{b m:Nat}{i:Int}{x:br}(p:vF s n i b m)(hi:0<=i)(q:s.d6[i.toNat]?=σ x):b=0↔aM x=[]:=by
 have a:=n3 p hi q;constructor
 .rintro rfl;rw[<-a];have:fh 0 m=[]:=List.eq_nil_iff_forall_not_mem.2 λv e=>by
   have:=(xK.1 e).2;simp at this
  rw[this];rfl
 .intro he;rw[he]at a;have e:=List.map_eq_nil_iff.1 a;refine Nat.eq_of_testBit_eq λj=>?_;rw[Nat.zero_testBit];cases f:b.testBit j with
  |false=>rfl
  |true=>
   have r:j<m:=by
    rcases Nat.lt_or_ge j m with h|h
    .exact h
    .have:=Nat.testBit_lt_two_pow (Nat.lt_of_lt_of_le p.1.2 (T3 Ω h));rw[this]at f;cases f
   have:j∈fh b m:=xK.2 ⟨r,f⟩;rw[e]at this;cases this
theorem TN(hk:a.kind=3)(h:be w ac ad A R n s t)(G:Laid w)(H:¬A 0)(K:dg ap t):ak x7 J1 [Γ ac,Δ a.i,Δ a.c] w (qp ap w ac ad A R n s a):=by
 have L:=h.2.2.2.1;have f:=zX (n:=n) (s:=s) hk;refine ay func172 ?_;refine(G7 h).X ?_;rintro _ J _ ⟨M,rfl⟩;cases y:jr s a.i with
 |none=>
  rw[y]at f;rw[m6 Ξ,bz,aj];exact⟨λ_=>⟨by rw[f],by rw[f];exact dj.same h G H K M⟩,λh=>m7 Φ h⟩
 |some x=>
 rw[y]at f;simp only at f;obtain⟨P,B,ai⟩:=zV y;rw[m5 (by rfl),bz,aj];refine⟨λh=>m7 rfl h,λ_=>?_⟩;refine(rz (h.W M)).X ?_;rintro _ V _ ⟨rfl,aa⟩;have Q:=M.F aa;refine aV (λr I=>r=Δ (if aM x=[]then-1 else s.zero)/\Ext w I) ?_ λaz p=>?_
 .rintro _ al ⟨rfl,S⟩;refine(wm (h.W S)).X ?_;rintro _ am _ ⟨ab,rfl⟩;have C:=S.F ab;refine dh (λI=>dj ap w ac ad A R n (cL n.k s a).1 I) ?_ λaz p=>?_
  .intro I ae;refine⟨?_,ae⟩;rw[f];generalize (if aM x=[]then(-1:Int)else s.zero)=an;split
   .rfl
   .rename_i j;rw[Z2.1 j]
  rw[bi,aj];refine⟨λj=>?_,λj=>p _ ?_⟩
  .obtain⟨E,hm⟩:=oZ (λh=>h j);have T:a.c<=s.zero:=by
    split at hm
    .omega
    .exact hm
   obtain⟨u,N⟩:=U8 P;rw[N,u7]at B;rw[N];refine(G8 (t:=t) (u:=u) (F1:=pt) (F2:=ps) (g:=λg=>dR n.k g a.c) (z:=λg=>dQ n.k g a.c) (h.W C) (G.W C) H K B (λv y=>?_) ⟨o1 L.zero ⟨E.1,T⟩,λ{w A s' t}O=>wn O L.zero E (.inr T)⟩).X ?_
   .have U:=jp (v:=v.toNat) L B;exact⟨o2 U E.1,λ{w A s t}O=>tx O U E⟩
   .rintro _ ao _ af;refine p _ ?_;rw[f,m6 (λh=>h j),N,u7];exact af.before C
  .rw[f,m5 j];exact dj.same h G H K C
 refine(kN (i:=a.i) (h.W Q)).X ?_;rintro _ aq _ ⟨⟨b,au,rfl,W⟩,ag⟩;refine(ea W.1).X ?_;rintro _ av _ ⟨⟨q,rfl,X⟩,ah⟩;have Y:=(Q.F ag).F ah;have Z:=TM W P B;rw[bi,aj];refine⟨λh=>p _ _ ⟨by rw[m5 (Z.1 (X.1 h))],Y⟩,λh=>p _ _ ⟨by rw[m6 λe=>h (X.2 (Z.2 e))],Y⟩⟩
theorem TO(hk:a.kind=4)(h:be w ac ad A R n s t)(j:Laid w)(p:¬A 0)(f:dg ap t):ak x7 J2 [Γ ac,Δ a.i,Δ a.v] w (qp ap w ac ad A R n s a):=by
 have q:=h.2.2.2.1;have e:cL n.k s a=match eF s a.i a.v with
  |none=>(s,1)
  |some x=>if dR n.k s.zero (x.un.getD a.v.toNat 0)<n.k then(s,7)else(eD s a.i.toNat a.v.toNat,0):=by
  unfold cL;rw[m6 Ω,m6 Ω,m6 Ω,m6 Ω,m5 hk];cases eF s a.i a.v<;>rfl
 refine ay func173 ?_;refine(zQ h).X ?_;rintro _ J _ ⟨z,rfl⟩;cases B:eF s a.i a.v with
 |none=>
  rw[B]at e;rw[m6 Ξ,bz,aj];exact⟨λ_=>⟨by rw[e],by rw[e];exact dj.same h j p f z⟩,λh=>m7 Φ h⟩
 |some x=>
 rw[B]at e;simp only at e;obtain⟨Z,C,aa,L⟩:=l8 B;rw[m5 (by rfl),bz,aj];refine⟨λh=>m7 rfl h,λ_=>?_⟩;have G:eL n a.i a.v:=by
  have:=rQ q C L;rwa [show((a.i.toNat:Nat):Int)=a.i by omega]at this
 refine(l2 (h.W z)).X ?_;rintro _ V _ ⟨rfl,M⟩;have N:fG s a.i.toNat a.v.toNat=x.un.getD a.v.toNat 0:=by
  unfold fG;rw[C]
 rw[m5 G,N,bn,bo];have H:=z.F M;refine(rz (h.W H)).X ?_;rintro _ ab _ ⟨rfl,O⟩;have I:=H.F O;refine(tx (h.W I) q.zero (jp q C)).X ?_;rintro _ ae _ ⟨rfl,P⟩;have K:=I.F P;refine(kM (h.W K)).X ?_;rintro _ af _ ⟨rfl,Q⟩;have E:=K.F Q;rw[aP,aj];refine⟨λS=>?_,λT=>?_⟩
 .rw[m5 S]at e;exact⟨by rw[e],by rw[e];exact dj.same h j p f E⟩
 .rw[m6 T]at e;refine(zd (h.W E) f.room).X ?_;rintro r ag _ ⟨_,U⟩;obtain⟨rfl,W,aJ,y,X,Y⟩:=U G;refine⟨by rw[e],?_⟩;rw[e];exact dj.step h j p E W X Y f.set
theorem TP(hk:5<=a.kind)(h:be w ac ad A R n s t)(O:Laid w)(W:¬A 0)(X:dg ap t):ak x7 J3 [Γ ac,Δ a.i,Δ a.v] w (qp ap w ac ad A R n s a):=by
 have ax:=h.2.2.2.1;have q:cL n.k s a=match eF s a.i a.v with
  |none=>(s,1)
  |some x=>(gP s a.i.toNat a.v (aM x),0):=by
  unfold cL;rw[m6 Ω,m6 Ω,m6 Ω,m6 Ω,m6 Ω];cases eF s a.i a.v<;>rfl
 refine je func174 ?_;refine bj λg1 J aW Y z=>?_;refine bj λaX V aY P B=>?_;refine bj λaZ Q a1 K C=>?_;have z:ag Q g1 dx [Γ ac]:=(ag.W z P).W K;have B:=ag.W B K;have C:=C;have L:=(Y.F P).F K;have a2:=Y.size;have a6:=P.size;have z3:=K.size;have ay:=z.lt;have az:=B.lt;have aA:=C.lt;rw[av Ψ (z.cell rfl),av Ψ (B.cell rfl),av Ψ (C.cell rfl)];refine(zQ (h.W L)).X ?_;rintro _ a7 _ ⟨E,rfl⟩;have Z:=L.F E;have z4:=E.size;cases S:eF s a.i a.v with
 |none=>
  rw[S]at q;rw[m6 Ξ,bz,aj];refine⟨λ_=>?_,λh=>m7 Φ h⟩;intro ba aB _;exact⟨by rw[q],by rw[q];exact dj.same h O W X (Z.F aB)⟩
 |some x=>
 rw[S]at q;simp only at q;obtain⟨aC,f,bb,bc⟩:=l8 S;rw[m5 (by rfl),bz,aj];refine⟨λh=>m7 rfl h,λ_=>?_⟩;rw[av Ψ ((z.W E).cell rfl),av Ψ ((B.W E).Qz rfl)];refine(kN (i:=a.i) (h.W Z)).X ?_;rintro _ bd _ ⟨⟨b,aD,rfl,ab⟩,ae⟩;refine(pJ (b:=b) (n:=aD)).X ?_;rintro _ U _ ⟨aE,ah,rfl,bf,ai⟩;have al:=n3 ab aC f;have M:=(E.F ae).F aE;have bg:=ae.size;have bh:=M.size;have bi:=ai.lt;refine mo.old ⟨_,sp,k4,#[Γ ah],_,_,_,_,λj I=>fw ap w ac ad A R n w.heap.size (λr=>U.heap.size<=r) (gP s a.i.toNat a.v ((aM x).take j)) I/\af (λr=>r<w.heap.size\/U.heap.size<=r) U I,λ_ _ _=>False,rfl,(pI (g:=ah) ab.1).s,?_,
  λ_ _ f h=>⟨h.1.W f,h.2.W f⟩,λ_ _ _ f h=>⟨h.1.W f,h.2.F (f.aa _)⟩,λ_ _ _ _ _ h=>h,⟨ai,O.W (L.F M)⟩,⟨fw.start h O W X (L.F M) (o5 _),af.refl _ _⟩,?_,?_,λ_ _ h=>h.elim,λ_ _ _ h=>h.elim⟩
 .rintro _ _ _ _ ⟨_,_,_,_,rfl⟩;rfl
 .rintro _ j _ bk ⟨am,aF⟩ ⟨bl,rfl,v,aG,aH⟩ ⟨G,H⟩;cases aH;intro aI p _ _;have an:(aM x)[j]?=σ (v:Int):=by rw[<-al,x8,aG];rfl
  have aK:eL n a.i (v:Int):=by
   have:=rQ ax f (x5 an);rwa [show((a.i.toNat:Nat):Int)=a.i by omega]at this
  have a8:∀{g:Nat}{e:r8}{cs:List x1},w.heap.size<=g->g<Q.heap.size->ag Q g e cs->ag aI g e cs:=λaL aN aO=>((aO.W M).aa H Ω).W p;have N:=TG (s:=s) (i:=a.i.toNat) (v:=a.v) an;obtain⟨bm,bn,aP,ao,aQ⟩:=G.open;rw[av Ψ ((a8 Ω aA C).cell rfl),bz,aj];refine⟨λaR=>?_,λhe=>?_⟩
  .rw[m5 aR]at N;rw[av Ψ ((a8 Ω ay z).cell rfl),av Ψ ((a8 Ω az B).cell rfl)];refine(zd (aP.W p) ao.room).X ?_;rintro r bo _ ⟨_,aS⟩;obtain⟨rfl,aT,aJ,y,aU,aq⟩:=aS aK;rw[<-N]at aq;have bp:=H.size;obtain⟨au,aw,bq⟩:=aQ (gM p aT) ((Grow.W p).F aU) aq ao.set (λr h=>h) λr aL aN=>Ω
   exact⟨⟨am.aa aw Ω,au.2.1.1⟩,⟨au,H.F aw⟩,λh=>by cases h⟩
  .rw[m6 he]at N;exact⟨⟨am.W p,aF.W p⟩,⟨by rw[N];exact G.W p,H.F (p.aa _)⟩,λh=>by cases h⟩
 .rintro k br rfl ⟨G,H⟩;rw[o7 (by rw[<-al,r9];exact o5 _)]at G;intro bs aV _;exact⟨by rw[q],by rw[q];exact G.done aV⟩
end
theorem TQ{bK:x1}(h:aF .i64 w bK l)(C:l.length<=1000000):ak x7 KL [bK,Δ v] w λr I=>Ext w I/\(∃g,an .i64 ae I g r (l.filter λy=>!decide (y=v)))/\∀q,li r q->w.heap.size<=q:=by
 refine ay func244 ?_;rw[aS ai.u h];refine bT.range l.length (λi out a=>Ext w a/\(∃g,an .i64 ae a g out ((l.take i).filter λy=>!decide (y=v)))/\∀r,li out r->w.heap.size<=r) h.le ⟨Ext.refl _,⟨0,an.nil _ _ _ _⟩,λr x=>by obtain⟨_,_,_,e,_⟩:=x;cases e⟩ ?_ ?_
 .rintro q out a z A ⟨f,⟨g,hm⟩,j⟩ E;obtain⟨y,B⟩:=aC (l:=l) A;have G:(l.take (q+1)).filter (λy=>!decide (y=v))=(l.take q).filter (λy=>!decide (y=v))++(if y≠v then[y]else[]):=by
   grind [u5]
  refine bt Ω ?_;refine aV (λp s=>Ext w s/\(∃g,an .i64 ae s g p ((l.take (q+1)).filter λy=>!decide (y=v)))/\∀r,li p r->w.heap.size<=r) (λ_ _ H=>by rw[aL];grind) λaz J=>?_;rw[ba ai.u ae.i Ψ (h.W f) B,bz,aj];refine⟨λK=>?_,by grind⟩;refine GI f hm j ?_ (by grind)
  grind
 .rintro out a z ⟨f,hm,j⟩;rw[p8]at hm;refine b6 Ω ?_
  grind
theorem zY{i:Nat}{v:Int}:∀(L:Λ)(s:al)(x:br),s.d6[i]?=σ x->(∀y∈L,0<=y)->∃m,gP s i v L={s with d6:=s.d6.set i {x with mask:=m}}/\aM {x with mask:=m}=(aM x).filter λy=>!(decide (y∈L)&& !decide (y=v))
 |[],s,x,a,_=>by
  refine⟨x.mask,?_,(List.filter_eq_self.2 λy _=>Ξ).symm⟩;have:s.d6.set i x=s.d6:=by
   apply j9
   grind
  show s={s with d6:=s.d6.set i x};rw[this]
 |w::L,s,x,a,j=>by
  have hw:=j w (.head _);have p:=(x4.1 a).1;rw[gP];by_cases e:w≠v
  .rw[m5 e];have f:eD s i w.toNat={s with d6:=s.d6.set i {x with mask:=((x.mask.toNat ||| 2 ^ w.toNat:Nat):Int)}}:=by grind [eD]
   obtain⟨m,h1,h⟩:=zY L (eD s i w.toNat) {x with mask:=((x.mask.toNat ||| 2 ^ w.toNat:Nat):Int)} (by rw[f];exact Z5 p) (by grind);refine⟨m,?_,?_⟩
   .rw[h1,f]
    grind [List.set_set]
   .rw[h,zu hw,List.filter_filter]
    grind
  .rw[m6 e];obtain⟨m,h1,h⟩:=zY L s x a (by grind);refine⟨m,h1,?_⟩
   grind
theorem filter_one(a:l.Nodup)(e:v∈l):l.filter (λy=>decide (y=v))=[v]:=by
 induction l<;>grind [List.filter_eq_nil_iff]
def kX(u:al)(a:iZ):Option br:=if 3<a.kind then eF u a.i a.v else jr u a.i
section
variable{w:x3}{ac ad am:Nat}{A R:ah}{A9:Nat->ah}{aE:ah}{n:aG}{s u:al}{t:aw}{h:List aw}{cs:List x1}{a:iZ}
theorem G9{x:br}(h:kX u a=σ x):0<=a.i/\u.d6[a.i.toNat]?=σ x/\x.gone=0/\(3<a.kind->a.v∈aM x):=by
 unfold kX at h;split at h
 .obtain⟨h1,e,f,j⟩:=l8 h
  grind
 .rename_i hk;obtain⟨h1,e,f⟩:=zV h
  grind
theorem TR(h:¬(0<=a.i/\a.i<u.d6.length)):kX u a=ν:=by
 cases he:kX u a with
 |none=>rfl
 |some x=>
  obtain⟨h1,e,_⟩:=G9 he
  grind
theorem TS{x:br}(e:0<=a.i)(f:u.d6[a.i.toNat]?=σ x):kX u a=if x.gone=0/\(3<a.kind->a.v∈aM x)then σ x else ν:=by
 grind [kX,eF,jr]
theorem TT(hk:2<=a.kind/\a.kind<=5)(h:kX u a=ν):cL n.k u a=(u,1):=by
 grind [kX,cL,zW,zX]
theorem Ha{x:br}{c:Int}(j:0<=c):lx x<c↔aM x=[]\/∃v∈aM x,x.un.getD v.toNat 0<c:=by
 unfold lx;constructor
 .intro h;cases e:aM x with
  |nil=>grind
  |cons b l=>
   refine .inr ?_;rw[e]at h;simp only[U4]at h;by_cases p:∀v∈b::l,c<=x.un.getD v.toNat 0
   .have:=(tm (l.map λv=>x.un.getD v.toNat 0) (x.un.getD b.toNat 0) c).2 (by grind);omega
   grind
 .rintro (h|⟨v,a,q⟩)
  .grind
  .cases e:aM x with
   |nil=>grind
   |cons b l=>
    rw[e]at a;simp only[U4];rcases Int.lt_or_le ((l.map λv=>x.un.getD v.toNat 0).foldl min (x.un.getD b.toNat 0)) c with ap|ap
    .exact ap
    .obtain⟨r,f⟩:=(tm _ _ _).1 ap;rcases List.mem_cons.1 a with rfl|a
     .omega
     .have:=f _ (o8.2 ⟨v,a,rfl⟩);omega
def zZ(n:aG)(u:al)(x:br)(a:iZ):Prop:=aM x=[]\/(a.kind=3/\u.zero<a.c)\/(a.kind=2/\∃v∈aM x,x.un.getD v.toNat 0<a.c)
theorem TU{x:br}(hk:a.kind=2\/a.kind=3)(h:kX u a=σ x):(¬(0<=a.c/\a.c<=n.k)->cL n.k u a=(u,3))/\((0<=a.c/\a.c<=n.k)->zZ n u x a->cL n.k u a=(u,7))/\
  ((0<=a.c/\a.c<=n.k)->¬zZ n u x a->cL n.k u a=(l6 u a.i.toNat x (λg=>if a.kind=2 then dQ n.k g a.c else dR n.k g a.c) (λg=>if a.kind=2 then dR n.k g a.c else dQ n.k g a.c),0)/\(a.kind=2->∀v∈aM x,a.c<=x.un.getD v.toNat 0)/\(a.kind=3->a.c<=u.zero)):=by
 have j:jr u a.i=σ x:=by grind [kX]
 rcases hk with hk|hk
 .have f:=zW (n:=n) (s:=u) hk;rw[j]at f;simp only at f;simp only[hk];refine⟨λe=>?_,λe hi=>?_,λe hi=>?_⟩
  .grind [eg]
  .have p:=(Ha e.1).2 (hi.elim .inl (by grind))
   grind [eg]
  .have p:¬lx x<a.c:=λh=>hi (((Ha e.1).1 h).elim .inl λh=>.inr (.inr ⟨hk,h⟩));have r:eg n.k a.c (lx x)=0:=by grind [eg]
   rw[r,m6 Φ]at f;refine⟨by grind,λ_ v j=>?_,Ω⟩;rcases Int.lt_or_le (x.un.getD v.toNat 0) a.c with ap|ap
   .exact m7 (.inr (.inr ⟨hk,v,j,ap⟩)) hi
   .exact ap
 .have f:=zX (n:=n) (s:=u) hk;rw[j]at f;simp only at f;simp only[hk];refine⟨λe=>?_,λe hi=>?_,λe hi=>?_⟩
  .grind [eg]
  .have p:(if aM x=[]then-1 else u.zero)<a.c:=by
    by_cases q:aM x=[]
    .grind
    .rw[m6 q];rcases hi with hi|hi|hi
     all_goals grind
   grind [eg]
  .have q:¬aM x=[]:=λh=>hi (.inl h);have w:¬u.zero<a.c:=λh=>hi (.inr (.inl ⟨hk,h⟩))
   grind [eg]
end
section
variable{w:x3}{ac ad am:Nat}{A R:ah}{A9:Nat->ah}{aE:ah}{n:aG}{s u:al}{t:aw}{h:List aw}{cs:List x1}{a:iZ}
theorem TV(p:cg w ac ad am A R A9 aE n s u t h cs)(ax:a6 n.k n.co u)(hk:2<=a.kind/\a.kind<=5):ak x7 xd [Γ am,Δ (a.kind:Int),Δ a.i,Δ a.pos,Δ a.v,Δ a.c] w λr I=>r=Δ (cL n.k u a).2/\dz w ac ad am A R A9 aE n s t h (cL n.k u a).1 I:=by
 have cq:=ax.d6;have cr:=ax.dy;refine ay func168 ?_;have bO:cs[0]?=σ (Δ n.k):=by obtain⟨_,_,_,_,_,_,rfl,_⟩:=p.qh;rfl
 rw[aN aZ.p 0 p.box bO,aP,aj];refine⟨λh=>Ω,λ_=>?_⟩;refine aV (λr I=>r= .bool (!(kX u a).isSome)/\Ext w I) ?_ λaz bb=>?_
 rotate_left
 .rw[bS];refine p.look.load λdG ct=>?_;refine(zr ct).X ?_;rintro _ J _ ⟨rfl,Y⟩;rw[bA,bM];refine⟨λQ=>bb _ _ ⟨by rw[TR (λh=>by rw[cq]at h;rw[ms h]at Q;cases Q)];rfl,Y⟩,λQ=>?_⟩;have bc:0<=a.i/\a.i<n.co.length:=by simpa using Q
  obtain⟨x,L⟩:=aC (l:=u.d6) (i:=a.i.toNat) Ω;have bo:=TS bc.1 L;obtain⟨d9,cu,dj,aX,dm,bp,bP,_,_,cw,cz,dn,dp,dq⟩:=(p.look).W Y;rw[aN aZ.p 4 bP rfl];refine kx (i:=a.i.toNat) rfl Ω kq.u gD.i Ψ cz (by rw[x8,L];rfl) λbQ bq=>?_;have bq:[bQ]=[x1.bool (decide (x.gone≠0))]:=bq;obtain rfl:bQ=x1.bool (decide (x.gone≠0)):=by simpa using bq
  rw[aj];refine⟨λS=>bb _ _ ⟨by rw[bo,m6 λh=>S h.1];rfl,Y⟩,λS=>?_⟩;have S:=Z2.1 S;rw[bG,aj];refine⟨λbs=>?_,λbs=>bb _ _ ⟨by rw[bo,m5 ⟨S,λh=>m7 h Ω⟩];rfl,Y⟩⟩;rw[aN aZ.p 3 bP rfl];refine kx (a:=aM x) (i:=a.i.toNat) rfl Ω dk.u ai.i Ψ cw (by rw[x8,L];rfl) λdr cA=>?_;refine(rB (eC cA)).X ?_;rintro _ V _ ⟨rfl,M⟩;rw[bA];refine bb _ _ ⟨?_,Y.F M⟩;rw[bo];by_cases H:a.v∈aM x
  .rw[m5 ⟨S,λ_=>H⟩,ms H];rfl
  .rw[m6 λh=>H (h.2 Ω),pl H];rfl
 rintro _ J ⟨rfl,Y⟩;cases hm:kX u a with
 |none=>
  have f:=TT (n:=n) hk hm;rw[S3,X1,bZ];exact⟨by rw[f],by rw[f];exact dz.same p Y⟩
 |some x=>
 rw[S2,Y2,aW];obtain⟨cB,L,ds,cC⟩:=G9 hm;obtain⟨C,aJ⟩:=U8 cB;rw[aJ,u7]at L;have bu:=(x4.1 L).1;have E:∀y∈aM x,0<=y/\y<x.un.length:=λy P=>(jN.1 P).1;simp only[aJ];have bU:∀v:Nat,0<=x.un.getD v 0/\x.un.getD v 0<=n.k:=λv=>jp ax L;have O:=p.W Y;have dt:=bO;have bw:∀{V:x3}{e2:al}{bV:List x1}{bx:Nat->ah}{aK:br},cg V ac ad am A R bx aE n s e2 t h bV->e2.d6[C]?=σ aK->∃aX aA y,aF .i64 V y aK.un/\(∀{j:x3}{K:x1->x1->x1->x1->x1->Prop},Ext V j->K (Γ am) (.pointer (σ ⟨am,0+5,ν⟩)) aX (.pointer (σ ⟨aA,0+C*1,ν⟩)) y->
    ab x7 (bR (Γ am)) j λaB=>ab x7 (u6 aZ aB 5) j λaG=>ab x7 (u4 eP aG) j λaO=>ab x7 (j0 eP aO (Δ (C:Int))) j λbd=>ab x7 (u4 au bd) j λcD=>K aB aG aO bd cD)/\
   ∀{I:x3}{v:Nat}{c:Int}{K:Unit->x3->Prop},Ext V I->v<aK.un.length->(∀bW,kW V ac ad am A R bx aE n s t h (dD e2 C aK (aK.un.set v c)) bW->K () bW)->ab x7 (j0 au y (Δ (v:Int))) I λa=>aD x7 (o6 ao a (Δ c)) I K:=λ{V e2 bV bx aK}bX B=>by
  obtain⟨aA,cE,y,cG,cH,an,bz⟩:=zT bX B;have cI:=(x4.1 B).1;refine⟨.slice (σ ⟨aA,0,ν⟩) e2.d6.length cE,aA,y,an,λ{j K}aH aY=>?_,bz⟩;rw[aN aZ.p 5 (bX.box.W aH) cG,fs eP.u au.i cI λ_=>rfl,av Ψ (by rw[V0,V1];exact jV aH cH)];exact aY
 obtain⟨cJ,cM,bB,bY,cN,aq,cO,b0⟩:=Tt O L;have b1:∀{j:x3}{K:x1->x1->x1->Prop},Ext J j->K (Γ am) (.pointer (σ ⟨am,0+3,ν⟩)) (.slice (σ ⟨cJ,0,ν⟩) u.d6.length cM)->
   ab x7 (bR (Γ am)) j λaB=>ab x7 (u6 aZ aB 3) j λaG=>ab x7 (u4 dk aG) j λaO=>K aB aG aO:=λaH aY=>by
  rw[aN aZ.p 3 (O.box.W aH) bY];exact aY
 have qi:∀{j:x3}{K:x1->Prop},Ext J j->K bB->
   ab x7 (bR (Γ am)) j λaB=>ab x7 (u6 aZ aB 3) j λaG=>ab x7 (u4 dk aG) j λaO=>ab x7 (j0 dk aO (Δ (C:Int))) j λbd=>ab x7 (u4 ai bd) j K:=λaH aY=>by
  rw[aN aZ.p 3 (O.box.W aH) bY,fs dk.u ai.i bu λ_=>rfl,av Ψ (by rw[V0,V1];exact jV aH cN)];exact aY
 have low:∀{u':al}{I:x3},dz J ac ad am A R A9 aE n s t h u' I->dz w ac ad am A R A9 aE n s t h u' I:=λbe=>dz.comp (Y.aa _) (λq r E=>.inl ⟨q,E⟩) be;refine aV (λ_ I=>dz w ac ad am A R A9 aE n s t h (cL n.k u a).1 I/\(cL n.k u a).2=0) (λ_ I be=>⟨by rw[be.2],be.1⟩) λcP bC=>?_;refine aV (λr I=>r= .bool (decide (a.kind=2\/a.kind=3))/\J=I) ?_ λdu b2=>?_
 rotate_left
 .rw[bi,aj];refine⟨λB=>b2 _ _ ⟨?_,rfl⟩,λB=>?_⟩
  .congr 1;exact decide_eq_decide.2 ⟨λ_=>.inl Ω,λ_=>B⟩
  .rw[bi];refine b2 _ _ ⟨?_,rfl⟩;congr 1;exact decide_eq_decide.2 ⟨λh=>.inr Ω,λh=>Ω⟩
 rintro _ _ ⟨rfl,rfl⟩;rw[aj];refine⟨λcQ=>?_,λdv=>?_⟩
 .
  obtain⟨cR,bf,bE⟩:=TU cQ hm;refine Cf.X ?_;rintro _ V _ ⟨rfl,M⟩;have dw:=M;have b3:cK a.c n.k↔0<=a.c/\a.c<=n.k:=⟨λh=>h.2,λB=>⟨cr,B⟩⟩;rw[bA,bM];refine⟨λQ=>?_,λQ=>?_⟩
  .have f:=cR λh=>m7 (b3.2 h) (by simpa using Q);exact⟨by rw[f],by rw[f];exact low (dz.same O M)⟩
  have bc:=b3.1 (show cK a.c n.k by simpa using Q);have bf:=bf bc;have bE:=bE bc;refine aV (λr I=>Ext J I/\∃b,r= .bool b/\(b=rs↔aM x=[]\/(a.kind=3/\u.zero<a.c))) ?_ λdx bF=>?_
  rotate_left
  .refine qi M ?_;rw[aS ai.u (aq.W M),bi,aj];refine⟨λhe=>bF _ _ ⟨M,rs,rfl,⟨λ_=>.inl (c9 Ω),λ_=>rfl⟩⟩,λbg=>?_⟩;have bg:aM x≠[]:=λh=>bg (by rw[h];rfl);rw[bi,aj];refine⟨λbs=>?_,λbs=>bF _ _ ⟨M,sp,rfl,⟨(λh=>by cases h),λh=>h.elim (λh=>m7 h bg) λh=>Ω⟩⟩⟩;have bH:cs[2]?=σ (Δ u.zero):=by obtain⟨_,_,_,_,_,_,rfl,_⟩:=p.qh;rfl
   rw[aN aZ.p 2 (O.box.W M) bH,bG];exact bF _ _ ⟨M,_,rfl,by rw[rc];exact⟨λh=>.inr ⟨Ω,h⟩,λh=>h.elim (λh=>m7 h bg) λh=>h.2⟩⟩
  rintro _ cS ⟨aQ,b,rfl,b4⟩;rw[bM];refine⟨λcT=>?_,λb5=>?_⟩
  .have f:=bf ((b4.1 cT).elim .inl λh=>.inr (.inl h));exact⟨by rw[f],by rw[f];exact low (dz.same O aQ)⟩
  have b7:¬(aM x=[]\/(a.kind=3/\u.zero<a.c)):=λh=>by rw[b4.2 h]at b5;cases b5
  refine qi aQ ?_;rw[aS ai.u (aq.W aQ)];refine bT.range (aM x).length (λq _ I=>Ext J I/\(a.kind=2->∀v∈(aM x).take q,a.c<=x.un.getD v.toNat 0)) aq.le ⟨aQ,λ_ v H=>by simp at H⟩ ?_ ?_
  .rintro q b9 aI cU bI ⟨N,bh⟩ cV;obtain⟨v,H⟩:=aC (l:=aM x) bI;have aw:=x5 H;have bj:=E v aw;obtain⟨G,rfl⟩:=U8 bj.1;refine bt Ω ?_;rw[ba ai.u ae.i Ψ (aq.W N) H];refine aV (λr I=>aI=I/\r= .bool (decide (a.kind=2/\x.un.getD G 0<a.c))) ?_ λdA ca=>?_
   .rintro _ _ ⟨rfl,rfl⟩;rw[aj];refine⟨λa1=>?_,λbJ=>?_⟩
    .have f:=bf (.inr (.inr ⟨a1.1,_,aw,a1.2⟩));exact⟨by rw[f],by rw[f];exact low (dz.same O N)⟩
    .rw[aL];refine cV _ _ ⟨N,λB y P=>?_⟩;rw[u5,H,l7,o9,b8]at P;rcases P with P|rfl
     .exact bh B y P
     .rcases Int.lt_or_le (x.un.getD G 0) a.c with ap|ap
      .exact m7 ⟨B,ap⟩ bJ
      .exact ap
   rw[bi,aj];refine⟨λB=>?_,λB=>ca _ _ ⟨rfl,by rw[pl λh=>B Ω]⟩⟩;obtain⟨aX,aA,y,an,look,_⟩:=bw (O.W N) L;refine look (Ext.refl _) ?_;rw[ba au.u ao.i Ψ an (getD_some (i:=G) Ω),bG];refine ca _ _ ⟨rfl,?_⟩;congr 1;exact decide_eq_decide.2 ⟨λh=>⟨Ω,h⟩,λh=>h.2⟩
  rintro b9 aI cU ⟨N,bh⟩;rw[p8]at bh;have cW:¬zZ n u x a:=λhi=>hi.elim (λh=>b7 (.inl h)) λh=>h.elim (λh=>b7 (.inr h)) λ⟨B,v,H,a1⟩=>by have:=bh B v H;omega
  obtain⟨f,dC,dE⟩:=bE cW;rw[aJ,u7]at f;refine b6 Ω ?_;refine qi N ?_;rw[aS ai.u (aq.W N)];obtain⟨g,S⟩:∃g:Int->Int,g=λg=>if a.kind=2 then dQ n.k g a.c else dR n.k g a.c:=⟨_,rfl⟩;obtain⟨z,bK⟩:∃z:Int->Int,z=λg=>if a.kind=2 then dR n.k g a.c else dQ n.k g a.c:=⟨_,rfl⟩;rw[<-S,<-bK]at f;have cX:=O.W N;have cY:=aq.W N;have cb:=ti x;obtain⟨cc,dF⟩:∃cc,bB=cc:=⟨_,rfl⟩;have cZ:dD u C x (eE g x.un ((aM x).take 0))=u:=by
   unfold dD;show{u with d6:=u.d6.set C x}=u;have:u.d6.set C x=u.d6:=by
    apply j9;intro i;by_cases e:C=i
    .subst e;rw[Z5 bu,L]
    .rw[W5 e]
   rw[this]
  have c0:∀{I:x3},af (A9 2) aI I->aF .i64 I bB (aM x):=λc1=>jg cY c1 λr E b n c e Q=>O.ib.1 0 2 r Φ (cO r ⟨b,n,c,e,Q⟩) E;refine ce.range (aM x).length (λq I=>kW aI ac ad am A R A9 aE n s t h (dD u C x (eE g x.un ((aM x).take q))) I) aq.le (by rw[cZ];exact kW.same cX (Ext.refl _)) ?_ ?_
  .rintro q bk c2 bI aR c3;obtain⟨bl,c4,cd,aU,bL,c5⟩:=id aR;obtain⟨v,H⟩:=aC (l:=aM x) bI;have aw:=x5 H;have bj:=E v aw;obtain⟨G,rfl⟩:=U8 bj.1;have bm:(dD u C x (eE g x.un ((aM x).take q))).d6[C]?=σ {x with un:=eE g x.un ((aM x).take q)}:=Z5 bu;have dH:(eE g x.un ((aM x).take q)).length=x.un.length:=zn _ _;have bN:=vN (g:=g) ((aM x).take q) x.un (G:Int) (cb.sublist (List.take_sublist _ _)) (λy P=>E y (V4 P)) Ω;rw[m6 (zx cb H),u7]at bN;have c6:=bU G;obtain⟨aX,aA,y,an,look,bz⟩:=bw aU bm;refine bt Ω ?_;refine dh (λU=>kW aI ac ad am A R A9 aE n s t h (dD u C x (eE g x.un ((aM x).take (q+1)))) U) (λU W=>by rw[aL];exact c3 _ W) λc7 c8=>?_;have a2:∀{X:x3},Ext bk X->ab x7 (j0 au y (Δ (G:Int))) X λa'=>aD x7 (o6 ao a' (Δ (g (x.un.getD G 0)))) X λ(_:Unit)U=>c7 U:=λbn=>by
    refine bz bn (by show G<(eE g x.un ((aM x).take q)).length;omega) λU W=>c8 _ (kW.comp bl bL c5 ?_);have e:dD (dD u C x (eE g x.un ((aM x).take q))) C {x with un:=eE g x.un ((aM x).take q)} ((eE g x.un ((aM x).take q)).set G (g (x.un.getD G 0)))=dD u C x (eE g x.un ((aM x).take (q+1))):=by
     rw[G6 H,u7,bN];unfold dD;simp only[List.set_set]
    rw[e]at W;exact W
   have cf:(eE g x.un ((aM x).take q))[G]?=σ (x.un.getD G 0):=by rw[getD_some Ω,bN]
   rw[ba ai.u ae.i Ψ (c0 bl) H,bi,aj];refine⟨λB=>?_,λB=>?_⟩
   .intro j Z _ _;refine look Z (look Z ?_);rw[ba au.u ao.i Ψ (an.W Z) cf];refine(wq Ω Ω).X ?_;rintro _ X _ ⟨rfl,ag⟩;refine⟨.inl ag,?_⟩;have:=a2 (Z.F ag);rw[S]at this;simp only[m5 (show a.kind=2 by omega)]at this;exact this
   .intro j Z _ _;refine look Z (look Z ?_);rw[ba au.u ao.i Ψ (an.W Z) cf];refine(oI Ω Ω).X ?_;rintro _ X _ ⟨rfl,ag⟩;refine⟨.inl ag,?_⟩;have:=a2 (Z.F ag);rw[S]at this;simp only[m6 (show¬a.kind=2 by omega)]at this;exact this
  .rintro bk c2 aR;rw[p8]at aR;refine b6 Ω ?_;have aR:=aR.G3;obtain⟨bl,c4,cd,aU,bL⟩:=id aR;have ch:cd[2]?=σ (Δ u.zero):=by obtain⟨_,_,_,_,_,_,rfl,_⟩:=aU.qh;rfl
   have da:=ax.zero;have a2:∀{X:x3},Ext bk X->aD x7 (o6 ao (.pointer (σ ⟨am,0+2,ν⟩)) (Δ (z u.zero))) X λ(_:Unit)U=>cP b9 U:=λbn=>by
    refine Ts (aU.W bn) λU W=>bC _ _ ⟨?_,by rw[f]⟩;rw[f];have ci:=dz.comp (bn.aa _) (λq r E=>.inl ⟨q,E⟩) W;have a7:=dz.comp bl bL ci;exact low (dz.comp (N.aa _) (λq r E=>.inl ⟨q,E⟩) a7)
   rw[bi,aj];refine⟨λB=>?_,λB=>?_⟩
   .rw[aN aZ.p 2 aU.box ch];refine(oI Ω Ω).X ?_;rintro _ X _ ⟨rfl,ag⟩;rw[bS,aT aZ.p rfl];have:=a2 ag;rw[bK]at this;simp only[m5 (show a.kind=2 by omega)]at this;exact this
   .rw[aN aZ.p 2 aU.box ch];refine(wq Ω Ω).X ?_;rintro _ X _ ⟨rfl,ag⟩;rw[bS,aT aZ.p rfl];have:=a2 ag;rw[bK]at this;simp only[m6 (show¬a.kind=2 by omega)]at this;exact this
 .
  have cj:3<a.kind:=Ω
  have aw:=cC cj;obtain⟨G,bp⟩:=U8 (E _ aw).1;have bj:=(E _ aw).2;have ck:eF u a.i a.v=σ x:=by unfold kX at hm;rwa [m5 cj]at hm
  rw[bi,aj];refine⟨λa7=>?_,λa7=>?_⟩
  .have a7:a.kind=4:=Ω
   have f:cL n.k u a=if dR n.k u.zero (x.un.getD a.v.toNat 0)<n.k then(u,7)else(eD u a.i.toNat a.v.toNat,0):=by
    unfold cL;rw[m6 Ω,m6 Ω,m6 Ω,m6 Ω,m5 a7,ck]
   have da:=ax.zero;have c6:=bU G;intro V M _ _;have bH:cs[2]?=σ (Δ u.zero):=by obtain⟨_,_,_,_,_,_,rfl,_⟩:=p.qh;rfl
   obtain⟨aX,aA,y,an,look,_⟩:=bw (O.W M) L;rw[aN aZ.p 2 (O.box.W M) bH];refine look (Ext.refl _) ?_;rw[bp,ba au.u ao.i Ψ an (getD_some Ω)];refine(oI Ω Ω).X ?_;rintro _ cS _ ⟨rfl,aQ⟩;have cl:=M.F aQ;rw[bp,u7]at f;unfold dR at f;rw[aP,aj];refine⟨λa1=>?_,λbJ=>?_⟩
   .rw[m5 a1]at f;exact⟨by rw[f],by rw[f];exact low (dz.same O cl)⟩
   .rw[m6 bJ]at f;intro aI N _ _;have a8:=cl.F N;refine b1 a8 ?_;refine qi a8 ?_;have dI:=we x;have db:=ax.cF.2.2;refine(TQ (aq.W a8) (by
     obtain⟨cm,cn⟩:=aC (l:=n.co) (i:=C) Ω;have h1:=(ax.var C x cm L cn).1;have B:=db cm (x5 cn);omega)).X ?_
    rintro cu bk _ ⟨bm,⟨gz,dc⟩,dd⟩;refine⟨.inl bm,?_⟩;have de:=a8.F bm;have dJ:=a8.size;refine b0 (m:=((x.mask.toNat ||| 2 ^ G:Nat):Int)) de (gz:=gz) (by rw[show G=(G:Int).toNat from rfl,zu Ω];exact dc) (λr E=>by have:=dd r E;omega) λU W=>bC _ _ ⟨?_,by rw[f]⟩;rw[f,aJ,u7];unfold eD;rw[L];exact low W
  .have ci:a.kind=5:=Ω
   obtain⟨m,df,dg⟩:=zY (i:=a.i.toNat) (v:=a.v) (aM x) u x (by rw[aJ,u7];exact L) λy P=>(E y P).1;have f:cL n.k u a=(gP u a.i.toNat a.v (aM x),0):=by
    unfold cL;rw[m6 Ω,m6 Ω,m6 Ω,m6 Ω,m6 Ω,ck]
   have di:aM {x with mask:=m}=[a.v]:=by
    rw[dg,<-filter_one (ti x) aw];refine List.filter_congr λy P=>?_;rw[ms P,W7,Bool.not_not]
   rw[bi,aj];refine⟨λ_=>?_,λh=>Ω⟩;refine b1 (Ext.refl _) ?_;refine dl ai.u ae.i rfl λv4 dK aI dL N cp=>?_;refine b0 N (by rw[di];exact cp) (λr E=>by have:=bD cp E;omega) λU W=>bC _ _ ⟨?_,by rw[f]⟩;rw[f,df,aJ,u7];exact low W
end
def js(A R:ah)(A9:Nat->ah)(aE:ah)(am:Nat)(r:Nat):Prop:=A r\/R r\/(∃q,A9 q r)\/aE r\/r=am
section
variable{P:ah}{iv w I:x3}{ac ad am VA VB VC:Nat}{A R aJ R':ah}{A9 cq:Nat->ah}{aE Gk:ah}{n:aG}{s s':al}{t t':aw}{h bf:List aw}{cs ci:List x1}{m cn:Nat}
variable{Z kY:ah}
end
theorem qq(h:Laid w):0<w.heap.size:=by
 rcases Nat.eq_zero_or_pos w.heap.size with a|a
 .have e:=h 0 _ rfl
  grind [x3.cell?]
 .exact a
def fp(Z aE:ah)(w:x3)(ac ad am:Nat)(n:aG)(s:al):Prop:=∃A R A9 t cs,cg w ac ad am A R A9 aE n s s t [] cs/\(Laid w/\¬Z 0)/\(cw s/\e6 (dt n) s/\n.d7.length<=256)/\(∀r,Z r↔js A R A9 aE am r)/\∀q r,A9 q r->r<w.heap.size
section
variable{Z aE S:ah}{w I J:x3}{ac ad am:Nat}{A R:ah}{A9:Nat->ah}{n:aG}{s u:al}{t:aw}{cs:List x1}
theorem fp.W(h:fp Z aE w ac ad am n s)(a:Ext w I):fp Z aE I ac ad am n s:=by
 obtain⟨A,R,A9,t,cs,p,⟨e,f⟩,j,x,y⟩:=h;exact⟨A,R,A9,t,cs,p.W a,⟨e.W a,f⟩,j,x,λq r z=>by have:=y q r z;have:=a.size;omega⟩
theorem fp.side(h:fp Z aE w ac ad am n s)(a:af S w I)(C:∀r,Z r->¬S r)(f:¬S 0):fp Z aE I ac ad am n s:=by
 obtain⟨A,R,A9,t,cs,p,⟨j,x⟩,y,z,B⟩:=h;refine⟨A,R,A9,t,cs,p.side a λr _ e=>?_,⟨gW a f j,x⟩,y,z,λq r e=>by have:=B q r e;have:=a.size;omega⟩
 grind [js]
theorem fp.ok(h:fp Z aE w ac ad am n s):a6 n.k n.co s/\cw s/\e6 (dt n) s/\n.d7.length<=256:=by
 obtain⟨A,R,A9,t,cs,p,_,a,_⟩:=h;exact⟨p.eW.2.2.2.1,a⟩
theorem fp.look(h:fp Z aE w ac ad am n s):n5 w am n.k n.co s:=by
 obtain⟨A,R,A9,t,cs,p,_⟩:=h;exact p.look
theorem fp.step{J:x3}(p:cg w ac ad am A R A9 aE n s u t [] cs)(z:∀r,Z r↔js A R A9 aE am r){u':al}(E:cw u'/\e6 (dt n) u'/\n.d7.length<=256)(P:¬Z 0)(F:dz w ac ad am A R A9 aE n s t [] u' J)(f:Ext J I)(hm:dj [] I ac ad A R n u' V):af (λr=>Z r/\¬aE r) w V/\∃kY,(∀r,kY r->Z r\/w.heap.size<=r)/\fp kY aE V ac ad am n u':=by
 obtain⟨B,cq,ci,G,H⟩:=F;obtain⟨j,Q,aJ,t',x,K,L,S⟩:=hm;have U:=B.size;have W:=f.size;have z3:=j.size;have y:=G.W f;have M:=y.prog j x K L.1 (by grind) Ω y.box.lt;have X:=p.GH;have N:af (λr=>Z r/\¬aE r) w V:=(((B.X (T:=λr=>Z r/\¬aE r) λr _ h=>⟨(z r).2 (h.elim (λh=>.inr (.inr (.inl h))) λh=>.inr (.inr (.inr (.inr h)))),h.elim (by grind) λh bf=>(p.read r bf).2.2 h⟩)).F (f.aa _)).F
  ((vR x.1 j).X λr _ h=>⟨(z r).2 (.inl h.1),λbf=>(y.read r bf).1 h.2⟩)
 have Y:=p.box.lt;have e:∀{r:Nat}{C:Prop},(C->js A R A9 aE am r)->C->Z r\/w.heap.size<=r:=by grind
 have O:∀r,js aJ R (λq r=>cq q r/\r<I.heap.size) aE am r->Z r\/w.heap.size<=r:=by
  intro r a;rcases a with a|a|⟨q,a,_⟩|a|a
  .exact (x.2.1 r a).elim (e .inl) Ω
  .exact e (λh=>.inr (.inl h)) a
  .exact (H q r a).elim (e λh=>.inr (.inr (.inl h))) .inr
  .exact e (λh=>.inr (.inr (.inr (.inl h)))) a
  .exact e (λh=>.inr (.inr (.inr (.inr h)))) a
 exact⟨N,λr=>js aJ R (λq r=>cq q r/\r<I.heap.size) aE am r,O,aJ,R,_,t',ci,M,by grind,E,λr=>Iff.rfl,Ω⟩
theorem TW(h:cw s/\e6 (dt n) s/\n.d7.length<=256)(a:a6 n.k n.co s)(m:iZ):cw (cL n.k s m).1/\e6 (dt n) (cL n.k s m).1/\n.d7.length<=256:=
 ⟨(RX a h.1).2.1,h.2.1.F (R7 a),h.2.2⟩
theorem TX{m:iZ}(p:cg w ac ad am A R A9 aE n s u t [] cs)(a:a6 n.k n.co u)(e:cw u)(hk:m.kind<=5):ak x7 xd [Γ am,Δ (m.kind:Int),Δ m.i,Δ m.pos,Δ m.v,Δ m.c] w λr I=>r=Δ (cL n.k u m).2/\dz w ac ad am A R A9 aE n s t [] (cL n.k u m).1 I:=by
 by_cases h:m.kind<2
 .exact TK p a e h
 .exact TV p a Ω
theorem TY{B:Nat}{e:x3}{am:Nat}{j:x1}{cs:List x1}{f:ca}(w:vW B V j cs f)(x:Ext V e)(y:ag e am aZ cs)(z:V.heap.size<=am)(G:B<=V.heap.size)(H:0<B)(C:Laid e):
  ∃ac ad Z aE,j=Γ ac/\fp Z aE e ac ad am (dr f) (dt (dr f))/\∀r,Z r->B<=r:=by
 obtain⟨ac,ad,A,R,A9,aE,t,rfl,p,_,I,J,_,_,E,_,K,L⟩:=Sa w x y z;have F:=p.olds;have s:∀r,js A R (λq r=>A9 q r/\r<e.heap.size) aE am r->B<=r:=by
  intro r a;rcases a with a|a|⟨q,a,_⟩|a|a
  all_goals grind
 exact⟨ac,ad,_,aE,rfl,⟨A,R,_,t,cs,F,⟨C,λh=>by have:=s 0 h;omega⟩,⟨Gr _,e6.rfl,E⟩,λr=>Iff.rfl,λq r a=>a.2⟩,s⟩
end
def wv(co a:Λ):Prop:=a.length=co.length/\∀(q:Nat)z b,co[q]?=σ z->a[q]?=σ b->0<=b/\b<z
def TZ(co:Λ)(L:List (Λ)):Prop:=L.length<=90/\∀a∈L,wv co a
def mf(co:Λ)(k:Nat):Λ:=(Z4 co.length).map λi:Nat=>((k:Int)*(2*(i:Int)+1)+(k:Int) / 3) % co.getD i 0
theorem tC(co:Λ)(k:Nat):(mf co k).length=co.length:=by simp[mf]
theorem Hb{k i:Nat}{z:Int}(h:co[i]?=σ z):(mf co k)[i]?=σ (((k:Int)*(2*(i:Int)+1)+(k:Int) / 3) % z):=by
 unfold mf;rw[x8,List.getElem?_range (x4.1 h).1,Z0,v8,h];rfl
theorem Ua(k:Nat)(h:∀z∈co,1<=z/\z<=32):wv co (mf co k):=by
 refine⟨tC _ _,λq z b a e=>?_⟩;rw[Hb a]at e;cases e;have:=h z (x5 a);exact⟨Int.emod_nonneg _ Ω,Int.emod_lt_of_pos _ Ω⟩
theorem Ub{a:Λ}(h:a∈bk co):wv co a:=by
 rw[zg]at h;obtain⟨h1,e⟩:=tf.1 h;rw[r9]at h1;refine⟨h1,λq z b f j=>?_⟩;exact tg.1 (e q (jo z) b (by rw[x8,f];rfl) j)
theorem Uc{a:Λ}{s:al}(e:a6 k co s)(h:wv co a):e5 s a:=by
 have p:=e.d6;refine⟨by rw[h.1,p],λi x v f q=>.inr ?_⟩;obtain⟨z,j⟩:=aC (l:=co) (i:=i) (by have:=(x4.1 f).1;omega);have h1:=(e.var i x z f j).1;have r:=h.2 i z v j q;omega
theorem Ud{m:Nat}(h:m<=11):(32:Int) ^ m<=36028797018963968:=by
 match m,h with
 |0,_=>decide
 |1,_=>decide
 |2,_=>decide
 |3,_=>decide
 |4,_=>decide
 |5,_=>decide
 |6,_=>decide
 |7,_=>decide
 |8,_=>decide
 |9,_=>decide
 |10,_=>decide
 |11,_=>decide
theorem Ue{sv:x1}(h:aF .i64 w sv l)(U:∀x∈l,1<=x/\x<=32):
  ak x7 Jk [sv] w λv I=>(∃c:Int,v=Δ c/\(l.length<=11->c=aB l))/\Ext w I:=by
 refine ay func108 ?_;rw[aS ai.u h];refine bT.range l.length (λi n J=>Ext w J/\∃c:Int,n=Δ c/\(i<=11->c=aB (l.take i))) h.le ⟨Ext.refl _,1,rfl,λ_=>rfl⟩ ?_ ?_
 .rintro i _ J k hi ⟨a,c,rfl,e⟩ hk;obtain⟨x,f⟩:=aC (l:=l) hi;refine bt Ω ?_;rw[ba ai.u ae.i Ψ (h.W a) f,fO,aL];refine hk _ _ ⟨a,_,rfl,λq=>?_⟩;rw[e Ω,oy f];have j:=lP (l.take (i+1)) λy p=>U y (V4 p);have h1:=Ud (m:=(l.take (i+1)).length) (by rw[j6];omega);rw[oy f]at j;exact lm Ω Ω
 .rintro _ J k ⟨a,c,rfl,e⟩;refine b6 Ω ?_;rw[p8]at e;exact⟨⟨c,rfl,e⟩,a⟩
abbrev mg:Type:=nJ .u8×Int×Int×Int×Int
structure fW where
 d:Int
 i:Int
 pos:Int
 v:Int
 c:Int
def fW.ok(a:fW):Prop:=0<=a.d/\a.d<256
def fW.kind(a:fW):Nat:=(a.d % 7).toNat
def fW.bP(a:fW):List x1:=[.int .u8 a.d,Δ a.i,Δ a.pos,Δ a.v,Δ a.c]
def od(x:mg):fW:=⟨x.1.val,x.2.1,x.2.2.1,x.2.2.2.1,x.2.2.2.2⟩
theorem Uf{R:ah}{cs:List x1}{x:mg}(h:Seen R w cs x):cs=(od x).bP:=by
 obtain⟨q,_,_,_,rfl,_,_,_,a,r,_,_,_,rfl,_,_,_,e,s,_,_,_,rfl,_,_,_,f,y,z,_,_,rfl,_,_,_,j,p⟩:=h;have a:=a;have e:=e;have f:=f;have j:=j;have p:=p;subst a e f j p;rfl
theorem Ug{x:mg}(h:(o4.u8.min<=x.1.val/\x.1.val<=o4.u8.max)/\(Y6.min<=x.2.1/\x.2.1<=Y6.max)/\(Y6.min<=x.2.2.1/\x.2.2.1<=Y6.max)/\(Y6.min<=x.2.2.2.1/\x.2.2.2.1<=Y6.max)/\(Y6.min<=x.2.2.2.2/\x.2.2.2.2<=Y6.max)):(od x).ok:=by
 have a:o4.u8.min=0:=Φ
 have e:o4.u8.max=255:=Φ
 rw[a,e]at h;exact⟨h.1.1,by have:=h.1.2;show x.1.val<256;omega⟩
theorem fW.one(a:fW):∀u∈a.bP,u.oneCell'=rs:=by
 intro u e;unfold fW.bP at e;simp only[List.mem_cons,List.not_mem_nil,or_false]at e;rcases e with rfl|rfl|rfl|rfl|rfl<;>rfl
theorem fW.Uh(a:fW):a.kind<7:=by
 grind [fW.kind]
def Hc(k:Int)(a:fW):Int:=a.c.emod 18446744073709551616 % (k+1)
def mh(k:Int)(a:fW):iZ:=⟨a.kind,a.i,a.pos,a.v,Hc k a⟩
def nf(n:aG)(s:al)(a:fW):al:=if a.kind=6 then(if eL n a.i a.v then eD s a.i.toNat a.v.toNat else s)else(cL n.k s (mh n.k a)).1
theorem z1{d:Int}{K:x1->Prop}(h:0<=d):ab x7 (aQ .rem cP sp rs (.int .u8 d) (.int .u8 7)) w K=K (.int .u8 (((d % 7).toNat:Nat):Int)):=by
 rw[sb Φ,Int.tmod_eq_emod_of_nonneg h]
 grind
section
variable{w:x3}{ac ad am:Nat}{A R:ah}{A9:Nat->ah}{aE:ah}{n:aG}{s u:al}{t:aw}{h:List aw}{cs:List x1}{a:fW}
theorem Hd(a:a6 n.k n.co s){i:Int}(h:eL n i v):0<=i/\∃x,s.d6[i.toNat]?=σ x/\0<=v/\v<x.un.length:=by
 obtain⟨x,e,h1,_,f⟩:=h.var a;exact⟨h.1,x,e,h.2.2.1,Ω⟩
theorem Ui(f:cw s/\e6 (dt n) s/\n.d7.length<=256)(j:a6 n.k n.co s):cw (nf n s a)/\e6 (dt n) (nf n s a)/\n.d7.length<=256:=by
 unfold nf;split
 .split
  .rename_i h;obtain⟨r,x,p,w,_⟩:=Hd j h;have e:=n4 (v:=a.v) p;have q:e6 s (eD s a.i.toNat a.v.toNat):=zA (v:=a.v);exact⟨by grind [cw.d6],f.2.1.F q,f.2.2⟩
  .exact f
 grind [TW]
theorem Uj(p:cg w ac ad am A R A9 aE n s u t h cs){i:Nat}{x:br}(a:u.d6[i]?=σ x):∃g cap y gy e,cs[3]?=σ (.slice (σ ⟨g,0,ν⟩) u.d6.length cap)/\w.cell? ⟨g,0+i*1,ν⟩=σ y/\an .i64 e w gy y (aM x)/\(∀r,li y r->A9 0 r)/\
  ∀{J V:x3}{m:Int}{z:x1}{K:Unit->x3->Prop},Ext w J->af (λr=>li y r) J V->an .i64 e V gy z (aM {x with mask:=m})->(∀r,li z r->li y r)->(∀G,dz w ac ad am A R A9 aE n s t h {u with d6:=u.d6.set i {x with mask:=m}} G->K () G)->
   aD x7 (o6 ai (.pointer (σ ⟨g,0+i*1,ν⟩)) z) V K:=by
 have H:=p.olds;have ax:=(x4.1 a).1;obtain⟨d9,W,ay,az,aA,aB,X,_,Y,_,_,_,_,aC⟩:=id H.doc;obtain⟨g,cap,full,Z,c,ab,e,j,aF,B,I,L,aG,aH,ae⟩:=Gd Y (by rw[x8,a];rfl) (by grind);obtain⟨y,rfl⟩:=X3.1 (aq.len L);rw[r9]at e;have ah:full[i]?=σ y:=by have:=I 0 y rfl;simpa[show aq.n (Λ)=1 from rfl]using this
 obtain⟨gy,aj,ak,al⟩:=Cd L;have aI:∀r,li y r->ab r:=λr f=>by
  rcases al with rfl|aJ
  .obtain⟨_,_,_,e,_⟩:=f;cases e
  grind [bD]
 refine⟨g,cap,y,gy,aj,by grind,by have:=j.cell ah;grind,ak,by grind,λ{J V m M K}C E N ao ap=>?_⟩;have aK:=C.size;have aL:=E.size;have B:i*1+1<=full.length:=B;obtain⟨_,_,_,O⟩:=cE N.ls;have P:¬li y g:=by grind
 refine bw (o:=0+i*1) ai.i (by rw[O];rfl) (by rw[O];rfl) ((j.W C).aa E P) Ω λQ S aN U=>?_;have U:ag Q g Z (over full (i*1) [M]):=by
  have e:=Gh (o:=i*1) (q:=0) (x:=M) I B Ξ
  grind
 have aO:g<w.heap.size:=j.lt;have F:af (λr=>li y r\/r=g) w Q:=((C.aa _).F (E.X (by grind))).F (S.X Ω);have au:=bl N S λr f he=>by have he:r=g:=he;exact P (he▸ao r f)
 have aP:=ae F (by grind) U (oX au) (by grind);have av:∀r,r<w.heap.size->(li y r\/r=g)->A9 0 r/\r<w.heap.size:=by grind
 obtain⟨cq,aw,aQ⟩:=H.qi (u':={u with d6:=u.d6.set i {x with mask:=m}}) Ω (v:=W) (by rw[X];rfl) F av (by grind [V5]) rfl (rH a rfl) (rH a rfl) rfl rfl;refine ap _ ⟨F.X (by grind),cq,cs,aw,λq r f=>?_⟩
 grind
end
section
variable{Z aE:ah}{w I:x3}{ac ad am:Nat}{A R:ah}{A9:Nat->ah}{n:aG}{s s':al}{t:aw}{cs:List x1}{a:fW}
def lB(Z aE:ah)(w:x3)(ac ad am:Nat)(n:aG)(s':al)(I:x3):Prop:=af (λr=>Z r/\¬aE r) w I/\∃kY,(∀r,kY r->Z r\/w.heap.size<=r)/\fp kY aE I ac ad am n s'
theorem fp.Uk{aJ:ah}{cq:Nat->ah}{t':aw}(p:cg w ac ad am A R A9 aE n s s t [] cs)(f:∀r,Z r↔js A R A9 aE am r)(I:cw s'/\e6 (dt n) s'/\n.d7.length<=256)(x:¬Z 0)(K:Laid w)(y:af (dv w) w J)(z:Grow A w aJ J)(j:∀q r,cq q r->A9 q r)(L:dz J ac ad am aJ R cq aE n s' t' [] s' V):lB Z aE w ac ad am n s' V:=by
 obtain⟨B,C,ci,M,N⟩:=L;have Q:=y.size;have S:=B.size;have O:=p.GH;have E:af (λr=>Z r/\¬aE r) w V:=((vR z.1 y).X (T:=λr=>Z r/\¬aE r) λr _ h=>⟨(f r).2 (.inl h.1),λbf=>(p.read r bf).1 h.2⟩).F
  (B.X λr _ h=>⟨(f r).2 (h.elim (λ⟨q,h⟩=>.inr (.inr (.inl ⟨q,j q r h⟩))) λh=>.inr (.inr (.inr (.inr h)))),h.elim (λ⟨q,h⟩=>O q r (j q r h)) λh bf=>(p.read r bf).2.2 h⟩)
 have U:=p.box.lt;have e:∀{r:Nat}{F:Prop},(F->js A R A9 aE am r)->F->Z r\/w.heap.size<=r:=λP h=>.inl ((f _).2 (P h));have G:∀r,js aJ R (λq r=>C q r/\r<V.heap.size) aE am r->Z r\/w.heap.size<=r:=by
  intro r a;rcases a with a|a|⟨q,a,_⟩|a|a
  .exact (z.2.1 r a).elim (e .inl) .inr
  .exact e (λh=>.inr (.inl h)) a
  .exact (N q r a).elim (λ⟨H,h⟩=>e (λh=>.inr (.inr (.inl h))) ⟨H,j H r h⟩) λh=>.inr Ω
  .exact e (λh=>.inr (.inr (.inr (.inl h)))) a
  .exact e (λh=>.inr (.inr (.inr (.inr h)))) a
 exact⟨E,λr=>js aJ R (λq r=>C q r/\r<V.heap.size) aE am r,G,aJ,R,_,t',ci,M.olds,⟨gW E (λh=>x h.1) K,λh=>(G 0 h).elim x λh=>Ω⟩,I,λr=>Iff.rfl,λq r a=>a.2⟩
theorem lB.same(h:fp Z aE w ac ad am n s)(a:Ext w I):lB Z aE w ac ad am n s I:=⟨a.aa _,Z,λ_ h=>.inl h,h.W a⟩
theorem lB.before(a:Ext w J)(h:lB Z aE J ac ad am n s I):lB Z aE w ac ad am n s I:=by
 obtain⟨c,kY,e,f⟩:=h;have:=a.size;exact⟨(a.aa _).F c,kY,λr j=>(e r j).imp id λh=>Ω,f⟩
end
def wx(s:al):Prop:=∀f∈s.d7,f.live≠0
theorem Ul(n:aG):wx (dt n):=by
 intro f a;unfold dt at a;obtain⟨g,_,rfl⟩:=o8.1 a;exact(by decide:(1:Int)≠0)
theorem Um{a b:al}(h:e6 a b)(k:wx a):wx b:=by
 intro g q;obtain⟨j,e⟩:=List.getElem?_of_mem q;have r:=(x4.1 e).1;obtain⟨f,p⟩:=aC (l:=a.d7) (i:=j) (by have:=h.d7;omega);rw[(h.fn j f g p e).2.2.1];exact k f (x5 p)
section
variable{w:x3}{ac ad:Nat}{A R:ah}{n:aG}{s:al}{t:aw}{dG:x1}
end
def ng(w0 w:x3)(ac ad am:Nat)(n:aG):Prop:=Ext w0 w/\∃s Z aE,fp Z aE w ac ad am n s/\∀r,Z r->w0.heap.size<=r
section
variable{w0 w I:x3}{ac ad am:Nat}{n:aG}{s:al}{Z aE:ah}
theorem ng.W(h:ng w0 w ac ad am n)(a:Ext w I):ng w0 I ac ad am n:=by
 obtain⟨e,s,Z,aE,f,j⟩:=h;exact⟨e.F a,s,Z,aE,f.W a,j⟩
end
theorem fp.live{Z aE:ah}{ac ad am:Nat}{n:aG}{s:al}(h:fp Z aE w ac ad am n s):wx s/\s.d7.length<=256:=by
 obtain⟨_,_,a,e⟩:=h.ok;refine⟨Um a (Ul n),?_⟩;rw[a.d7];unfold dt;rw[r9];exact e
theorem Un{n:aG}{s:al}{i:Nat}{x:br}(h:e6 (dt n) s)(e:s.d6[i]?=σ x):x.gone=0:=by
 obtain⟨y,a⟩:=aC (l:=(dt n).d6) (i:=i) (by have:=(x4.1 e).1;have:=h.d6;omega);rw[(h.var i y x a e).1];unfold dt at a;simp only[x8,Z6]at a;obtain⟨u,_,rfl⟩:=a;rfl
section
variable{w:x3}{n:aG}{ac ad am:Nat}
end
section
variable{w:x3}{dG:x1}{n:aG}{s:al}
def lC(i v:Int)(f:bF):Bool:=decide (f.live≠0)&&(decide (v≠i)&&(decide (v∈f.sc)&&decide (i∈f.sc)))
theorem Uo{i:Int}(e:0<=v/\v<co.length):s.d7.any (lC i v)=decide (v∈a1 co s i):=by
 rw[U5,List.any_eq_true,rc,fU];unfold lC;constructor
 .rintro⟨f,a,h⟩;simp only[V8,rc]at h;exact⟨e,h.2.1,f,a,h.1,h.2.2.2,h.2.2.1⟩
 .rintro⟨_,h1,f,a,j,p,q⟩;exact⟨f,a,by simp only[V8,rc];exact⟨j,h1,q,p⟩⟩
theorem Up{i:Int}:∀m,m<=co.length->((Z4 m).map λv:Nat=>(v:Int)).filter (λv=>decide (v∈a1 co s i))=(a1 co s i).filter λv=>decide (v<(m:Int)):=λm hm=>by
 refine pX (ly (List.Pairwise.filter _ ?_)) (ly (List.Pairwise.filter _ rM)) λv=>?_
 .rw[List.pairwise_map];exact List.pairwise_lt_range.imp λh=>Ω
 .rw[T2,T2,o8,rc,rc];constructor
  .rintro⟨⟨q,a,rfl⟩,h⟩;have:=T1.1 a;exact⟨h,Ω⟩
  .rintro⟨h,h1⟩;have:=(fU.1 h).1;exact⟨⟨v.toNat,T1.2 Ω,Ω⟩,h⟩
theorem z6{i:Int}(h:io w dG n.k n.co s)(am:a6 n.k n.co s)(a8:s.d7.length<=1000):ak x7 Iw [dG,Δ i] w λr I=>Ext w I/\∃g,w.heap.size<=g/\an .i64 ae I g r (a1 n.co s i):=by
 have ba:=am.cF.2.1;refine ay func29 ?_;refine bj λg1 J bb K L=>?_;have ao:=h.box K L;obtain⟨d9,bc,bd,be,bf,bg,S,ap,_,bh,bi,bk,U,bl⟩:=id ao;rw[aK aZ.p 1 S rfl,aS ai.u ap];have bm:=K.size;refine bT.range n.co.length (λm out V=>Ext J V/\∃g,J.heap.size<=g/\an .i64 ae V g out (((Z4 m).map λv:Nat=>(v:Int)).filter λv=>decide (v∈a1 n.co s i))) Ω ⟨Ext.refl _,J.heap.size,o5 _,an.nil _ _ _ _⟩ ?_ ?_
 .rintro m out V au hm ⟨a,g,M,q⟩ aw;refine bt Ω ?_;have bn:(((Z4 m).map λv:Nat=>(v:Int)).filter λv=>decide (v∈a1 n.co s i)).length<=m:=by
   have:=S8 (λv=>decide (v∈a1 n.co s i)) ((Z4 m).map λv:Nat=>(v:Int));simpa using this
  have W:((Z4 (m+1)).map λv:Nat=>(v:Int)).filter (λv=>decide (v∈a1 n.co s i))=if(m:Int)∈a1 n.co s i then(((Z4 m).map λv:Nat=>(v:Int)).filter λv=>decide (v∈a1 n.co s i))++[(m:Int)]else((Z4 m).map λv:Nat=>(v:Int)).filter λv=>decide (v∈a1 n.co s i):=by
   rw[List.range_succ,n9,List.filter_append];by_cases hm:(m:Int)∈a1 n.co s i<;>simp[hm]
  refine aV (λout N=>Ext J N/\∃g,J.heap.size<=g/\an .i64 ae N g out (((Z4 (m+1)).map λv:Nat=>(v:Int)).filter λv=>decide (v∈a1 n.co s i))) (λout N B=>by rw[aL];exact aw _ _ B) λaz X=>?_;rw[aK aZ.p 6 (S.W a) rfl,jf fq.u (bN U a),r9];refine bT.range s.d7.length (λj ax C=>Ext V C/\ax= .bool ((s.d7.take j).any (lC i (m:Int)))) Ω ⟨Ext.refl _,rfl⟩ ?_ ?_
  .rintro j _ C aA aB ⟨e,rfl⟩ aD;refine bt Ω ?_;obtain⟨f,Y⟩:=aC (l:=s.d7) aB;have aE:=a.F e;have Z:(s.d7.take (j+1)).any (lC i (m:Int))=((s.d7.take j).any (lC i (m:Int))||lC i (m:Int) f):=by
    rw[u5,Y,l7,List.any_append,List.any_cons,List.any_nil,Bool.or_false]
   refine aV (λr O=>r= .bool ((s.d7.take (j+1)).any (lC i (m:Int)))/\Ext V O) (λ_ O B=>by rw[aL];exact aD _ _ ⟨B.2,B.1⟩) λaF aa=>?_;refine nM (α:=kh) dF.p rfl fq.u dF.i (bN U aE) (by rw[x8,Y];rfl) λcs ab=>?_;obtain⟨aI,ac,aY,rfl,aG,_,_⟩:=oY ab;refine bu dF.i λaH aJ bo aM x=>?_;refine b4 (vs:=[aI,ac,aY,.bool (decide (f.live≠0))]) dF.i rfl rfl (aq.one ab) x λad aN bp x=>?_;have af:Ext C ad:=aM.put aN Ω;have y:=e.F af;rw[bM];refine⟨λaO=>aa _ _ ⟨by rw[Z,aO];rfl,y⟩,λaP=>?_⟩;have E:∀{b:Bool}{I:x3},Ext V I->b=lC i (m:Int) f->aF (.bool b) I:=λP L=>aa _ _ ⟨by rw[Z,aP,Bool.false_or,L],P⟩;rw[aK dF.p 1 x rfl,aj];refine⟨λz=>?_,λz=>E y (by unfold lC;rw[pl z];rfl)⟩;rw[bz,aj];refine⟨λG=>?_,λG=>E y (by unfold lC;rw[ms z,pl G];rfl)⟩;have aQ:∀{ah:x3},Ext ad ah->ag ah aH dF [aI,ac,aY,.bool (decide (f.live≠0))]:=λP=>x.W P;have al:=(eC aG).W af;rw[aT dF.p rfl,aT a7.p rfl,av Ψ (x.cell rfl)];refine(rB al).X ?_;rintro _ bq _ ⟨rfl,H⟩;rw[aj];refine⟨λA=>?_,λA=>E (y.F H) (by unfold lC;rw[ms z,ms G,pl A];rfl)⟩;rw[aT dF.p rfl,aT a7.p rfl,av Ψ ((aQ H).cell rfl)];refine(rB (al.W H)).X ?_;rintro _ br _ ⟨rfl,aR⟩;exact E ((y.F H).F aR) (by unfold lC;rw[ms z,ms G,ms A];rfl)
  .rintro _ C aA ⟨e,rfl⟩;refine b6 Ω ?_;rw[p8,Uo (co:=n.co) ⟨Ω,Ω⟩,aj];refine⟨λQ=>?_,λQ=>X _ _ ⟨a.F e,g,M,by rw[W,m6 Q];exact q.W e⟩⟩;refine dl ai.u ae.i rfl λv5 bs O bw R aU=>?_;refine iO ai.u ae.i rfl ((q.W e).W R) aU.ls Θ Θ λbx aW aJ bA aX a2=>?_;have bB:=a.size;have z4:=e.size;have z5:=R.size;exact X _ _ ⟨((a.F e).F R).put a2 M,aW,Ω,by rw[W,m5 Q];exact aX⟩
 .rintro out V au ⟨a,g,M,q⟩;refine b6 Ω ⟨K.F a,g,Ω,?_⟩;rw[Up _ (o5 _)]at q;have:(a1 n.co s i).filter (λv=>decide (v<(n.co.length:Int)))=a1 n.co s i:=List.filter_eq_self.2 λv A=>by
   have:=(fU.1 A).1;simp;omega
  rw[this]at q;exact q
theorem Uq{i:Int}(h:io w dG n.k n.co s)(j:a6 n.k n.co s)(ah:s.d7.length<=1000):ak x7 Iu [dG,Δ i,Δ most] w λr I=>r=Δ (gS n s i most)/\Ext w I:=by
 have aH:=j.cF.2.1;have aI:=j.d6;refine ay func27 ?_;refine bj λg1 J aJ A al=>?_;have K:=h.box A al;obtain⟨d9,aM,aN,aO,aQ,aR,L,W,_,aT,am,aU,aW,aX⟩:=id K;refine aV (λv V=>v= .bool (decide (¬(iG n s i=rs/\0<=most/\most<=3)))/\Ext J V) ?_ ?_
 .rintro _ V ⟨rfl,a⟩;rw[aj];refine⟨λan=>⟨by unfold gS;rw[m5 an],A.F a⟩,λC=>?_⟩;have C:=Z2.1 C;have X:0<=i/\i<n.co.length:=by
   have:=C.1;unfold iG at this;simp at this;omega
  have M:gS n s i most=if most<((a1 n.co s i).length:Int)\/4096<n.co.getD i.toNat 0*aB (aA n.co (a1 n.co s i))then 12 else 0:=by
   unfold gS;rw[m6 (λh=>h C)]
  refine(K.W a).load λu N=>?_;refine(z6 (i:=i) N j ah).X ?_;rintro bK ao _ ⟨ap,g,E,hm⟩;have e:=a.F ap;rw[aS ai.u hm.ls,bG,aj];refine⟨λaY=>⟨by rw[M,m5 (.inl Ω)],A.F e⟩,λa2=>?_⟩;obtain⟨z,O⟩:=aC (l:=n.co) (i:=i.toNat) Ω;have a7:=j.cF.2.2 z (x5 O);rw[aK aZ.p 1 (L.W e) rfl,ew (i:=i.toNat) Ω ai.u ae.i Ψ (W.W e) O,aS ai.u hm.ls];have aq:∀q,1<=aB (aA n.co ((a1 n.co s i).take q))/\aB (aA n.co ((a1 n.co s i).take q))<=32768:=λq=>by
   have U:=jl (sc:=(a1 n.co s i).take q) j.cF.2.2 λv B=>(fU.1 (V4 B)).1;obtain⟨h1,P⟩:=lP _ U;have Y:(aA n.co ((a1 n.co s i).take q)).length<=3:=by simp[aA];omega
   have G:(32:Int) ^ (aA n.co ((a1 n.co s i).take q)).length<=32768:=by
    generalize (aA n.co ((a1 n.co s i).take q)).length=m at Y
    match m,Y with
    |0,_=>decide
    |1,_=>decide
    |2,_=>decide
    |3,_=>decide
   omega
  have au:∀q,1<=z*aB (aA n.co ((a1 n.co s i).take q))/\z*aB (aA n.co ((a1 n.co s i).take q))<=1048576:=λq=>by
   obtain⟨h1,P⟩:=aq q;have G:=W6 (show 1<=z by omega) (show 0<=aB (aA n.co ((a1 n.co s i).take q)) by omega);have Z:=W6 (show z<=32 by omega) (show 0<=aB (aA n.co ((a1 n.co s i).take q)) by omega);omega
  refine bT.range (a1 n.co s i).length (λq v Q=>Ext ao Q/\v=Δ (z*aB (aA n.co ((a1 n.co s i).take q)))) Ω ⟨Ext.refl _,by simp[aA,aB]⟩ ?_ ?_
  .rintro q _ Q av aw ⟨f,rfl⟩ ax;refine bt Ω ?_;obtain⟨v,B⟩:=aC (l:=a1 n.co s i) aw;have a8:=(fU.1 (x5 B)).1;obtain⟨y,aa⟩:=aC (l:=n.co) (i:=v.toNat) Ω;have ab:=e.F f;have ac:z*aB (aA n.co ((a1 n.co s i).take (q+1)))=z*aB (aA n.co ((a1 n.co s i).take q))*y:=by
    rw[u5,B,l7];unfold aA;rw[n9,List.map_singleton,pB,v8,aa,Int.mul_assoc];simp[aB]
   have aD:=au (q+1);rw[ac]at aD;rw[ba ai.u ae.i Ψ (hm.ls.W f) B,aK aZ.p 1 (L.W ab) rfl,ew (i:=v.toNat) Ω ai.u ae.i Ψ (W.W ab) aa,fO,lm Ω Ω,aL];exact ax _ _ ⟨f,by rw[ac]⟩
  .rintro _ Q av ⟨f,rfl⟩;refine b6 Ω ?_;rw[p8,bG,aj];have ad:n.co.getD i.toNat 0=z:=by rw[v8,O];rfl
   refine⟨λh1=>⟨by rw[M,ad,m5 (.inr h1)],A.F (e.F f)⟩,λh1=>⟨by rw[M,ad,m6 Ω],A.F (e.F f)⟩⟩
 .intro az H;have R:∀{p:Prop}[Decidable p],¬p->(x1.bool rs)= .bool (decide ¬p):=λh=>by rw[ms h]
  refine K.load λu N=>?_;refine(zr (i:=i) N).X ?_;rintro _ V _ ⟨rfl,a⟩;rw[bA,bM];refine⟨λS=>H _ _ ⟨R λh=>by have:=h.1;unfold iG at this;simp at this S;omega,a⟩,λS=>?_⟩;have X:0<=i/\i<n.co.length:=by simpa using S
  obtain⟨x,af⟩:=aC (l:=s.d6) (i:=i.toNat) Ω;have ag:cG s i.toNat=decide (x.gone≠0):=by unfold cG;rw[af]
  rw[aK aZ.p 4 (L.W a) rfl,show i=((i.toNat:Nat):Int) by omega];refine kx (α:=Bool) rfl rfl kq.u gD.i Ψ (bN am a) (by rw[x8,af];rfl) λaE aF=>?_;obtain rfl:aE= .bool (decide (x.gone≠0)):=(List.cons.inj aF).1;rw[aj];refine⟨λE=>H _ _ ⟨R λh=>by have:=h.1;unfold iG at this;rw[ag,ms E]at this;simp at this,a⟩,λE=>?_⟩;rw[aP,aj];refine⟨λP=>H _ _ ⟨R λh=>Ω,a⟩,λP=>?_⟩;rw[bG];refine H _ _ ⟨?_,a⟩;have aG:iG n s i=rs:=by
   unfold iG;rw[ms X,ag,pl E];rfl
  congr 1;rw[decide_eq_decide];exact⟨λG Z=>Ω,λG=>Decidable.byContradiction λZ=>G ⟨aG,Ω,Ω⟩⟩
theorem Ur{i:Int}{x:br}{bp:x1}{a:Λ}(h:io w dG n.k n.co s)(y:a6 n.k n.co s)(X:cw s)(hi:0<=i)(G:s.d6[i.toNat]?=σ x)(Y:aF .i64 w bp a)(aD:a.length=s.d6.length)(Z:∀v∈aM x,e5 s (a.set i.toNat v)):
  ak x7 IB [dG,bp,Δ i] w λr I=>Ext w I/\r= .tuple #[Δ (fm n.k (aM x) λv=>dL n.k s (a.set i.toNat v)).1,Δ (fm n.k (aM x) λv=>dL n.k s (a.set i.toNat v)).2]:=by
 have aE:=y.cF.2.1;have aG:=y.d6;have aH:=(x4.1 G).1;refine ay func36 ?_;refine bj λg1 J aI q aa=>?_;have H:=h.box q aa;obtain⟨d9,aJ,aN,aO,aQ,aR,K,aT,_,ab,aU,aW,aX,aY⟩:=id H;rw[aK aZ.p 0 K rfl,aK aZ.p 3 K rfl];have z:i=((i.toNat:Nat):Int):=Ω
 rw[z];refine kx rfl rfl dk.u ai.i Ψ ab (by rw[x8,G];rfl) λa1 ac=>?_;have A:=eC ac;rw[<-z,aS ai.u A];let of:Int->Int:=λv=>dL n.k s (a.set i.toNat v);let st:Nat->Int×Int:=λj=>((aM x).take j).foldl (fH of) (n.k,-1);have a2:=q.size;refine mn.range (aM x).length (λj b c V=>Ext J V/\b=Δ (st j).1/\c=Δ (st j).2/\((st j).2= -1\/0<=(st j).2)) A.le ⟨Ext.refl _,rfl,rfl,.inl rfl⟩ ?_ ?_
 .rintro j _ _ V ad af ⟨f,rfl,rfl,ag⟩ ah;refine bt Ω ?_;obtain⟨v,B⟩:=aC (l:=aM x) af;have L:=x5 B;have al:=qa L;have M:st (j+1)=fH of (st j) v:=by
   show((aM x).take (j+1)).foldl _ _=_;rw[u5,B,List.foldl_append];rfl
  refine jb (λb c N=>Ext J N/\b=Δ (st (j+1)).1/\c=Δ (st (j+1)).2/\((st (j+1)).2= -1\/0<=(st (j+1)).2)) (λb c N am=>by rw[aL];exact ah _ _ _ am) λaz O=>?_;rw[ba ai.u ae.i Ψ (A.W f) B];have an:=q.F f;refine RW λv4 a7 a8 bb C ao=>?_;refine iO ai.u ae.i rfl ao (Y.W (an.F C)) Θ Θ λv5 bc bd be E P=>?_;rw[List.nil_append]at E;have bf:=f.size;have z4:=C.size;have z5:=P.size;rw[gb (i:=i.toNat) z ai.u ae.i E Ω];refine gd ae.i E Ω λap aq _ au=>?_;have av:Ext V ap:=(C.put P Ω).put aq Ω;have Q:=f.F av;refine(H.W Q).load λu aw=>?_;refine(RQ aw y X (Z v L) au.ls).X ?_;rintro _ bg _ ⟨rfl,ax⟩;have R:=Q.F ax;refine aV (λr S=>r= .bool (decide ((st j).2<0\/of v<(st j).1))/\Ext J S) ?_ λbh U=>?_
  .rintro _ S ⟨rfl,W⟩;rw[aj];refine⟨λaA=>?_,λaB=>?_⟩
   .have e:st (j+1)=(of v,v):=by rw[M];unfold fH;rw[m5 (aA.imp (λh=>Ω) id)]
    exact O _ _ _ ⟨W,by rw[e],by rw[e],by rw[e];exact .inr al.1⟩
   .have e:st (j+1)=st j:=by rw[M];unfold fH;rw[m6 λh=>aB (h.imp (λh=>Ω) id)]
    exact O _ _ _ ⟨W,by rw[e],by rw[e],by rw[e];exact ag⟩
  .rw[aP,aj];refine⟨λh1=>U _ _ ⟨by rw[ms (.inl h1)],R⟩,λh1=>?_⟩;rw[aP];refine U _ _ ⟨?_,R⟩;congr 1;exact decide_eq_decide.2 ⟨.inr,λh=>h.resolve_left h1⟩
 .rintro _ _ V ad ⟨f,rfl,rfl,_⟩;refine b6 Ω ⟨q.F f,?_⟩;show _=x1.tuple #[Δ (fm n.k (aM x) of).1,Δ (fm n.k (aM x) of).2];have:st (aM x).length=fm n.k (aM x) of:=by
   show((aM x).take _).foldl _ _=_;rw[p8];rfl
  rw[this]
end
section
variable{ap:List aw}{w J V:x3}{ac ad am:Nat}{A R S Z aE:ah}{n:aG}{s s0 s1:al}{cs:List x1}
theorem dj.open(h:dj ap w ac ad A R n s1 J):∃a e,be J ac ad a R n s1 e/\Laid J/\¬a 0/\dg ap e/\∀{s2:al}{V:x3},dj ap J ac ad a R n s2 V->dj ap w ac ad A R n s2 V:=by
 obtain⟨h1,f,a,e,j,p,q,r⟩:=h;refine⟨a,e,p,f,r,q,λ{s2 V}k=>?_⟩;obtain⟨s,x,y,z,B,C,E,F⟩:=k;exact⟨oO h1 s,x,y,z,j.F B,C,E,F⟩
theorem dj.W(h:dj ap w ac ad A R n s1 J)(a:Ext J V):dj ap w ac ad A R n s1 V:=by
 obtain⟨p,q,h1,e,f,j,k⟩:=h.open;exact k (.same h1 e f j a)
def i9(ap:List aw)(Z aE:ah)(w:x3)(ac ad am:Nat)(n:aG)(s s0:al)(cs:List x1):Prop:=∃A R A9 t,cg w ac ad am A R A9 aE n s s0 t ap cs/\(Laid w/\¬Z 0/\pd t)/\(∀r,Z r↔js A R A9 aE am r)/\∀q r,A9 q r->r<w.heap.size
theorem i9.lt(h:i9 ap Z aE w ac ad am n s s0 cs):∀r,Z r->r<w.heap.size:=by
 obtain⟨A,R,A9,t,p,_,e,f⟩:=h;intro r a;rcases(e r).1 a with a|a|⟨q,a⟩|a|a
 .exact rG p.eW r (.inl a)
 .exact rG p.eW r (.inr a)
 .grind
 .exact (p.read r a).2.1
 .subst a;exact p.box.lt
theorem i9.W(h:i9 ap Z aE w ac ad am n s s0 cs)(a:Ext w J):i9 ap Z aE J ac ad am n s s0 cs:=by
 obtain⟨A,R,A9,t,p,⟨e,f⟩,j,x⟩:=h;exact⟨A,R,A9,t,p.W a,⟨e.W a,f⟩,j,λq r y=>by have:=x q r y;have:=a.size;omega⟩
theorem i9.side(h:i9 ap Z aE w ac ad am n s s0 cs)(a:af S w J)(B:∀r,Z r->¬S r)(f:¬S 0):i9 ap Z aE J ac ad am n s s0 cs:=by
 obtain⟨A,R,A9,t,p,⟨j,x⟩,y,z⟩:=h;refine⟨A,R,A9,t,p.side a λr _ e=>?_,⟨gW a f j,x⟩,y,λq r e=>by have:=z q r e;have:=a.size;omega⟩
 grind [js]
theorem i9.ok(h:i9 ap Z aE w ac ad am n s s0 cs):a6 n.k n.co s/\io w (.agg cs.toArray) n.k n.co s0:=by
 obtain⟨A,R,A9,t,p,_⟩:=h;exact⟨p.eW.2.2.2.1,p.doc.F9⟩
theorem fp.bK(h:fp Z aE w ac ad am n s):∃cs,i9 [] Z aE w ac ad am n s s cs/\ag w am aZ cs:=by
 obtain⟨A,R,A9,t,cs,p,⟨a,e⟩,q,f,j⟩:=h;exact⟨cs,⟨A,R,A9,t,p,⟨a,e,p.jK.m.2⟩,f,j⟩,p.box⟩
end
theorem Us{s:al}(a:a6 k co s)(e:s.d7.length<=1000):s.cells.length<=10000000:=by
 have q:=a.d6;have r:=a.cF.2.1;have h1:=kv (L:=s.d6) (f:=iA) (b:=34) λx p=>by
  obtain⟨i,hi⟩:=c8.1 p;obtain⟨z,h⟩:=aC (l:=co) (i:=i) (by grind);have:=(a.var i x z hi h).1;have:=a.cF.2.2 z (x5 h);show x.un.length+1+1<=34;omega
 have w:=kv (L:=s.d7) (f:=fQ) (b:=4097) λf e=>by
  obtain⟨j,_⟩:=a.d7 f e;have:=j.len;have:=j.small;show f.cs.length+1<=4097
  grind
 grind [al.cells,kK]
section
variable{w:x3}{ac ad am:Nat}{Z aE:ah}{n:aG}{s s0:al}{cs:List x1}
def nh(ap:List aw)(S:ah)(w:x3)(ac ad:Nat)(n:aG)(s s0:al)(cs:List x1):Prop:=∃am Z aE,i9 ap Z aE w ac ad am n s s0 cs/\(∀r,Z r->¬S r)/\∀r,S r->r<w.heap.size
variable{ap:List aw}{S:ah}{I:x3}
theorem nh.start{a:x3}{B:Nat}{am:Nat}{Z aE:ah}(e:i9 [] Z aE V ac ad am n s s0 cs)(p:∀r,Z r->B<=r)(f:Ext V a)(q:B<=V.heap.size):nh [] (λr=>r<B\/(V.heap.size<=r/\r<a.heap.size)) a ac ad n s s0 cs:=by
 have:=f.size;exact⟨am,Z,aE,e.W f,λr j h=>by have:=p r j;have:=e.lt r j;omega,Ω⟩
theorem nh.own(h:nh ap S w ac ad n s s0 cs)(a:Ext w I):nh ap (λr=>S r\/(w.heap.size<=r/\r<I.heap.size)) I ac ad n s s0 cs:=by
 obtain⟨am,Z,aE,h1,f,j⟩:=h;have:=a.size;exact⟨am,Z,aE,h1.W a,λr e h=>h.elim (f r e) λh=>by have:=h1.lt r e;omega,by grind⟩
end
def qs(ap:List aw)(w:x3)(ac ad:Nat)(A R:ah)(n:aG)(s':al)(I:x3):Prop:=
 af (dv w) w I/\Laid I/\∃aJ R' t',Grow A w aJ I/\be I ac ad aJ R' n s' t'/\dg ap t'/\¬aJ 0/\∀r,R' r->R r\/w.heap.size<=r
section
variable{ap:List aw}{w J V:x3}{ac ad am:Nat}{A R S Z aE:ah}{n:aG}{s s0 s1:al}{cs:List x1}{t:aw}
theorem qs.same(h:be w ac ad A R n s t)(e:Laid w)(f:¬A 0)(j:dg ap t)(a:Ext w J):qs ap w ac ad A R n s J:=
 ⟨a.aa _,e.W a,A,R,t,Grow.W a,h.W a,j,f,λ_ h=>.inl h⟩
theorem pd.app{t t':aw}{l:List Cell}(h:pd t)(hm:t'.marks=t.marks)(a:t'.cells=t.cells++l)(e:t'.cells.length<=40000000)(f:t'.olds=t.olds):pd t':=λm j=>by
 obtain⟨h1,p⟩:=h m (hm▸j);refine⟨⟨h1.1,e⟩,?_⟩;rw[f,a,List.countP_append];omega
theorem i9.qt(h:i9 ap Z aE w ac ad am n s s0 cs):∃A R t,be w ac ad A R n s t/\Laid w/\¬A 0/\dg ap t/\∀{J V:x3}{s1:al},Ext w J->qs ap J ac ad A R n s1 V->af (λr=>Z r/\¬aE r) w V/\∃kY,(∀r,kY r->Z r\/w.heap.size<=r)/\i9 ap kY aE V ac ad am n s1 s0 cs:=by
 obtain⟨A,R,A9,t,p,⟨I,y,a⟩,z,K⟩:=h;refine⟨A,R,t,p.eW,I,λh=>y ((z 0).2 (.inl h)),⟨p.jK,a⟩,λ{J V s1}f hm=>?_⟩;obtain⟨j,L,aJ,R',t',x,M,C,O,E⟩:=hm;have P:=f.size;have z3:=j.size;have F:=p.W f;have N:=F.prog (B:=w.heap.size) j x M C.1 (λr a=>(E r a).imp id λh=>Ω) (λq r h _=>K q r h) p.box.lt;have e:∀{r:Nat}{G:Prop},(G->js A R A9 aE am r)->G->Z r\/w.heap.size<=r:=by grind
 have H:∀r,js aJ R' (λq r=>A9 q r/\r<J.heap.size) aE am r->Z r\/w.heap.size<=r:=by
  intro r a;rcases a with a|a|⟨q,a,_⟩|a|a
  .exact (x.2.1 r a).elim (e .inl) Ω
  .exact (E r a).elim (e (λh=>.inr (.inl h))) λh=>.inr Ω
  .exact e (λh=>.inr (.inr (.inl ⟨q,h⟩))) a
  .exact e (λh=>.inr (.inr (.inr (.inl h)))) a
  .exact e (λh=>.inr (.inr (.inr (.inr h)))) a
 exact⟨(f.aa _).F ((vR x.1 j).X λr _ h=>⟨(z r).2 (.inl h.1),λbf=>(F.read r bf).1 h.2⟩),λr=>js aJ R' (λq r=>A9 q r/\r<J.heap.size) aE am r,H,aJ,R',_,t',N,⟨L,λh=>(H 0 h).elim y λh=>by have:=p.box.lt;omega,C.2⟩,λr=>Iff.rfl,Ω⟩
theorem nh.qt(h:nh ap S w ac ad n s s0 cs):∃A R t,be w ac ad A R n s t/\Laid w/\¬A 0/\dg ap t/\∀{J V:x3}{s1:al},Ext w J->qs ap J ac ad A R n s1 V->af (λr=>¬S r) w V/\nh ap S V ac ad n s1 s0 cs:=by
 obtain⟨am,Z,aE,h1,a,e⟩:=h;obtain⟨A,R,t,j,p,q,x,y⟩:=h1.qt;refine⟨A,R,t,j,p,q,x,λ{J V s1}B hm=>?_⟩;obtain⟨f,kY,C,E⟩:=y B hm;have z:=f.size;exact⟨f.X λr _ h=>a r h.1,am,kY,aE,E,λr F U=>(C r F).elim (λh=>a r h U) λh=>by have:=e r U;omega,λr U=>by have:=e r U;omega⟩
end
def jt{α:Type}(a b:List α)(i:Nat):List α:=a.take i++b.drop i
theorem He{α:Type}{a b:List α}(h:a.length=b.length):jt a b b.length=a:=by
 grind [jt]
theorem Hf{α:Type}{a b:List α}{i:Nat}(h:a.length=b.length)(hi:i<b.length):(jt a b i)[i]?=b[i]?:=by
 grind [jt]
theorem Hg{α:Type}{a b:List α}{i:Nat}{x:α}(h:a.length=b.length)(e:a[i]?=σ x):(jt a b i).set i x=jt a b (i+1):=by
 have f:=(x4.1 e).1;refine j9 λj=>?_
 grind [jt]
theorem dg.olds{ap:List aw}{t:aw}(h:dg ap t):t.olds.length<=80000000:=by
 obtain⟨h1,f⟩:=h;cases hm:t.marks.getLast? with
 |none=>
  have j:=List.getLast?_eq_none_iff.1 hm;have e:=h1.len;rw[j]at e;cases ap with
  |nil=>rw[h1.2.1];simp
  |cons a l=>simp at e
 |some m=>
  obtain⟨⟨q,r⟩,s⟩:=f m hm;have:=List.countP_le_length (p:=λc:Cell=>decide (c.st=m.st)) (l:=t.cells);omega
theorem dg.grow{ap:List aw}{t:aw}{n:Nat}(h:dg ap t)(a:t.cells.length+n<=40000000):dg ap (t.grow n):=
 ⟨h.1.grow,h.2.app (t':=t.grow n) (l:=u9 n ⟨0,0⟩) rfl rfl (by show(t.cells++u9 n _).length<=_;simp;exact a) rfl⟩
theorem dg.put{ap:List aw}{s:al}{t:aw}(h:dg ap t)(f:t.cells.length+cs.length+1<=40000000):dg ap (n1 s t cs):=by
 have a:∀i,dg ap (gw t (1::cs) i):=λi=>by
  induction i with
  |zero=>exact h.grow Θ
  |succ i e=>exact e.set
 exact(a _).set
section
variable{ap:List aw}{w J V:x3}{ac ad:Nat}{A R aJ R':ah}{n:aG}{s s1 s2 s':al}{t t':aw}
theorem dj.Ut(h:dj ap w ac ad A R n s1 J):∃e a,be J ac ad e R n s1 a/\Room a/\Laid J/\∀{s2:al}{v:x1}{V f:x3},Ext J V->n2 V ac ad e R n s2 a v f->dj ap w ac ad A R n s2 f:=by
 obtain⟨e,a,h1,j,r,s,k⟩:=h.open;refine⟨e,a,h1,s.room,j,λ{s2 v V f}y U=>k ?_⟩;obtain⟨_,z,aJ,p,x,q,B⟩:=U.W y;have:=qq j;exact⟨z,gW q.1 r j,aJ,_,q,B,s.set,λh=>(q.2.1 0 h).elim r Ω⟩
theorem z7{w:x3}{g:Nat}{e:r8}{cs:List x1}(a:ag w g e cs)(f:af (dv w) w I)(he:¬(e=fz\/e=eH\/e=k7\/e=fN\/e=bV\/e=cT\/e=b2)):ag I g e cs:=a.aa f (zc a he)
theorem z8{w:x3}{g e:Nat}{sv:x1}{szs:Λ}(h:cd w g e sv szs k cs)(a:af (dv w) w I):cd I g e sv szs k cs:=by
 obtain⟨⟨aY,gs,f,hm,j⟩,p⟩:=h;exact⟨⟨aY,gs,z7 f a Φ,oU hm a Φ,oU j a Φ⟩,p⟩
def eY(n:aG)(s:al)(sc cs:Λ)(q:Nat):al:=match sc with
 |[]=>if q=0 then s else eG n s [] cs
 |[v]=>match s.d6[v.toNat]? with
  |some x=>dD s v.toNat x (jt (bX n.k x.un cs) x.un q)
  |none=>s
 |_=>match kS s sc with
  |some j=>match s.d7[j]? with
   |some f=>dw s j f (jt (bX n.k f.cs cs) f.cs q)
   |none=>s
  |none=>s
theorem Uu{i:Nat}{x:br}(h:s.d6[i]?=σ x):dD s i x x.un=s:=by
 have:s.d6.set i x=s.d6:=by
  apply j9;intro j;rw[Y8];by_cases e:i=j
  .subst e;rw[m5 rfl,m5 (x4.1 h).1,h]
  .rw[m6 e]
 unfold dD;show{s with d6:=s.d6.set i x}=s;rw[this]
theorem Uv{f:bF}(h:s.d7[j]?=σ f):dw s j f f.cs=s:=by
 have:s.d7.set j f=s.d7:=by
  apply j9;intro q;rw[Y8];by_cases e:j=q
  .subst e;rw[m5 rfl,m5 (x4.1 h).1,h]
  .rw[m6 e]
 unfold dw;show{s with d7:=s.d7.set j f}=s;rw[this]
theorem Uw{n:aG}{s:al}{f:bF}(e:2<=sc.length)(a:kS s sc=σ j)(h:s.d7[j]?=σ f)(q:Nat):eY n s sc cs q=dw s j f (jt (bX n.k f.cs cs) f.cs q):=by
 match sc,e,a with
 |u::v::sc,_,a=>
  unfold eY;simp only[a,h]
theorem Ux{n:aG}{s:al}(q:a6 n.k n.co s)(r:ep n.co n.k (sc,cs)):eY n s sc cs 0=s:=by
   rcases tv q r with⟨rfl,_⟩|⟨v,y,rfl,h,_⟩|⟨j,f,e,a,p,_⟩|⟨e,a,_⟩
   .rfl
   .unfold eY;simp only[h];exact Uu h
   .match sc,e,a with
    |u::v::sc,_,a=>
     unfold eY;simp only[a,p];exact Uv p
   .match sc,e,a with
    |u::v::sc,_,a=>
     unfold eY;simp only[a]
theorem Uy{n:aG}{s:al}{N:Nat}{q:Int}(w:a6 n.k n.co s)(x:ep n.co n.k (sc,cs))(E:N=cs.length)(z:sc=[]->N≠0)(h:q=oc s sc)(A:¬(1<sc.length/\q<0)):eY n s sc cs N=eG n s sc cs:=by
   rcases tv w x with⟨rfl,e⟩|⟨v,y,rfl,B,p,e⟩|⟨j,f,r,a,C,_,_,_,p,e⟩|⟨r,a,_⟩
   .have:N≠0:=z rfl;show(if N=0 then s else eG n s [] cs)=_;rw[m6 this]
   .rw[e];unfold eY;simp only[B];rw[show N=y.un.length by omega,He (by simp[bX,p])]
   .rw[e]
    match sc,r,a with
    |u::v::sc,_,a=>
     unfold eY;simp only[a,C];rw[show N=f.cs.length by omega,He (by simp[bX,p])]
   .unfold oc at h;rw[a]at h;exact m7 ⟨Ω,by simp only at h;omega⟩ A
theorem Uz{aI al:x1}{g bS bJ:Nat}(h:be w ac ad A R n s t)(bf:Laid w)(aY:¬A 0)(bg:dg ap t)(aG:an .i64 ae w bJ aI sc)(cu:∀r,li aI r->¬A r)(bh:cd w g bS al (aA n.co sc) n.k cs)(cw:¬A g/\¬A bS/\∀r,li al r->¬A r)(aH:ep n.co n.k (sc,cs))(cz:∀v∈sc,cG s v.toNat=sp)(dE:s.d7.length<=999):
  ak x7 I8 [Γ ac,aI,Γ g] w λ_ I=>af (dv w) w I/\Laid I/\∃aJ R' t',Grow A w aJ I/\be I ac ad aJ R' n (eG n s sc cs) t'/\dg ap t'/\¬aJ 0/\∀r,R' r->R r\/li al r\/w.heap.size<=r:=by
 have C:=h.2.2.2.1;have hk:=C.dy;have dF:=qq bf;obtain⟨am,bT,aZ,bk,cA,bl⟩:=id aH;simp only at am bT aZ bk cA bl;have bm:bU (aA n.co sc):=zS C (λv aK=>⟨(am.1 v aK).1,aZ v aK⟩) am.2;have dG:=Us C Ω;have dH:t.cells.length=s.cells.length:=by
  have:=congrArg List.length h.2.1;simpa[aw.bP]using this
 refine je func96 ?_;refine bj λg1 J dI cB p=>?_;refine bj λcC V dJ bW x=>?_;refine bj λdK cD dL bp L=>?_;have x:ag V cC ai [aI]:=by rw[aG.ls.cells.1]at x;exact x
 rw[jX];refine bu ut.i λdM dN dO cE M=>?_;refine bw ut.i rfl rfl M Nat.zero_lt_one λcH cI dP M=>?_;have a1:Ext cD cH:=cE.put cI Ω;have br:=((cB.F bW).F bp).F a1;have p:=((p.W bW).W bp).W a1;have x:=(x.W bp).W a1;have L:=L.W a1;rw[av Ψ (p.cell rfl),av Ψ (x.cell rfl)];refine(SZ (h.W br) (aG.W br).ls).X ?_;rintro _ cJ _ ⟨rfl,cK⟩;obtain⟨a2,O⟩:∃a2:Int,a2=oc s sc:=⟨_,rfl⟩;rw[<-O];refine bu ae.i λdQ dR dS cL Y=>?_;refine bw ae.i rfl rfl Y Nat.zero_lt_one λbY cM dT Y=>?_;have cN:Ext cJ bY:=cL.put cM Ω;have aL:=cK.F cN;have G:=br.F aL;have p:=p.W aL;have x:=x.W aL;have L:=L.W aL;have M:=M.W aL;have dU:=G.size;refine aV (λv bZ=>v= .bool (decide (1<sc.length/\a2<0))/\bZ=bY) ?_ ?_
 rotate_left
 .intro az b0;rw[av Ψ (x.cell rfl),aS ai.u (aG.W G).ls,bG,aj];refine⟨λh1=>?_,λh1=>b0 _ _ ⟨by rw[pl λh=>h1 Ω],rfl⟩⟩;rw[av Ψ (Y.cell rfl),aP];refine b0 _ _ ⟨?_,rfl⟩;congr 1;rw[decide_eq_decide];exact⟨λh=>⟨Ω,h⟩,λh=>h.2⟩
 rintro _ bZ ⟨rfl,rfl⟩;rw[aj];refine⟨λb3=>?_,λb4=>?_⟩
 .
  have cO:kS s sc=ν:=by
   cases P:kS s sc with
   |none=>rfl
   |some j=>unfold oc at O;rw[P]at O;simp only at O;omega
  have cP:eG n s sc cs=gN s sc (aA n.co sc) cs:=by
   rcases tv C aH with⟨rfl,_⟩|⟨v,y,rfl,_⟩|⟨j,f,_,P,_⟩|⟨_,_,e⟩
   .simp at b3
   .simp at b3
   .rw[cO]at P;cases P
   .exact e
  rw[av Ψ (p.cell rfl),av Ψ (x.cell rfl),av Ψ (L.cell rfl)];have cQ:rI n s sc (aA n.co sc):=vU.2 ⟨Ω,λq aM=>by
   have aK:sc[q]?=σ sc[q]:=x6 aM;have bs:=x5 aK;refine⟨sc[q],aK,(am.1 _ bs).1,aZ _ bs,cz _ bs,λaY=>?_⟩;rw[v8,x6 (show q-1<sc.length by omega)];exact X5.1 bT (q-1) q Ω aM Ω,rfl⟩
  have cR:=bh.W G;have dV:cs.length<=4096:=Ω
  have dW:=bg.olds;refine(RV (h.W G) (aG.W G).ls cu cR cw am.2 bl Ω Ω Ω).X ?_;rintro _ dX _ ⟨_,cS⟩;obtain⟨_,bt,aJ,R',bx,cU,_,cV⟩:=cS cQ;intro dY a6 _;rw[cP];have aq:=bt.size;refine⟨(gM G bt).F (a6.aa _),(show Laid _ from gW bx.1 aY (bf.W G)).W a6,aJ,R',_,((Grow.W G).F bx).F (Grow.W a6),cU.W a6,bg.put Ω,λh=>(bx.2.1 0 h).elim aY Ω,λr bz=>(cV r bz).imp id λh=>h.imp id λh=>Ω⟩
 .
  rw[av Ψ (L.cell rfl)];refine(nQ (bh.W G)).X ?_;rintro _ dZ _ ⟨rfl,cW⟩;refine pO.X ?_;rintro _ S _ ⟨cX,bA,rfl,ea,b5⟩;have ax:=cW.F cX;have aD:=G.F ax;have p:=p.W ax;have x:=x.W ax;have L:=L.W ax;have M:=M.W ax;have Y:=Y.W ax;have b6:=bh.W aD;have cY:=aG.W aD;obtain⟨⟨eb,ec,ed,b7,bt⟩,_⟩:=id b6;have b8:=pN (g:=bA) (B0:=S.heap.size) (sv:=al) bm;obtain⟨N,a7⟩:∃N:Nat,(aB (aA n.co sc)).toNat=N:=⟨_,rfl⟩;rw[a7]at b8;rw[a7]at bk;have ee:=prod_bound bm;have b9:eY n s sc cs 0=s:=Ux C aH;have cZ:eY n s sc cs N=eG n s sc cs:=Uy C aH bk.symm (λh=>by subst h;rw[<-a7];exact Nat.one_ne_zero) O b4;have bB:∀{Z:x3}{a b:Int},ag Z g1 dx [Γ ac]->(∃aN s1 aQ,be Z ac ad aN R n s1 aQ)->(0<=a/\a<=n.k)->(0<=b/\b<=n.k)->ak x7 Ka [Δ a,Δ b,Γ g1] Z λr ca=>r=Δ (min (a+b) n.k)/\Ext Z ca:=λbC ⟨aN,s1,aQ,c0⟩ a8 c1=>by
   refine ay func189 ?_;rw[av Ψ (bC.cell rfl)];refine(kM c0).X ?_;rintro _ ca _ ⟨rfl,c2⟩;refine(vG a8 c1 hk).X ?_;rintro _ ef _ ⟨rfl,c3⟩;rw[bn,bo];exact⟨rfl,c2.F c3⟩
  refine mp.old ⟨Nat,sp,kp,#[Γ bA],0,_,_,_,λq I=>dj ap S ac ad A R n (eY n s sc cs q) I,λ_ _ _=>False,rfl,b8.s,
   ?_,λ_ _ ab h=>⟨h.1.W ab,h.2.1.W ab,Y1 h.2.2 ab.size⟩,λ_ _ _ ab h=>h.W ab,λ_ _ _ _ _ h=>h,⟨b5,b7.ls,o5 _⟩,?_,?_,?_,λ_ _ h=>h.elim,λ_ _ _ h=>h.elim⟩
  .rintro _ _ _ _ ⟨_,_,_,_,rfl,_⟩;rfl
  .show dj ap S ac ad A R n (eY n s sc cs 0) S;rw[b9];exact⟨(Ext.refl _).aa _,bf.W aD,A,t,Grow.W (Ext.refl _),h.W aD,bg,aY⟩
  .rintro _ aO q _ c4 ⟨_,_,eg⟩ ⟨aM,rfl,eh,gt,c5,ei,c6⟩ bb;cases c5;intro c7 cb _ _;have ce:=bb.W cb;have bD:=ce.1;have aR:=c6.W cb;have bE:∀{I:x3},dj ap S ac ad A R n (eY n s sc cs (q+1)) I->(ag I bA bq [al]/\aF .i64 I al (aA n.co sc)/\S.heap.size<=I.heap.size)/\dj ap S ac ad A R n (eY n s sc cs (q+1)) I/\(sp=rs->e7 c4 I):=λhm=>⟨⟨z7 b5 hm.1 Φ,(oU b7 hm.1 Φ).ls,hm.1.size⟩,hm,λh=>by cases h⟩;have at_:∀{Z:x3}{g:Nat}{e:r8}{cs:List x1},Ext c7 Z->ag S g e cs->¬(e=fz\/e=eH\/e=k7\/e=fN\/e=bV\/e=cT\/e=b2)->ag Z g e cs:=λab bC he=>(z7 bC bD he).W ab;rw[av Ψ ((at_ (Ext.refl _) L Φ).cell rfl)];refine(nP (z8 b6 bD)).X ?_;rintro ej ek _ ⟨Q,ge,_,c8⟩;obtain⟨c,aT⟩:=aC (l:=cs) (i:=q) Ω;have bF:=bl c (x5 aT);have cf:=(oU cY bD Φ).W Q;rw[ba au.u ao.i Ψ c8.ls aT,av Ψ ((at_ Q x Φ).cell rfl),aS ai.u cf.ls,bi,aj];obtain⟨aN,aQ,H,bH,_,bI⟩:=ce.Ut;rcases tv C aH with⟨rfl,e⟩|⟨v,y,rfl,bc,bK,e⟩|⟨j,f,cg,P,bL,c9,em,da,bK,e⟩|⟨cg,P,_⟩
   .
    refine⟨λ_=>?_,λh=>m7 rfl h⟩;have en:N=1:=by rw[<-a7];rfl
    have db:q=0:=Ω
    subst db;rw[b9]at H;intro ch aE _ _;have E:=Q.F aE;rw[av Ψ ((at_ E p Φ).cell rfl),av Ψ ((at_ E M Φ).cell rfl),av Ψ ((at_ E p Φ).cell rfl)];refine(rz (H.W E)).X ?_;rintro _ ci _ ⟨rfl,W⟩;refine⟨.inl W,?_⟩;have K:=E.F W;refine ak.X (bB (at_ K p Φ) ⟨_,_,_,H.W K⟩ C.zero bF) ?_;rintro _ cj _ ⟨rfl,X⟩;have B:=K.F X;refine⟨.inl (W.F X),(FU (H.W B) bH).X ?_⟩;rintro _ ck _ ⟨_,aU⟩;have aq:=C.zero;have aW:eY n s [] cs (0+1)={s with zero:=min (s.zero+c) n.k}:=by
     show eG n s [] cs=_;rw[e,v8,aT];rfl
    have U:=aU ⟨Ω,Ω⟩;rw[<-aW]at U;exact bE (bI B U)
   .
    have dc:=(am.1 v (.head _)).1;have dd:=aZ v (.head _);refine⟨λh=>m7 h Ξ,λ_=>?_⟩;rw[bi,aj];refine⟨λ_=>?_,λh=>m7 rfl h⟩;have eo:=C.d6;obtain⟨z,aq⟩:=aC (l:=n.co) (i:=v.toNat) Ω;have de:=C.var _ y z bc aq;have df:aA n.co [v]=[z]:=by
     show[n.co.getD v.toNat 0]=[z];rw[v8,aq];rfl
    have er:=C.cF.2.2 z (x5 aq);have dh:b1 (aA n.co [v]) (q:Int)=[(q:Int)]:=by
     rw[df];show[((q:Int) / 1) % z]=_;rw[Int.ediv_one,Int.emod_eq_of_lt Ω Ω]
    rw[dh]at aR;have cl:eY n s [v] cs q=dD s v.toNat y (jt (bX n.k y.un cs) y.un q):=by
     unfold eY;simp only[bc]
    have di:eY n s [v] cs (q+1)=dD s v.toNat y (jt (bX n.k y.un cs) y.un (q+1)):=by
     unfold eY;simp only[bc]
    have aX:(bX n.k y.un cs).length=y.un.length:=by simp[bX,bK]
    have cm:=(x4.1 bc).1;have cn:eL n v (q:Int):=⟨dc,dd,Ω,by rw[v8,aq];show(q:Int)<z;omega⟩;obtain⟨u,ah⟩:=aC (l:=y.un) (i:=q) Ω;have bM:=de.2.1 u (x5 ah);have dk:fG (eY n s [v] cs q) v.toNat (q:Int).toNat=u:=by
     rw[cl];unfold fG dD;rw[Z5 cm];simp only[u7];rw[v8,Hf aX Ω,ah];rfl
    intro ch aE _ _;have E:=Q.F aE;have cp:=cf.W aE;rw[av Ψ ((at_ E p Φ).cell rfl),av Ψ ((at_ E x Φ).cell rfl),ew (i:=0) (y:=0) rfl ai.u ae.i Ψ cp.ls rfl,ew (i:=0) (y:=0) rfl ai.u ae.i Ψ (aR.W E).ls rfl];refine(l2 (i:=v) (v:=(q:Int)) (H.W E)).X ?_;rintro _ ci _ ⟨rfl,W⟩;rw[m5 cn,dk,bn,bo];intro cj X _ _;have B:=(E.F W).F X;have dl:=cp.W (W.F X);rw[av Ψ ((at_ B p Φ).cell rfl),av Ψ ((at_ B x Φ).cell rfl)];refine pD (i:=0) (y:=0) rfl ai.u ae.i dl.ls rfl λes et dm=>?_;rw[av Ψ dm];refine pD (i:=0) (y:=0) rfl ai.u ae.i (aR.W B).ls rfl λeu ev dn=>?_;rw[av Ψ dn,av Ψ ((at_ B M Φ).cell rfl)];refine ak.X (bB (at_ B p Φ) ⟨_,_,_,H.W B⟩ bM bF) ?_;rintro _ ck _ ⟨rfl,cq⟩;have cr:=B.F cq;refine⟨.inl cq,(zi (i:=v) (v:=(q:Int)) (H.W cr) bH).X ?_⟩;rintro _ ey _ ⟨_,_,aU⟩;have aW:kP (eY n s [v] cs q) v.toNat (q:Int).toNat (min (u+c) n.k)=eY n s [v] cs (q+1):=by
     rw[cl,di];unfold kP dD;rw[Z5 cm];simp only[u7,List.set_set];have:(bX n.k y.un cs)[q]?=σ (min (u+c) n.k):=by
      unfold bX;rw[List.getElem?_zipWith,ah,aT]
     rw[Hg aX this]
    have U:=aU cn ⟨Ω,Ω⟩;rw[aW]at U;exact bE (bI cr U)
   .
    refine⟨λh=>m7 h Ω,λ_=>?_⟩;rw[bi,aj];refine⟨λh=>m7 h Ω,λ_=>?_⟩;have ct:a2=(j:Int):=by rw[O];unfold oc;rw[P]
    have bN:∀q,eY n s sc cs q=dw s j f (jt (bX n.k f.cs cs) f.cs q):=Uw cg P bL;have aX:(bX n.k f.cs cs).length=f.cs.length:=by simp[bX,bK]
    have dp:=(x4.1 bL).1;obtain⟨u,ah⟩:=aC (l:=f.cs) (i:=q) Ω;have bM:=(C.d7 f (x5 bL)).1.fP u (x5 ah);have bO:(eY n s sc cs q).d7[j]?=σ {f with cs:=jt (bX n.k f.cs cs) f.cs q}:=by
     rw[bN];exact Z5 dp
    have bQ:cc f.szs (b1 (aA n.co sc) (q:Int)) 0=σ (q:Int):=by
     rw[da];exact qZ bm.2 Ω Ω
    obtain⟨a8,bR⟩:=wp (f:={f with cs:=jt (bX n.k f.cs cs) f.cs q}) bO c9 bQ;have dq:bd f.szs (jt (bX n.k f.cs cs) f.cs q) (b1 (aA n.co sc) (q:Int))=u:=by
     unfold bd;rw[bQ];simp only[u7];rw[v8,Hf aX Ω,ah];rfl
    have bR:jL (eY n s sc cs q) j (b1 (aA n.co sc) (q:Int))=u:=bR.F dq;rw[av Ψ ((at_ Q p Φ).cell rfl),av Ψ ((at_ Q Y Φ).cell rfl),ct];refine(rA (H.W Q) (aR.W Q).ls).X ?_;rintro _ ch _ ⟨rfl,aE⟩;rw[m5 a8,bR,bn,bo];intro ci W _ _;have K:=(Q.F aE).F W;rw[av Ψ ((at_ K p Φ).cell rfl),av Ψ ((at_ K Y Φ).cell rfl),av Ψ ((at_ K M Φ).cell rfl),ct];refine ak.X (bB (at_ K p Φ) ⟨_,_,_,H.W K⟩ bM bF) ?_;rintro _ cj _ ⟨rfl,X⟩;have B:=K.F X;refine⟨.inl X,(FV (H.W B) bH (aR.W B).ls).X ?_⟩;rintro _ ck _ ⟨_,_,aU⟩;have aW:kQ (eY n s sc cs q) j q (min (u+c) n.k)=eY n s sc cs (q+1):=by
     unfold kQ;rw[bO,bN q,bN (q+1)];unfold dw;simp only[List.set_set];have:(bX n.k f.cs cs)[q]?=σ (min (u+c) n.k):=by
      unfold bX;rw[List.getElem?_zipWith,ah,aT]
     rw[Hg aX this]
    have U:=aU a8 ⟨Ω,Ω⟩ _ q bO bQ;rw[aW]at U;exact bE (bI B U)
   .unfold oc at O;rw[P]at O;exact m7 ⟨Ω,by simp only at O;omega⟩ b4
  .rintro q ez aM bb;rw[show q=N from aM,cZ]at bb;intro eA dr _;obtain⟨ds,dt,aN,aQ,du,dz,dA,dC⟩:=bb.W dr;exact⟨gM aD ds,dt,aN,R,aQ,(Grow.W aD).F du,dz,dA,dC,λr bz=>.inl bz⟩
end
open Classical in
section
variable{ap:List aw}{w J V:x3}{ac ad:Nat}{A R:ah}{n:aG}{s s1 s2 s':al}{t t':aw}
theorem UA{i:Int}(j:Nat):cG (iH s i) j=cG s j:=rfl
theorem eh.go{i:Int}{x:br}(hm:eh n s i x)(e:a6 n.k n.co s)(z:cw s):tk n (iH s i) (gA n s i x):=by
 have B:((gA n s i x).dZ.length:Int)=aB (aA n.co (gA n s i x).sc):=by
  have:=kC (rN (i:=i) e);have r:(gA n s i x).dZ.length=(aB (aA n.co (a1 n.co s i))).toNat:=tr (F:=λA=>(fo n.k s i x A).2);show((gA n s i x).dZ.length:Int)=aB (aA n.co (a1 n.co s i));omega
 refine⟨hm.has,?_,λq a=>?_,λh=>(fU.1 h).2.1 rfl,λf C r=>?_,B,λb j=>?_⟩
 .rw[UA];unfold cG;show(match s.d6[i.toNat]? with|some x=>decide (x.gone≠0)|none=>sp)=sp;rw[hm.at_];simp[hm.there]
 .have a:q<(a1 n.co s i).length:=a;have w:(a1 n.co s i)[q]?=σ (a1 n.co s i)[q]:=x6 a;have y:=x5 w;have h1:=(fU.1 y).1;refine⟨_,w,h1.1,h1.2,(show cG s _=sp from zH z e y),λp=>?_⟩;show(a1 n.co s i).getD (q-1) 0<_;rw[v8,x6 (show q-1<(a1 n.co s i).length by omega)];exact X5.1 rM (q-1) q Ω a Ω
 .obtain⟨g,_,_,_,_,E⟩:=wa C;exact(E r).2
 .obtain⟨h1,G,_⟩:=hm.size e;have j:b∈et (aA n.co (a1 n.co s i)) (a1 n.co s i) (λA=>(fo n.k s i x A).2):=j;obtain⟨q,_,rfl⟩:=o8.1 j;show-1<=(fo n.k s i x _).2/\(fo n.k s i x _).2<n.co.getD i.toNat 0;by_cases p:aM x=[]
  .unfold fo;rw[p];show(-1:Int)<= -1/\(-1:Int)<_;omega
  .have:=qa (Gz (k:=n.k) (of:=λv=>dS n.k x.un i (bs s i) (fT (fS (a1 n.co s i) (b1 (aA n.co (a1 n.co s i)) q)) i v)) tt p).1;unfold fo;omega
theorem Hh{i:Int}(h:be w ac ad A R n s t)(M:Laid w)(bg:¬A 0)(bh:dg ap t)(aF:cw s)(cp:s.d7.length<=999)(cq:s.elims.length<=100000):
  ak x7 Bl [Γ ac,Δ i,Δ most] w λr I=>r=Δ (gS n s i most)/\(gS n s i most≠0->Ext w I)/\(gS n s i most=0->qs ap w ac ad A R n (oa n s i most) I):=by
 have a:=h.2.2.2.1;have cr:=qq M;refine ay func24 ?_;refine(GU h Ω).X ?_;rintro _ J _ ⟨rfl,N⟩;rw[bz,aj];refine⟨λbi=>⟨rfl,λ_=>N,λh=>m7 h bi⟩,λy=>?_⟩;have y:=Z2.1 y;obtain⟨x,hm,he⟩:=GG a y;rw[he];have bj:=hm.rO;obtain⟨pos,z,ct,cu⟩:=hm.un a;obtain⟨bk,cz⟩:=zO a hm.has z;have aG:=(x4.1 z).1;obtain⟨cA,cB,cC⟩:=hm.size a;refine(Tl (h.W N) hm).X ?_;rintro _ V _ ⟨bl,g,cD,sv,aI,aU,rfl,⟨cF,cG,cH⟩,bm,O⟩;rw[bn,bo];have aH:=N.F bl;refine(vm O.ls mb).X ?_;rintro _ cI _ ⟨rfl,B⟩;rw[pU mb z];have aK:=aH.F B;refine(kN (i:=i) (h.W aK)).X ?_;rintro _ aN _ ⟨⟨b,m,rfl,ab⟩,C⟩;have af:=aK.F C;have bp:=n3 ab hm.has.1 hm.at_;have cJ:=(ab.2.2 x hm.has.1 hm.at_).1;refine(O5 ((bm.W B).W C) a.dy ab.1 (M.W af)).X ?_;rintro v5 aO _ ⟨aP,_,bq⟩;have br:(m:Int)=fc (aA n.co (bY n.co i (bs s i))) (pos:Int):=by
  unfold fc aA;rw[m5 Ω,u7,v8,x8,z];show(m:Int)=n.co.getD i.toNat 0;omega
 obtain⟨P,Q,aQ,ag,bv,rfl,ah,S,cK,cL,cM,al⟩:=bq pos rfl (by simpa[aA]using aG) br;have bu:nW b m=aM x:=bp;rw[bu]at ah S;obtain⟨bw,bx,bA⟩:=SN a hm.has hm.at_ z;rw[bw,bA]at ah;rw[bx]at S;rw[gY,gZ,ia,aL,lm Ω Ω];have aR:=af.F aP;have aT:=((O.W B).W C).W aP;have bB:(bY n.co i (bs s i)).length<=1000:=Ω
 refine(Ds aT aG bB).X ?_;rintro bC am _ ⟨U,aV⟩;rw[bk]at aV;have cN:=N.size;have cO:=aH.size;have cP:=af.size;have cQ:=aR.size;have ao:Ext w am:=aR.put U Ω;have cS:=kC (rN (i:=i) a);have cT:aU<aO.heap.size:=iy aT Ω;have cU:ag<aO.heap.size:=iy S (by rw[tr];omega);have bE:cd am P Q aQ (aA n.co (a1 n.co s i)) n.k (ts n s i x):=by
  have bF:aU<aN.heap.size:=iy ((O.W B).W C) Ω;exact cd.aa ah U (λh=>by have h:P=aU:=h;omega) (λ_ h=>by have h:Q=aU:=h;omega) λr f h=>by have h:r=aU:=h;have:=al r f;omega
 have bG:an .i64 ae am ag bv (gA n s i x).dZ:=by
  have bF:aU<aN.heap.size:=iy ((O.W B).W C) Ω;exact S.aa U λ_ h=>by have h:ag=aU:=h;omega
 refine(tj (i:=i) (h.W ao)).X ?_;rintro cV E _ ⟨G,cW,aW,_⟩;have H:=ao.F G;have cX:=H.size;have cY:=ao.size;have cZ:=U.size;have c0:=G.size;have W:=bE.W G;have bH:=bG.W G;have aX:=aV.W G;rw[aS ai.u aW.ls];have c1:(cR s i s.d7.length).length<=s.d7.length:=zK;refine ce.range (cR s i s.d7.length).length (λq aq=>dj ap E ac ad A R n (kT s ((cR s i s.d7.length).take q)) aq) Ω ⟨(Ext.refl _).aa _,M.W H,A,t,Grow.W (Ext.refl _),h.W H,bh,bg⟩ ?_ ?_
 .rintro q aq bI au K bJ;refine bt Ω ?_;obtain⟨j,av⟩:=aC (l:=cR s i s.d7.length) au;obtain⟨c2,c3,bK,aY,aZ,a2,bL⟩:=K.open;rw[ba ai.u ae.i Ψ (oU aW K.1 Φ).ls av];refine(Q9 (j:=j) bK a2.room).X ?_;rintro _ c4 _ ⟨_,aw⟩;obtain⟨_,bM,aJ,p,ax,a6⟩:=aw (SG av);rw[SH av]at a6;rw[aL];have:=qq aY;exact bJ _ (bL ⟨bM,gW ax.1 aZ aY,aJ,_,ax,a6,a2.set,λh=>(ax.2.1 0 h).elim aZ Ω⟩)
 .rintro aq bI K;rw[p8,SF]at K;refine b6 Ω ?_;obtain⟨L,bN,c5,bO,a7,bP,a8,bb⟩:=K;have bQ:=z8 W L;have bc:=oU bH L Φ;have az:=oU aX L Φ;rw[dq (cs:=#[Δ i,bC,bv]) (by obtain⟨_,_,_,rfl⟩:=cE az.ls;obtain⟨_,_,_,rfl⟩:=cE bc.ls;kernel_rfl)];have c6:=a8.olds;have bR:(gA n s i x).dZ.length<=1000000:=by
   have h1:=hm.prod a;have M:(gA n s i x).dZ.length=(aB (aA n.co (a1 n.co s i))).toNat:=tr (F:=λA=>(fo n.k s i x A).2);omega
  have c7:=hm.wb;refine(RT (e:=gA n s i x) bP Ω az.ls bc.ls bR (by show(a1 n.co s i).length<=_;omega) (by show s.elims.length<=_;omega)).X ?_;rintro _ bS _ ⟨_,aw⟩;obtain⟨_,X,aD,bT,bU,bV,p,Y,aE,_,bW⟩:=aw (hm.go a aF);have aE:be bS ac ad aD bT n (fu n s i x) _:=aE;have bX:dg ap ((bO.set 2 bU).set p bV):=a8.set.set;have bZ:=gW Y.1 bb bN;have c8:=L.size;have c9:=X.size;have b0:=z8 bQ X;have b1:=oU az X Φ;have b2:=rG h;have Z:∀r,w.heap.size<=r->r<E.heap.size->¬aD r:=λr h1 da b3=>by
   rcases Y.2.1 r b3 with bd|bd
   .rcases a7.2.1 r bd with bf|bf
    .have:=b2 r (.inl bf);omega
    .omega
   .omega
  have b4:¬aD 0:=λh=>(Y.2.1 0 h).elim bb Ω;have b5:Q<E.heap.size:=by obtain⟨⟨_,_,_,_,q⟩,_,_,au⟩:=id W;exact iy q (by rw[au];omega)
  have b7:P<E.heap.size:=by obtain⟨⟨_,_,q,_⟩,_⟩:=id W;exact q.lt
  have b8:∀r,li aQ r->r<E.heap.size:=λr f=>by
   obtain⟨⟨_,_,_,q,_⟩,_⟩:=id W;obtain⟨b9,ca⟩:=bD q f;omega
  have cb:(fu n s i x).d7.length<=999:=by rw[bj];show(s.d7.map _).length<=_;simp;omega
  refine(Uz aE bZ b4 bX b1 (λr f=>by
   obtain⟨b9,ca⟩:=bD aX f;exact Z r Ω Ω) b0 ⟨Z P Ω b7,Z Q Ω b5,λr f=>Z r (by have:=al r f;omega) (b8 r f)⟩ (hm.can a) (hm.wc a aF) cb).X ?_
  rintro _ db _ ⟨cc,cf,cg,ch,ci,cj,ck,cl,cm,cn⟩;refine⟨by rw[y],λh=>m7 y h,λ_=>?_⟩;refine⟨gM H (oO L (oO X cc)),cf,cg,ch,ci,(Grow.W H).F (a7.F (Y.F cj)),ck,cl,cm,λr f=>?_⟩;rcases cn r f with h1|h1|h1
  .exact (bW r h1).imp id λh=>Ω
  .exact .inr (by have:=al r h1;omega)
  .exact .inr Ω
theorem Hi{i:Int}(h:be w ac ad A R n s t)(e:Laid w)(f:¬A 0)(j:dg ap t)(p:cw s)(q:s.d7.length<=999)(x:s.elims.length<=100000):
  ak x7 Bl [Γ ac,Δ i,Δ most] w λr I=>r=Δ (gS n s i most)/\qs ap w ac ad A R n (oa n s i most) I:=by
 refine(Hh h e f j p q x).X ?_;rintro _ J _ ⟨rfl,h1,y⟩;refine⟨rfl,?_⟩;by_cases a:gS n s i most=0
 .exact y a
 .have:oa n s i most=s:=by unfold oa;rw[m6 a]
  rw[this];exact .same h e f j (h1 a)
end
def tD(n:aG)(s:al):Prop:=s.elims.length<=1000/\∀e∈s.elims,e.sc.length<=3/\(∀v∈e.sc,0<=v/\v<n.co.length)/\(0<=e.v/\e.v<n.co.length)/\(e.dZ.length:Int)=aB (aA n.co e.sc)/\aB (aA n.co e.sc)<=4096
theorem tD.b{n:aG}{s:al}(h:tD n s):rL s:=λe he=>by
 obtain⟨h1,_,_,a,f⟩:=h.2 e he;exact⟨Ω,Ω⟩
section
variable{w:x3}{ac ad:Nat}{A R:ah}{n:aG}{s:al}{t:aw}
end
theorem Hj{p:x1}{x:Λ}(aH:aF .u8 w p x)(W:Bytes x)(a6:fj w):ak x7 IE [p] w (R9 w (x.take 300)):=by
 refine ay func45 ?_;refine bu aZ.i λB J bP al ab=>?_;have ab:ag J B aZ z12:=ab;rw[aS cS.u (aH.W al),nC];refine LU (i:=min x.length 300) Ω cS.u cP.i (aH.W al) Ω λbQ am=>?_;have a7:x.take (min x.length 300)=x.take 300:=by
  by_cases h:x.length<=300
  .rw[Nat.min_eq_left h,p8,o7 h]
  .rw[Nat.min_eq_right Ω]
 rw[a7]at am;have af:Bytes (x.take 300):=λb a=>W b (V4 a);have ba:(x.take 300).length<=300:=by rw[j6];omega
 generalize x.take 300=q at am af ba;refine(Rc am Ω).X ?_;rintro bR V _ ⟨an,bS,ao⟩;have aI:=al.F an;refine(O2 ao.ls af Ω (a6.W aI)).X ?_;rintro bT bU _ ⟨X,C⟩;have aJ:=aI.F X;cases G:ie q with
 |none=>
  rw[G]at C;obtain⟨n,e,rfl,he⟩:=C;rw[gY,gZ,ia];refine(FA (ao.W X).ls af Ω).X ?_;rintro bb ap _ ⟨M,bc,bd,aq,_⟩;obtain rfl:=aq G;rw[gY,gZ,ia];refine aV (λv Y=>v= .bool rs/\Ext ap Y) ?_ ?_
  .rintro _ Y ⟨rfl,I⟩;rw[bZ,dq (cs:=#[Δ 0,.slice ν 0 0,Δ 0,.slice ν 0 0,.slice ν 0 0,.slice ν 0 0,.slice ν 0 0,.slice ν 0 0]) Ψ];obtain⟨_,_,s,E⟩:=FR;refine b4 (vs:=z12) aZ.i rfl rfl (by intro u Z;simp[z12]at Z;rcases Z with rfl|rfl|rfl|rfl<;>rfl) ((((ab.W an).W X).W M).W I) λbV bf bW bg=>?_;rw[fA aZ.p aZ.i rfl bg.range];refine⟨((aJ.F M).F I).then bf λr C he=>by have he:r=B:=he;omega,_,_,sp,rfl,⟨rfl,(FR).elim λ_ h=>by obtain⟨_,_,h⟩:=h;exact λu Z=>by simp[z12]at Z;rcases Z with rfl|rfl|rfl|rfl<;>rfl⟩,.inl ⟨rfl,rfl⟩,λf aK=>?_⟩;rw[G]at aK;cases aK
  .intro az K;rw[bz,aj];exact⟨λ_=>K _ _ ⟨rfl,Ext.refl _⟩,λh=>m7 he h⟩
 |some f=>
  rw[G]at C;obtain⟨bX,n,rfl,bh⟩:=C;obtain⟨N,bj,O,bk,bl⟩:=Ra Ω G;have P:=Ej O;have ah:=zf O;rw[gY,gZ,ia];refine(FA (ao.W X).ls af Ω).X ?_;rintro bb ap _ ⟨M,bc,bd,_,aq⟩;obtain⟨bY,rfl,bm⟩:=aq f G;rw[gY,gZ,ia];refine aV (λv Y=>v= .bool sp/\Ext ap Y) ?_ ?_
  rotate_left
  .intro az K;rw[bz,aj];refine⟨λh=>m7 rfl h,λ_=>?_⟩;rw[cV xm.u];exact K _ _ ⟨rfl,Ext.refl _⟩
  rintro _ Y ⟨rfl,I⟩;rw[aW];have aL:=(aJ.F M).F I;refine(P8 ((bh.W M).W I) O bj ⟨bk,bl⟩).X ?_;rintro b0 bp _ ⟨au,bq⟩;have ai:=aL.F au;have Q:=((((ab.W an).W X).W M).W I).W au;have aM:=(bm.W I).W au;have b1:=ai.size;have b2:w.heap.size<=B:=Ω
  have b3:=Q.lt;rcases bq with⟨br,e,he,rfl⟩|⟨b5,rfl,bs⟩
  .rw[bn,bo];refine Rb.X ?_;rintro _ aN _ ⟨rfl,j⟩;refine jb (λav t4 y=>av= .pointer ν/\t4= .bool sp/\Ext w y/\∃cs:List x1,ag y B aZ cs/\cs.length=8/\∀u∈cs,u.oneCell'=rs) ?_ ?_
   .rintro _ _ y ⟨rfl,rfl,aw,cs,ax,s,E⟩;rw[fA aZ.p aZ.i s ax.range];exact⟨aw,_,cs,sp,rfl,⟨s,E⟩,.inl ⟨rfl,rfl⟩,λb6 aO bt=>m7 bt (by rw[G]at aO;cases aO;exact br)⟩
   .intro az K;have bw:=j.size;refine(FK (aM.W j) O).X ?_;rintro bx aA _ ⟨z,aB⟩;refine(Gb (R:=λr=>w.heap.size<=r/\∃c,ag aA r ae c) (λr h=>h.2.elim λc a=>a.lt) (λr c W a=>⟨Ω,c,a⟩) aB P.1 ah).X ?_;rintro bA bB _ ⟨H,A9,cs,rfl,S,aC⟩;obtain⟨s,E⟩:=S.len;rw[bi,aj];refine⟨λh=>m7 h he,λ_=>?_⟩;refine b4 (vs:=cs) aZ.i s rfl E (((Q.W j).W z).W H) λbC L aP aD=>?_;exact K _ _ _ ⟨rfl,rfl,(((ai.F j).F z).F H).then L λr C he=>by have he:r=B:=he;omega,cs,aD,s,E⟩
  .rw[bn,bo];obtain⟨b7,bD,aQ,bE⟩:=bs;have z5:=aL.size;refine(Qr (R0:=λr=>w.heap.size<=r/\r<bp.heap.size) bD aQ (λr o h U=>⟨by have:=bE r o h U;omega,(Z9.1 (aQ.a8 r o h U)).1⟩) (λr h=>h.2) P.1 ah).X ?_;rintro _ aN _ ⟨j,ac,ad,A,R,t,rfl,bF,aR,aT,aU,bG⟩;have aX:be aN ac ad A R (dr f) (dt (dr f)) t:=⟨bF,aR,Rf P.1 ah aR aT,Qh P.1,P.1⟩;refine jb (λav t4 y=>av=Γ ac/\t4= .bool rs/\Ext w y/\∃cs:List x1,ag y B aZ cs/\cs.length=8/\(∀u∈cs,u.oneCell'=rs)/\∃R' A9 aE,be y ac ad A R' (dr f) (dt (dr f)) t/\ki rs A9 aE y cs (dr f).k (dr f).co (dt (dr f))/\(∀q r,A9 q r->¬A r/\¬R' r/\w.heap.size<=r)/\(∀r,aE r->¬dv y r/\r<y.heap.size/\w.heap.size<=r)/\∀r,R' r->w.heap.size<=r) ?_ ?_
   .rintro _ _ y ⟨rfl,rfl,aw,cs,ax,s,E,R',A9,aE,bH,S,bI,bJ⟩;rw[fA aZ.p aZ.i s ax.range];exact⟨aw,_,cs,rs,rfl,⟨s,E⟩,.inr ⟨rfl,f,G,ac,ad,A,R',t,N,A9,aE,O,rfl,bH,aT,λr C=>by have:=aU r C;omega,S,bI,bJ⟩,λ_ _ _=>rfl⟩
   .intro az K;have bw:=j.size;refine(FK (aM.W j) O).X ?_;rintro bx aA _ ⟨z,aB⟩;refine(Gb (R:=λr=>w.heap.size<=r/\∃c,ag aA r ae c) (λr h=>h.2.elim λc a=>a.lt) (λr c W a=>⟨Ω,c,a⟩) aB P.1 ah).X ?_;rintro bA bB _ ⟨H,A9,cs,rfl,S,aC⟩;obtain⟨s,E⟩:=S.len;rw[bi,aj];refine⟨λ_=>?_,λh=>m7 rfl h⟩;rw[BY dx.u];have aY:=((Q.W j).W z).W H;have bK:=((ai.F j).F z).F H;refine b4 (vs:=cs) aZ.i s rfl E aY λbC L aP aD=>?_;have a1:=(aX.W z).W H;obtain⟨R',a2,bL⟩:=a1.1.put aY L λh=>by have:=aU B h;omega
    have b8:=((ai.F j).F z).size;have b9:=H.size;obtain⟨_,_,_,_,⟨_,_,bM,bN⟩,_⟩:=(aX.W z).1;have ca:=Q.lt;have cb:=(j.F z).size;have bO:=S.aa L λr C h he=>by
     have he:r=B:=he;rcases h with⟨q,h⟩|⟨_,c,a⟩
     .have:=aC q r h;omega
     .subst he;exact m7 (eJ a (((Q.W j).W z))) Φ
    refine K _ _ _ ⟨rfl,rfl,bK.then L λr C he=>by have he:r=B:=he;omega,cs,aD,s,E,R',A9,_,⟨bL,a1.2⟩,bO,λq r h=>?_,λr h=>?_,λr h=>?_⟩
    .have cc:=aC q r h;refine⟨λaG=>by have:=bN r aG;omega,λaG=>by have:=bM r (a2 r aG).1;omega,Ω⟩
    .obtain⟨W,c,a⟩:=h;have cd:=a.lt;have aP:=L.size;refine⟨zc ((a.W H).aa L λhe=>?_) Φ,Ω,W⟩;have he:r=B:=he;subst he;exact m7 (eJ a (((Q.W j).W z))) Φ
    .rcases bG r (a2 r h).1 with h|h
     .exact h.1
     .omega
section
variable{Z aE:ah}{w I:x3}{ac ad am:Nat}{A R:ah}{A9:Nat->ah}{n:aG}{s s':al}{t:aw}{cs:List x1}{a:fW}
theorem UB(h:fp Z aE w ac ad am n s)(X:a.ok):ak x7 w8 [Γ ac,Γ am,.agg a.bP.toArray] w λ_ I=>lB Z aE w ac ad am n (nf n s a) I:=by
 obtain⟨A,R,A9,t,cs,p,⟨aC,S⟩,aD,U,aF⟩:=id h;have O:=p.eW.2.2.2.1;have bs:=O.dy;have bt:=a.Uh;have G:¬A 0:=λh=>S ((U 0).2 (.inl h));have Y:=Ui (a:=a) aD O;refine ay func88 ?_;refine bj λga J bu aG ab=>?_;have ab:ag J ga db [.int .u8 a.d,Δ a.i,Δ a.pos,Δ a.v,Δ a.c]:=ab;intro V aH _ _;have C:=aG.F aH;have B:=ab.W aH;have bw:=aG.size;have bx:=C.size;have bz:=B.lt;have af:(a.d % 7).toNat=a.kind:=rfl;obtain⟨d9,bA,bB,bC,bD,bE,aV,_⟩:=p.qh;have aW:cs[0]?=σ (Δ n.k):=by rw[aV];rfl
 have aX:V9.wrap a.c=a.c.emod 18446744073709551616:=rfl;have aY:0<=a.c.emod 18446744073709551616:=Int.emod_nonneg _ Φ;have bF:=Int.emod_nonneg (a.c.emod 18446744073709551616) (show n.k+1≠0 by omega);have bG:=Int.emod_lt_of_pos (a.c.emod 18446744073709551616) (show 0<n.k+1 by omega);have a1:a.c.emod 18446744073709551616 % (n.k+1)=Hc n.k a:=rfl;rw[aK db.p 4 B rfl,e9 ao.u fL.u,aN aZ.p 0 (p.box.W C) aW,aL,lm Ω Ω,e9 ao.u fL.u,lw (x:=n.k+1) Ω Ω,aX,sb Ω,Int.tmod_eq_emod_of_nonneg aY,e9 fL.u ao.u,lm Ω Ω,a1,
  aK db.p 0 B rfl,z1 X.1,af,bi,aj]
 have E:=p.W C;refine⟨λah=>?_,λah=>?_⟩
 .have ah:a.kind=6:=Ω
  have H:nf n s a=if eL n a.i a.v then eD s a.i.toNat a.v.toNat else s:=by unfold nf;rw[m5 ah]
  refine dh (λI=>lB Z aE w ac ad am n (nf n s a) I) (λI h=>h) λaz aI=>?_;rw[aK db.p 1 B rfl,aK db.p 3 B rfl];refine(zd (i:=a.i) (v:=a.v) E.eW (.inl p.jK.1)).X ?_;rintro bH bI _ ⟨a2,a6⟩;by_cases L:eL n a.i a.v
  rotate_left
  .obtain⟨rfl,a7⟩:=a2 L;rw[bi,aj];exact⟨λh=>m7 h Φ,λ_=>aI _ (by rw[H,m6 L];exact lB.same h (C.F a7))⟩
  obtain⟨rfl,aM,aJ,y,al,a8⟩:=a6 L;rw[m5 L]at H;rw[bi,aj];refine⟨λ_=>?_,λh=>m7 rfl h⟩;have ba:=E.prog aM al a8 E.jK.set (λ_ h=>.inl h) (λ_ _ _ h=>h) E.box.lt;obtain⟨bb,x,P,bc,bJ⟩:=Hd O L;obtain⟨an,W⟩:=U8 bb;rw[W,u7]at P;intro ap aq _ _;have j:=ba.W aq;have au:∀r,A r->r<w.heap.size:=λr h=>rG p.eW r (.inl h);have Q:=(B.aa al.1 λh=>by have:=au ga h;omega).W aq;rw[W]at Q;have aO:an<s.d6.length:=(x4.1 P).1;obtain⟨g,cap,aP,gy,e,aw,bd,be,bf,bg⟩:=Uj j P;have bK:=we x;have bL:x.un.length<=32:=by obtain⟨bM,aQ,bN,bh,_⟩:=L.var O;rw[W,u7,P]at aQ;cases aQ;exact bh
  have ax:∀r,li aP r->r≠ga/\r≠am:=λr f=>by
   have h1:A9 0 r/\r<V.heap.size:=bf r f;exact⟨λhe=>by have:=aF 0 r h1.1;omega,λhe=>(p.apart 0 r h1.1).2.2 he⟩
  rw[aN aZ.p 3 j.box aw,aK db.p 1 Q rfl,aN aZ.p 3 j.box aw,aK db.p 1 Q rfl,fs dk.u ai.i aO λ_=>rfl,av (v:=aP) (o:=0+an*1) Ψ bd,jX];refine(Gg (p:=λy=>decide (y=a.v)) be Ω λI y bk bO=>?_).X ?_
  .refine ay func167 ?_;rw[aK db.p 3 (Q.aa bk λh=>(ax ga h).1 rfl) rfl,bi];exact⟨rfl,Ext.refl _⟩
  rintro bQ aA _ ⟨aB,bl,bm⟩;have bn:=Q.aa aB λh=>(ax ga h).1 rfl;have bo:=j.box.aa aB λh=>(ax am h).2 rfl;refine⟨.inr ⟨mH Ψ (bn.cell (o:=0+1) rfl),Go.Vc.kG λK=>aT db.p rfl,mH Ψ (bo.cell (o:=0+3) aw),Go.Vc.kG λK=>aT aZ.p rfl,Go.Vc.kG λK=>bS,trivial⟩,?_⟩;rw[fs dk.u ai.i aO λ_=>rfl];refine bg (m:=((x.mask.toNat ||| 2 ^ a.v.toNat:Nat):Int)) (Ext.refl _) aB (by rw[zu bc];exact bl) bm λbR aR=>aI _ ?_;have bp:eD s a.i.toNat a.v.toNat={s with d6:=s.d6.set an {x with mask:=((x.mask.toNat ||| 2 ^ a.v.toNat:Nat):Int)}}:=by rw[W,u7];unfold eD;rw[P]
  rw[H];rw[<-bp]at aR;have bq:=dz.comp (aq.aa _) (λq r f=>.inl ⟨q,f⟩) aR;exact lB.before C (fp.Uk E U (by rw[<-H];exact Y) S (aC.W C) aM al (λq r (f:A9 q r/\r<V.heap.size)=>f.1) bq)
 have bT:(mh n.k a).kind=a.kind:=rfl;have H:nf n s a=(cL n.k s (mh n.k a)).1:=by unfold nf;rw[m6 Ω]
 rw[aK db.p 0 B rfl,z1 X.1,af,e9 cP.u ae.u,lm Ω Ω,aK db.p 1 B rfl,aK db.p 2 B rfl,aK db.p 3 B rfl];refine(TX (m:=mh n.k a) E O aD.1 Ω).X ?_;rintro _ ap _ ⟨rfl,aS⟩;obtain⟨aU,bU,bV,j,bW⟩:=id aS;have au:∀r,(∃q,A9 q r)\/r=am->r<w.heap.size:=λr f=>f.elim (λ⟨q,h⟩=>aF q r h) λh=>by rw[h];exact p.box.lt
 have z:=B.aa aU λf=>by have:=au ga f;omega
 have M:Laid ap:=gW aU (λh=>S ((U 0).2 (h.elim (λh=>.inr (.inr (.inl h))) λh=>.inr (.inr (.inr (.inr h)))))) (aC.W C);have N:∀{r:x1}{aA:x3},qp [] ap ac ad A R n s (mh n.k a) r aA->lB Z aE w ac ad am n (nf n s a) aA:=λbr=>by
  rw[H]at Y ⊢;exact lB.before C (fp.step E U Y S aS (Ext.refl _) br.2)
 rw[aK db.p 0 z rfl,z1 X.1,af,bi,aj];refine⟨λhk=>?_,λbX=>?_⟩
 .rw[aK db.p 1 z rfl,aK db.p 2 z rfl,aK db.p 3 z rfl];exact(TD (a:=mh n.k a) Ω j.eW M G j.jK.m).X λr I _ f=>N f
 rw[bi,aj];refine⟨λhk=>?_,λbY=>?_⟩
 .rw[aK db.p 1 z rfl,aK db.p 2 z rfl,aK db.p 3 z rfl];exact(TE (a:=mh n.k a) Ω j.eW M G j.jK.m).X λr I _ f=>N f
 rw[bi,aj];refine⟨λhk=>?_,λbZ=>?_⟩
 .rw[aK db.p 1 z rfl];exact(TL (a:=mh n.k a) Ω j.eW M G j.jK.m).X λr I _ f=>N f
 rw[bi,aj];refine⟨λhk=>?_,λb0=>?_⟩
 .rw[aK db.p 1 z rfl];exact(TN (a:=mh n.k a) Ω j.eW M G j.jK.m).X λr I _ f=>N f
 rw[bi,aj];refine⟨λhk=>?_,λb1=>?_⟩
 .rw[aK db.p 1 z rfl,aK db.p 3 z rfl];exact(TO (a:=mh n.k a) Ω j.eW M G j.jK.m).X λr I _ f=>N f
 .rw[aK db.p 1 z rfl,aK db.p 3 z rfl];exact(TP (a:=mh n.k a) Ω j.eW M G j.jK.m).X λr I _ f=>N f
end
section
variable{w0 w I:x3}{ac ad am:Nat}{n:aG}{s:al}{Z aE:ah}
theorem ng.UC{a:fW}(h:ng w0 w ac ad am n)(p:a.ok):ak x7 w8 [Γ ac,Γ am,.agg a.bP.toArray] w λ_ I=>ng w0 I ac ad am n:=by
 obtain⟨e,s,Z,aE,q,f⟩:=h;refine(UB q p).X ?_;rintro v J _ ⟨x,y,A,B⟩;have z:=e.size;exact⟨e.then x λr j h=>by have:=f r h.1;omega,_,y,aE,B,λr j=>(A r j).elim (f r) λh=>Ω⟩
theorem UD{e:x1}{L:List mg}{K:x1->x3->Prop}{i:Nat}{x:mg}(j:Seen ff w [e] L)(q:L[i]?=σ x)(r:∀g I,Ext w I->w.heap.size<=g->ag I g db (od x).bP->K (Γ g) I):
  ab x7 (j0 pv e (Δ (i:Int))) w λs=>
  ab x7 (u4 db s) w λt28=>
  aD x7 (S5 db rs (.tuple #[])) w λa f=>
  aD x7 (o6 db a t28) f λ(_:Unit)h=>K a h:=by
 refine nM (α:=mg) db.p rfl pv.u db.i j q λcs y=>?_;obtain rfl:=Uf y;refine bu db.i λgy f E z A=>?_;refine b4 (vs:=(od x).bP) db.i rfl rfl (fW.one _) A λh B F C=>?_;exact r _ _ (z.put B Ω) Ω C
theorem UE{r:x1}{L:List mg}{m:Int}{K:x3->Prop}(h:ng w0 w ac ad am n)(e:Seen ff w0 [r] L)(H:∀x∈L,(od x).ok)(J:∀I,ng w0 I ac ad am n->K I):
  ab x7 (X7 #[pv] ae #[r]) w λM=>
 ce (Δ 0) w λj a k=>
  ab x7 (aQ .lss ae sp sp j M) a λN=>
  Split N (ct (α:=x3->Prop) (λ(y:x3)=>
   ab x7 (aQ .add ae sp rs j (Δ 1)) y λO=>
   k O y) λz=>
  ab x7 (j0 pv r j) a λP=>
  ab x7 (u4 db P) a λQ=>
  aD x7 (S5 db rs (.tuple #[])) a λb A=>
  aD x7 (o6 db b Q) A λ(_:Unit)q=>
  ab x7 (aQ .lss ae sp rs j (Δ m)) q λR=>
  Split R (ab x7 (u4 db b) q λS=>
   ak x7 w8 [Γ ac,Γ am,S] q λZ B=>
   z B)
   (z q))
   (K a):=by
 rw[jf pv.u (bN e h.1)];refine ce.range L.length (λi s=>ng w0 s ac ad am n) (qP e) h ?_ ?_
 .rintro i s U hi f V;obtain⟨x,C⟩:=aC (l:=L) hi;have W:=H x (x5 C);refine bt Ω ?_;refine dh (λa=>ng w0 a ac ad am n) (λa X=>by rw[aL];exact V _ X) λaz E=>?_;refine UD (bN e f.1) C λgy A G _ Y=>?_;rw[aP,aj];refine⟨λ_=>?_,λ_=>E _ (f.W G)⟩;rw[bC db.p db.i rfl Y.range];exact((f.W G).UC W).X λv B _ e=>E _ e
 .rintro s U f;exact b6 Ω (J _ f)
end
def Hk(w:x3)(a:Λ)(r:x1)(I:x3):Prop:=Ext w I/\((∃cs:List x1,r= .tuple #[.pointer ν,.agg cs.toArray,.bool sp]/\cs.length=8/\∀u∈cs,u.oneCell'=rs)\/∃f ac ad am Z aE s cs,r= .tuple #[Γ ac,.agg cs.toArray,.bool rs]/\ie (a.take 300)=σ f/\
 fp Z aE I ac ad am (dr f) s/\i9 [] Z aE I ac ad am (dr f) s s cs/\∀r,Z r->w.heap.size<=r)
theorem UF{p U:x1}{C:Λ}{L:List mg}(au:aF .u8 w p C)(av:∀b∈C,0<=b/\b<256)(aw:Seen ff w [U] L)(ax:∀x∈L,(od x).ok)(az:fj w)(E:Laid w):ak x7 Bk [p,U] w (Hk w C):=by
 have aU:=qq E;refine ay func21 ?_;refine bu aZ.i λj J aV q W=>?_;have aX:=W.lt;have aY:=q.size;refine(Hj (au.W q) av (az.W q)).X ?_;rintro _ V _ ⟨G,a1,cs,ok,rfl,⟨H,I⟩,aA,_⟩;rw[gY,gZ,ia];refine bu aZ.i λam a2 a6 aB aC=>?_;refine b4 (vs:=cs) aZ.i H rfl I aC λX aG a7 Y=>?_;have aa:Ext V X:=aB.put aG Ω;have M:=G.F aa;have ae:=q.F M;have a8:=G.size;have out:∀{a:x3}{y:List x1}{K:x1->x3->Prop},Ext J a->ag a am aZ y->y.length=8->(∀u∈y,u.oneCell'=rs)->(∀e,af (λr=>r=j) a e->K (.agg y.toArray) e)->
   ab x7 (u4 aZ (Γ am)) a λt25=>aD x7 (o6 aZ (Γ j) t25) a λ(_:Unit)e=>ab x7 (do loadVar aZ (<-asAddr (Γ j))) e λr=>K r e:=λ{a y K}aH aI N aJ aK=>by
  rw[bC aZ.p aZ.i N aI.range];refine b4 (vs:=y) aZ.i N rfl aJ (W.W aH) λe O ba aL=>?_;rw[fA aZ.p aZ.i N aL.range];exact aK _ O
 have no:∀{e:x3},(∃a,Ext X a/\af (λr=>r=j) a e)->Hk w C (.tuple #[.pointer ν,.agg cs.toArray,.bool sp]) e:=λ⟨a,z,aM⟩=>⟨(ae.F z).then aM λr B h=>by have h:r=j:=h;omega,.inl ⟨cs,rfl,H,I⟩⟩;rcases aA with⟨rfl,rfl⟩|⟨rfl,f,aN,aO⟩
 .rw[bA,X1,bZ];intro a z _ _;exact out (M.F z) (Y.W z) H I λe O=>no ⟨a,z,O⟩
 obtain⟨ac,ad,Z,aE,rfl,ah,aP⟩:=TY aO aa Y Ω G.size (qq (E.W q)) (E.W ae);obtain⟨d9,bb,bc,bd,be,bf,bg,_⟩:=ah.look;rw[bA,Y2,aW];refine UE (w0:=J) ⟨M,_,Z,aE,ah,aP⟩ (bN aw q) ax λbh aQ=>?_;obtain⟨ai,s,aj,aR,aS,al⟩:=aQ;intro bi P _ _;have an:=aS.W P;obtain⟨Q,ao,aT⟩:=an.bK;have ap:Q.length=8/\∀u∈Q,u.oneCell'=rs:=by
  obtain⟨A,R,A9,t,p,_⟩:=id ao;exact cf.len p.doc
 have aq:∀r,aj r->¬r=j:=λr B h=>by have:=al r B;omega
 refine out (ai.F P) aT ap.1 ap.2 λbj S=>⟨((q.F ai).F P).then S λr B h=>by have h:r=j:=h;omega,.inr ⟨f,ac,ad,am,aj,aR,s,Q,rfl,aN,an.side S aq (λh=>by have h:0=j:=h;omega),ao.side S aq (λh=>by have h:0=j:=h;omega),λr B=>by have:=al r B;omega⟩⟩
def mi:Λ:=[116,32,50,32,50,32,49,32,57,32,50,32,50,32,50,32,48,32,49,32,48,32,51,32,48,32,49,32,53,32,49,32,48,32,50,32,49,32,49,32,49]
def kZ:ca:=⟨[116],9,[2,2],[⟨[0,1],[2,2],0,[([0,1],5),([1,0],2),([1,1],1)]⟩]⟩
theorem UG:ie mi=σ kZ:=by
 have h:(match ie mi with
  |some f=>decide (f=kZ)
  |none=>sp)=rs:=by decide+kernel
 cases a:ie mi with
 |none=>rw[a]at h;cases h
 |some f=>rw[a]at h;rw[ro h]
theorem UH:nX kZ.d7<=16384:=by decide+kernel
def ni:al:=oa (dr kZ) (dt (dr kZ)) 1 2
theorem UI:gS (dr kZ) (dt (dr kZ)) 1 2=0/\fG ni 0 0=0/\fG ni 0 1=1/\ni.elims.length=1/\(ni.elims[0]?.map λe=>e.dZ)=σ [0,1]/\ni.elims.all (λe=>decide (e.sc.length<=1000/\e.dZ.length<=5000))=rs/\(dt (dr kZ)).d7.length<=999:=by decide+kernel
theorem Hl:eL (dr kZ) 0 0/\eL (dr kZ) 0 1:=by decide+kernel
theorem UJ(aa:fj w)(C:Laid w):ak x7 Bh [] w λv I=>v= .bool rs/\Ext w I:=by
 refine ay func8 ?_;refine lM (k:=1) (cs:=(ints .u8 mi).toArray) cS.u cP.i Ω Ψ λg J bp a j=>?_;have G:an .u8 cP J g (.slice (σ ⟨g,0,ν⟩) 41 41) mi:=an.of (n:=41) (bW.full (by simpa using j) (by simp[mi]) (by simp[maxLen]));refine R8 j λq H K=>?_;have a:Ext w q:=a.put H Ω;have ab:aF .u8 q (.slice (σ ⟨g,0,ν⟩) 41 41) mi:=by
  obtain⟨af,b,o,base,cap,ag,ah,al,ao,ap⟩:=G.ls;cases ag;cases ao (by simp[mi]);exact⟨af,g,0,_,41,rfl,ah,al,λ_=>rfl,K _ _ ap⟩
 clear G j K H;refine(Hj ab (by intro b aq;simp[mi]at aq;omega) (aa.W a)).X ?_;rintro _ V _ ⟨au,aw,cs,ok,rfl,⟨ax,aA⟩,aB,aD⟩;have L:ie (mi.take 300)=σ kZ:=by
  rw[o7 Φ];exact UG
 have aG:ok=rs:=aD kZ L UH;subst aG;obtain⟨f,M,ac,ad,A,R,t,N,A9,aE,bq,rfl,aH,aI,O,_⟩:∃f,ie (mi.take 300)=σ f/\vW q.heap.size V aw cs f:=by
  rcases aB with⟨h,_⟩|⟨_,h⟩
  .cases h
  .exact h
 rw[L]at M;cases M;have P:=a.F au;rw[gY,gZ,ia];refine bu aZ.i λam br bs aK aL=>?_;refine b4 (vs:=cs) aZ.i ax rfl aA aL λaM aN bt bw=>?_;have s:Ext V aM:=aK.put aN Ω;have aO:=aH.W s;have aP:¬A 0:=λh=>by have:=O 0 h;have:=qq (C.W a);omega
 obtain⟨aQ,aR,aS,bx,Q,aU,aX⟩:=UI;refine aV (λv z=>v= .bool sp/\Ext w z/\∃A R t,be z ac ad A R (dr kZ) ni t) ?_ λaz aY=>?_
 .rintro _ z ⟨rfl,a1,bB,bC,t5,B⟩;rw[aW];refine(l2 (i:=0) (v:=0) B).X ?_;rintro _ S _ ⟨rfl,U⟩;rw[m5 Hl.1,bn,bo];refine(l2 (i:=0) (v:=1) (B.W U)).X ?_;rintro _ bD _ ⟨rfl,a2⟩;rw[m5 Hl.2,bn,bo];have W:=U.F a2;refine aV (λv a6=>v= .bool rs/\Ext w a6) (λ_ _ h=>h) λbE a7=>?_;have a8:fG ni (0:Int).toNat (0:Int).toNat=0:=aR;have ba:fG ni (0:Int).toNat (1:Int).toNat=1:=aS;rw[a8,ba,bi,aj];refine⟨λ_=>?_,λh=>m7 rfl h⟩;rw[bi,aj];refine⟨λ_=>?_,λh=>m7 rfl h⟩;have bb:rL ni:=λe he=>ro (List.all_eq_true.1 aU e he);refine(GK (B.W W) bb Ω).X ?_;rintro bF bG _ ⟨bc,bH,⟨E,X,bI,bd⟩,_⟩;obtain⟨e,he⟩:=aC (l:=ni.elims) (i:=0) Ω;obtain⟨x,Y⟩:=aC (l:=E) (i:=0) Ω;obtain⟨_,_,bJ,bf⟩:=bd 0 x e Y he;have bg:e.dZ=[0,1]:=by rw[he]at Q;exact Z7 Q
  rw[c5 (i:=0) (y:=0) rfl iq.u b2.i X Ω,aT b2.p rfl,av Ψ (X.range Y 2 _ rfl)];refine sj (l:=[0,1]) ai.u ae.i Ω rfl Ψ λbK bL bM _ Z bh=>?_;refine(se (bf.W Z).ls bh.ls).X ?_;rintro _ bN _ ⟨rfl,bj⟩;rw[bg];exact a7 _ _ ⟨rfl,a1.F (((W.F bc).F Z).F bj)⟩
 .rw[bA,Y2,aW];refine(Hi (i:=1) (most:=2) aO (C.W (P.F s)) aP aI.2.2.1.m (Gr _) aX (by show(0:Nat)<=_;omega)).X ?_;rintro _ S _ ⟨rfl,bO,bP,aJ,R',t',bk,bl,_⟩;have bm:Ext w S:=(P.F s).then bk.1 λr bQ h=>by have:=O r h;have:=a.size;omega
  rw[aQ,bz];exact aY _ _ ⟨rfl,bm,aJ,R',t',bl⟩
theorem UK{sv:x1}(h:aF .i64 w sv l)(U:∀x∈l,1<=x/\x<=32)(au:l.length<=64):
  ak x7 Iz [sv] w λv I=>Ext w I/\∃L,bH (e0 w.heap.size) bO I [v] L/\TZ l L:=by
 refine ay func34 ?_;have av:=lP l U;refine aV (λv V=>Ext w V/\∃b,v= .bool b/\(b=rs->l.length<=11/\aB l<=90)) ?_ λaz M=>?_
 rotate_left
 .rw[aS ai.u h,aP,aj];refine⟨λaw=>?_,λ_=>M _ _ ⟨Ext.refl _,sp,rfl,λh=>by cases h⟩⟩;refine(Ue h U).X ?_;rintro _ J _ ⟨⟨c,rfl,Q⟩,e⟩;rw[nA];exact M _ _ ⟨e,_,rfl,λh=>⟨Ω,by rw[<-Q Ω];exact ro h⟩⟩
 rintro _ J ⟨e,b,rfl,S⟩;rw[bM];refine⟨λW=>?_,λ_=>?_⟩
 .obtain⟨ax,aA⟩:=S W;refine(xI l (h.W e) ⟨Ω,U,Ω⟩).X ?_;rintro v V _ ⟨f,p⟩;have aD:=jz U;have X:=e.size;exact⟨e.F f,bk l,aq.X p (λr _ h=>by have h:J.heap.size<=r:=h;show w.heap.size<=r;omega) λ_ _ h=>h,Ω,λa C=>Ub C⟩
 have X:=e.size;refine bT.range 60 (λk out V=>Ext J V/\bH (e0 J.heap.size) bO V [out] ((Z4 k).map (mf l))) Ω ⟨Ext.refl _,iw⟩ ?_ ?_
 .rintro k out V Y hk ⟨f,p⟩ Z;refine bt Ω ?_;have E:=e.F f;rw[aS ai.u (h.W E)];refine jy (k:=.i64) ai.u ae.i Ω Ω λs aa aE N O=>?_;have ab:an .i64 ae aa s (.slice (σ ⟨s,0,ν⟩) l.length l.length) (u9 l.length 0):=by
   refine an.of (n:=l.length) ⟨Ξ,.inr ⟨l.length,ints .i64 (u9 l.length 0),rfl,O,Ω,by simp only[maxLen];omega,Ξ,Ξ⟩⟩
  have ac:=E.F N;have aG:=f.size;have aH:=O.lt;rw[aS ai.u (h.W ac)];refine ce.range l.length (λq B=>Ext V B/\an .i64 ae B s (.slice (σ ⟨s,0,ν⟩) l.length l.length) (upto (mf l k) 0 q)) h.le ⟨N,by rw[mK,tC];exact ab⟩ ?_ ?_
  .rintro q B ad af ⟨y,j⟩ ag;obtain⟨z,G⟩:=aC (l:=l) af;have aI:=U z (x5 G);refine bt Ω ?_;have aJ:0<=(k:Int)*(2*(q:Int)+1)/\(k:Int)*(2*(q:Int)+1)<=60*200:=⟨Int.mul_nonneg Ω Ω,Int.mul_le_mul Ω Ω Ω Ω⟩;have aK:0<=(k:Int) / 3/\(k:Int) / 3<=60:=Ω
   have aM:(2*(q:Int)+1)=2*(q:Int)+1:=rfl;rw[ba ai.u ae.i Ψ (h.W (E.F y)) G,fO,lm (x:=2*(q:Int)) Ω Ω,aL,lm Ω Ω,fO,lm Ω Ω,sa Φ,Int.tdiv_eq_ediv_of_nonneg Ω,lm Ω Ω,aL,lm Ω Ω,sb Ω,Int.tmod_eq_emod_of_nonneg Ω,
    gb rfl ai.u ae.i j (by rw[lg,tC];omega)]
   refine gd ae.i j (by rw[lg,tC];omega) λah H aN al=>?_;rw[aL];refine ag _ ⟨y.then H λr am he=>by have he:r=s:=he;omega,?_⟩;rw[<-mM (Hb G)];exact al
  rintro B ad ⟨y,j⟩;refine b6 Ω ?_;rw[show upto (mf l k) 0 l.length=mf l k by rw[<-tC l k,mL]]at j;have z4:=y.size;refine la (α:=Λ) (a:=mf l k) (A:=e0 V.heap.size) (R:=bO) dk.u ai.i Φ (qO (mD j (R:=bO))) (aq.X (mD j) (λr _ h=>by subst h;show V.heap.size<=r;omega) λ_ _ h=>h) λaO ah K _ H=>?_;have P:=y.F K;have z5:=K.size;refine ox (α:=Λ) (a:=mf l k) (A:=e0 V.heap.size) dk.u ai.i rfl (bN (nI p) P) H (bN (aq.X (mD j) (λr _ h=>by subst h;show V.heap.size<=r;omega) λ_ _ h=>h) K) (λr _ h bf=>?_) (by simp only[r9,List.length_range];omega) (by simp only[r9,List.length_range];omega) λaQ aR ao ap=>?_
  .rcases bf with bf|bf
   .have:=h.2;have:V.heap.size<=r:=bf;omega
   .exact bf
  rw[aL];refine Z _ _ ⟨(f.F P).then ap (λr am h=>by have:=h.1;have:J.heap.size<=r:=this;omega),?_⟩;rw[List.range_succ,n9,List.map_singleton];refine aq.X ao (λr _ h=>?_) λ_ _ h=>h;show J.heap.size<=r;rcases h with h|h|h
  .exact h.1
  .have:V.heap.size<=r:=h;omega
  .omega
 .rintro out V Y ⟨f,p⟩;rw[show((60:Nat):Int)=60 from rfl,aP,aj];refine⟨λh=>Ω,λ_=>⟨e.F f,_,aq.X p (λr _ h=>by have h:J.heap.size<=r:=h;show w.heap.size<=r;omega) λ_ _ h=>h,Ξ,λa C=>?_⟩⟩;obtain⟨k,_,rfl⟩:=o8.1 C;exact Ua k U
structure mj(ap:List aw)(S:ah)(w0 w:x3)(ac ad am:Nat)(n:aG)(s s0:al)(cs:List x1):Prop where
 W:Ext w0 w
 bK:nh ap S w ac ad n s s0 cs
 low:∀r,r<w0.heap.size->S r
 Aa:S am
 box:ag w am aZ cs
section
variable{ap:List aw}{S:ah}{w0 w I J:x3}{ac ad am:Nat}{n:aG}{s s0 s1:al}{cs:List x1}
theorem mj.own(h:mj ap S w0 w ac ad am n s s0 cs)(a:Ext w I):mj ap (λr=>S r\/(w.heap.size<=r/\r<I.heap.size)) w0 I ac ad am n s s0 cs:=
 ⟨h.W.F a,h.bK.own a,λr e=>.inl (h.low r e),.inl h.Aa,h.box.W a⟩
theorem mj.look(h:mj ap S w0 w ac ad am n s s0 cs):n5 w am n.k n.co s0:=by
 obtain⟨_,_,_,h1,_⟩:=id h.bK;exact io.box h1.ok.2 (Ext.refl _) h.box
theorem mj.eW(h:mj ap S w0 w ac ad am n s s0 cs):∃A R t,be w ac ad A R n s t/\Laid w/\¬A 0/\dg ap t:=by
 obtain⟨A,R,t,h1,a,e,f,_⟩:=h.bK.qt;exact⟨A,R,t,h1,a,e,f⟩
theorem mj.qt(h:mj ap S w0 w ac ad am n s s0 cs):∃A R t,be w ac ad A R n s t/\Laid w/\¬A 0/\dg ap t/\∀{J V:x3}{s1:al},Ext w J->qs ap J ac ad A R n s1 V->af (λr=>¬S r) w V/\mj ap S w0 V ac ad am n s1 s0 cs:=by
 obtain⟨A,R,t,h1,f,j,p,q⟩:=h.bK.qt;refine⟨A,R,t,h1,f,j,p,λ{J V s1}x hm=>?_⟩;obtain⟨a,y⟩:=q x hm;exact⟨a,h.W.then a λr z e=>e (h.low r z),y,h.low,h.Aa,h.box.aa a λe=>e h.Aa⟩
structure tE(n:aG)(s:al):Prop where
 ok:a6 n.k n.co s
 zJ:cw s
 gone:∀j,cG s j=sp
 d7:s.d7.length<=256
 elims:s.elims=[]
theorem UL{p G:x1}{H:Λ}{L:List mg}{w:x3}{Q:x1->x3->Prop}{K:x1->x1->x1->x3->Prop}(aa:aF .u8 w p H)(ae:∀b∈H,0<=b/\b<256)(af:Seen ff w [G] L)(ag:∀x∈L,(od x).ok)(I:fj w)(M:Laid w)(ah:∀am a,Ext w a->K (.pointer ν) (Γ am) (.bool sp) a)(ai:∀n s ac ad am S cs a,tE n s->mj [] S w a ac ad am n s s cs->K (Γ ac) (Γ am) (.bool rs) a):
  ak x7 Bh [] w λaj J=>
   ab x7 (Op.unary .not aj) J λal=>
   Split al (Q (.bool sp) J)
    (ak x7 Bk [p,G] J λt28 V=>
   ab x7 (c7 t28 0) V λan=>
   ab x7 (c7 t28 1) V λao=>
   ab x7 (c7 t28 2) V λap=>
   aD x7 (S5 aZ rs (.tuple #[])) V λx h=>
   aD x7 (o6 aZ x ao) h λ(_:Unit)a=>K an x ap a):=by
 refine(UJ I M).X ?_;rintro _ J _ ⟨rfl,e⟩;rw[bA,Y2,aW];refine(UF (aa.W e) ae (bN af e) ag (I.W e) (M.W e)).X ?_;rintro _ V _ ⟨N,aq⟩;have O:=e.F N;have aH:=e.size;have aI:=N.size;rcases aq with⟨cs,rfl,au,av⟩|⟨f,ac,ad,aJ,Z,aE,s,cs,rfl,aK,P,U,aw⟩
 .rw[gY,gZ,ia];refine bu aZ.i λam h ax q y=>?_;refine b4 (vs:=cs) aZ.i au rfl av y λa z ay C=>?_;exact ah _ _ (O.F (q.put z Ω))
 rw[gY,gZ,ia];have W:cs.length=8/\∀u∈cs,u.oneCell'=rs:=by
  obtain⟨A,R,A9,t,p,_⟩:=id U;exact cf.len p.doc
 refine bu aZ.i λam h ax q y=>?_;refine b4 (vs:=cs) aZ.i W.1 rfl W.2 y λa z ay C=>?_;have X:Ext V a:=q.put z Ω;have az:=O.F X;obtain⟨aA,aB,Y,_⟩:=P.ok;have aC:=P.live;refine ai (dr f) s ac ad am _ cs a ⟨aA,aB,λj=>?_,aC.2,Y.elims⟩ ⟨az,nh.start U (B:=w.heap.size) (λr E=>by have:=aw r E;omega) X Ω,λr E=>.inl E,.inr ⟨Ω,C.lt⟩,C⟩;unfold cG;cases aG:s.d6[j]? with
 |none=>rfl
 |some x=>simp[Un Y aG]
theorem tE.wy(h:tE n s):tD n s:=⟨by rw[h.elims];simp,λe he=>by rw[h.elims]at he;cases he⟩
theorem tE.b(h:tE n s):rL s:=h.wy.b
theorem eh.wy{i:Int}{x:br}(hm:eh n s i x)(a:a6 n.k n.co s)(h:cw s)(j:tD n s)(q:s.elims.length<1000):tD n (gR n s i x):=by
 have f:=hm.all a h;refine⟨by rw[f.elims];simp;omega,λe he=>?_⟩;rw[f.elims]at he;rcases o9.1 he with he|he
 .exact j.2 e he
 .rw[b8.1 he];refine⟨hm.wb,λv p=>(fU.1 p).1,hm.has,?_,hm.prod a⟩;have:=kC (rN (i:=i) a);have r:(gA n s i x).dZ.length=(aB (aA n.co (a1 n.co s i))).toNat:=tr (F:=λA=>(fo n.k s i x A).2);show((gA n s i x).dZ.length:Int)=aB (aA n.co (a1 n.co s i));omega
theorem UM{p aJ:x1}{aM:Λ}{L:List mg}{i:Int}{w:x3}{Q:x1->x3->Prop}(aa:∀I,Ext w I->Q (.bool rs) I)(bE:aF .u8 w p aM)(bF:∀b∈aM,0<=b/\b<256)(bG:Seen ff w [aJ] L)(bH:∀x∈L,(od x).ok)(bI:fj w)(bJ:Laid w):
  ak x7 Bg [p,aJ,Δ i,Δ most] w Q:=by
 refine ay func5 ?_;refine UL bE bF bG bH bI bJ (λam bL bM=>?_) λn s ac ad am S cs bL z N=>?_
 .rw[bA,X1,bZ,cV dx.u];exact aa _ bM
 rw[bA,Y2,aW];have e:=z.ok;have K:=z.zJ;have cP:=z.d7;obtain⟨A,R,t,ab,bO,cQ,cR,cS⟩:=N.qt;refine(GO ab bO z.b Ω (by rw[z.elims];simp)).X ?_;rintro aN cT _ ⟨aP,aQ,bP,bQ⟩;refine(N.look.W aP).load λu B=>?_;refine(Uq (i:=i) (most:=most) B e Ω).X ?_;rintro _ cU _ ⟨rfl,aR⟩;have aU:=aP.F aR;refine(GU (i:=i) (most:=most) (ab.W aU) Ω).X ?_;rintro _ bR _ ⟨rfl,aX⟩;have aY:=aU.F aX;rw[bz,aj];refine⟨λh=>m7 rfl h,λ_=>?_⟩;refine aV (λv a2=>v= .bool sp/\Ext bR a2) ?_ λaz V=>?_
 rotate_left
 .intro cW af _ _;have a6:=aY.F af;refine(N.look.W a6).load λu B=>?_;refine(zr (i:=i) B).X ?_;rintro _ cX _ ⟨rfl,ag⟩;have a7:=a6.F ag;rw[aj];refine⟨λ_=>?_,λ_=>⟨.inl (Ext.refl _),V _ _ ⟨rfl,af.F ag⟩⟩⟩;refine(N.look.W a7).load λu B=>?_;refine(GS (i:=i) (ab.W a7) Ω).X ?_;rintro _ cY _ ⟨rfl,ah⟩;refine⟨.inl ah,?_⟩;refine(z6 (i:=i) (B.W ah) e Ω).X ?_;rintro _ cZ _ ⟨bS,c0,_,bU⟩;rw[aS ai.u bU.ls,bz];exact V _ _ ⟨by rw[pl (λh=>h rfl)],((af.F ag).F ah).F bS⟩
 rintro _ a2 ⟨rfl,a8⟩;have al:=aY.F a8;rw[aW];refine(N.look.W al).load λu B=>?_;refine(z6 (i:=i) B e Ω).X ?_;rintro dY bV _ ⟨ba,di,c1,bb⟩;have bc:=al.F ba;have bW:=N.own bc;obtain⟨A9,aE,t9,bX,bY,b0,b1,b3⟩:=bW.qt;refine(Hi (i:=i) (most:=most) bX bY b0 b1 K Ω (by rw[z.elims];simp)).X ?_;rintro _ b4 _ ⟨rfl,O⟩;obtain⟨bd,C⟩:=b3 (Ext.refl _) O;rw[bz,aj];refine⟨λh=>m7 rfl h,λ_=>?_⟩;rw[bz,aj];have c2:=bc.size;have c3:=al.size;have be:an .i64 ao bV aQ aN (wi s):=(((bP.W aR).W aX).W a8).W ba;have b5:an .i64 ao b4 aQ aN (wi s):=bl be bd λr W ap=>ap (.inr ⟨bQ r W,by obtain⟨X,bf⟩:=bD be W;omega⟩);refine⟨λb7=>?_,λaq=>?_⟩
 .
  have b8:oa n s i most=s:=by unfold oa;rw[m6 b7]
  rw[b8]at C;obtain⟨b9,ca,cb,G,au,_⟩:=C.eW;refine(GO G au z.b Ω (by rw[z.elims];simp)).X ?_;rintro c4 c6 _ ⟨bg,c7,cc,_⟩;refine(Ci cc.ls (b5.W bg).ls).X ?_;rintro _ c8 _ ⟨rfl,cd⟩;rw[ms rfl];exact aa _ ((C.W.F bg).F cd)
 have aq:=Z2.1 aq;obtain⟨x,hm,he⟩:=GG e aq;have H:=hm.all e K;have aw:=hm.wy e K z.wy (by rw[z.elims];simp);rw[he]at C;obtain⟨b9,ca,cb,G,au,ce,cf⟩:=C.eW;have c9:=H.d7;refine(GK G aw.b (by have:=aw.1;omega)).X ?_;rintro da bh _ ⟨M,db,⟨E,P,O,cg⟩,_⟩;have Y:(gR n s i x).elims=[gA n s i x]:=by rw[H.elims,z.elims];rfl
 have bi:cG (gR n s i x) i.toNat=rs:=by rw[H.gone];simp
 refine aV (λv bj=>v= .bool sp/\Ext bh bj) ?_ λaz V=>?_
 rotate_left
 .have ch:=hm.has.1;refine(oT (i:=i) (G.W M)).X ?_;rintro _ dc _ ⟨rfl,bk⟩;rw[bi,ms ch,bA,Bool.and_true,Y2,aW];refine(tj (i:=i) (G.W (M.F bk))).X ?_;rintro dd de _ ⟨ci,df,bm,_⟩;rw[zv.2 H.rJ]at bm;rw[aS ai.u bm.ls,bz,aj];refine⟨λh=>m7 rfl h,λ_=>?_⟩;have bp:=bk.F ci;refine(GS (i:=i) (G.W (M.F bp)) Ω).X ?_;rintro _ dg _ ⟨rfl,cj⟩;have ck:a1 n.co (gR n s i x) i=[]:=List.eq_nil_iff_forall_not_mem.2 λv ax=>by
   obtain⟨_,_,f,cl,h1,cm,_⟩:=fU.1 ax;exact H.rJ f cl h1 cm
  rw[ck,bz,aj];refine⟨λh=>m7 rfl h,λ_=>?_⟩;have J:=bp.F cj;rw[eI iq.u (P.W J),O,Y,bz,aj];refine⟨λh=>m7 rfl h,λ_=>?_⟩;obtain⟨y,aA⟩:=aC (l:=E) (i:=0) (by rw[O,Y];simp);obtain⟨X,⟨dh,bf⟩,_⟩:=cg 0 y (gA n s i x) aA (by rw[Y];rfl);have X:y.v=i:=X;have bq:0<E.length:=by rw[O,Y];simp
  rw[c5 (i:=0) (y:=0) rfl iq.u b2.i (P.W J) bq,aT b2.p rfl,av Ψ ((P.W J).range aA 0 _ rfl),X,bz,aj];refine⟨λh=>m7 rfl h,λ_=>?_⟩;rw[c5 (i:=0) (y:=0) rfl iq.u b2.i (P.W J) bq,aT b2.p rfl,av Ψ ((P.W J).range aA 1 _ rfl)];have cn:an .i64 ae bh di dY (a1 n.co s i):=(bl bb bd λr W ap=>ap (.inr (by obtain⟨dj,dl⟩:=bD bb W;omega))).W M;refine(se (bf.W J).ls (cn.W J).ls).X ?_;rintro _ dm _ ⟨rfl,cp⟩;rw[show(gA n s i x).sc=a1 n.co s i from rfl,ms rfl,bA,Y2,aW];have aB:=J.F cp;have br:gS n (gR n s i x) i most=1:=by
   unfold gS iG;rw[bi];simp
  refine(Hh (i:=i) (most:=most) (G.W (M.F aB)) (au.W (M.F aB)) ce cf H.zJ Ω (by have:=aw.1;omega)).X ?_;rintro _ dn _ ⟨rfl,cq,_⟩;rw[br,bz];exact V _ _ ⟨by rw[pl λh=>h rfl],aB.F (cq (by rw[br];decide))⟩
 rintro _ bj ⟨rfl,cr⟩;rw[aW];have bs:=M.F cr;have ct:=C.look.W bs;obtain⟨d9,dp,dq,dr,ds,dt,cu,cw,_⟩:=id ct;rw[aK aZ.p 1 cu rfl];refine(UK cw e.cF.2.2 e.cF.2.1).X ?_;rintro bK cz _ ⟨cA,bu,cB,du,cC⟩;have aD:=jY cB;rw[jf dk.u aD];have bw:=bs.F cA;refine bT.range bu.length (λ_ _ aG=>Ext cz aG) (qP aD) (Ext.refl _) ?_ ?_
 .rintro q c aG cD cE U cH;obtain⟨tl,bx⟩:=aC (l:=bu) cE;have bB:=Uc e (cC tl (x5 bx));have aH:=Sx hm e K bB;have cI:e5 (fu n s i x) tl:=Su H.ok (hm.tu e) (λj=>by rw[H.gone,hm.zI e]) aH;refine bt Ω ?_;refine kx (α:=Λ) (a:=tl) rfl rfl dk.u ai.i Ψ (bN aD U) bx λaO Z=>?_;have Z:=eC (jY Z);have bC:=bw.F U;refine(Q8 (G.W bC) Z).X ?_;rintro _ dv _ ⟨⟨cJ,_⟩,aI⟩;rw[cJ aH,bn,bo];have cK:=bC.F aI;refine(C.look.W cK).load λu B=>?_;refine(Ur (i:=i) B e K hm.has.1 hm.at_ (Z.W aI) bB.1 λv ax=>Sw hm e K aH (qa ax)).X ?_;rintro _ cL _ ⟨cM,rfl⟩;rw[bn,bo];refine aV (λv cN=>v= .bool sp/\cN=cL) ?_ λdw cO=>?_
  .rintro _ _ ⟨rfl,rfl⟩;rw[aW,aL];exact cH _ _ ((U.F aI).F cM)
  .rw[bz,aj];refine⟨λh=>m7 rfl h,λ_=>?_⟩;rw[(hm.val e K cI).1,bz];exact cO _ _ ⟨by rw[pl λh=>h rfl],rfl⟩
 .rintro c aG cD U;exact b6 Ω (aa _ ((C.W.F bw).F U))
theorem UN{p a:x1}{e:Λ}{L:List mg}{i:Int}{w:x3}(f:aF .u8 w p e)(j:∀b∈e,0<=b/\b<256)(q:Seen ff w [a] L)(r:∀x∈L,(od x).ok)(s:fj w)(y:Laid w):
  ak x7 Bg [p,a,Δ i,Δ most] w λv I=>v= .bool rs/\Ext w I:=UM (λ_ h=>⟨rfl,h⟩) f j q r s y
end
end Go.Proofs.YtkcigodpbndobaaGreatDoor
