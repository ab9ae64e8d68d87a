/- own texts, made small by a tool (wip/ holds them as they were written): no statement of the seat. -/
import Derived.Test.YtlcdcbgoaljiiaaGreatDoorYc
set_option linter.unusedVariables false
set_option linter.unusedSimpArgs false
set_option linter.unnecessarySimpa false
open BitVec renaming ofInt→U6
open Bool renaming false→sp,true→s2,not_true→Y7,not_false→X5,eq_iff_iff→U1,or_eq_false_iff→T4,and_eq_true→T9,true_and→S7
open Decidable renaming not_not→X1
open Go renaming Value→x4,World→x5,TypeId→o4,IntKind→o8,Program→X8
open Go.Builtin renaming append_→c9,len_→X7
open Go.Instr renaming loadAt→u5,fieldAt→u6,storeAt→o7,indexAt→n9,extract→Z7,buildSlice→Y3,sliceAt→V5
open Go.IntKind renaming i64→X4
open Go.Proofs.Tryz renaming prog→x8
open Int renaming toNat_natCast→u7,le_refl→T3
open List renaming getElem?_eq_some_iff→x6,mem_of_getElem?→x7,getElem?_eq_getElem→v8,getElem?_map→u4,take_add_one→u9,getD_eq_getElem?_getD→r8,length_map→r9,replicate→o5,take_length→o9,mem_map→l9,take_of_length_le→j5,length_append→j6,mem_append→j9,eq_nil_of_length_eq_zero→b8,map_append→Z0,length_take→Z3,getElem?_set_self→Z6,length_set→Y0,ext_getElem?→Y2,mem_singleton→Y4,mem_iff_getElem?→Y5,getElem?_set_ne→Y8,range→Y9,drop_eq_getElem_cons→X2,getElem?_append_right→X3,getElem?_set→X6,length_eq_one_iff→X9,length_cons→W0,getElem?_eq_none→W7,getElem?_take_of_lt→V1,getElem?_append_left→V9,map_set→U2,mem_or_eq_of_mem_set→U5,set_append_right→U7,flatMap_cons→T0,append_assoc→T1,append_nil→T5,map_map→T6,getElem_mem→S3,mem_filter→S6
open Nat renaming le_refl→o6,le_trans→X0,zero_le→W3,zero_add→V0,mul_le_mul_right→V4,sub_self→V7,pow_le_pow_right→T2,add_mul→T7
open Option renaming toList_some→j4,isNone_some→b9,map_eq_some_iff→Z9,map_some→Y6,map→V6,isSome_some→T8,isSome_none→S4
open Option.some renaming inj→Z5,injEq→W6
open Prod.mk renaming injEq→R2
set_option maxHeartbeats 16000000
open Option renaming some→σ,none→ν
variable{I w:x5}{B N af ag gz j pos:Nat}{S:Nat->Prop}{c k n v y:Int}{all an cs l pl d6 t tl:Λ}{aX hv z:x4}{K:x4->x5->Prop}{P e:o4}{L:List (Λ)}
namespace Go.Proofs.YtlcdcbgoaljiiaaGreatDoor
open Go Go.Vc Go.RowKit Go.Proofs Go.Proofs.Tryz
set_option maxRecDepth 100000
theorem QD{lo hi:Int}{so:Option aN}:bk lo hi so=match kP so with
  |none=>ν
  |some (w,s)=>match ik w with
   |none=>ν
   |some n=>if lo<=n/\n<=hi then σ (n,s)else ν:=by
 cases so with
 |none=>rfl
 |some s=>rfl
theorem l0{g:Nat}{H:aj}{so:Option aN}{lo hi:Int}(h:bX w g B H N so):aq x8 nv [Γ g,Δ lo,Δ hi] w λv I=>q3 w g B H N ((bk lo hi so).map (·.2)) I/\∃n at_:Int,v= .tuple #[Δ n,Δ at_]/\(∀q,bk lo hi so=σ q->n=q.1)/\(bk lo hi so=ν->n=0):=by
 have aw:=h.lt;refine aE func119 ?_;refine(ET h).Y ?_;rintro _ U _ ⟨⟨M,h1⟩,t,at_,rfl,W,ay,O⟩;have aA:=h1.lt;refine bF cH.i λaB ab aC X Y=>?_;refine cd (vs:=[ch t,Δ at_]) cH.i rfl rfl (by intro v ac;simp at ac;rcases ac with rfl|rfl<;>rfl) Y λZ ad aD P=>?_;have Q:Ext U Z:=X.put ad Ω;have ae:=h1.W Q;rw[aP cH.p 0 P rfl];refine(Qv W Ω).Y ?_;rintro _ C _ ⟨rfl,E⟩;have G:=ae.W E;have R:=P.W E;have af:=Q.F E;have aF:=M.size;obtain⟨n,e,ag,J,ah⟩:∃n e:Int,lQ t= .tuple #[Δ n,Δ e]/\(∀m,ik t=σ m->n=m/\e=0)/\(ik t=ν->e≠0):=by
  unfold lQ;cases ik t with
  |none=>exact⟨0,4,rfl,(λm hm=>by cases hm),λ_=>Ω⟩
  |some m=>exact⟨m,0,rfl,(λm hm=>by cases hm;exact⟨rfl,rfl⟩),λh=>by cases h⟩
 rw[ag,bA,bB];have a:=QD (lo:=lo) (hi:=hi) (so:=so);have S:ai (λr=>r=g) w C:=M.F (af.aa _);refine dd (λx=>ai (λr=>r=g) C x/\bX x g B H N ((bk lo hi so).map (·.2))) ?_ ?_
 .rintro x ⟨y,s⟩;rw[sL s];cases z:bk lo hi so with
  |none=>
   rw[z]at s;rw[Option.map_none,S4,X5,bT];exact⟨⟨S.F y,s⟩,0,0,rfl,(λq z=>by cases z),λ_=>rfl⟩
  |some q=>
   rw[z]at s a;rw[Y6,T8,Y7,bb];intro aG K _ _;have ak:=(R.aa y λhe=>by have he:=he;omega).W K;rw[aP cH.p 1 ak rfl];refine⟨⟨(S.F y).F (K.aa _),s.W K⟩,n,at_,rfl,λaH al=>?_,λh=>by cases h⟩;cases al;cases j:kP so with
   |none=>rw[j]at a;cases a
   |some p=>
    obtain⟨bu,s1⟩:=p;have L:=O (bu,s1) j;subst L;rw[j]at a;simp only at a;cases f:ik t with
    |none=>rw[f]at a;cases a
    |some m=>
     rw[f]at a;simp only at a;split at a
     .cases a;exact(J m f).1
     .cases a
 .intro az V;refine a6 (λv x=>C=x/\∃c:Bool,v= .bool c/\(c=s2->bk lo hi so=ν)/\(c=sp->(bk lo hi so).map (·.2)=(kP so).map (·.2))) ?_ ?_
  .rintro _ _ ⟨rfl,c,rfl,am,an⟩;rw[b4];refine⟨λh=>?_,λh=>V _ ⟨ai.refl _ _,by rw[an h];exact G⟩⟩;rw[aP cH.p 1 R rfl];refine(pS G Ω).Y ?_;rintro _ x _ ⟨y,s⟩;exact V _ ⟨y,by rw[am h];exact s⟩
  .intro aI A;rw[mT G];cases j:kP so with
   |none=>
    rw[j]at a;simp only at a;rw[Option.map_none,S4,bb];exact A _ _ ⟨rfl,sp,rfl,(λh=>by cases h),λ_=>by rw[a,j];rfl⟩
   |some p=>
    obtain⟨bu,s1⟩:=p;have L:=O (bu,s1) j;subst L;rw[j]at a;simp only at a;rw[Y6,T8,bT,bO,ao];refine⟨λhe=>?_,λhe=>?_⟩
    .refine A _ _ ⟨rfl,s2,rfl,λ_=>?_,λh=>by cases h⟩;cases f:ik t with
     |none=>rw[a,f]
     |some m=>exact m6 (J m f).2 he
    .have ap:=X1.1 he;cases f:ik t with
     |none=>exact m6 ap (ah f)
     |some m=>
      rw[f]at a;simp only at a;have au:=(J m f).1;subst au;rw[aW,ao];refine⟨λav=>A _ _ ⟨rfl,s2,rfl,λ_=>by rw[a,m5 Ω],λh=>by cases h⟩,λav=>?_⟩;rw[bW];refine A _ _ ⟨rfl,_,rfl,λax=>?_,λax=>?_⟩
      .rw[a,m5 (by have:=rs ax;omega)]
      .rw[a,m3 (by have:=of_decide_eq_false ax;omega),j];rfl
theorem yy{bx bv:x4}{a b:Λ}(e:aQ .i64 w bx a)(s:aQ .i64 w bv b):aq x8 tH [bx,bv] w λv I=>v= .bool (decide (a=b))/\Ext w I:=by
 refine aE func180 ?_;rw[ba aA.u e,ba aA.u s,bO,ao];refine⟨λh=>⟨by rw[rc];intro he;rw[he]at h;exact h rfl,Ext.refl _⟩,λh=>?_⟩;have z:a.length=b.length:=by have:=X1.1 h;omega
 rw[ba aA.u e];refine cp.range a.length (λi _ U=>Ext w U/\a.take i=b.take i) e.le ⟨Ext.refl _,rfl⟩ ?_ ?_
 .rintro i _ U k hi ⟨q,f⟩ hk;obtain⟨x,J⟩:=aJ (l:=a) hi;obtain⟨y,r⟩:=aJ (l:=b) (i:=i) Ω;refine bK Ω ?_;intro ab A _ _;have j:=q.F A;rw[bp aA.u ay.i Ψ (e.W j) J,bp aA.u ay.i Ψ (s.W j) r,bO,ao];refine⟨λB=>⟨by rw[rc];intro he;rw[he,r]at J;exact B (Z5 J).symm,j⟩,λhe=>?_⟩;rw[aT];refine hk _ _ ⟨j,?_⟩;rw[u9,u9,f,J,r,X1.1 he]
 .rintro _ U k ⟨q,f⟩;rw[aW,ao];refine⟨λh=>Ω,λ_=>⟨?_,q⟩⟩;rw[o9,z,o9]at f;rw[ms f]
def iH(w:x5)(B a:Nat)(x:cI):Prop:=∃a1 hv cw g1 e f,ak w a bj [a1,hv,Δ x.other,cw]/\aH .i64 ay w g1 a1 x.scope/\aH .i64 ay w e hv x.d6/\lZ w f cw x.lines/\(∀r,lc a1 r\/lc hv r->B<=r)/\(∀r,lc a1 r->¬lc hv r)/\B<=a
def EU(w:x5)(r:Nat):Prop:=(∃e c,ak w r e c/\e≠ay/\e≠cv/\e≠bj)\/w.heap.size<=r
theorem iH.dV{f:Nat}{x:cI}(h:iH w B f x)(a:ai S w I)(s:∀r,S r->EU w r):iH I B f x:=by
 obtain⟨a1,hv,cw,g1,y,z,h1,A,C,E,F,G,H⟩:=h;have j:∀r,S r->iG w r\/w.heap.size<=r:=λr J=>(s r J).imp (λ⟨e,c,q,K,L,_⟩=>⟨e,c,q,K,L⟩) id;refine⟨a1,hv,cw,g1,y,z,h1.aa a λV=>?_,eZ A a j,eZ C a j,E.dV a j,F,G,H⟩;rcases s f V with⟨e,c,q,_,_,M⟩|N
 .exact M (fE q h1)
 .have:=h1.lt;omega
theorem iH.W{a:Nat}{x:cI}(h:iH w B a x)(J:Ext w I):iH I B a x:=h.dV (J.aa λ_=>False) λ_ h=>h.elim
theorem l1{g:Nat}{H:aj}{so:Option aN}(h:bX w g B H N so):∀r,r=g->EU w r:=λr a=>by
 subst a;obtain⟨f,j,q,bad,s,big,x,m1,sv,e,_⟩:=ju h;exact .inl ⟨_,_,e,Φ,Φ,Φ⟩
def iI(g B:Nat):aj:=λr=>r=g\/B<=r
theorem QE{k:Nat}{acc:Λ}{s:aN}:da (λacc s=>match bq 0 (n-1) s with
 |none=>ν
 |some (v,s)=>if v∈acc then ν else σ (v,s)) (k+1) acc s=match bq 0 (n-1) s with
  |none=>ν
  |some (v,s')=>if v∈acc then ν else da (λacc s=>match bq 0 (n-1) s with
 |none=>ν
 |some (v,s)=>if v∈acc then ν else σ (v,s)) k (acc++[v]) s':=by
 rw[da];cases bq 0 (n-1) s with
 |none=>rfl
 |some q=>
  obtain⟨v,s'⟩:=q;simp only;by_cases ac:v∈acc
  .rw[m3 ac,m3 ac]
  .rw[m5 ac,m5 ac]
def EV(n:Int)(k:Nat)(acc:Λ)(s:aN):Option (Λ×aN):=da (λacc s=>match bq 0 (n-1) s with
 |none=>ν
 |some (v,s)=>if v∈acc then ν else σ (v,s)) k acc s
theorem EW{g f ar:Nat}{H:aj}{s:aN}{so:Option aN}{Y:x4}{aI aK:x5->Prop}(ax:bX w g B H N so)(b1:so=σ s\/(so=ν/\ar=0))(b2:iH w B f ⟨[],[],0,[]⟩)(b4:∀c,ak w f bj c->c[3]?=σ (.slice ν 0 0))(bx:aH .i64 ay w gz Y all)(b5:∀r,lc Y r->r<B)(dj:all.length<=100001)(dk:ar<=4611686018427387904)(aM:so=σ s->s.hp.length<=100000)(am:so=σ s->∀I x,ai (iI g B) w I->fm all.length ar s=ν->bX I g B H N ν->iH I B f x->aI I)(b6:so=ν->aK w)(aO:so=σ s->∀I scope s',ai (iI g B) w I->fm all.length ar s=σ (scope,s')->bX I g B H N (σ s')->iH I B f ⟨scope,scope.map λv=>all.getD v.toNat 0,0,[]⟩->(∀c,ak I f bj c->c[3]?=σ (.slice ν 0 0))->aK I):
  b3 (Δ 0) w λi z k=>
   cG (α:=x4->x5->Prop) (λ(b7:x4)(M:x5)=>
    Split b7 (ad x8 (X7 #[aA] al #[Y]) M λt53=>
   ad x8 (aS .sub ay sp s2 t53 (Δ 1)) M λb8=>
   aq x8 nv [Γ g,(Δ 0),b8] M λt55 A=>
   ad x8 (Z7 t55 0) A λaQ=>
   ad x8 (Z7 t55 1) A λb9=>
   ad x8 (b0 (Γ g)) A λcb=>
   ad x8 (u6 bN cb 3) A λcd=>
   ad x8 (u5 al cd) A λce=>
   ad x8 (aS .neq al sp s2 ce (Δ 0)) A λcf=>
   Split cf (aI A)
    (ad x8 (u6 bj (Γ f) 0) A λcg=>
   ad x8 (u5 aA cg) A λbz=>
   ad x8 (X7 #[aA] al #[bz]) A λt66=>
   b3 (Δ 0) A λaR E ch=>
    ad x8 (aS .lss al sp sp aR t66) E λci=>
    Split ci (ad x8 (n9 aA bz aR) E λcj=>
    ad x8 (u5 ay cj) E λt70=>
    ad x8 (aS .eql ay sp sp t70 aQ) E λck=>
    Split ck (aq x8 pe [Γ g,(Δ 4),b9] E λt76 aU=>aI aU)
     (ad x8 (aS .add al sp s2 aR (Δ 1)) E λcl=>
    ch cl E))
     (ad x8 (u6 bj (Γ f) 0) E λcm=>
   ad x8 (u5 aA cm) E λcn=>
   aL x8 (Y3 aA 1 #[(0,aQ)]) E λcp Z=>
   aL x8 (c9 #[aA,aA] aA #[cn,cp]) Z λcq aV=>
   ad x8 (u6 bj (Γ f) 0) aV λcr=>
   aL x8 (o7 aA cr cq) aV λ(_:Unit)an=>
   et an λR=>
   ad x8 (u6 bj (Γ f) 1) R λaX=>
   ad x8 (u5 aA aX) R λbC=>
   ad x8 (n9 aA Y aQ) R λct=>
   ad x8 (u5 ay ct) R λcu=>
   aL x8 (Y3 aA 1 #[(0,cu)]) R λcz X=>
    (Ext R X\/cc x8 (u5 aA aX) bC X/\cc x8 (u6 bj (Γ f) 1) aX X/\True)/\
   aL x8 (c9 #[aA,aA] aA #[bC,cz]) X λcA aY=>
    ad x8 (u6 bj (Γ f) 1) aY λcB=>
    aL x8 (o7 aA cB cA) aY λ(_:Unit)ab=>
     ad x8 (aS .add ay sp s2 i (Δ 1)) ab λcD=>
   k cD ab)))
     (aK M)) λbD=>
   ad x8 (aS .lss ay sp sp i (Δ (ar:Int))) z λcE=>
   Split cE (ad x8 (b0 (Γ g)) z λcF=>
   ad x8 (u6 bN cF 3) z λcH=>
   ad x8 (u5 al cH) z λt45=>
   ad x8 (aS .eql al sp s2 t45 (Δ 0)) z λt46=>
   bD t46 z)
    (bD (.bool sp) z):=by
 have dl:=ax.lt;rcases b1 with rfl|⟨rfl,rfl⟩
 rotate_left
 .refine b3.range 0 (λ_ U=>w=U) Ω rfl (λi U k hi=>Ω) ?_;rintro _ k rfl;refine a6 (λv M=>w=M/\v= .bool sp) ?_ ?_
  .rintro _ _ ⟨rfl,rfl⟩;rw[bb];exact b6 rfl
  .intro az ae;rw[aW,ao];exact⟨λh=>Ω,λ_=>ae _ _ ⟨rfl,rfl⟩⟩
 have h:=ax;have aM:=aM rfl;have am:=am rfl;have aO:=aO rfl;refine b3.range ar (λi z=>∃scope O,ai (iI g B) w z/\bX z g B H N (σ O)/\iH z B f ⟨scope,scope.map λv=>all.getD v.toNat 0,0,[]⟩/\scope.length=i/\scope.length+O.hp.length<=100000/\fm all.length ar s=EV all.length (ar-i) scope O/\∀c,ak z f bj c->c[3]?=σ (.slice ν 0 0)) Ω ⟨[],s,ai.refl _ _,h,b2,rfl,by simpa using aM,rfl,b4⟩ ?_ ?_
 rotate_left
 .rintro z k ⟨scope,O,ap,Q,au,bF,cI,C,a2⟩;refine a6 (λv M=>z=M/\v= .bool sp) ?_ ?_
  .rintro _ _ ⟨rfl,rfl⟩;rw[bb];rw[V7]at C;exact aO z scope O ap C Q au a2
  .intro az ae;rw[aW,ao];exact⟨λh=>Ω,λ_=>ae _ _ ⟨rfl,rfl⟩⟩
 rintro i z k hi ⟨scope,O,ap,Q,au,bF,cI,C,a2⟩ hk;refine a6 (λv M=>z=M/\v= .bool s2) ?_ ?_
 rotate_left
 .intro az ae;refine bK Ω ?_;rw[mT Q];exact ae _ _ ⟨rfl,rfl⟩
 rintro _ _ ⟨rfl,rfl⟩;rw[bT];have bG:∀{I:x5},ai (iI g B) w I->aH .i64 ay I gz Y all:=λcJ=>bE bx cJ λr e V=>by
  rcases V with rfl|V
  .obtain⟨cK,G,af,bad,cL,big,cM,m1,sv,J,_⟩:=ju h;exact cC bx J Φ e rfl
  .have:=b5 r e;omega
 rw[ba aA.u (bG ap).ls,dm,lm Ω Ω];refine(l0 Q).Y ?_;rintro _ A _ ⟨⟨a7,K⟩,n,at_,rfl,a8,cN⟩;rw[bA,bB,sL K];have bc:=au.dV a7 (l1 Q);have bd:ai (iI g B) w A:=ap.F (a7.Y λr _ h=>.inl h);have cP:=QE (n:=(all.length:Int)) (k:=ar-(i+1)) (acc:=scope) (s:=O);have cQ:ar-i=(ar-(i+1))+1:=Ω
 rw[cQ]at C;unfold EV at C;rw[cP]at C;have cR:bk 0 ((all.length:Int)-1) (σ O)=bq 0 ((all.length:Int)-1) O:=rfl;rw[cR]at K a8 cN ⊢;cases av:bq 0 ((all.length:Int)-1) O with
 |none=>
  rw[av]at K C;rw[Option.map_none,S4,X5,bT];exact am A _ bd C K bc
 |some q=>
  obtain⟨v,bH⟩:=q;rw[av]at K C a8;have cS:=a8 _ rfl;subst cS;have dn:=(jn av).1;have dp:=(dP av).1;simp only at C;rw[Y6,T8,Y7,bb];have K:bX A g B H N (σ bH):=K;obtain⟨a1,hv,cw,g1,dq,be,f1,f2,f3,f4,f5,f6,f7⟩:=id bc;rw[aP bj.p 0 f1 rfl,ba aA.u f2.ls];have dr:scope.length<=100000:=Ω
  refine b3.range scope.length (λj E=>A=E/\n∉scope.take j) Ω ⟨rfl,Ξ⟩ ?_ ?_
  .rintro j _ cT cU ⟨rfl,aw⟩ cV;obtain⟨u,hu⟩:=aJ (l:=scope) cU;rw[aW,ao];refine⟨λ_=>?_,λh=>by simp only at h;omega⟩;rw[bp aA.u ay.i Ψ f2.ls hu,bl,ao];refine⟨λhe=>?_,λcW=>?_⟩
   .refine (pS K Ω).Y ?_;rintro _ aU _ ⟨bI,cX⟩;rw[m3 (by rw[<-he];exact x7 hu)]at C;exact am aU _ (bd.F (bI.Y λr _ h=>.inl h)) C cX (bc.dV bI (l1 K))
   .rw[aT];refine cV _ ⟨rfl,?_⟩;rw[u9,hu];intro hm;rcases j9.1 hm with hm|hm
    .exact aw hm
    .simp at hm;exact cW hm.symm
  .rintro _ cT ⟨rfl,aw⟩;rw[o9]at aw;rw[aW,ao];refine⟨λh=>by simp only at h;omega,λ_=>?_⟩;rw[m5 aw]at C;rw[aP bj.p 0 f1 rfl];refine e3 aA.u ay.i rfl λds dt Z du P cY=>?_;have dv:=K.lt;refine jt aA.u ay.i rfl (f2.W P) cY.ls Θ Θ λbf cZ aV aB c0 bJ=>?_;have aC:=f1.W P;have f113:=aC.aa bJ λhe=>cC (f2.W P) aC Φ he rfl;rw[aZ bj.p rfl];refine bs (g:=f) (o:=0) aA.i aB.ls.cells.1 aB.ls.cells.2 f113 Ξ λan bL dw aD=>?_;have aD:=aD;intro R bg _ _;have ag:ai (λr=>lc a1 r\/r=f) Z an:=(bJ.Y λr _ h=>.inl h).F (bL.Y λr _ h=>.inr h);have bM:∀r,(lc a1 r\/r=f)->iI g B r:=λr e=>.inr (e.elim (λe=>f5 r (.inl e)) λe=>e▸f7);have bO:=(bd.F (P.aa _)).F (ag.Y λr _ e=>bM r e);have c1:ai (iI g B) w R:=bO.F (bg.aa _);have c2:=bE (f3.W P) ag λr e V=>by
    rcases V with V|rfl
    .exact f6 r V e
    .exact cC (f3.W P) aC Φ e rfl
   have c3:=bE aB bL λr e he=>by
    have he:r=f:=he;subst he;exact cC aB f113 Φ e rfl
   have c4:∀r,(lc a1 r\/r=f)->(∃c,ak Z r ay c)\/∃c,ak Z r bj c:=λr e=>by
    rcases e with e|rfl
    .obtain⟨G,_⟩:=ca f2 e;obtain⟨_,⟨ac,_⟩|⟨_,cs,ac,J,_⟩⟩:=f2.W P
     .rw[ac]at e;obtain⟨a,c5,c,G,af⟩:=e;cases G
     .exact .inl ⟨cs,G▸J⟩
    .exact .inr ⟨_,aC⟩
   have c6:lZ an be cw []:=by
    obtain⟨L,S,c7,bh⟩:=f4.dV (P.aa λ_=>False) λ_ h=>h.elim;have bi:=List.map_eq_nil_iff.1 bh;subst bi;refine⟨[],S.aa ag λr e V=>?_,λy bm=>(by cases bm),rfl⟩;rcases c4 r V with⟨c,J⟩|⟨c,J⟩
    .exact cO S J Φ e
    .exact cO S J Φ e
   have c8:=(K.W P).new ag λr e=>by
    rcases bM r e with rfl|h
    .rcases e with e|e
     .exact f5 _ (.inl e)
     .exact e▸f7
    .exact h
   rw[aP bj.p 1 (aD.W bg) rfl];have da:all[n.toNat]?=σ (all.getD n.toNat 0):=by rw[r8,v8 Ω];rfl
   rw[fz (y:=n) (i:=n.toNat) Ω aA.u ay.i Ψ (bG c1).ls da];refine e3 aA.u ay.i rfl λdx dy X dz bP db=>?_;refine⟨.inl bP,?_⟩;have W:=bg.F bP;have f316:=c2.W W;have bQ:(scope.map λv=>all.getD v.toNat 0).length=scope.length:=r9 _;refine jt aA.u ay.i rfl f316 db.ls (by simp at bQ ⊢;omega) (by simp at bQ ⊢;omega) λbR dc aY aE bS bU=>?_;have aF:=aD.W W;have bV:=aF.aa bU λhe=>cC f316 aF Φ he rfl;rw[aZ bj.p rfl];refine bs (g:=f) (o:=1) aA.i aE.ls.cells.1 aE.ls.cells.2 bV Ξ λab bW dA ah=>?_;have ah:=ah;rw[aT];have aG:ai (λr=>lc hv r\/r=f) X ab:=(bU.Y λr _ h=>.inl h).F (bW.Y λr _ h=>.inr h);have bY:∀r,(lc hv r\/r=f)->B<=r:=λr e=>e.elim (λe=>f5 r (.inr e)) λe=>e▸f7;have bn:=c3.W W;have dC:=P.size;have dD:=ag.size;have bo:∀r,lc bf r->B<=r/\¬lc hv r:=λr e=>by
    rcases c0 r e with h|h
    .exact⟨f5 r (.inl h),f6 r h⟩
    .exact⟨Ω,λbr=>by obtain⟨G,af⟩:=ca f3 br;omega⟩
   have dd:=bE bn aG λr e V=>by
    rcases V with V|rfl
    .exact (bo r e).2 V
    .exact cC bn aF Φ e rfl
   have de:=bE aE bW λr e he=>by
    have he:r=f:=he;subst he;exact cC aE bV Φ e rfl
   have df:lZ ab be cw []:=by
    obtain⟨L,S,c7,bh⟩:=c6.dV (W.aa λ_=>False) λ_ h=>h.elim;have bi:=List.map_eq_nil_iff.1 bh;subst bi;refine⟨[],S.aa aG λr e V=>?_,λy bm=>(by cases bm),rfl⟩;rcases V with V|rfl
    .obtain⟨G,_⟩:=ca f316 V;obtain⟨_,⟨ac,_⟩|⟨_,cs,ac,J,_⟩⟩:=f316
     .rw[ac]at V;obtain⟨a,c5,c,G,af⟩:=V;cases G
     .exact cO S (G▸J) Φ e
    .exact cO S aF Φ e
   refine hk _ ⟨scope++[n],bH,((bO.F (W.aa _)).F (aG.Y λr _ e=>.inr (bY r e))),(c8.W W).new aG bY,⟨bf,bR,cw,cZ,dc,be,ah,dd,by rw[Z0];exact de,df,λr e=>?_,λr e br=>?_,f7⟩,by rw[j6,bF];rfl,by rw[j6];simp;omega,C,λc bt=>?_⟩
   .rcases e with e|e
    .exact (bo r e).1
    .rcases bS r e with h|h
     .exact f5 r (.inr h)
     .have:=W.size;omega
   .rcases bS r br with h|h
    .exact (bo r e).2 h
    .obtain⟨G,af⟩:=ca bn e;omega
   .have dg:c=[bf,bR,Δ 0,cw]:=by
     unfold ak at bt ah;rw[ah]at bt;have:=(Obj.cells.inj (Z5 bt)).1;exact(Array.toList_inj.2 this).symm
    have dh:cw= .slice ν 0 0:=by
     obtain⟨dE,dF,dG,_,_,_,bu,_⟩:=au;have bZ:=a2 _ bu;have bw:=bu.aa a7 λhe=>by
      have he:=he;obtain⟨cK,G,af,bad,cL,big,cM,m1,sv,J,_⟩:=ju Q;subst he;exact m6 (fE J bu) Φ
     unfold ak at bw f1;rw[f1]at bw;have di:=Array.toList_inj.2 (Obj.cells.inj (Z5 bw)).1;have Q:=congrArg (λl=>l[3]?) di;simp at Q;simp at bZ;rw[Q,bZ]
    rw[dg,dh];rfl
theorem QF{sv:x4}{s:x4->x5->Prop}(h:aQ .i64 w sv l)(h1:∀z∈l,1<=z)(H:∀c:Int,(4096<c↔dL l=s2)->s (Δ c) w):
  cp (Δ 1) (Δ 0) w λx j a I=>
   ad x8 (aS .lss al sp sp j (Δ (l.length:Int))) a λJ=>
   Split J (cG (α:=x4->x5->Prop) (λ(K:x4)(y:x5)=>
    ad x8 (aS .add al sp s2 j (Δ 1)) y λL=>
    I K L y) λA=>
   ad x8 (n9 aA sv j) a λM=>
   ad x8 (u5 ay M) a λB=>
   cG (α:=x4->x5->Prop) (λ(N:x4)(f:x5)=>
    ad x8 (aS .mul ay sp sp x N) f λC=>
    ad x8 (aS .gtr ay sp s2 C (Δ 4096)) f λO=>
    Split O (A (Δ 4097) f)
     (A C f)) λE=>
   ad x8 (aS .gtr ay sp s2 B (Δ 4096)) a λP=>
   Split P (E (Δ 4097) a)
    (E B a))
    (s x a):=by
 refine cp.range l.length (λi c U=>w=U/\∃p:Int,p=aV ((l.take i).map λk=>min k 4097)/\1<=p/\c=Δ (if 4096<p then 4097 else p)) h.le ⟨rfl,1,by simp[aV],Ω,by rw[m5 Ω]⟩ ?_ ?_
 .rintro i _ _ Q hi ⟨rfl,p,ae,R,rfl⟩ S;obtain⟨z,q⟩:=aJ (l:=l) hi;have W:=h1 z (x7 q);have e:aV ((l.take (i+1)).map λk=>min k 4097)=p*min z 4097:=by
   rw[ae,u9,q,j4,Z0,List.map_cons,List.map_nil,CW]
  have X:p*1<=p*min z 4097:=Int.mul_le_mul_of_nonneg_left Ω Ω;refine bK Ω ?_;refine a6 (λv ab=>w=ab/\v=Δ (if 4096<p*min z 4097 then 4097 else p*min z 4097)) ?_ ?_
  .rintro _ _ ⟨rfl,rfl⟩;rw[aT];exact S _ _ ⟨rfl,_,e.symm,Ω,rfl⟩
  intro az r;rw[bp aA.u ay.i Ψ h q];refine a6 (λv ab=>w=ab/\v=Δ (min z 4097)) ?_ ?_
  .rintro _ _ ⟨rfl,rfl⟩;rw[fL];by_cases F:4096<p
   .rw[m3 F];have V:(4097:Int)*1<=4097*min z 4097:=Int.mul_le_mul_of_nonneg_left Ω Ω;rw[lm Ω Ω,bW,ao];refine⟨λ_=>r _ _ ⟨rfl,by rw[m3 Ω]⟩,λY=>Ω⟩
   .rw[m5 F];have V:p*min z 4097<=4096*4097:=by
     have Z:=Int.mul_le_mul_of_nonneg_right (show p<=4096 by omega) (show 0<=min z 4097 by omega);have aa:=Int.mul_le_mul_of_nonneg_left (show min z 4097<=4097 by omega) (show(0:Int)<=4096 by omega);omega
    rw[lm Ω Ω,bW,ao];exact⟨λax=>r _ _ ⟨rfl,by rw[m3 ax]⟩,λax=>r _ _ ⟨rfl,by rw[m5 ax]⟩⟩
  .intro ac G;rw[bW,ao];exact⟨λax=>G _ _ ⟨rfl,by congr 1;omega⟩,λax=>G _ _ ⟨rfl,by congr 1;omega⟩⟩
 .rintro _ _ Q ⟨rfl,p,ae,R,rfl⟩;rw[o9]at ae;rw[aW,ao];refine⟨λh=>Ω,λ_=>H _ ?_⟩;unfold dL;rw[<-ae,ro];split
  .exact⟨λ_=>Ω,λ_=>Ω⟩
  .exact Iff.rfl
theorem QG{g av:Nat}{H:aj}{so:Option aN}{Z:x5->Prop}(h:bX w g B H N so)(C:aH .i64 ay w gz hv d6)(az:∀z∈d6,1<=z/\z<=aD)(bn:d6.length<=100001)(R:ak w av cv [.slice ν 0 0,Δ 0])(aB:B<=av)(ac:∀t I aX gt,t.length=d6.length->ai (λr=>r=g\/r=av\/w.heap.size<=r) w I->ak I av cv [aX,Δ 0]->aH .i64 ay I gt aX t->(∀r,lc aX r->w.heap.size<=r)->bX I g B H N ((gD d6 [] so).map (·.2))->(∀q,gD d6 [] so=σ q->t=q.1)->Z I):
  b3 (Δ 0) w λS s aC=>
      ad x8 (aS .lss al sp sp S (Δ (d6.length:Int))) s λaE=>
      Split aE (ad x8 (n9 aA hv S) s λaF=>
      ad x8 (u5 ay aF) s λaG=>
      ad x8 (aS .sub ay sp s2 aG (Δ 1)) s λaI=>
      aq x8 nv [Γ g,(Δ 0),aI] s λae E=>
      ad x8 (Z7 ae 0) E λaK=>
      ad x8 (Z7 ae 1) E λbo=>
      ad x8 (u6 cv (Γ av) 0) E λaM=>
      ad x8 (u5 aA aM) E λaO=>
      aL x8 (Y3 aA 1 #[(0,aK)]) E λaQ aR=>
      aL x8 (c9 #[aA,aA] aA #[aO,aQ]) aR λaU af=>
      ad x8 (u6 cv (Γ av) 0) af λaV=>
      aL x8 (o7 aA aV aU) af λ(_:Unit)ag=>
      ad x8 (aS .add al sp s2 S (Δ 1)) ag λaW=>
      aC aW ag)
       (Z s):=by
 have bq:=R.lt;have br:=h.lt;refine b3.range d6.length (λj U=>∃t aX gt s1,t.length=j/\ai (λr=>r=g\/r=av\/w.heap.size<=r) w U/\ak U av cv [aX,Δ 0]/\aH .i64 ay U gt aX t/\(∀r,lc aX r->w.heap.size<=r)/\bX U g B H N s1/\gD d6 [] so=gD (d6.drop j) t s1) C.ls.le
  ⟨[],_,0,so,rfl,ai.refl _ _,R,aH.nil _ _ _ _,(λr e=>by obtain⟨a,n,c,L,W⟩:=e;cases L),h,rfl⟩ ?_ ?_
 rotate_left
 .rintro U aY ⟨t,aX,gt,s1,M,x,O,G,y,J,he⟩;refine ck Ω ?_;rw[List.drop_length]at he;cases s1 with
  |none=>
   have he:=he;exact ac t U aX gt M x O G y (by rw[he];exact J) (λq f=>by rw[he]at f;cases f)
  |some s1=>
   have he:=he;exact ac t U aX gt M x O G y (by rw[he];exact J) (λq f=>by rw[he]at f;cases f;rfl)
 rintro j U aY ah ⟨t,aX,gt,s1,M,x,O,G,y,J,he⟩ a1;obtain⟨z,X⟩:=aJ (l:=d6) ah;have a2:=az z (x7 X);have bt:z<=4611686018427387904:=a2.2;have a6:=bE C x λr e V=>by
  rcases V with rfl|rfl|V
  .obtain⟨a7,L,W,bad,a8,big,ba,m1,sv,K,_⟩:=ju h;exact cC C K Φ e rfl
  .exact cC C R Φ e rfl
  .obtain⟨L,W⟩:=ca C e;omega
 refine bK Ω ?_;rw[bp aA.u ay.i Ψ a6.ls X,dm,lm Ω Ω];refine(l0 J).Y ?_;rintro _ ab _ ⟨⟨P,bb⟩,n,at_,rfl,bc,bu⟩;rw[bA,bB];have bd:av≠g:=Ω
 have am:=O.aa P λhe=>bd he;have be:∃c,ak U g bN c:=by obtain⟨a7,L,W,bad,a8,big,ba,m1,sv,K,_⟩:=ju J;exact⟨_,K⟩
 have an:=bE G P λr e he=>by
  have he:r=g:=he;obtain⟨c,K⟩:=be;exact cC G K Φ e he
 rw[aP cv.p 0 am rfl];refine e3 aA.u ay.i rfl λa3 bw bf bx A bg=>?_;refine jt aA.u ay.i rfl (an.W A) bg.ls Θ Θ λbh bi bz Q bj ao=>?_;have ap:=am.W A;have au:=ap.aa ao λhe=>cC (an.W A) ap Φ he rfl;rw[aZ cv.p rfl];refine bs (g:=av) (o:=0) aA.i Q.ls.cells.1 Q.ls.cells.2 au Ξ λbl aw bC Y=>?_;have Y:=Y;rw[aT];have ax:ai (λr=>lc aX r\/r=av) bf bl:=(ao.Y λr _ h=>.inl h).F (aw.Y λr _ h=>.inr h);have bD:=x.size;have bF:=P.size;have z3:=A.size;refine a1 _ ⟨t++[n],bh,bi,(bk 0 (z-1) s1).map (·.2),by simp[M],?_,Y,bE Q aw λr e he=>?_,λr e=>?_,?_,?_⟩
 .refine (x.F (P.Y λr _ h=>.inl h)).F ((A.aa _).F (ax.Y λr _ h=>?_));exact h.elim (λh=>.inr (.inr (y r h))) λh=>.inr (.inl h)
 .have he:r=av:=he;subst he;exact cC Q au Φ e rfl
 .rcases bj r e with h|h
  .exact y r h
  .omega
 .refine (bb.W A).new ax λr e=>?_;rcases e with e|rfl
  .have:=y r e;omega
  .exact aB
 .rw[he];have bm:d6.drop j=z::d6.drop (j+1):=by rw[X2 ah,(x6.1 X).2]
  rw[bm,Du];cases f:bk 0 (z-1) s1 with
  |none=>rfl
  |some q=>
   obtain⟨v,bG⟩:=q;have:=bc _ f;subst this;rfl
theorem yz{g:Nat}{v:x4}(h:aH .i64 ay w g v t):∀u∈pR ⟨v,t,c⟩,u.oneCell'=s2:=by
 intro u hu;simp[pR]at hu;rcases hu with rfl|rfl
 .exact h.ls.cells.2
 .rfl
def QH(d6:Λ)(cnt i:Nat)(s0:aN)(A:List (Λ×Int))(so:Option aN):Prop:=(∃s,so=σ s/\da (eX d6) cnt [] s0=da (eX d6) (cnt-i) A s/\A.length+s.hp.length<=100000)\/(so=ν/\da (eX d6) cnt [] s0=ν)
theorem QI{g J g1 a2 W:Nat}{H:aj}{s0:aN}{a1 cw:x4}{scope:Λ}{o:Int}{ax:List (Λ×Int)}{bW:x5->Prop}(h:bX w g B H N (σ s0))(f1:ak w J bj [a1,hv,Δ o,cw])(f2:aH .i64 ay w g1 a1 scope)(f3:aH .i64 ay w a2 hv d6)(f4:lZ w W cw ax)(f5:∀r,lc a1 r\/lc hv r->B<=r)(f6:∀r,lc a1 r->¬lc hv r)(f7:B<=J)(cT:∀z∈d6,1<=z/\z<=aD)(cU:d6.length<=100001)(eR:n<=4611686018427387904)(bo:0<n->ax=[]/\∀r,¬hx cw r)(cV:s0.hp.length<=100000)(bY:∀I A bp,ai (iI g B) w I->iH I B J ⟨scope,d6,o,A⟩->bX I g B H N bp->(n<=0->A=ax/\bp=σ s0)->(0<n->bp=(da (eX d6) n.toNat [] s0).map (·.2)/\∀q,da (eX d6) n.toNat [] s0=σ q->A=q.1)->bW I):
  b3 (Δ 0) w λbZ Y cW=>
     cG (α:=x4->x5->Prop) (λ(cX:x4)(b1:x5)=>
      Split cX (aL x8 (Instr.alloc cv s2 (.tuple #[])) b1 λx X=>
     ad x8 (u6 bj (Γ J) 1) X λcY=>
     ad x8 (u5 aA cY) X λb2=>
     ad x8 (X7 #[aA] al #[b2]) X λcZ=>
     b3 (Δ 0) X λbr Z c0=>
      ad x8 (aS .lss al sp sp br cZ) Z λc1=>
      Split c1 (ad x8 (n9 aA b2 br) Z λc2=>
      ad x8 (u5 ay c2) Z λc3=>
      ad x8 (aS .sub ay sp s2 c3 (Δ 1)) Z λc4=>
      aq x8 nv [Γ g,(Δ 0),c4] Z λb4 aB=>
      ad x8 (Z7 b4 0) aB λc5=>
      ad x8 (Z7 b4 1) aB λeS=>
      ad x8 (u6 cv x 0) aB λc6=>
      ad x8 (u5 aA c6) aB λc7=>
      aL x8 (Y3 aA 1 #[(0,c5)]) aB λc8 db=>
      aL x8 (c9 #[aA,aA] aA #[c7,c8]) db λdc b5=>
      ad x8 (u6 cv x 0) b5 λde=>
      aL x8 (o7 aA de dc) b5 λ(_:Unit)b6=>
      ad x8 (aS .add al sp s2 br (Δ 1)) b6 λdf=>
      c0 df b6)
       (aq x8 nv [Γ g,(Δ 0),(Δ 4611686018427387904)] Z λb7 G=>
     ad x8 (Z7 b7 0) G λdg=>
     ad x8 (Z7 b7 1) G λdh=>
     ad x8 (u6 bj (Γ J) 3) G λdi=>
     ad x8 (u5 ev di) G λb8=>
     ad x8 (X7 #[ev] al #[b8]) G λdj=>
     b3 (Δ 0) G λbt K dk=>
      ad x8 (aS .lss al sp sp bt dj) K λdl=>
      Split dl (cG (α:=x5->Prop) (λ(ap:x5)=>
       ad x8 (aS .add al sp s2 bt (Δ 1)) ap λdm=>
       dk dm ap) λb9=>
      ad x8 (n9 ev b8 bt) K λdn=>
      ad x8 (u5 cv dn) K λdp=>
      aL x8 (Instr.alloc cv s2 (.tuple #[])) K λy ca=>
      aL x8 (o7 cv y dp) ca λ(_:Unit)O=>
      cG (α:=x4->x5->Prop) (λ(dq:x4)(aC:x5)=>
       Split dq (aq x8 pe [Γ g,(Δ 4),dh] aC λeU cb=>
        b9 cb)
        (b9 aC)) λcc=>
      ad x8 (b0 (Γ g)) O λdr=>
      ad x8 (u6 bN dr 3) O λds=>
      ad x8 (u5 al ds) O λdt=>
      ad x8 (aS .eql al sp s2 dt (Δ 0)) O λdu=>
      Split du (ad x8 (u6 cv x 0) O λdv=>
       ad x8 (u5 aA dv) O λdw=>
      ad x8 (u6 cv y 0) O λdx=>
      ad x8 (u5 aA dx) O λdy=>
      aq x8 tH [dw,dy] O λdz ce=>
      cc dz ce)
       (cc (.bool sp) O))
       (ad x8 (u6 cv x 1) K λdA=>
     aL x8 (o7 ay dA dg) K λ(_:Unit)ac=>
     ad x8 (u6 bj (Γ J) 3) ac λdC=>
     ad x8 (u5 ev dC) ac λdD=>
     ad x8 (u5 cv x) ac λdE=>
     aL x8 (Y3 ev 1 #[(0,dE)]) ac λdF a7=>
     aL x8 (c9 #[ev,ev] ev #[dD,dF]) a7 λdH bw=>
     ad x8 (u6 bj (Γ J) 3) bw λdI=>
     aL x8 (o7 ev dI dH) bw λ(_:Unit)af=>
     ad x8 (aS .add ay sp s2 bZ (Δ 1)) af λdJ=>
     cW dJ af)))
       (bW b1)) λcf=>
     ad x8 (aS .lss ay sp sp bZ (Δ n)) Y λdK=>
     Split dK (ad x8 (b0 (Γ g)) Y λdL=>
     ad x8 (u6 bN dL 3) Y λdM=>
     ad x8 (u5 al dM) Y λdN=>
     ad x8 (aS .eql al sp s2 dN (Δ 0)) Y λdO=>
     cf dO Y)
      (cf (.bool sp) Y):=by
 have dQ:=h.lt;refine b3.range n.toNat (λi U=>∃A so cw W,ai (iI g B) w U/\ak U J bj [a1,hv,Δ o,cw]/\aH .i64 ay U g1 a1 scope/\aH .i64 ay U a2 hv d6/\lZ U W cw A/\(0<n->∀r,hx cw r->B<=r)/\bX U g B H N so/\(n<=0->A=ax/\so=σ s0)/\(0<n->QH d6 n.toNat i s0 A so)) Ω
  ⟨ax,σ s0,cw,W,ai.refl _ _,f1,f2,f3,f4,λae r C=>m6 C ((bo ae).2 r),h,λ_=>⟨rfl,rfl⟩,λae=>.inl ⟨s0,rfl,by rw[(bo ae).1];rfl,by rw[(bo ae).1];simpa using cV⟩⟩ ?_ ?_
 rotate_left
 .rintro U k ⟨A,so,cw,W,aE,au,a8,aG,aI,bx,ag,cg,E⟩;refine a6 (λv ab=>U=ab/\v= .bool sp) ?_ ?_
  .rintro _ _ ⟨rfl,rfl⟩;rw[bb];refine bY U A so aE ⟨a1,hv,cw,g1,a2,W,au,a8,aG,aI,f5,f6,f7⟩ ag cg λae=>?_;rcases E ae with⟨s,rfl,he,_⟩|⟨rfl,he⟩
   .rw[V7]at he;rw[he];exact⟨rfl,λq M=>by cases M;rfl⟩
   .rw[he];exact⟨rfl,λq M=>by cases M⟩
  .intro az bz;rw[aW,ao];exact⟨λh=>Ω,λ_=>bz _ _ ⟨rfl,rfl⟩⟩
 rintro i U k hi ⟨A,so,cw,W,aE,au,a8,aG,aI,bx,ag,cg,E⟩ hk;have ae:0<n:=Ω
 refine a6 (λv ab=>U=ab/\v= .bool so.isSome) ?_ ?_
 rotate_left
 .intro az bz;refine bK Ω ?_;rw[mT ag];exact bz _ _ ⟨rfl,rfl⟩
 rintro _ _ ⟨rfl,rfl⟩;rcases E ae with⟨dG,rfl,he,eV⟩|⟨rfl,he⟩
 rotate_left
 .rw[S4,bb];refine bY U A ν aE ⟨a1,hv,cw,g1,a2,W,au,a8,aG,aI,f5,f6,f7⟩ ag (λh=>Ω) λ_=>?_;rw[he];exact⟨rfl,λq M=>by cases M⟩
 rw[T8,bT];have eW:=ag.lt;refine bF cv.i λav X eY aK bC=>?_;have bC:ak X av cv [.slice ν 0 0,Δ 0]:=bC;have dR:=au.W aK;have ch:=aG.W aK;have e0:=aK.size;have e1:=au.lt;rw[aZ bj.p rfl,aF Ψ (dR.cell rfl),ba aA.u ch.ls];refine QG (ag.W aK) ch cT cU bC Ω λt Z aX gt e2 dS dT dU dW dX dY=>?_;refine(l0 dX).Y ?_;rintro _ G _ ⟨⟨bD,bc⟩,c,at_,rfl,dZ,e3⟩;rw[bA,bB];have bG:av≠g:=Ω
 have ci:J≠g:=by have:=h.lt;omega
 have ea:ai (λr=>r=g\/r=av\/X.heap.size<=r) X G:=dS.F (bD.Y λr _ h=>.inl h);have cj:∀{S:Nat->Prop},(∀r,S r->r=g\/U.heap.size<=r)->∀r,S r->iG U r\/U.heap.size<=r:=λeb r C=>(eb r C).imp (λhe=>by
  subst he;obtain⟨cl,aM,aO,bad,cm,big,cn,m1,sv,E,_⟩:=ju ag;exact⟨_,_,E,Φ,Φ⟩) id
 have bd:ai (λr=>r=g\/U.heap.size<=r) U G:=(aK.aa _).F (ea.Y λr _ h=>h.elim .inl λh=>h.elim (λh=>.inr Ω) λh=>.inr Ω);have cp:=au.aa bd λh=>h.elim ci λh=>Ω
 obtain⟨L,be,cq,bH⟩:=aI.dV bd (cj λr C=>C);have cr:=dT.aa bD λhe=>bG he;have cu:=bE dU bD λr C he=>by
  have he:r=g:=he;have:=dW r C;omega
 have e4:L.length=A.length:=by rw[<-bH,r9]
 rw[aP bj.p 3 cp rfl,eF ev.u be];generalize cz:(bk 0 4611686018427387904 (V6 (λx=>x.snd) (gD d6 [] (σ dG)))).map (·.2)=ah at bc;have e5:=bd.size;refine b3.range L.length (λj K=>ai (λr=>r=g) G K/\bX K g B H N (if t∈(L.take j).map (·.t)then ν else ah)) be.le ⟨ai.refl _ _,by simpa using bc⟩ ?_ ?_
 .rintro j K ec cA ⟨P,aQ⟩ ed;obtain⟨y,Q⟩:=aJ (l:=L) cA;have bJ:∃c,ak G g bN c:=by obtain⟨cl,aM,aO,bad,cm,big,cn,m1,sv,E,_⟩:=ju bc;exact⟨_,E⟩
  have am:∀r,r=g->iG G r\/G.heap.size<=r:=λr C=>by
   subst C;obtain⟨c,E⟩:=bJ;exact .inl ⟨_,c,E,Φ,Φ⟩
  have bf:=yx be P λr C=>(am r C).imp (λ⟨e,c,E,_,aR⟩=>⟨e,c,E,aR⟩) id;obtain⟨e6,ee⟩:=cq y (x7 Q);have cB:=eZ ee P am;have bL:=eZ cu P am;have bg:=cr.aa P λhe=>bG he;refine bK Ω ?_;have bM:t∈(L.take (j+1)).map (·.t)↔t∈(L.take j).map (·.t)\/t=y.t:=by
   rw[u9,Q,j4,Z0,j9];simp
  refine dd (λap=>ai (λr=>r=g) G ap/\bX ap g B H N (if t∈(L.take (j+1)).map (·.t)then ν else ah)) ?_ ?_
  .rintro ap eg;rw[aT];exact ed _ eg
  intro e7 cD;rw[ct rfl ev.u cv.i bf cA,bI cv.p cv.i rfl (bf.range Q)];refine bF cv.i λgy ca e8 eh ei=>?_;refine cd (vs:=pR y) cv.i rfl rfl (yz cB) ei λO ej e9 ek=>?_;have aU:=eh.put ej Ω;have cE:=aQ.W aU;have cF:ai (λr=>r=g) G O:=P.F (aU.aa _);refine a6 (λv aC=>∃b:Bool,v= .bool b/\Ext O aC/\(b=s2->t=y.t)/\(b=sp->t≠y.t\/(if t∈(L.take j).map (·.t)then ν else ah)=ν)) ?_ ?_
  .rintro _ aC ⟨b,rfl,bO,em,en⟩;have an:=cE.W bO;cases b with
   |true=>
    rw[bT];refine(pS an Ω).Y ?_;rintro _ cb _ ⟨eo,ep⟩;refine cD _ ⟨(cF.F (bO.aa _)).F eo,?_⟩;rw[m3 (bM.2 (.inr (em rfl)))];exact ep
   |false=>
    rw[bb];refine cD _ ⟨cF.F (bO.aa _),?_⟩;by_cases hm:t∈(L.take j).map (·.t)
    .rw[m3 (bM.2 (.inl hm))];rw[m3 hm]at an;exact an
    .rw[m5 hm]at an;rcases en rfl with aR|cH
     .rw[m5 (λh=>(bM.1 h).elim hm aR)];exact an
     .rw[m5 hm]at cH;rw[cH]at an ⊢;split<;>exact an
  .intro fa cI;rw[mT cE];cases aV:(if t∈(L.take j).map (·.t)then ν else ah)with
   |none=>
    rw[S4,bb];exact cI _ _ ⟨sp,rfl,Ext.refl _,(λh=>by cases h),λ_=>.inr aV⟩
   |some fb=>
    rw[T8,bT];have er:=bg.W aU;rw[aP cv.p 0 er rfl,aP cv.p 0 ek rfl];refine(yy (bL.ls.W aU) (cB.ls.W aU)).Y ?_;rintro _ ce _ ⟨rfl,es⟩;exact cI _ _ ⟨_,rfl,es,λh=>rs h,λh=>.inl (of_decide_eq_false h)⟩
 .rintro K ec ⟨P,aQ⟩;rw[o9]at aQ;have et:L.map (·.t)=A.map (·.1):=by rw[<-bH,T6];rfl
  rw[et]at aQ;have bJ:∃c,ak G g bN c:=by obtain⟨cl,aM,aO,bad,cm,big,cn,m1,sv,E,_⟩:=ju bc;exact⟨_,E⟩
  have am:∀r,r=g->iG G r\/G.heap.size<=r:=λr C=>by
   subst C;obtain⟨c,E⟩:=bJ;exact .inl ⟨_,c,E,Φ,Φ⟩
  have cJ:∀r,(r=g\/U.heap.size<=r)->iG U r\/U.heap.size<=r:=cj λr C=>C;have bh:ai (λr=>r=g\/U.heap.size<=r) U K:=bd.F (P.Y λr _ h=>.inl h);have eu:=cp.aa P λhe=>ci he;have ew:=eZ a8 bh cJ;have ey:=eZ aG bh cJ;have bf:=yx be P λr C=>(am r C).imp (λ⟨e,c,E,_,aR⟩=>⟨e,c,E,aR⟩) id;have ez:∀y∈L,∃gy,aH .i64 ay K gy y.v y.t:=λy Q=>by
   obtain⟨gy,hm⟩:=cq y Q;exact⟨gy,eZ hm P am⟩
  have bL:=eZ cu P am;have bg:=cr.aa P λhe=>bG he;refine ck Ω ?_;rw[aZ cv.p rfl];refine bs (g:=av) (o:=1) ay.i rfl rfl bg Ξ λac aw fc bP=>?_;have bP:=bP;have eA:J≠av:=Ω
  have cK:=eu.aa aw λhe=>eA he;have fd:U.heap.size<=av:=Ω
  have eB:∀r,hx cw r->r≠av:=λr C=>by obtain⟨aM,aO⟩:=aI.choose_spec.1.lc C;omega
  have eC:=bf.aa aw λr C he=>eB r C he;rw[aP bj.p 3 cK rfl,bI cv.p cv.i rfl bP.range];let a:yw:=⟨aX,t,c⟩;have bi:∀{v:x4}{aY:Nat}{l:Λ},aH .i64 ay K aY v l->aH .i64 ay ac aY v l:=λhm=>bE hm aw λr C he=>by
   have he:r=av:=he;exact cC hm bg Φ C he
  have cL:=bi bL;refine jr (f:=pR) (a:=a) ev.u cv.i Ω rfl rfl λv45 fe a7 ff R eD=>?_;have bQ:=eC.W R;refine jT (f:=pR) (a:=a) ev.u cv.i rfl bQ (by simpa using eD.sl) (yz (cL.W R)) Ω Ω λcM cN bw bl eE cP=>?_;have bR:=cK.W R;have cQ:=bR.aa cP λhe=>cO bQ bR Φ he;rw[aZ bj.p rfl];refine bs (g:=J) (o:=3) ev.i (eH bl.sl).1 (eH bl.sl).2 cQ Ξ λaf cR fg bS=>?_;have bS:=bS;rw[aT];have bU:ai (λr=>hx cw r\/r=J) a7 af:=(cP.Y λr _ h=>.inl h).F (cR.Y λr _ h=>.inr h);have bm:∀{v:x4}{aY:Nat}{l:Λ},aH .i64 ay a7 aY v l->aH .i64 ay af aY v l:=λhm=>bE hm bU λr C V=>by
   rcases V with V|rfl
   .obtain⟨rfl,fh,E⟩:=ef bQ V;exact cC hm E Φ C rfl
   .exact cC hm bR Φ C rfl
  have cS:∀r,(hx cw r\/r=J)->B<=r:=λr C=>C.elim (λC=>bx ae r C) λC=>C▸f7;have eI:bX ac g B H N (if t∈A.map (·.1)then ν else ah):=aQ.new aw λr C=>by
   have C:r=av:=C;omega
  have eJ:=(eI.W R).new bU cS;have eK:ai (iI g B) U af:=((bh.Y λr _ h=>h.elim .inl λh=>.inr Ω).F (aw.Y λr _ h=>.inr (by have h:r=av:=h;omega))).F ((R.aa _).F (bU.Y λr _ h=>.inr (cS r h)));have eL:lZ af cN cM (A++[(t,c)]):=⟨L++[a],bl.aa cR λr C he=>by
   have he:r=J:=he;subst he;exact cO bl cQ Φ C,λy Q=>by
   rcases j9.1 Q with Q|Q
   .obtain⟨gy,hm⟩:=ez y Q;exact⟨gy,bm ((bi hm).W R)⟩
   .rw[Y4.1 Q];exact⟨gt,bm (cL.W R)⟩,by rw[Z0,bH];rfl⟩
  refine hk _ ⟨A++[(t,c)],_,cM,cN,aE.F eK,bS,bm ((bi ew).W R),bm ((bi ey).W R),eL,λ_ r C=>?_,eJ,λh=>Ω,λ_=>?_⟩
  .rcases eE r C with h|h
   .exact bx ae r h
   .have:=aE.size;have:=bh.size;have:=aw.size;have:=R.size;have:=dQ.2;omega
  .have eM:n.toNat-i=(n.toNat-(i+1))+1:=Ω
   rw[eM]at he;obtain⟨eN,eO⟩:=Dy dY dZ;cases M:bk 0 aD ((gD d6 [] (σ dG)).map (·.2))with
   |none=>
    have aV:ah=ν:=by rw[<-cz];show(bk 0 aD _).map _=ν;rw[M];rfl
    rw[qO (eN M)]at he;refine .inr ⟨?_,he⟩;rw[aV];split<;>rfl
   |some q=>
    have aV:ah=σ q.2:=by rw[<-cz];show(bk 0 aD _).map _=_;rw[M];rfl
    have bn:=eO q M;by_cases hm:t∈A.map (·.1)
    .rw[m3 hm]at bn;rw[qO bn]at he;exact .inr ⟨by rw[m3 hm],he⟩
    .rw[m5 hm]at bn;rw[uq bn]at he;refine .inl ⟨q.2,by rw[m5 hm,aV],he,?_⟩;cases bV:gD d6 [] (σ dG)with
     |none=>rw[bV]at M;cases M
     |some p=>
      rw[bV]at M;obtain⟨bu,s1⟩:=p;have aM:=bV;obtain⟨u,_,_,eP⟩:=xz aM;have aO:bq 0 aD s1=σ q:=M;obtain⟨fi,fj⟩:=q;have eQ:=dP aO;have:=eP.1;have:=eQ.1;rw[j6];simp only[List.length_singleton];omega
def ll(s:aN):Prop:=s.big=sp->0<=s.m1/\s.m1<=16384
def ln(e:Bool)(ar:Nat)(scope d6:Λ)(f:Option aN):Option (cI×aN):=match bk 0 aD (f.map (bm (decide (6<ar)||dL d6)))with
 |none=>ν
 |some (other,h)=>match ed d6 h with
  |none=>ν
  |some (lines,a)=>σ (⟨scope,d6,other,lines⟩,if e=s2 then{a with m2:=a.m2++[(d6,lines)]}else a)
theorem EX{s s':aN}{l:List (Λ×Int)}(h:ed d6 s=σ (l,s')):s'.hp.length+1<=s.hp.length/\s'.m2=s.m2:=by
 unfold ed at h;cases e:bq (-aD) aD s with
 |none=>rw[e]at h;cases h
 |some q=>
  obtain⟨n,s1⟩:=q;have j:=dP e;have z:=j.1;have r:=j.eqs.2.2;rw[e]at h;simp only at h;split at h
  .split at h
   .cases h
   .split at h
    .cases h;exact⟨Ω,r⟩
    .cases h
  .have be:=h;have:=mF (λ_ t=>t.hp.length<=s1.hp.length/\t.m2=s1.m2) (λacc t a bu w y=>by
    obtain⟨_,_,_,x⟩:=qL y;have h1:=x.1;have f:=x.eqs.2.2;exact⟨by have:=w.1;omega,f.F w.2⟩) n.toNat [] (bm (decide (16384<min (s1.m1+n) aD)) {s1 with m1:=min (s1.m1+n) aD}) l s' ⟨o6 _,rfl⟩ be
   obtain⟨⟨h1,f⟩,_⟩:=this;exact⟨Ω,f.F r⟩
theorem vb{g:Nat}{H:aj}{s:aN}(h:bX w g B H N (σ s)):s.hp.length<=100000/\s.m2.length+s.hp.length<=100000:=by
 obtain⟨j,w0,q,r,gs,sv,L,X,x,y,bad,z,big,A,m1,h1,C,E,F,e,G,I,J,K,M,O,a,P,f,Q⟩:=h;have R:=e.2.2.1;refine⟨by rw[<-a,r9];omega,by rw[<-a,<-f,r9,r9];omega⟩
def EY(w:x5)(g h B:Nat)(H:aj)(e:Option (cI×aN))(v:x4)(I:x5):Prop:=∃f x a,ai (λr=>r=g\/H r\/r=h\/B<=r) w I/\v= .agg (fS f).toArray/\iv I f x/\bX I g I.heap.size a 100001 (e.map (·.2))/\(∀q,e=σ q->x=q.1)/\(∀r,H r->a r)/\(∀r,a r->H r\/B<=r)/\∀r,a r->r<I.heap.size
theorem EZ{g E ar:Nat}{H:aj}{R:Option aN}{bd:Bool}{dx:Int}{scope:Λ}{Q:x4->x5->Prop}(h:bX w g B H 100000 R)(dy:iH w B E ⟨scope,d6,0,[]⟩)(fi:∀c,ak w E bj c->c[3]?=σ (.slice ν 0 0))(dz:∀z∈d6,1<=z/\z<=aD)(fj:d6.length<=100001)(dA:ak w N bj [.slice ν 0 0,.slice ν 0 0,Δ 0,.slice ν 0 0])(jy:N<B)(cE:¬H N)(cF:∀r,H r->r<B)(fk:∀ap,R=σ ap->ll ap)(fm:∀v I,EY w g N B H (ln bd ar scope d6 R) v I->Q v I):
  ad x8 (u6 bj (Γ E) 1) w λfo=>
  ad x8 (u5 aA fo) w λdC=>
  ad x8 (X7 #[aA] al #[dC]) w λfp=>
  cp (Δ 1) (Δ 0) w λdD cX aB fq=>
   ad x8 (aS .lss al sp sp cX fp) aB λfs=>
   Split fs (cG (α:=x4->x5->Prop) (λ(ft:x4)(dE:x5)=>
    ad x8 (aS .add al sp s2 cX (Δ 1)) dE λfu=>
    fq ft fu dE) λdF=>
   ad x8 (n9 aA dC cX) aB λfv=>
   ad x8 (u5 ay fv) aB λdG=>
   cG (α:=x4->x5->Prop) (λ(fw:x4)(cH:x5)=>
    ad x8 (aS .mul ay sp sp dD fw) cH λdH=>
    ad x8 (aS .gtr ay sp s2 dH (Δ 4096)) cH λfx=>
    Split fx (dF (Δ 4097) cH)
     (dF dH cH)) λdI=>
   ad x8 (aS .gtr ay sp s2 dG (Δ 4096)) aB λfy=>
   Split fy (dI (Δ 4097) aB)
    (dI dG aB))
    (cG (α:=x5->Prop) (λ(bU:x5)=>
   aq x8 nv [(Γ g),(Δ 0),(Δ 4611686018427387904)] bU λdJ bC=>
   ad x8 (Z7 dJ 0) bC λfz=>
   ad x8 (Z7 dJ 1) bC λjz=>
   ad x8 (u6 bj (Γ E) 2) bC λfB=>
   aL x8 (o7 ay fB fz) bC λ(_:Unit)be=>
   aq x8 nv [(Γ g),(Δ (-4611686018427387904)),(Δ 4611686018427387904)] be λdM O=>
   ad x8 (Z7 dM 0) O λbD=>
   ad x8 (Z7 dM 1) O λdN=>
   ad x8 (b0 (Γ g)) O λfD=>
   ad x8 (u6 bN fD 3) O λfF=>
   ad x8 (u5 al fF) O λfG=>
   ad x8 (aS .neq al sp s2 fG (Δ 0)) O λfH=>
   Split fH (ad x8 (u5 bj (Γ E)) O λbV=>
    aL x8 (o7 bj (Γ N) bV) O λ(_:Unit)bf=>
    ad x8 (do loadVar bj (<-asAddr (Γ N))) bf λbY=>
 Q bY bf)
    (cG (α:=x5->Prop) (λ(aQ:x5)=>
    b3 (Δ 0) aQ λdO bo fI=>
     cG (α:=x4->x5->Prop) (λ(fJ:x4)(bZ:x5)=>
      Split fJ (aL x8 (Instr.alloc cv s2 (.tuple #[])) bZ λx cJ=>
     ad x8 (u6 bj (Γ E) 1) cJ λfK=>
     ad x8 (u5 aA fK) cJ λdQ=>
     ad x8 (X7 #[aA] al #[dQ]) cJ λfL=>
     b3 (Δ 0) cJ λcY bE fM=>
      ad x8 (aS .lss al sp sp cY fL) bE λfN=>
      Split fN (ad x8 (n9 aA dQ cY) bE λfO=>
      ad x8 (u5 ay fO) bE λfP=>
      ad x8 (aS .sub ay sp s2 fP (Δ 1)) bE λfQ=>
      aq x8 nv [(Γ g),(Δ 0),fQ] bE λdR b1=>
      ad x8 (Z7 dR 0) b1 λfR=>
      ad x8 (Z7 dR 1) b1 λjA=>
      ad x8 (u6 cv x 0) b1 λfU=>
      ad x8 (u5 aA fU) b1 λfV=>
      aL x8 (Y3 aA 1 #[(0,fR)]) b1 λfW fX=>
      aL x8 (c9 #[aA,aA] aA #[fV,fW]) fX λfY dS=>
      ad x8 (u6 cv x 0) dS λfZ=>
      aL x8 (o7 aA fZ fY) dS λ(_:Unit)dT=>
      ad x8 (aS .add al sp s2 cY (Δ 1)) dT λgb=>
      fM gb dT)
       (aq x8 nv [(Γ g),(Δ 0),(Δ 4611686018427387904)] bE λdU bF=>
     ad x8 (Z7 dU 0) bF λgc=>
     ad x8 (Z7 dU 1) bF λgd=>
     ad x8 (u6 bj (Γ E) 3) bF λgf=>
     ad x8 (u5 ev gf) bF λdW=>
     ad x8 (X7 #[ev] al #[dW]) bF λgg=>
     b3 (Δ 0) bF λcZ bG gh=>
      ad x8 (aS .lss al sp sp cZ gg) bG λgi=>
      Split gi (cG (α:=x5->Prop) (λ(dX:x5)=>
       ad x8 (aS .add al sp s2 cZ (Δ 1)) dX λgj=>
       gh gj dX) λdY=>
      ad x8 (n9 ev dW cZ) bG λgk=>
      ad x8 (u5 cv gk) bG λgl=>
      aL x8 (Instr.alloc cv s2 (.tuple #[])) bG λy gm=>
      aL x8 (o7 cv y gl) gm λ(_:Unit)aC=>
      cG (α:=x4->x5->Prop) (λ(gn:x4)(dZ:x5)=>
       Split gn (aq x8 pe [(Γ g),(Δ 4),gd] dZ λjB gp=>
        dY gp)
        (dY dZ)) λea=>
      ad x8 (b0 (Γ g)) aC λgq=>
      ad x8 (u6 bN gq 3) aC λgu=>
      ad x8 (u5 al gu) aC λgv=>
      ad x8 (aS .eql al sp s2 gv (Δ 0)) aC λgw=>
      Split gw (ad x8 (u6 cv x 0) aC λgx=>
       ad x8 (u5 aA gx) aC λgA=>
      ad x8 (u6 cv y 0) aC λgB=>
      ad x8 (u5 aA gB) aC λgD=>
      aq x8 tH [gA,gD] aC λgE gF=>
      ea gE gF)
       (ea (.bool sp) aC))
       (ad x8 (u6 cv x 1) bG λgH=>
     aL x8 (o7 ay gH gc) bG λ(_:Unit)cK=>
     ad x8 (u6 bj (Γ E) 3) cK λgI=>
     ad x8 (u5 ev gI) cK λgJ=>
     ad x8 (u5 cv x) cK λgK=>
     aL x8 (Y3 ev 1 #[(0,gK)]) cK λgL gM=>
     aL x8 (c9 #[ev,ev] ev #[gJ,gL]) gM λgN eb=>
     ad x8 (u6 bj (Γ E) 3) eb λgO=>
     aL x8 (o7 ev gO gN) eb λ(_:Unit)ec=>
     ad x8 (aS .add ay sp s2 dO (Δ 1)) ec λgP=>
     fI gP ec)))
       (cG (α:=x5->Prop) (λ(ag:x5)=>
     ad x8 (u5 bj (Γ E)) ag λgQ=>
     aL x8 (o7 bj (Γ N) gQ) ag λ(_:Unit)ee=>
     ad x8 (do loadVar bj (<-asAddr (Γ N))) ee λgR=>
 Q gR ee) λeg=>
    Split (.bool bd) (et bZ λau=>
     ad x8 (b0 (Γ g)) au λc0=>
     ad x8 (u6 bN c0 8) au λc1=>
     ad x8 (u5 dK c1) au λeh=>
     ad x8 (u5 bj (Γ E)) au λgS=>
     aL x8 (Y3 dK 1 #[(0,gS)]) au λgT aR=>
     (Ext au aR\/cc x8 (u5 dK c1) eh aR/\cc x8 (u6 bN c0 8) c1 aR/\cc x8 (b0 (Γ g)) c0 aR/\True)/\
     aL x8 (c9 #[dK,dK] dK #[eh,gT]) aR λgU cL=>
      ad x8 (b0 (Γ g)) cL λgV=>
      ad x8 (u6 bN gV 8) cL λgW=>
      aL x8 (o7 dK gW gU) cL λ(_:Unit)bp=>
      eg bp)
     (eg bZ))) λei=>
     ad x8 (aS .lss ay sp sp dO bD) bo λgX=>
     Split gX (ad x8 (b0 (Γ g)) bo λgY=>
     ad x8 (u6 bN gY 3) bo λgZ=>
     ad x8 (u5 al gZ) bo λg0=>
     ad x8 (aS .eql al sp s2 g0 (Δ 0)) bo λg2=>
     ei g2 bo)
      (ei (.bool sp) bo)) λej=>
   ad x8 (aS .lss ay sp s2 bD (Δ 0)) O λg3=>
   Split g3 (cG (α:=x4->x5->Prop) (λ(g4:x4)(Z:x5)=>
     Split g4 (aq x8 pe [(Γ g),(Δ 4),dN] Z λjC c2=>
     ad x8 (u5 bj (Γ E)) c2 λg5=>
     aL x8 (o7 bj (Γ N) g5) c2 λ(_:Unit)ek=>
     ad x8 (do loadVar bj (<-asAddr (Γ N))) ek λg6=>
 Q g6 ek)
     (ad x8 (b0 (Γ g)) Z λg7=>
    ad x8 (u6 bN g7 8) Z λg8=>
    ad x8 (u5 dK g8) Z λg9=>
    ad x8 (Op.unary .neg bD) Z λha=>
    ad x8 (aS .sub ay sp s2 ha (Δ 1)) Z λhb=>
    ad x8 (n9 dK g9 hb) Z λhc=>
    ad x8 (u6 bj hc 3) Z λhd=>
    ad x8 (u5 ev hd) Z λhg=>
    ad x8 (u6 bj (Γ E) 3) Z λhh=>
    aL x8 (o7 ev hh hg) Z λ(_:Unit)em=>
    ej em)) λen=>
    et O λP=>
    ad x8 (Op.unary .neg bD) P λhj=>
    ad x8 (b0 (Γ g)) P λhl=>
    ad x8 (u6 bN hl 8) P λhn=>
    ad x8 (u5 dK hn) P λhq=>
    ad x8 (X7 #[dK] al #[hq]) P λhr=>
    ad x8 (aS .gtr ay sp sp hj hr) P λhs=>
    Split hs (en (.bool s2) P)
    (ad x8 (b0 (Γ g)) P λht=>
    ad x8 (u6 bN ht 8) P λhy=>
    ad x8 (u5 dK hy) P λhz=>
    ad x8 (Op.unary .neg bD) P λhA=>
    ad x8 (aS .sub ay sp s2 hA (Δ 1)) P λhB=>
    ad x8 (n9 dK hz hB) P λhC=>
    ad x8 (u6 bj hC 1) P λhD=>
    ad x8 (u5 aA hD) P λhE=>
    ad x8 (u6 bj (Γ E) 1) P λhF=>
    ad x8 (u5 aA hF) P λhG=>
    aq x8 tH [hE,hG] P λhH c3=>
    ad x8 (Op.unary .not hH) c3 λhI=>
    en hI c3))
    (ad x8 (b0 (Γ g)) O λhJ=>
    ad x8 (u6 bN hJ 7) O λhK=>
    ad x8 (u5 ay hK) O λhL=>
    ad x8 (aS .add ay sp sp hL bD) O λhM=>
    ad x8 (b0 (Γ g)) O λhN=>
    ad x8 (u6 bN hN 7) O λhO=>
    aL x8 (o7 ay hO hM) O λ(_:Unit)aE=>
    cG (α:=x5->Prop) (λ(aG:x5)=>
     ad x8 (b0 (Γ g)) aG λhP=>
     ad x8 (u6 bN hP 7) aG λhQ=>
     ad x8 (u5 ay hQ) aG λhR=>
     ad x8 (aS .gtr ay sp s2 hR (Δ 16384)) aG λhS=>
     aq x8 tG [(Γ g),hS,dN] aG λjD c4=>
     ej c4) λeo=>
    ad x8 (b0 (Γ g)) aE λhT=>
    ad x8 (u6 bN hT 7) aE λhU=>
    ad x8 (u5 ay hU) aE λhV=>
    ad x8 (aS .gtr ay sp s2 hV (Δ 4611686018427387904)) aE λhW=>
    Split hW (ad x8 (b0 (Γ g)) aE λhX=>
    ad x8 (u6 bN hX 7) aE λhY=>
    aL x8 (o7 ay hY (Δ 4611686018427387904)) aE λ(_:Unit)ep=>
    eo ep)
    (eo aE)))) λer=>
  ad x8 (aS .gtr ay sp s2 (Δ (ar:Int)) (Δ 6)) aB λhZ=>
  Split hZ (aq x8 tG [(Γ g),(.bool s2),(Δ dx)] aB λjE h0=>
  er h0)
   (ad x8 (aS .gtr ay sp s2 dD (Δ 4096)) aB λh2=>
  aq x8 tG [(Γ g),h2,(Δ dx)] aB λjF h3=>
  er h3)):=by
 have h4:=h.lt;have es:N≠g:=λhe=>by
  obtain⟨av,ac,ae,bad,aw,big,ax,m1,sv,C,_⟩:=ju h;subst he;exact m6 (fE C dA) Φ
 obtain⟨a1,hv,cw,g1,cM,cN,f1,f2,f3,f4,f5,f6,f7⟩:=id dy;have b2:E≠g:=Ω
 have ret:∀{G:x5}{x:cI}{S:aj},iH G B E x->ak G N bj [.slice ν 0 0,.slice ν 0 0,Δ 0,.slice ν 0 0]->ai (λr=>r=g\/H r\/B<=r) w G->bX G g G.heap.size S 100001 ((ln bd ar scope d6 R).map (·.2))->(∀q,ln bd ar scope d6 R=σ q->x=q.1)->¬S N->(∀r,H r->S r)->(∀r,S r->H r\/B<=r)->(∀r,S r->r<G.heap.size)->
   (ad x8 (u5 bj (Γ E)) G λbV=>
    aL x8 (o7 bj (Γ N) bV) G λ(_:Unit)bf=>
    ad x8 (do loadVar bj (<-asAddr (Γ N))) bf λbY=>Q bY bf):=by
  intro G x S c5 c6 h5 h6 J h7 c7 h8 h9;obtain⟨a1,hv,cw,g1,cM,cN,c8,db,dc,de,df,eu,ew⟩:=c5;let af:ks:=⟨a1,hv,x.other,cw⟩;have b4:iv G af x:=⟨⟨g1,db⟩,⟨cM,dc⟩,rfl,cN,de⟩;rw[bI bj.p bj.i rfl (show G.rangeAt E 0 (fS af)from c8.range)];refine cd (vs:=fS af) bj.i rfl rfl b4.one c6 λjG dg ia ib=>?_;rw[fA bj.p bj.i rfl ib.range];have ic:∀r,r=N->iG G r\/G.heap.size<=r:=λr j=>by subst j;exact .inl ⟨_,_,c6,Φ,Φ⟩
  refine fm _ _ ⟨af,x,S,(h5.Y λr _ h=>?_).F (dg.Y λr _ h=>.inr (.inr (.inl h))),rfl,b4.dV dg ic,h6.dV dg λr j=>.inl ?_,J,c7,h8,λr j=>by rw[ia];exact h9 r j⟩
  .exact h.elim .inl λh=>h.elim (λh=>.inr (.inl h)) λh=>.inr (.inr (.inr h))
  .have j:r=N:=j;subst j;exact⟨_,_,c6,Φ,Φ,Φ,Φ,h7⟩
 have dh:∀{G:x5},ai (iI g B) w G->ak G N bj [.slice ν 0 0,.slice ν 0 0,Δ 0,.slice ν 0 0]:=λaU=>dA.aa aU λV=>V.elim es λh=>Ω
 have di:∀{G:x5},ai (iI g B) w G->ai (λr=>r=g\/H r\/B<=r) w G:=λaU=>aU.Y λr _ h=>h.elim .inl λh=>.inr (.inr h);have ey:∀{G:x5}{ez:Nat}{S:aj}{so:Option aN},bX G g ez S 100000 so->bX G g ez S 100001 so:=λj=>by
  obtain⟨b6,w0,av,bg,gs,sv,L,X,ac,ae,bad,aw,big,ax,m1,h1,ie,ig,ih,ii,dj,dk⟩:=j;refine⟨Ω,w0,av,bg,gs,sv,L,X,ac,ae,bad,aw,big,ax,m1,h1,ie,ig,ih,ii,dj,?_⟩;rename_i so;cases so with
  |none=>exact⟨dk.1,by have:=dk.2;omega⟩
  |some s=>exact dk
 have eA:∀{G:x5}{x:cI},iH G B E x->ai (iI g B) w G->bX G g B H 100000 ν->ln bd ar scope d6 R=ν->(ad x8 (u5 bj (Γ E)) G λbV=>
    aL x8 (o7 bj (Γ N) bV) G λ(_:Unit)bf=>
    ad x8 (do loadVar bj (<-asAddr (Γ N))) bf λbY=>Q bY bf):=λc5 aU j eB=>
  ret c5 (dh aU) (di aU) (by rw[eB];exact ey j.base) (λq W=>by rw[eB]at W;cases W) cE (λ_ h=>h) (λ_ h=>.inl h) λr j=>by have:=cF r j;have:=aU.size;omega
 rw[aP bj.p 1 f1 rfl,ba aA.u f3.ls];refine QF f3.ls (λz ij=>(dz z ij).1) λc aU=>?_;refine dd (λbU=>ai (λr=>r=g) w bU/\bX bU g B H 100000 (R.map (bm (decide (6<ar)||dL d6)))) ?_ ?_
 rotate_left
 .intro az aV;rw[bW,ao];refine⟨λdj=>?_,λdj=>?_⟩
  .refine (oG h).Y ?_;rintro _ U _ aX;refine aV _ ⟨aX.1,?_⟩;rw[ms (show 6<ar by omega),Bool.true_or];exact aX.2
  .rw[bW];refine(oG h).Y ?_;rintro _ U _ aX;refine aV _ ⟨aX.1,?_⟩;have e:dL d6=decide (4096<c):=by rw[U1,ro];exact aU.symm
   rw[rc (show¬6<ar by omega),Bool.false_or,e];exact aX.2
 rintro bU ⟨ik,il⟩;refine(l0 il).Y ?_;rintro _ bC _ ⟨⟨im,io⟩,o,jH,rfl,ip,jI⟩;rw[bA,bB];have bH:ai (λr=>r=g) w bC:=ik.F im;have jJ:=dy.dV bH (l1 h);have f123:=f1.aa bH λhe=>b2 he;rw[aZ bj.p rfl];refine bs (g:=E) (o:=2) ay.i rfl rfl f123 Ξ λbe b7 jK bJ=>?_;have bJ:ak be E bj [a1,hv,Δ o,cw]:=bJ;have dl:∀r,r=g->iG w r\/w.heap.size<=r:=λr j=>(l1 h r j).imp (λ⟨e,c,C,aY,a2,_⟩=>⟨e,c,C,aY,a2⟩) id;have bK:∀{G:x5}{c:List x4},ak G E bj c->∀r,r=E->iG G r\/G.heap.size<=r:=λC r j=>by subst j;exact .inl ⟨_,_,C,Φ,Φ⟩
 have f224:=eZ (eZ f2 bH dl) b7 (bK f123);have f324:=eZ (eZ f3 bH dl) b7 (bK f123);have eC:=(f4.dV bH dl).dV b7 (bK f123);have bL:=io.new b7 λr j=>by have j:r=E:=j;omega
 have eD:ai (iI g B) w be:=(bH.Y λr _ h=>.inl h).F (b7.Y λr _ h=>.inr (by have h:r=E:=h;omega));refine(l0 bL).Y ?_;rintro _ O _ ⟨⟨bh,a7⟩,n,jL,rfl,iq,eE⟩;rw[bA,bB,sL a7];have eI:ai (iI g B) w O:=eD.F (bh.Y λr _ h=>.inl h);have ir:iH be B E ⟨scope,d6,o,[]⟩:=⟨a1,hv,cw,g1,cM,cN,bJ,f224,f324,eC,f5,f6,f7⟩;have eJ:=ir.dV bh (l1 bL);cases a8:bk (-4611686018427387904) 4611686018427387904 (V6 (λx=>x.snd) (bk 0 4611686018427387904 (R.map (bm (decide (6<ar)||dL d6)))))with
 |none=>
  rw[a8]at a7;rw[Option.map_none,S4,X5,bT];refine eA eJ eI a7 ?_;unfold ln;cases Y:bk 0 aD (R.map (bm (decide (6<ar)||dL d6)))with
  |none=>rfl
  |some p=>
   obtain⟨o',M⟩:=p;have it:bk 0 4611686018427387904 (R.map (bm (decide (6<ar)||dL d6)))=σ (o',M):=Y;rw[it]at a8;have e:bq (-aD) aD M=ν:=a8;simp only;unfold ed;rw[e]
 |some q=>
 obtain⟨jM,K⟩:=q;have iu:=iq _ a8;subst iu;rw[a8]at a7;have a7:bX O g B H 100000 (σ K):=a7;rw[Y6,T8,Y7,bb];obtain⟨M,Y,dn⟩:∃M,bk 0 aD (R.map (bm (decide (6<ar)||dL d6)))=σ (o,M)/\bq (-aD) aD M=σ (n,K):=by
  cases Y:bk 0 4611686018427387904 (R.map (bm (decide (6<ar)||dL d6)))with
  |none=>rw[Y]at a8;cases a8
  |some p=>
   obtain⟨o',M⟩:=p;have:=ip _ Y;subst this;rw[Y]at a8;exact⟨M,Y,a8⟩
 have b8:ln bd ar scope d6 R=match ed d6 M with
   |none=>ν
   |some (lines,K)=>σ (⟨scope,d6,o,lines⟩,if bd=s2 then{K with m2:=K.m2++[(d6,lines)]}else K):=by
  unfold ln;rw[Y]
 have iw:=(jn dn).1;have ix: -4611686018427387904<=n/\n<=4611686018427387904:=iw;have eK:ed d6 M=(if n<0 then match K.m2[(-n-1).toNat]? with
   |none=>ν
   |some (z,l)=>if z=d6 then σ (l,K)else ν
  else da (eX d6) n.toNat [] (bm (decide (16384<min (K.m1+n) aD)) {K with m1:=min (K.m1+n) aD})):=by
  unfold ed;rw[dn];rfl
 have iy:ll K:=by
  cases bM:R with
  |none=>rw[bM]at Y;cases Y
  |some ap=>
   rw[bM]at Y;have dp:bq 0 aD (bm (decide (6<ar)||dL d6) ap)=σ (o,M):=Y;have cP:=(dP dp).eqs;have b9:=(dP dn).eqs;intro C;rw[b9.2.1,cP.2.1]at C;rw[b9.1,cP.1];exact fk ap bM (T4.1 C).1
 refine dd (λaQ=>ai (iI g B) w aQ/\∃br ca cQ bi,ak aQ E bj [a1,hv,Δ o,br]/\aH .i64 ay aQ g1 a1 scope/\aH .i64 ay aQ cM hv d6/\lZ aQ ca br cQ/\bX aQ g B H 100000 (σ bi)/\(0<n->cQ=[]/\∀r,¬hx br r)/\ed d6 M=(if n<=0 then σ (cQ,bi)else da (eX d6) n.toNat [] bi)) ?_ ?_
 .rintro aQ ⟨iz,br,ca,cQ,bi,c8,db,dc,de,df,eu,ew⟩;refine QI df c8 db dc de f5 f6 f7 dz fj ix.2 eu (vb df).1 λbZ A dq iA eL eM iB cb=>?_;have bO:=iz.F iA;have bt:dq=(ed d6 M).map (·.2)/\∀q,ed d6 M=σ q->A=q.1:=by
   rw[ew];by_cases dr:n<=0
   .obtain⟨ac,ae⟩:=iB dr;rw[m3 dr];exact⟨ae,λq W=>by cases W;exact ac⟩
   .rw[m5 dr];exact cb Ω
  obtain⟨bt,aX⟩:=bt;cases bd with
  |false=>
   refine dd (λag=>bZ=ag) ?_ ?_
   .rintro _ rfl;refine ret eL (dh bO) (di bO) ?_ ?_ cE (λ_ h=>h) (λ_ h=>.inl h) λr j=>by have:=cF r j;have:=bO.size;omega
    .have:(ln sp ar scope d6 R).map (·.2)=dq:=by
      rw[b8,bt];cases ed d6 M with
      |none=>rfl
      |some p=>rfl
     rw[this];exact ey eM.base
    .intro q W;rw[b8]at W;cases ah:ed d6 M with
     |none=>rw[ah]at W;cases W
     |some p=>
      rw[ah]at W;have:=aX p ah;cases W;rw[this]
   .intro az aV;rw[bb];exact aV _ rfl
  |true=>
   refine dd (λag=>∃S,ai (λr=>r=g\/H r\/B<=r) w ag/\iH ag B E ⟨scope,d6,o,A⟩/\ak ag N bj [.slice ν 0 0,.slice ν 0 0,Δ 0,.slice ν 0 0]/\bX ag g ag.heap.size S 100001 ((ln s2 ar scope d6 R).map (·.2))/\¬S N/\(∀r,H r->S r)/\(∀r,S r->H r\/B<=r)/\∀r,S r->r<ag.heap.size) ?_ ?_
   .rintro ag ⟨S,iC,iD,a3,a4,a5,iE,iF,iJ⟩;refine ret iD a3 iC a4 ?_ a5 iE iF iJ;intro q W;rw[b8]at W;cases ah:ed d6 M with
    |none=>rw[ah]at W;cases W
    |some p=>
     rw[ah]at W;have:=aX p ah;cases W;rw[this]
   .intro az aV;rw[bT];intro au ce _ _;have iK:=eM.W ce;have iL:=eL.W ce;have iM:=(dh bO).W ce;obtain⟨b6,w0,av,bg,gs,sv,L,X,ac,ae,bad,aw,big,ax,m1,cR,bu,bw,am,bx,bl,bz⟩:=id iK;have iN:=bx.g bu bw;obtain⟨⟨iO,eN⟩,aI,cf,cg⟩:=id iN;have iP:∀r,hx sv r->r<B:=λr j=>cF r (bl r j);rw[aO bN.p 8 am rfl];obtain⟨eO,eP,br,eQ,eR,ca,eS,eU,eV,eW,iQ,iR,iS⟩:=id iL;let af:ks:=⟨eO,eP,o,br⟩;let x:cI:=⟨scope,d6,o,A⟩;have b4:iv au af x:=⟨⟨eQ,eU⟩,⟨eR,eV⟩,rfl,ca,eW⟩;rw[bI bj.p bj.i rfl (show au.rangeAt E 0 (fS af)from eS.range)];refine jr (f:=fS) (a:=af) dK.u bj.i Ω rfl rfl λjN jO aR jP ab iT=>?_;refine⟨.inl ab,?_⟩;have jQ:L.length<=100000:=by
     cases dq with
     |none=>exact bz.2
     |some s=>have:=bz.2.2.2.2.2.2.2.2;omega
    have ds:=aI.W ab;refine jT (f:=fS) (a:=af) dK.u bj.i rfl ds (by simpa using iT.sl) (b4.W ab).one Ω Ω λeY iU cL ch iV e0=>?_;have dt:=am.W ab;have e1:=dt.aa e0 λhe=>cO ds dt Φ he;rw[b5,aZ bN.p rfl];refine bs (g:=g) (o:=8) dK.i (eH ch.sl).1 (eH ch.sl).2 e1 (by simp[jb]) λbp du jR cS=>?_;have cS:ak bp g bN (jb av ac ae bad aw big ax m1 eY):=cS;have aK:ai (λr=>hx sv r\/r=g) aR bp:=(e0.Y λr _ h=>.inl h).F (du.Y λr _ h=>.inr h);have cT:∀r,(hx sv r\/r=g)->iG aR r\/aR.heap.size<=r:=λr j=>by
     rcases j with j|rfl
     .obtain⟨rfl,c,C⟩:=ef ds j;exact .inl ⟨_,c,C,Φ,Φ⟩
     .exact .inl ⟨_,_,dt,Φ,Φ⟩
    have e2:∀{af x},iv au af x->iv bp af x:=λhe=>(he.W ab).dV aK cT;have z50:=ce.size;have jS:=ab.size;have z53:=aK.size;have jU:=bO.size;have jV:=h4.2;refine aV _ ⟨λr=>H r\/(au.heap.size<=r/\r<bp.heap.size),?_,?_,?_,?_,?_,λr j=>.inl j,λr j=>j.imp id λj=>Ω,λr j=>?_⟩
    .refine (((di bO).F (ce.aa _)).F (ab.aa _)).F (aK.Y λr _ j=>?_);exact j.elim (λj=>.inr (.inl (bl r j))) .inl
    .have iW:=eS.W ab;refine⟨eO,eP,br,eQ,eR,ca,iW.aa aK λj=>?_,eZ (eU.W ab) aK cT,eZ (eV.W ab) aK cT,(eW.dV (ab.aa λ_=>False) λ_ h=>h.elim).dV aK cT,iQ,iR,iS⟩;rcases j with j|j
     .have:=iP _ j;omega
     .exact b2 j
    .exact (iM.W ab).aa aK λj=>j.elim (λj=>cE (bl _ j)) es
    .refine⟨Ω,bp,av,bg,iU,eY,L++[af],X++[x],ac,ae,bad,aw,big,ax,m1,rfl,ai.refl _ _,⟨_,cS⟩,cS,⟨⟨?_,λr j=>?_⟩,ch.aa du λr j he=>?_,by rw[j6,j6,cf];rfl,λi iX iY hi ci=>?_⟩,λr j=>?_,?_⟩
     .refine (iO.aa (ab.aa λ_=>False) λ_ _ h=>h).aa aK λr j V=>?_;obtain⟨c,C⟩:=eN r j;rcases V with V|rfl
      .obtain⟨rfl,iZ,dv⟩:=ef aI V;exact m6 (fE C dv) Φ
      .exact m6 (fE C am) Φ
     .obtain⟨c,C⟩:=eN r j;refine⟨c,(C.W ab).aa aK λV=>?_⟩;rcases V with V|rfl
      .obtain⟨rfl,iZ,dv⟩:=ef aI V;exact m6 (fE C dv) Φ
      .exact m6 (fE C am) Φ
     .have he:r=g:=he;subst he;exact cO ch e1 Φ j
     .by_cases i0:i<L.length
      .rw[V9 i0]at hi;rw[V9 Ω]at ci;exact e2 (cg i iX iY hi ci)
      .rw[X3 Ω]at hi;rw[X3 Ω]at ci;have i1:i-L.length=0:=by have:=(x6.1 hi).1;simp at this;omega
       have c7:i-X.length=0:=Ω
       rw[i1]at hi;rw[c7]at ci;cases hi;cases ci;exact e2 b4
     .rcases iV r j with h|h
      .exact .inl (bl r h)
      .have:=(ch.lc j);have:=du.size;exact .inr ⟨Ω,Ω⟩
     .rw[b8];cases ah:ed d6 M with
      |none=>
       rw[ah]at bt;rw[bt]at bz;exact⟨bz.1,by rw[j6];simp;have:=bz.2;omega⟩
      |some p=>
       obtain⟨lines,bi⟩:=p;rw[ah]at bt;rw[bt]at bz;have i2:=aX _ ah;obtain⟨cj,ck,cl,cm,cn,bP,cq,aM,cU⟩:=id bz;have e3:=EX ah;refine⟨cj,ck,cl,cm,cn,bP,cq,?_,?_⟩
       .show (X++[x]).map _=bi.m2++[(d6,lines)];rw[Z0,aM];simp only[x,List.map_cons,List.map_nil];rw[i2]
       .have jW:M.m2.length+M.hp.length<=100000:=by
         cases bM:R with
         |none=>rw[bM]at Y;cases Y
         |some ap=>
          rw[bM]at Y h;have dp:bq 0 aD (bm (decide (6<ar)||dL d6) ap)=σ (o,M):=Y;have t9:=dP dp;have cP:=t9.1;have b9:=t9.eqs.2.2;have t3:=(vb h).2;have e4:(bm (decide (6<ar)||dL d6) ap).hp=ap.hp:=rfl;have e5:(bm (decide (6<ar)||dL d6) ap).m2=ap.m2:=rfl;rw[e4]at cP;rw[e5]at b9;rw[b9];omega
        have e6:L.length=bi.m2.length:=by rw[<-aM,r9,cf]
        have i3:bg.length=bi.hp.length:=by rw[<-bP,r9]
        rw[e3.2]at e6;rw[j6,e6,i3];simp only[List.length_singleton];have:=e3.1;omega
    .rintro (j|j)
     .exact cE j
     .omega
    .rcases j with j|j
     .have:=cF r j;omega
     .exact j.2
 .intro az aV;rw[aW,ao];refine⟨λi4=>?_,λi5=>?_⟩
  .
   refine a6 (λv Z=>Ext O Z/\∃b:Bool,v= .bool b/\(b=s2->ed d6 M=ν)/\(b=sp->∃lines,ed d6 M=σ (lines,K)/\K.m2[(-n-1).toNat]?=σ (d6,lines))) ?_ ?_
   .rintro _ Z ⟨bQ,b,rfl,i6,i7⟩;have cV:=a7.W bQ;have i8:=eJ.W bQ;have e7:=eI.F (bQ.aa _);cases b with
    |true=>
     rw[bT];refine(pS cV Ω).Y ?_;rintro _ c2 _ ⟨e8,i9⟩;exact eA (i8.dV e8 (l1 cV)) (e7.F (e8.Y λr _ h=>.inl h)) i9 (by rw[b8,i6 rfl])
    |false=>
     rw[bb];obtain⟨lines,ja,bS⟩:=i7 rfl;obtain⟨b6,w0,av,bg,gs,sv,L,X,ac,ae,bad,aw,big,ax,m1,cR,bu,bw,am,bx,bl,cj,ck,cl,cm,cn,bP,cq,aM,cU⟩:=id cV;obtain⟨_,aI,cf,cg⟩:=bx.g bu bw;have cr:(-n-1).toNat<L.length:=by
      have h1:=(x6.1 bS).1;rw[<-aM,r9]at h1;omega
     obtain⟨hk,cu⟩:∃h,L[(-n-1).toNat]?=σ h:=⟨_,v8 cr⟩;obtain⟨bc,cz⟩:=aJ (l:=X) (i:=(-n-1).toNat) Ω;obtain⟨_,_,_,jc,an⟩:=cg _ hk bc cu cz;have jd:bc.lines=lines:=by
      rw[<-aM,u4,cz]at bS;have:=Z5 bS;exact(Prod.mk.inj this).2
     rw[aO bN.p 8 am rfl,nA,lm Ω Ω,dm,lm Ω Ω,ct (i:=(-n-1).toNat) Ω dK.u bj.i aI cr,aZ bj.p rfl,aF Ψ (aI.range cu 3 _ rfl)];obtain⟨jX,e9,jY,jZ⟩:=id an;have cW:ak Z E bj [a1,hv,Δ o,cw]:=(bJ.aa bh λhe=>b2 he).W bQ;have je:=(eZ f224 bh λr j=>(l1 bL r j).imp (λ⟨e,c,C,aY,a2,_⟩=>⟨e,c,C,aY,a2⟩) id).W bQ;have jf:=(eZ f324 bh λr j=>(l1 bL r j).imp (λ⟨e,c,C,aY,a2,_⟩=>⟨e,c,C,aY,a2⟩) id).W bQ;rw[aZ bj.p rfl];refine bs (g:=E) (o:=3) ev.i (eH e9.sl).1 (eH e9.sl).2 cW Ξ λem cA j1 jg=>?_;refine aV _ ⟨e7.F (cA.Y λr _ h=>.inr (by have h:r=E:=h;omega)),hk.cw,jc,lines,K,jg,eZ je cA (bK cW),eZ jf cA (bK cW),?_,cV.new cA λr j=>by have j:r=E:=j;omega,λh=>Ω,by rw[ja,m3 Ω]⟩;rw[<-jd];exact an.dV cA (bK cW)
   .intro j2 fa;intro P cB _ _;have jh:=a7.W cB;obtain⟨b6,w0,av,bg,gs,sv,L,X,ac,ae,bad,aw,big,ax,m1,cR,bu,bw,am,bx,bl,cj,ck,cl,cm,cn,bP,cq,aM,cU⟩:=id jh;obtain⟨_,aI,cf,cg⟩:=bx.g bu bw;have j3:K.m2.length=L.length:=by rw[<-aM,r9,cf]
    have an:=eK;rw[m3 i4]at an;rw[nA,lm Ω Ω,aO bN.p 8 am rfl,eF dK.u aI,bW,ao];refine⟨λcb=>fa _ _ ⟨cB,s2,rfl,λ_=>?_,λh=>by cases h⟩,λcb=>?_⟩
    .rw[an,W7 Ω]
    have cr:(-n-1).toNat<L.length:=Ω
    obtain⟨hk,cu⟩:∃h,L[(-n-1).toNat]?=σ h:=⟨_,v8 cr⟩;obtain⟨bc,cz⟩:=aJ (l:=X) (i:=(-n-1).toNat) Ω;obtain⟨_,⟨gz,ji⟩,_,_⟩:=cg _ hk bc cu cz;have bS:K.m2[(-n-1).toNat]?=σ (bc.d6,bc.lines):=by rw[<-aM,u4,cz];rfl
    rw[bS]at an;simp only at an;rw[aO bN.p 8 am rfl,nA,lm Ω Ω,dm,lm Ω Ω,ct (i:=(-n-1).toNat) Ω dK.u bj.i aI cr,aZ bj.p rfl,aF Ψ (aI.range cu 1 _ rfl)];have jj:ak P E bj [a1,hv,Δ o,cw]:=(bJ.aa bh λhe=>b2 he).W cB;have jk:=(eZ f324 bh λr j=>(l1 bL r j).imp (λ⟨e,c,C,aY,a2,_⟩=>⟨e,c,C,aY,a2⟩) id).W cB;rw[aP bj.p 1 jj rfl];refine(yy ji.ls jk.ls).Y ?_;rintro _ c3 _ ⟨rfl,jl⟩;rw[bR];refine fa _ _ ⟨cB.F jl,_,rfl,λC=>?_,λC=>?_⟩
    .have jm:bc.d6≠d6:=by simpa using C
     rw[an,m5 jm]
    .have fb:bc.d6=d6:=by simpa using C
     exact⟨bc.lines,by rw[an,m3 fb],by rw[bS,fb]⟩
  .
   have an:=eK;rw[m5 i5]at an;obtain⟨b6,w0,av,bg,gs,sv,L,X,ac,ae,bad,aw,big,ax,m1,cR,bu,bw,am,bx,bl,cj,ck,cl,cm,cn,bP,cq,aM,cU⟩:=id a7;rw[aO bN.p 7 am rfl,aT];generalize jo:X4.wrap (m1+n)=bn;have fc:K.big=sp->bn=K.m1+n/\0<=bn:=λC=>by
    obtain⟨e4,e5⟩:=iy C;have jp:=cm C;rw[<-jo,jp,lm Ω Ω];exact⟨rfl,Ω⟩
   rw[b5,aZ bN.p rfl];refine bs (g:=g) (o:=7) ay.i rfl rfl am (by simp[jb]) λaE fd j4 cC=>?_;have cC:ak aE g bN (jb av ac ae bad aw big ax bn sv):=cC;refine dd (λaG=>ai (λr=>r=g) O aG/\ak aG g bN (jb av ac ae bad aw big ax (min bn aD) sv)) ?_ ?_
   rotate_left
   .intro j5 fe;rw[aO bN.p 7 cC rfl,bW,ao];refine⟨λcb=>?_,λcb=>fe _ ⟨fd,?_⟩⟩
    .rw[b5,aZ bN.p rfl];refine bs (g:=g) (o:=7) ay.i rfl rfl cC (by simp[jb]) λep jq j7 js=>?_;refine fe _ ⟨fd.F jq,?_⟩;have e:min bn aD=4611686018427387904:=by unfold aD;omega
     rw[e];exact js
    .have e:min bn aD=bn:=by unfold aD;omega
     rw[e];exact cC
   rintro aG ⟨ff,fg⟩;have jt:bX aG g B H 100000 (σ {K with m1:=min (K.m1+n) aD}):=⟨b6,w0,av,bg,gs,sv,L,X,ac,ae,bad,aw,big,ax,_,cR,bu.F ff,bw,fg,bx,bl,cj,ck,cl,λC=>by
    have C:K.big=sp:=C;rw[(fc C).1],cn,bP,cq,aM,cU⟩
   rw[aO bN.p 7 fg rfl,bW];refine(oG jt).Y ?_;rintro _ c4 _ ⟨jv,fh⟩;have jw:(σ {K with m1:=min (K.m1+n) aD}).map (bm (decide (16384<min bn aD)))=σ (bm (decide (16384<min (K.m1+n) aD)) {K with m1:=min (K.m1+n) aD}):=by
    show σ (bm _ _)=_;congr 1;unfold bm;cases C:K.big with
    |true=>simp
    |false=>rw[(fc C).1]
   rw[jw]at fh;have cD:ai (λr=>r=g) be c4:=(bh.F ff).F jv;have dw:∀r,r=g->iG be r\/be.heap.size<=r:=λr j=>(l1 bL r j).imp (λ⟨e,c,C,aY,a2,_⟩=>⟨e,c,C,aY,a2⟩) id;have jx:cw= .slice ν 0 0:=by
    have:=fi _ f1;simpa using this
   refine aV _ ⟨eD.F (cD.Y λr _ h=>.inl h),cw,cN,[],_,bJ.aa cD λhe=>b2 he,eZ f224 cD dw,eZ f324 cD dw,eC.dV cD dw,fh,λ_=>⟨rfl,λr j=>by rw[jx]at j;exact gC j⟩,?_⟩;rw[an];by_cases eE:n<=0
   .have:n=0:=Ω
    subst this;rw[m3 (T3 _)];rfl
   .rw[m5 eE]
theorem E0{s:aN}:dv all s=match bq (-aD) aD s with
  |none=>ν
  |some (a,s1)=>match fm all.length a.natAbs s1 with
   |none=>ν
   |some (scope,e)=>ln (decide (a<0)) a.natAbs scope (scope.map λv=>all.getD v.toNat 0) (σ e):=by
 unfold dv;cases bq (-aD) aD s with
 |none=>rfl
 |some q=>
  obtain⟨a,s1⟩:=q;simp only;cases fm all.length a.natAbs s1 with
  |none=>rfl
  |some p=>
   obtain⟨scope,e⟩:=p;simp only;unfold ln;show _=match bq 0 aD (bm (decide (6<a.natAbs)||dL (scope.map λv=>all.getD v.toNat 0)) e)with
    |none=>ν
    |some (other,f)=>_
   cases bq 0 aD (bm (decide (6<a.natAbs)||dL (scope.map λv=>all.getD v.toNat 0)) e)with
   |none=>rfl
   |some j=>
    obtain⟨o,f⟩:=j;simp only;cases ed (scope.map λv=>all.getD v.toNat 0) f with
    |none=>rfl
    |some r=>
     obtain⟨ls,w⟩:=r;by_cases h:a<0
     .simp[h]
     .simp[h]
def yA(w:x5)(g:Nat)(H:aj)(e:Option (cI×aN))(v:x4)(I:x5):Prop:=∃f x a,ai (λr=>r=g\/H r) w I/\v= .agg (fS f).toArray/\iv I f x/\bX I g I.heap.size a 100001 (e.map (·.2))/\(∀q,e=σ q->x=q.1)/\(∀r,H r->a r)/\(∀r,a r->H r\/w.heap.size<=r)/\∀r,a r->r<I.heap.size
theorem E1{k:Nat}{s s':aN}(h:fm n k s=σ (l,s')):s'.hp.length+l.length<=s.hp.length/\s'.m1=s.m1/\s'.big=s.big/\s'.m2=s.m2/\∀v∈l,0<=v/\v<n:=by
 have:=mF (f:=lS n) (λ(acc:Λ)t=>t.hp.length+acc.length<=s.hp.length/\t.m1=s.m1/\t.big=s.big/\t.m2=s.m2/\∀v∈acc,0<=v/\v<n) (λacc t a bu j e=>by
  unfold lS at e;cases w:bq 0 (n-1) t with
  |none=>rw[w]at e;cases e
  |some q=>
   obtain⟨v,C⟩:=q;rw[w]at e;simp only at e;split at e
   .cases e
   .cases e;have x:=dP w;have E:=(jn w).1;obtain⟨z,A,B⟩:=x.eqs;have t0:=x.1;refine⟨by have:=j.1;rw[j6];simp only[List.length_singleton];omega,z.F j.2.1,A.F j.2.2.1,B.F j.2.2.2.1,λy r=>?_⟩;rcases j9.1 r with r|r
    .exact j.2.2.2.2 y r
    .rw[Y4.1 r];omega) k [] s l s' ⟨Ξ,rfl,rfl,rfl,λv ac=>by cases ac⟩ h
 exact this.1
theorem QJ{g B0:Nat}{H:aj}{s:aN}{O:x4}(h:bX w g B0 H 100000 (σ s))(af:aH .i64 ay w gz O all)(ag:∀z∈all,1<=z/\z<=aD)(aS:all.length<=100001)(P:∀r,H r->r<w.heap.size)(bi:ll s):
  aq x8 A3 [Γ g,O] w (yA w g H (dv all s)):=by
 have bU:=h.lt;refine aE func120 ?_;refine bF bj.i λG U bV Q R=>?_;have R:ak U G bj [.slice ν 0 0,.slice ν 0 0,Δ 0,.slice ν 0 0]:=R;refine bF bj.i λK ab bW S W=>?_;have W:ak ab K bj [.slice ν 0 0,.slice ν 0 0,Δ 0,.slice ν 0 0]:=W;have h1:=(h.W Q).base;have ah:=h1.W S;have bY:=Q.size;have aT:=R.lt;have bZ:=W.lt;refine(l0 ah).Y ?_;rintro _ E _ ⟨⟨Y,j⟩,a,b0,rfl,al,am⟩;rw[bA,bB,aW];have bl:K≠g:=Ω
 have an:G≠g:=Ω
 have ap:=W.aa Y λhe=>bl he;have au:=(R.W S).aa Y λhe=>an he;have aU:aH .i64 ay E gz O all:=bE ((af.W Q).W S) Y λr e he=>by
  have he:r=g:=he;obtain⟨aV,B,J,bad,aX,big,aY,m1,sv,Z,_⟩:=ju h;subst he;exact cC af Z Φ e rfl
 have aZ:∀r,lc O r->r<U.heap.size:=λr e=>by obtain⟨B,J⟩:=ca af e;omega
 have av:iH E U.heap.size K ⟨[],[],0,[]⟩:=⟨_,_,_,0,0,0,ap,aH.nil _ _ _ _,aH.nil _ _ _ _,⟨[],bn.nil _ _ _ _ _,λy bm=>(by cases bm),rfl⟩,(λr e=>by rcases e with⟨a,n,c,B,J⟩|⟨a,n,c,B,J⟩<;>cases B),(λr e=>by obtain⟨a,n,c,B,J⟩:=e;cases B),Ω⟩;have aw:∀c,ak E K bj c->c[3]?=σ (.slice ν 0 0):=λc aA=>by
  unfold ak at aA ap;rw[ap]at aA;have:=Array.toList_inj.2 (Obj.cells.inj (Z5 aA)).1;simp at this;rw[<-this];rfl
 have a2:ai (λr=>r=g) U E:=(S.aa _).F Y;have b1:U.heap.size<=E.heap.size:=a2.size;have aB:∀{f:x5}{aC:Option (cI×aN)}{v:x4}{I:x5},ai (iI g U.heap.size) E f->aC=dv all s->EY f g G U.heap.size H aC v I->yA w g H (dv all s) v I:=by
  rintro f aC v I C rfl ⟨N,x,bo,aF,aG,aI,aJ,a7,a8,ba,bp⟩;refine⟨N,x,bo,?_,aG,aI,aJ,a7,a8,λr e=>(ba r e).imp id λh=>Ω,bp⟩;refine iU (iU ((Q.aa _).F (a2.Y λr _ h=>.inl h)) C λr e he=>?_) aF λr e he=>?_
  .exact he.elim .inl λhe=>Ω
  .rcases he with he|he|he|he
   .exact .inl he
   .exact .inr he
   .omega
   .omega
 have br:∀{f:x5}{x:cI},ai (iI g U.heap.size) E f->dv all s=ν->bX f g U.heap.size H 100000 ν->iH f U.heap.size K x->
   (ad x8 (u5 bj (Γ K)) f λbs=>
    aL x8 (o7 bj (Γ G) bs) f λ(_:Unit)bb=>
    ad x8 (do loadVar bj (<-asAddr (Γ G))) bb λbt=>yA w g H (dv all s) bt bb):=by
  intro f x C bc aK bu;obtain⟨a1,hv,cw,g1,bw,bx,aF,aG,aI,aJ,a7,a8,ba⟩:=bu;let N:ks:=⟨a1,hv,x.other,cw⟩;have bd:iv f N x:=⟨⟨g1,aG⟩,⟨bw,aI⟩,rfl,bx,aJ⟩;have aM:=au.aa C λV=>V.elim an λh=>Ω
  rw[bI bj.p bj.i rfl (show f.rangeAt K 0 (fS N)from aF.range)];refine cd (vs:=fS N) bj.i rfl rfl bd.one aM λb2 aO b3 bz=>?_;rw[fA bj.p bj.i rfl bz.range];have bC:∀r,r=G->iG f r\/f.heap.size<=r:=λr e=>by subst e;exact .inl ⟨_,_,aM,Φ,Φ⟩
  have b4:=C.size;refine aB C rfl ⟨N,x,H,aO.Y λr _ h=>.inr (.inr (.inl h)),rfl,bd.dV aO bC,?_,(λq A=>by rw[bc]at A;cases A),λ_ h=>h,λ_ h=>.inl h,λr e=>by have:=P r e;omega⟩;rw[bc];have bD:bX f g U.heap.size H 100001 ν:=by
   obtain⟨b5,w0,aV,bG,gs,sv,L,X,B,J,bad,aX,big,aY,m1,h1,ah,j,bH,bJ,aP,be⟩:=aK;exact⟨Ω,w0,aV,bG,gs,sv,L,X,B,J,bad,aX,big,aY,m1,h1,ah,j,bH,bJ,aP,be.1,by have:=be.2;omega⟩
  refine bD.dV aO λr e=>.inl ?_;have e:r=G:=e;subst e;exact⟨_,_,aM,Φ,Φ,Φ,Φ,λax=>by have:=P _ ax;omega⟩
 have M:=E0 (all:=all) (s:=s);have bK:bk (-4611686018427387904) 4611686018427387904 (σ s)=bq (-aD) aD s:=rfl;rw[bK]at j al am;have b6: -4611686018427387904<=a/\a<=4611686018427387904:=by
  cases A:bq (-aD) aD s with
  |none=>have:=am A;omega
  |some q=>have:=al q A;rw[this];exact(jn A).1
 refine a6 (λv bL=>E=bL/\v=Δ (a.natAbs:Int)) ?_ ?_
 rotate_left
 .intro az bf;rw[ao];refine⟨λb7=>?_,λb8=>bf _ _ ⟨rfl,by congr 1;omega⟩⟩;rw[nA,lm Ω Ω];exact bf _ _ ⟨rfl,by congr 1;omega⟩
 rintro _ _ ⟨rfl,rfl⟩;have bg:∀r,H r->r<U.heap.size:=λr e=>by have:=P r e;omega
 have bh:¬H G:=λax=>by have:=P _ ax;omega
 have bM:∀{scope:Λ},(∀v∈scope,0<=v/\v<(all.length:Int))->∀z∈scope.map (λv=>all.getD v.toNat 0),1<=z/\z<=aD:=λac z bN=>by
  obtain⟨v,bO,rfl⟩:=l9.1 bN;have:=ac v bO;refine ag _ ?_;rw[r8,v8 Ω];exact S3 _
 cases A:bq (-aD) aD s with
 |none=>
  rw[A]at j M;have bP:=am A;subst bP;refine EW (s:=s) (ar:=(0:Int).natAbs) j (.inr ⟨rfl,rfl⟩) av aw aU aZ aS Φ (λh=>by cases h) ?_ ?_ ?_
  .intro h;cases h
  .intro _;exact EZ j av aw (λz ag=>by cases ag) Ξ au aT bh bg (λbQ V=>by cases V) λv I aQ=>aB (ai.refl _ _) (by rw[M];rfl) aQ
  .intro h;cases h
 |some q=>
  obtain⟨a',s1⟩:=q;rw[A]at j M;have:=al _ A;subst this;simp only at M;have j:bX E g U.heap.size H 100000 (σ s1):=j;have bR:=dP A;refine EW j (.inl rfl) av aw aU aZ aS Ω (λ_=>(vb j).1) ?_ ?_ ?_
  .intro _ f x C ae aK aR;exact br C (by rw[M,ae]) aK aR
  .intro h;cases h
  .intro _ f scope s' C ae aP aR bS;obtain⟨b9,bT,t3,t4,t5⟩:=E1 ae;rw[ae]at M;obtain⟨B,J,cb⟩:=bR.eqs;refine EZ aP aR bS (bM t5) ?_ (au.aa C λV=>V.elim an λh=>Ω) aT bh bg (λbQ V=>?_) λv I aQ=>aB C M.symm aQ
   .rw[r9];have:=(vb j).1;omega
   .cases V;intro Z;rw[t3,J]at Z;rw[bT,B];exact bi Z
theorem QK{s s':aN}{l:List (Λ×Int)}(h:ed d6 s=σ (l,s'))(j:ll s):ll s':=by
 unfold ed at h;cases f:bq (-aD) aD s with
 |none=>grind
 |some q=>
  obtain⟨n,s1⟩:=q;obtain⟨r,E,t3⟩:=(dP f).eqs;have w:ll s1:=λe=>by rw[r];exact j (by grind)
  rw[f]at h;simp only at h;split at h
  .split at h
   .cases h
   .split at h
    all_goals grind
  .rename_i F;have be:=h;have:=mF (λ_ t=>ll t) (λacc t a bu x y=>by
    obtain⟨_,_,_,z⟩:=qL y;obtain⟨A,G,H⟩:=z.eqs;intro e;rw[A];exact x (by grind)) n.toNat [] (bm (decide (16384<min (s1.m1+n) aD)) {s1 with m1:=min (s1.m1+n) aD}) l s' (λe=>by
     obtain⟨B,C⟩:=T4.1 e;have I:=w B;have J:=of_decide_eq_false C;show 0<=min (s1.m1+n) aD/\min (s1.m1+n) aD<=16384
     grind [aD]) be
   grind
theorem QL{s s':aN}{x:cI}(h:dv all s=σ (x,s')):s'.hp.length+1<=s.hp.length/\(ll s->ll s'):=by
 rw[E0]at h;cases w:bq (-aD) aD s with
 |none=>grind
 |some q=>
  obtain⟨a,s1⟩:=q;rw[w]at h;simp only at h;have y:=dP w;cases V:fm all.length a.natAbs s1 with
  |none=>grind
  |some p=>
   obtain⟨scope,f⟩:=p;rw[V]at h;simp only at h;obtain⟨O,E,t3,_⟩:=E1 V;unfold ln at h;have e:bk 0 aD ((σ f).map (bm (decide (6<a.natAbs)||dL (scope.map λv=>all.getD v.toNat 0))))=bq 0 aD (bm (decide (6<a.natAbs)||dL (scope.map λv=>all.getD v.toNat 0)) f):=rfl;rw[e]at h;cases z:bq 0 aD (bm (decide (6<a.natAbs)||dL (scope.map λv=>all.getD v.toNat 0)) f)with
   |none=>grind
   |some F=>
    obtain⟨o,A⟩:=F;rw[z]at h;simp only at h;have B:=dP z;cases j:ed (scope.map λv=>all.getD v.toNat 0) A with
    |none=>grind
    |some G=>
     obtain⟨ls,r⟩:=G;rw[j]at h;simp only[W6,R2]at h;obtain⟨_,P⟩:=h;have Q:=EX j;have H:(bm (decide (6<a.natAbs)||dL (scope.map λv=>all.getD v.toNat 0)) f).hp=f.hp:=rfl;have I:=B.1;rw[H]at I;have R:=y.1;obtain⟨J,S,_⟩:=y.eqs;obtain⟨f1,f2,_⟩:=B.eqs;have K:s'.hp=r.hp/\s'.m1=r.m1/\s'.big=r.big:=by
      grind
     refine⟨by grind,λL=>?_⟩;have M:ll A:=λC=>by
      rw[f2]at C;rw[f1];have T:=(T4.1 C).1;show 0<=f.m1/\f.m1<=16384;rw[E,J];exact L (by grind)
     have N:=QK j M;intro U;rw[K.2.1];exact N (by grind)
theorem bX.shrink{g:Nat}{H:aj}{so:Option aN}(h:bX w g B H N so):∃a,bX w g B a N so/\(∀r,a r->H r)/\∀r,a r->∃c,ak w r bj c:=by
 obtain⟨x,w0,y,z,gs,sv,L,X,A,C,bad,E,big,F,m1,h1,f,j,G,q,I,J⟩:=h;refine⟨λr=>hx sv r,⟨x,w0,y,z,gs,sv,L,X,A,C,bad,E,big,F,m1,h1,f,j,G,q,λr e=>e,J⟩,I,λr e=>?_⟩;obtain⟨rfl,c,s⟩:=ef q.2.1 e;refine⟨c,s.aa f λhe=>?_⟩;obtain⟨M,K⟩:=j;subst he;exact m6 (fE s K) Φ
theorem bX.low{g:Nat}{H:aj}{s:aN}(h:bX w g B H N (σ s)):bX w g B H 100000 (σ s):=by
 obtain⟨F,w0,a,e,gs,sv,L,X,f,j,bad,q,big,r,m1,h1,x,y,z,A,C,E⟩:=h;exact⟨o6 _,w0,a,e,gs,sv,L,X,f,j,bad,q,big,r,m1,h1,x,y,z,A,C,E⟩
theorem bX.up{g M:Nat}{H:aj}{so:Option aN}(h:bX w g B H N so)(F:N<=M):bX w g B H M so:=by
 obtain⟨G,w0,e,f,gs,sv,L,X,j,q,bad,r,big,x,m1,h1,y,z,A,C,E,a⟩:=h;refine⟨Ω,w0,e,f,gs,sv,L,X,j,q,bad,r,big,x,m1,h1,y,z,A,C,E,?_⟩;cases so with
 |none=>exact⟨a.1,by have:=a.2;omega⟩
 |some s=>exact a
def mU{α:Type}(f:List α->aN->Option (α×aN))(cnt i:Nat)(a:Option aN)(A:List α)(so:Option aN):Prop:=a.bind (da f cnt [])=(match so with
 |none=>ν
 |some s=>da f (cnt-i) A s)
theorem mU.step{α:Type}{f:List α->aN->Option (α×aN)}{cnt i:Nat}{e:Option aN}{A:List α}{s:aN}{a:α}{j:Option aN}(h:mU f cnt i e A (σ s))(hi:i<cnt)(h1:j=(f A s).map (·.2))(r:∀q,f A s=σ q->a=q.1):mU f cnt (i+1) e (A++[a]) j:=by
 unfold mU at*;rw[h,show cnt-i=(cnt-(i+1))+1 by omega];simp only;cases w:f A s<;>grind [qO,uq]
theorem QM{s0:aN}{acc:Λ}{most j:Int}{X:List cI}{x y z A L so6 e:Option aN}(h1:x=((ec s0).map (·.2)).map (bm (decide (64<t.length))))(O:∀q,ec s0=σ q->t=q.1)(r:y=((bk 1 aD x).map (·.2)).map (bm (decide (64<n))))(M:∀q,bk 1 aD x=σ q->n=q.1)(h:z=(bk 1 aD y).map (·.2))(hm:∀q,bk 1 aD y=σ q->most=q.1)(f:A=((bk 0 aD z).map (·.2)).map (bm (decide (256<j))))(N:∀q,bk 0 aD z=σ q->j=q.1)(a:L=((bk 1 aD A).map (·.2)).map (bm (decide (2147483648<k))))(hk:∀q,bk 1 aD A=σ q->k=q.1)(w:L.bind (da (gT most) n.toNat [])=so6.map λs=>(acc,s))(F:so6.bind (da (λ_ s=>dv acc s) j.toNat [])=e.map λs=>(X,s)):jN s0=e.map λs=>(⟨t,k,acc,X⟩,s):=by
 unfold jN;cases G:ec s0 with
 |none=>
  rw[G]at h1;subst h1;subst r;subst h;subst f;subst a;have:so6=ν:=by cases so6 with|none=>rfl|some s=>cases w
  subst this;cases e<;>grind
 |some P=>
 obtain⟨bu,s1⟩:=P;have:=O _ G;subst this;rw[G]at h1;have h1:x=σ (bm (decide (64<t.length)) s1):=h1;subst h1;simp only;have Q:bk 1 aD (σ (bm (decide (64<t.length)) s1))=bq 1 aD (bm (decide (64<t.length)) s1):=rfl;rw[Q]at r M;cases H:bq 1 aD (bm (decide (64<t.length)) s1)with
 |none=>
  rw[H]at r;subst r;subst h;subst f;subst a;have:so6=ν:=by cases so6 with|none=>rfl|some s=>cases w
  subst this;cases e<;>grind
 |some R=>
 obtain⟨ab,B⟩:=R;have:=M _ H;subst this;rw[H]at r;have r:y=σ (bm (decide (64<n)) B):=r;subst r;simp only;have S:bk 1 aD (σ (bm (decide (64<n)) B))=bq 1 aD (bm (decide (64<n)) B):=rfl;rw[S]at h hm;cases I:bq 1 aD (bm (decide (64<n)) B)with
 |none=>
  rw[I]at h;subst h;subst f;subst a;have:so6=ν:=by cases so6 with|none=>rfl|some s=>cases w
  subst this;cases e<;>grind
 |some T=>
 obtain⟨bV,C⟩:=T;have:=hm _ I;subst this;rw[I]at h;have h:z=σ C:=h;subst h;simp only;have U:bk 0 aD (σ C)=bq 0 aD C:=rfl;rw[U]at f N;cases J:bq 0 aD C with
 |none=>
  rw[J]at f;subst f;subst a;have:so6=ν:=by cases so6 with|none=>rfl|some s=>cases w
  subst this;cases e<;>grind
 |some V=>
 obtain⟨ac,E⟩:=V;have:=N _ J;subst this;rw[J]at f;have f:A=σ (bm (decide (256<j)) E):=f;subst f;simp only;have W:bk 1 aD (σ (bm (decide (256<j)) E))=bq 1 aD (bm (decide (256<j)) E):=rfl;rw[W]at a hk;cases K:bq 1 aD (bm (decide (256<j)) E)with
 |none=>
  rw[K]at a;subst a;have:so6=ν:=by cases so6<;>grind
  subst this;cases e<;>grind
 |some Y=>
 obtain⟨ad,Z⟩:=Y;have:=hk _ K;subst this;rw[K]at a;have a:=a;subst a;simp only;have w:da (gT most) n.toNat [] (bm (decide (2147483648<k)) Z)=so6.map λs=>(acc,s):=w;rw[w];cases so6 with
 |none=>cases e<;>grind
 |some aa=>
  simp only[Y6];have F:da (λ_ s=>dv acc s) j.toNat [] aa=e.map λs=>(X,s):=F;rw[F];cases e<;>rfl
def q4(w:x5)(gr:Nat)(a:x4)(X:List cI):Prop:=∃L,bn fS 4 bj w gr a L/\X.length=L.length/\∀(i:Nat)h x,L[i]?=σ h->X[i]?=σ x->iv w h x
def pT(w:x5)(e:Nat)(f:cg):Prop:=∃hv gz a gr,ak w e eu [ch f.name,Δ f.k,hv,a]/\aH .i64 ay w gz hv f.d6/\q4 w gr a f.ho
theorem q4.W{gr:Nat}{a:x4}{X:List cI}(h:q4 w gr a X)(J:Ext w I):q4 I gr a X:=by
 obtain⟨L,h1,e,f⟩:=h;exact⟨L,h1.W J,e,λi ax x hi j=>(f i ax x hi j).W J⟩
theorem pT.W{a:Nat}{f:cg}(h:pT w a f)(J:Ext w I):pT I a f:=by
 obtain⟨hv,gz,e,gr,h1,j,q⟩:=h;exact⟨hv,gz,e,gr,h1.W J,j.W J,q.W J⟩
def QN(w:x5)(pl:Λ)(v:x4)(I:x5):Prop:=Ext w I/\∃n e:Int,(il pl=ν->v= .tuple #[.pointer ν,Δ n,Δ e])/\∀f,il pl=σ f->∃a,v= .tuple #[Γ a,Δ n,Δ e]/\pT I a f
theorem QO{w0:x5}{g y:Nat}{so6:Option aN}{acc:Λ}{O bad:Int}{p:x4}{Q:x4->x5->Prop}(c5:ai (λr=>w0.heap.size<=r) w0 w)(bQ:ak w y eu [ch t,Δ k,hv,.slice ν 0 0])(c6:aH .i64 ay w gz hv acc)(h:bX w g B bU 100000 so6)(c7:∀s,so6=σ s->ll s/\s.hp.length<=100000/\(∀z∈acc,1<=z/\z<=aD)/\acc.length<=100001)(e7:w0.heap.size<=g)(e8:w0.heap.size<=y)(ae:aQ .u8 w0 p pl)(e9:0<=O/\O<=4611686018427387904)(bi:∀v I X bk,Ext w0 I->so6.bind (da (λ_ s=>dv acc s) O.toNat [])=bk.map (λs=>(X,s))->
   (∀s,bk=σ s->s.hp=[]/\¬0<=bad/\s.big=sp->v= .tuple #[Γ y,Δ (pl.length:Int),Δ 0]/\pT I y ⟨t,k,acc,X⟩)->
   ((∀s,bk=σ s->¬(s.hp=[]/\¬0<=bad/\s.big=sp))->∃n e:Int,v= .tuple #[.pointer ν,Δ n,Δ e])->Q v I):
  b3 (Δ 0) w λbR A c8=>
   cG (α:=x4->x5->Prop) (λ(db:x4)(K:x5)=>
    Split db (et K λE=>
   ad x8 (b0 (Γ y)) E λaC=>
   ad x8 (u6 eu aC 3) E λaE=>
   ad x8 (u5 dK aE) E λbl=>
   ad x8 (b0 (Γ y)) E λdc=>
   ad x8 (u6 eu dc 2) E λde=>
   ad x8 (u5 aA de) E λdf=>
   aq x8 A3 [(Γ g),df] E λdg af=>
    (Ext E af\/cc x8 (u5 dK aE) bl af/\cc x8 (u6 eu aC 3) aE af/\cc x8 (b0 (Γ y)) aC af/\True)/\
   aL x8 (Y3 dK 1 #[(0,dg)]) af λdh P=>
    (Ext E P\/cc x8 (u5 dK aE) bl P/\cc x8 (u6 eu aC 3) aE P/\cc x8 (b0 (Γ y)) aC P/\True)/\
    aL x8 (c9 #[dK,dK] dK #[bl,dh]) P λdi aU=>
     ad x8 (b0 (Γ y)) aU λdj=>
     ad x8 (u6 eu dj 3) aU λdk=>
     aL x8 (o7 dK dk di) aU λ(_:Unit)aV=>
     ad x8 (aS .add ay sp s2 bR (Δ 1)) aV λdl=>
   c8 dl aV)
     (cG (α:=x5->Prop) (λ(N:x5)=>
   cG (α:=x5->Prop) (λ(C:x5)=>
    ad x8 (b0 (Γ g)) C λdm=>
    ad x8 (u6 bN dm 3) C λdn=>
    ad x8 (u5 al dn) C λdp=>
    ad x8 (aS .neq al sp s2 dp (Δ 0)) C λdq=>
    Split dq (et C λY=>
     ad x8 (b0 (Γ g)) Y λdr=>
     ad x8 (u6 bN dr 4) Y λds=>
     ad x8 (u5 al ds) Y λdt=>
     ad x8 (b0 (Γ g)) Y λdu=>
     ad x8 (u6 bN du 3) Y λdw=>
     ad x8 (u5 al dw) Y λdx=>
     Q (.tuple #[(.pointer ν),dt,dx]) Y)
     (ad x8 (b0 (Γ g)) C λdy=>
    ad x8 (u6 bN dy 5) C λdz=>
    ad x8 (u5 al dz) C λdA=>
    ad x8 (aS .neq al sp s2 dA (Δ 0)) C λdC=>
    Split dC (et C λZ=>
     ad x8 (b0 (Γ g)) Z λdD=>
     ad x8 (u6 bN dD 6) Z λdE=>
     ad x8 (u5 al dE) Z λdF=>
     ad x8 (b0 (Γ g)) Z λdG=>
     ad x8 (u6 bN dG 5) Z λdH=>
     ad x8 (u5 al dH) Z λdI=>
     Q (.tuple #[(.pointer ν),dF,dI]) Z)
     (ad x8 (X7 #[cV] al #[p]) C λdJ=>
    Q (.tuple #[(Γ y),dJ,(Δ 0)]) C))) λbS=>
   cG (α:=x4->x5->Prop) (λ(dL:x4)(aX:x5)=>
    Split dL (aq x8 pe [(Γ g),(Δ 11),(Δ bad)] aX λfa bV=>
     bS bV)
     (bS aX)) λbY=>
   ad x8 (b0 (Γ g)) N λdM=>
   ad x8 (u6 bN dM 3) N λdN=>
   ad x8 (u5 al dN) N λdO=>
   ad x8 (aS .eql al sp s2 dO (Δ 0)) N λdP=>
   Split dP (ad x8 (aS .geq al sp s2 (Δ bad) (Δ 0)) N λdQ=>
   bY dQ N)
    (bY (.bool sp) N)) λbZ=>
  cG (α:=x4->x5->Prop) (λ(dR:x4)(R:x5)=>
   Split dR (ad x8 (b0 (Γ g)) R λdS=>
    ad x8 (u6 bN dS 0) R λdT=>
    ad x8 (u5 fK dT) R λdU=>
    ad x8 (n9 fK dU (Δ 0)) R λdW=>
    ad x8 (u6 cH dW 1) R λdX=>
    ad x8 (u5 al dX) R λdY=>
    aq x8 pe [(Γ g),(Δ 4),dY] R λfb bm=>
    bZ bm)
    (bZ R)) λb2=>
  ad x8 (b0 (Γ g)) K λdZ=>
  ad x8 (u6 bN dZ 3) K λea=>
  ad x8 (u5 al ea) K λeb=>
  ad x8 (aS .eql al sp s2 eb (Δ 0)) K λec=>
  Split ec (ad x8 (b0 (Γ g)) K λed=>
  ad x8 (u6 bN ed 0) K λee=>
  ad x8 (u5 fK ee) K λeg=>
  ad x8 (X7 #[fK] al #[eg]) K λeh=>
  ad x8 (aS .gtr al sp s2 eh (Δ 0)) K λei=>
  b2 ei K)
   (b2 (.bool sp) K))) λb4=>
   ad x8 (aS .lss ay sp sp bR (Δ O)) A λej=>
   Split ej (ad x8 (b0 (Γ g)) A λek=>
   ad x8 (u6 bN ek 3) A λem=>
   ad x8 (u5 al em) A λen=>
   ad x8 (aS .eql al sp s2 en (Δ 0)) A λeo=>
   b4 eo A)
    (b4 (.bool sp) A):=by
 have b6:y≠g:=λhe=>by
  obtain⟨ag,ab,ac,bad,ah,big,am,m1,sv,f,_⟩:=ju h;subst he;exact m6 (fE f bQ) Φ
 refine⟨λbo A=>∃i:Nat,bo=Δ (i:Int)/\i<=O.toNat/\ai (λr=>w0.heap.size<=r) w0 A/\∃M gr X so,∃H:aj,ak A y eu [ch t,Δ k,hv,M]/\aH .i64 ay A gz hv acc/\q4 A gr M X/\(∀r,hx M r->w0.heap.size<=r/\¬H r)/\¬H y/\(∀r,lc hv r->¬H r)/\(∀r,H r->w0.heap.size<=r)/\bX A g A.heap.size H 100001 so/\mU (λ_ s=>dv acc s) O.toNat i so6 X so/\
   ∀s,so=σ s->ll s/\X.length+s.hp.length<=100000/\(∀z∈acc,1<=z/\z<=aD)/\acc.length<=100001,λbo _=>O.toNat-(b1 bo).toNat,
  ⟨0,rfl,W3 _,c5,_,0,[],so6,bU,bQ,c6,⟨[],bn.nil _ _ _ _ _,rfl,λi h x hi=>by simp at hi⟩,λr a=>(gC a).elim,id,λr _ h=>h,λr h=>h.elim,h.base.up Ω,?_,λs V=>?_⟩,?_⟩
 .unfold mU;cases so6<;>rfl
 .obtain⟨ep,er,a3,a4⟩:=c7 s V;exact⟨ep,by simpa using er,a3,a4⟩
 rintro _ A ⟨i,rfl,hi,aY,M,gr,X,so,H,b7,b9,cb,aG,bp,es,cd,W,bq,ev⟩;refine a6 (λv K=>A=K/\((v= .bool s2/\i<O.toNat/\∃s,so=σ s)\/(v= .bool sp/\(so=ν\/i=O.toNat)))) ?_ ?_
 rotate_left
 .intro az br;rw[aW,ao];refine⟨λce=>?_,λfc=>br _ _ ⟨rfl,.inr ⟨rfl,.inr Ω⟩⟩⟩;rw[mT W];cases so with
  |none=>exact br _ _ ⟨rfl,.inr ⟨rfl,.inl rfl⟩⟩
  |some s=>exact br _ _ ⟨rfl,.inl ⟨rfl,Ω,s,rfl⟩⟩
 rintro _ _ ⟨rfl,⟨rfl,ce,s,rfl⟩|⟨rfl,ew⟩⟩
 .
  rw[bT];intro E an _ _;obtain⟨cf,fd,cg,ci⟩:=ev s rfl;have aI:=b7.W an;obtain⟨ey,cj,aJ,ck⟩:=(W.W an).low.shrink;have bt:=b9.W an;have ez:=cb.W an;rw[aO eu.p 3 aI rfl,aO eu.p 2 aI rfl];refine(QJ cj bt cg ci (λr a=>by obtain⟨c,f⟩:=ck r a;exact f.lt) cf).Y ?_;rintro _ af _ ⟨eA,x,cl,ap,rfl,cm,eB,eC,fe,cn,eD⟩;have cp:∃c,ak E g bN c:=by obtain⟨ag,ab,ac,bad,ah,big,am,m1,sv,f,_⟩:=ju cj;exact⟨_,f⟩
  have cq:∀r,(r=g\/ey r)->iG E r\/E.heap.size<=r:=λr a=>by
   rcases a with rfl|a
   .obtain⟨c,f⟩:=cp;exact .inl ⟨_,c,f,Φ,Φ⟩
   .obtain⟨c,f⟩:=ck r a;exact .inl ⟨_,c,f,Φ,Φ⟩
  have bu:=aI.aa ap λa=>a.elim (λhe=>b6 he) λa=>bp (aJ _ a);have st:∀{I:x5},ak I y eu [ch t,Δ k,hv,M]->cc x8 (u5 dK (.pointer (σ ⟨y,0+3,ν⟩))) M I/\cc x8 (u6 eu (Γ y) 3) (.pointer (σ ⟨y,0+3,ν⟩)) I/\cc x8 (b0 (Γ y)) (Γ y) I/\True:=λf=>
   ⟨tZ Ψ (f.cell rfl),mK (by rw[aZ eu.p rfl]),mK (by rw[b5]),trivial⟩
  refine⟨.inr (st bu),?_⟩;refine jr dK.u bj.i Ω rfl rfl λff fg P fh S eE=>?_;refine⟨.inr (st (bu.W S)),?_⟩;obtain⟨L,au,bw,bx⟩:=id ez;have eF:=au.aa ap λr a V=>V.elim (λhe=>by
   obtain⟨c,f⟩:=cp;subst he;exact cO au f Φ a) λV=>(aG r a).2 (aJ r V)
  have bz:=eF.W S;refine jT dK.u bj.i rfl bz (by simpa using eE.sl) (cm.W S).one Ω Ω λeI eJ aU a1 eK cr=>?_;have bA:=bu.W S;have ct:=bA.aa cr λhe=>cO bz bA Φ he;rw[b5,aZ eu.p rfl];refine bs (g:=y) (o:=3) dK.i (eH a1.sl).1 (eH a1.sl).2 ct Ξ λaV cu fi bB=>?_;have bB:=bB;have fj:i<=4611686018427387904:=Ω
  rw[aT,lm Ω Ω];have av:ai (λr=>hx M r\/r=y) P aV:=(cr.Y λr _ h=>.inl h).F (cu.Y λr _ h=>.inr h);have cw:∀r,(hx M r\/r=y)->∃e c,ak P r e c/\e≠ay/\e≠cv/\e≠cH/\e≠bN:=λr a=>by
   rcases a with a|rfl
   .obtain⟨rfl,c,f⟩:=ef bz a;exact⟨_,c,f,Φ,Φ,Φ,Φ⟩
   .exact⟨_,_,bA,Φ,Φ,Φ,Φ⟩
  have bC:∀r,(hx M r\/r=y)->iG P r\/P.heap.size<=r:=λr a=>by
   obtain⟨e,c,f,bD,bE,_⟩:=cw r a;exact .inl ⟨e,c,f,bD,bE⟩
  have fk:=an.size;have fm:=ap.size;have fo:=S.size;have fp:=av.size;have cz:∀r,hx M r->r<E.heap.size:=λr a=>by obtain⟨ab,ac⟩:=au.lc a;omega
  have aK:∀r,r<E.heap.size->¬H r->¬cl r:=λr a eL bF=>(cn r bF).elim (λh=>eL (aJ r h)) λh=>Ω
  have eM:∀r,lc hv r->r<E.heap.size:=λr a=>by obtain⟨ab,ac⟩:=ca bt a;omega
  refine⟨⟨i+1,rfl,Ω,?_,eI,eJ,X++[x],_,cl,bB,eZ ((eZ bt ap cq).W S) av bC,⟨L++[eA],a1.aa cu λr a he=>?_,by rw[j6,j6,bw];rfl,λj cA eN aw aM=>?_⟩,λr a=>?_,aK y aI.lt bp,λr a=>aK r (eM r a) (es r a),λr a=>?_,?_,bq.step ce rfl λq G=>eC q G,λs' U=>?_⟩,by simp only[b1];omega⟩
  .refine (((aY.F (an.aa _)).F (ap.Y λr _ h=>?_)).F (S.aa _)).F (av.Y λr _ h=>?_)
   .exact h.elim (λh=>Ω) λh=>cd r (aJ r h)
   .exact h.elim (λh=>(aG r h).1) λh=>Ω
  .have he:r=y:=he;subst he;exact cO a1 ct Φ a
  .by_cases eO:j<L.length
   .rw[V9 eO]at aw;rw[V9 Ω]at aM;exact(((bx j cA eN aw aM).dV ap cq).W S).dV av bC
   .rw[X3 Ω]at aw;rw[X3 Ω]at aM;have eP:j-L.length=0:=by have:=(x6.1 aw).1;simp at this;omega
    have eQ:j-X.length=0:=Ω
    rw[eP]at aw;rw[eQ]at aM;cases aw;cases aM;exact(cm.W S).dV av bC
  .rcases eK r a with h|h
   .exact⟨(aG r h).1,aK r (cz r h) (aG r h).2⟩
   .exact⟨by have:=aY.size;omega,λbF=>by have:=eD r bF;omega⟩
  .rcases cn r a with h|h
   .exact cd r (aJ r h)
   .have:=aY.size;omega
  .refine (eB.W S).dV av λr a=>.inl ?_;obtain⟨e,c,f,bD,bE,eR,eS⟩:=cw r a;refine⟨e,c,f,bD,bE,eR,eS,?_⟩;rcases a with a|rfl
   .exact aK r (cz r a) (aG r a).2
   .exact aK _ aI.lt bp
  .cases bG:dv acc s with
   |none=>rw[bG]at U;cases U
   |some q=>
    obtain⟨fq,cB⟩:=q;rw[bG]at U;cases U;obtain⟨fs,eU⟩:=QL bG;refine⟨eU cf,?_,cg,ci⟩;rw[j6];simp only[List.length_singleton];omega
 .
  rw[bb];have bH:so6.bind (da (λ_ s=>dv acc s) O.toNat [])=so.map λs=>(X,s):=by
   unfold mU at bq;rw[bq];cases so with
   |none=>rfl
   |some s=>
    rcases ew with h|rfl
    .cases h
    .simp only[V7];rfl
  have row:∀{I:x5},ai (λr=>r=g) A I->q4 I gr M X/\ak I y eu [ch t,Δ k,hv,M]/\aH .i64 ay I gz hv acc:=λa2=>by
   obtain⟨ag,ab,ac,bad,ah,big,am,m1,sv,f,_⟩:=ju W;have cC:∀r,r=g->iG A r\/A.heap.size<=r:=λr a=>by subst a;exact .inl ⟨_,_,f,Φ,Φ⟩
   obtain⟨L,au,bw,bx⟩:=id cb;refine⟨⟨L,au.aa a2 λr a he=>?_,bw,λi h x hi J=>(bx i h x hi J).dV a2 cC⟩,b7.aa a2 λhe=>b6 he,eZ b9 a2 cC⟩;have he:r=g:=he;subst he;exact cO au f Φ a
  refine dd (λN=>ai (λr=>r=g) A N/\bX N g A.heap.size H 100001 (so.bind λs=>if s.hp=[]then σ s else ν)) ?_ ?_
  rotate_left
  .intro ft cD;refine a6 (λv R=>A=R/\∃b:Bool,v= .bool b/\(b=s2->∃s,so=σ s/\s.hp≠[])/\(b=sp->∀s,so=σ s->s.hp=[])) ?_ ?_
   .rintro _ _ ⟨rfl,b,rfl,bI,bJ⟩;cases b with
    |true=>
     obtain⟨s,rfl,a7⟩:=bI rfl;rw[bT];obtain⟨cE,cF,ag,aP,gs,sv,L,cI,ab,ac,bK,ah,big,am,m1,cJ,a8,bc,aB,bd,cK,cL,cM,be,cN,cP,bf,cQ,cR,cS⟩:=id W;obtain⟨⟨bL,eV⟩,_⟩:=bd.g a8 bc;obtain⟨x,fu,rfl⟩:∃x l,aP=x::l:=by
      cases aP with
      |nil=>exact m6 bf.symm (by simpa using a7)
      |cons x l=>exact⟨x,l,rfl⟩
     rw[aO bN.p 0 aB rfl];refine ES bL λb o eW=>?_;rw[aZ cH.p rfl,aF Ψ (eW 1 _ rfl)];refine(pS W Ω).Y ?_;rintro _ bm _ ⟨eX,eY⟩;refine cD _ ⟨eX,?_⟩;show bX bm g _ H 100001 (if s.hp=[]then σ s else ν);rw[m5 a7];exact eY
    |false=>
     rw[bb];refine cD _ ⟨ai.refl _ _,?_⟩;cases so with
     |none=>exact W
     |some s=>
      show bX _ g _ H 100001 (if s.hp=[]then σ s else ν);rw[m3 (bJ rfl s rfl)];exact W
   .intro fv cT;rw[mT W];cases so with
    |none=>
     rw[S4,bb];exact cT _ _ ⟨rfl,sp,rfl,(λh=>by cases h),λ_ s V=>by cases V⟩
    |some s=>
     rw[T8,bT];obtain⟨cE,cF,ag,aP,gs,sv,L,cI,ab,ac,bK,ah,big,am,m1,cJ,a8,bc,aB,bd,cK,cL,cM,be,cN,cP,bf,cQ,cR,cS⟩:=id W;obtain⟨⟨bL,eV⟩,_⟩:=bd.g a8 bc;rw[aO bN.p 0 aB rfl,ER bL,bW];have fw:aP.length=s.hp.length:=by rw[<-bf,r9]
     refine cT _ _ ⟨rfl,_,rfl,λh=>⟨s,rfl,λaR=>?_⟩,λh s' U=>?_⟩
     .have:=rs h;have cA:s.hp.length=0:=by rw[aR];rfl
      omega
     .cases U;have:=of_decide_eq_false h;exact b8 Ω
  rintro N ⟨cW,bM⟩;refine dd (λC=>ai (λr=>r=g) A C/\bX C g A.heap.size H 100001 (so.bind λs=>if s.hp=[]/\¬0<=bad then σ s else ν)) ?_ ?_
  rotate_left
  .intro fx cX;refine a6 (λv aX=>N=aX/\∃b:Bool,v= .bool b/\(b=s2->(so.bind λs=>if s.hp=[]/\¬0<=bad then σ s else ν)=ν)/\(b=sp->(so.bind λs=>if s.hp=[]/\¬0<=bad then σ s else ν)=so.bind λs=>if s.hp=[]then σ s else ν)) ?_ ?_
   .rintro _ _ ⟨rfl,b,rfl,bI,bJ⟩;cases b with
    |true=>
     rw[bT];refine(pS bM Ω).Y ?_;rintro _ bV _ ⟨e0,e1⟩;exact cX _ ⟨cW.F e0,by rw[bI rfl];exact e1⟩
    |false=>
     rw[bb];exact cX _ ⟨cW,by rw[bJ rfl];exact bM⟩
   .intro fy cY;rw[mT bM];cases G:(so.bind λs=>if s.hp=[]then σ s else ν)with
    |none=>
     rw[S4,bb];refine cY _ _ ⟨rfl,sp,rfl,(λh=>by cases h),λ_=>?_⟩;cases so with
     |none=>rfl
     |some s=>
      have G:(if s.hp=[]then σ s else ν)=ν:=G;show(if s.hp=[]/\¬0<=bad then σ s else ν)=(if s.hp=[]then σ s else ν);rw[G];split at G
      .cases G
      .rename_i a7;rw[m5 (λh=>a7 h.1)]
    |some s=>
     rw[T8,bT,cU];refine cY _ _ ⟨rfl,_,rfl,λh=>?_,λh=>?_⟩
     .have aR:=rs h;cases so with
      |none=>rfl
      |some s=>exact m5 λh=>h.2 aR
     .have aR:=of_decide_eq_false h;cases so with
      |none=>rfl
      |some s=>
       show(if s.hp=[]/\¬0<=bad then σ s else ν)=(if s.hp=[]then σ s else ν);by_cases V:s.hp=[]
       .rw[m3 V,m3 ⟨V,aR⟩]
       .rw[m5 V,m5 λh=>V h.1]
  rintro C ⟨cZ,bg⟩;obtain⟨e2,e3,e4⟩:=row cZ;have e5:ai (λr=>w0.heap.size<=r) w0 C:=aY.F (cZ.Y λr _ h=>by have h:r=g:=h;omega);have bh:=e5.W λr a he=>Ω
  rw[sL bg];cases G:(so.bind λs=>if s.hp=[]/\¬0<=bad then σ s else ν)with
  |none=>
   rw[S4,X5,bT];intro Y c0 _ _;obtain⟨ag,ab,ac,bK,ah,big,am,m1,sv,f,_⟩:=ju (bg.W c0);rw[aO bN.p 4 f rfl,aO bN.p 3 f rfl];refine bi _ _ X so (bh.F c0) bH (λs V ax=>?_) λ_=>⟨_,_,rfl⟩;subst V;have G:(if s.hp=[]/\¬0<=bad then σ s else ν)=ν:=G;rw[m3 ⟨ax.1,ax.2.1⟩]at G;cases G
  |some s=>
   rw[G]at bg;rw[T8,Y7,bb];obtain⟨s',rfl,U⟩:∃s',so=σ s'/\(if s'.hp=[]/\¬0<=bad then σ s' else ν)=σ s:=by
    cases so with
    |none=>cases G
    |some s'=>exact⟨s',rfl,G⟩
   split at U
   .rename_i c1;cases U;obtain⟨cE,cF,ag,aP,gs,sv,L,cI,ab,ac,bK,ah,big,am,m1,cJ,a8,bc,aB,bd,cK,cL,cM,be,cN,cP,bf,cQ,cR,cS⟩:=id bg;rw[aO bN.p 5 aB rfl,bO,ao];refine⟨λbP=>?_,λbP=>?_⟩
    .intro Z c2 _ _;have c3:=aB.W c2;rw[aO bN.p 6 c3 rfl,aO bN.p 5 c3 rfl];refine bi _ _ X _ (bh.F c2) bH (λcB c4 ax=>?_) λ_=>⟨_,_,rfl⟩;cases c4;rw[be.1 bP]at ax;cases ax.2.2
    .rw[ba cV.u (ae.W bh)];refine bi _ _ X _ bh bH (λcB c4 ax=>⟨rfl,hv,gz,M,gr,e3,e4,e2⟩) λe6=>?_;refine m6 ⟨c1.1,c1.2,?_⟩ (e6 s rfl);cases f:s.big with
     |false=>rfl
     |true=>exact m6 (be.2 f) bP
   .cases U
def Zero(so:Option aN):Prop:=∀s,so=σ s->s.m1=0/\s.hp.length<=100000
theorem Zero.big{so:Option aN}(h:Zero so)(b:Bool):Zero (so.map (bm b)):=λs V=>by
 cases so with
 |none=>cases V
 |some s0=>cases V;exact h s0 rfl
theorem zero_num{lo hi:Int}{so:Option aN}(h:Zero so):Zero ((bk lo hi so).map (·.2)):=λs V=>by
 cases so with
 |none=>cases V
 |some s0=>
  have V:V6 (λx=>x.2) (bq lo hi s0)=σ s:=V;cases a:bq lo hi s0 with
  |none=>rw[a]at V;cases V
  |some q=>
   obtain⟨n,s1⟩:=q;rw[a]at V;cases V;have e:=dP a;have:=e.1;obtain⟨h1,f⟩:=h s0 rfl;exact⟨e.eqs.1.F h1,by show s1.hp.length<=100000;omega⟩
theorem QP{so:Option aN}(h:Zero so):Zero ((kP so).map (·.2)):=λs V=>by
 cases so with
 |none=>cases V
 |some s0=>
  have V:V6 (λx=>x.2) (ec s0)=σ s:=V;cases a:ec s0 with
  |none=>rw[a]at V;cases V
  |some q=>
   obtain⟨n,s1⟩:=q;rw[a]at V;cases V;obtain⟨U,ab⟩:=xx a;obtain⟨h1,e⟩:=h s0 rfl;have:s0.hp.length=s1.hp.length+1:=by rw[U];rfl
   exact⟨by show s1.m1=0;rw[ab];exact h1,by show s1.hp.length<=100000;omega⟩
theorem QQ{so:Option aN}{f:cg}(h:jN ⟨(lex pl).1,0,sp,[]⟩=so.map λs=>(f,s))(a:¬65536<pl.length):il pl=so.bind λs=>if s.hp=[]/\(lex pl).2=s2/\s.big=sp then σ f else ν:=by
 unfold il;rw[m5 a,h]<;>cases so<;>rfl
theorem QR(a:pl.length<=60000):(∀t∈(lex pl).1,Bytes t/\t.length<=65536)/\(lex pl).1.length<=60000:=by
 refine⟨λt e=>?_,X0 (rT pl.length pl (o6 _)) a⟩;obtain⟨_,f,j⟩:=tW pl.length pl (o6 _) t e;refine⟨λb h=>?_,Ω⟩;have:=rs (f b h);omega
theorem E2{p:x4}(ae:aQ .u8 w p pl)(cq:Bytes pl)(cr:pl.length<=60000):aq x8 IJ [p] w (QN w pl):=by
 obtain⟨ct,dM⟩:=QR cr;refine aE func59 ?_;rw[ba cV.u ae,bW,ao];refine⟨λh=>Ω,λ_=>?_⟩;refine(QB ae cq Ω).Y ?_;rintro _ U _ ⟨aJ,au,bf,bad,rfl,bg,bh,cu,dN,bi⟩;rw[bA,bB,ba cV.u (ae.W aJ),dn (cs:=#[au,Δ (pl.length:Int),Δ 4,Δ 0,Δ 0,Δ 0,Δ 0,Δ 0,.slice ν 0 0]) (by obtain⟨_,_,_,_,_,rfl,_⟩:=bg;kernel_rfl)];refine br λg ab dO av W=>?_;have W:ak ab g bN (jb au (pl.length:Int) 4 0 0 0 0 0 (.slice ν 0 0)):=W;have dQ:=aJ.size;have dR:=av.size;have dS:=W.lt;refine dd (λC=>Ext w C/\ai (λr=>r=g) ab C/\∃Y Z:Int,Z≠0/\ak C g bN (jb au Y Z 0 0 0 0 0 (.slice ν 0 0))) ?_ ?_
 rotate_left
 .intro az R;have bj:=aJ.F av;rw[cU,ao];refine⟨λ_=>?_,λ_=>R _ ⟨bj,ai.refl _ _,_,_,Ω,W⟩⟩;rw[b5,aZ bN.p rfl];refine bs (g:=g) (o:=1) al.i rfl rfl W (by simp[jb]) λdT cw dU cz=>?_;rw[b5,aZ bN.p rfl];refine bs (g:=g) (o:=2) al.i rfl rfl cz (by simp[jb]) λdV cA dW cB=>?_;have E:=cw.F cA;exact R _ ⟨bj.then E λr j he=>by have he:r=g:=he;omega,E,bad,11,Ω,cB⟩
 rintro C ⟨bl,aK,Y,Z,cD,bo⟩;have z3:=aK.size;have cE:bX C g C.heap.size bU 100000 (σ ⟨(lex pl).1,0,sp,[]⟩):=by
  refine⟨o6 _,C,au,bf,0,_,[],[],Y,Z,0,0,0,0,0,rfl,ai.refl _ _,⟨_,bo⟩,bo,⟨⟨?_,λr j=>?_⟩,bn.nil _ _ _ _ _,rfl,λi h x hi=>by simp at hi⟩,λr j=>gC j,rfl,cD,Ξ,λ_=>rfl,trivial,bh,ct,rfl,?_⟩
  .refine (bg.aa (av.aa λ_=>False) λ_ _ h=>h).aa aK λr j he=>?_;have he:r=g:=he;obtain⟨c,M⟩:=bi r j;have:=M.lt;omega
  .obtain⟨c,M⟩:=bi r j;exact⟨c,(M.W av).aa aK λhe=>by have he:r=g:=he;have:=M.lt;omega⟩
  .have:bf.length=(lex pl).1.length:=by rw[<-bh,r9]
   simp only[List.length_nil];omega
 have dX:∀{Q:x5}{cF N:Nat}{H:aj}{so:Option aN},bX Q g cF H N so->True:=λ_=>trivial;rw[dn (cs:=#[ch [],Δ 0,.slice ν 0 0,.slice ν 0 0]) Ψ];refine br λB cG dY aL aw=>?_;have aw:ak cG B eu [ch [],Δ 0,.slice ν 0 0,.slice ν 0 0]:=aw;have dZ:C.heap.size<=B:=Ω
 have ea:=aw.lt;have cI:B≠g:=Ω
 have G:∀{Q ad:x5}{c:List x4},ak Q B eu c->ai (λr=>r=g) Q ad->ak ad B eu c:=λM E=>M.aa E λhe=>cI he;refine(ET (cE.W aL)).Y ?_;rintro _ cJ _ ⟨⟨aM,cK⟩,t,bp,rfl,eb,ec,cL⟩;refine bF cH.i λbt ed ee cM cN=>?_;refine cd (vs:=[ch t,Δ bp]) cH.i rfl rfl (by intro v ac;simp at ac;rcases ac with rfl|rfl<;>rfl) cN λcO cP ef bu=>?_;have aB:Ext cJ cO:=cM.put cP Ω;have cQ:=(G aw aM).W aB;rw[aP cH.p 0 bu rfl,b5,aZ eu.p rfl];refine bs (g:=B) (o:=0) df.i rfl rfl cQ Ξ λbw aR eg aS=>?_;have aS:=aS;have cR:=(cK.W aB).new aR λr j=>by have j:r=B:=j;omega
 have z4:=aL.size;have z5:=aM.size;have eh:=aB.size;have bx:ak bw bt cH [ch t,Δ bp]:=bu.aa aR λhe=>by have he:bt=B:=he;omega
 rw[aP cH.p 0 bx rfl,px df.u,bW,aP cH.p 1 bx rfl];have cS:ai (λr=>w.heap.size<=r) w bw:=((((bl.aa _).F (aL.aa _)).F (aM.Y λr _ h=>by have h:r=g:=h;omega)).F (aB.aa _)).F (aR.Y λr _ h=>by have h:r=B:=h;omega);have up:∀{Q ad:x5},ai (λr=>w.heap.size<=r) w Q->ai (λr=>r=g) Q ad->ai (λr=>w.heap.size<=r) w ad:=λh k=>h.F (k.Y λr _ h=>by have h:r=g:=h;omega);refine(oG cR).Y ?_;rintro _ ei _ ⟨bz,af⟩;have cT:=up cS bz;have cW:=G aS bz;generalize aU:(((kP (σ ⟨(lex pl).1,0,sp,[]⟩)).map (·.2)).map (bm (decide ((64:Int)<(t.length:Int)))))=aV at af;refine(l0 af).Y ?_;rintro _ ej _ ⟨⟨bC,cX⟩,n,ek,rfl,bD,cY⟩;rw[bA,bB,bW];refine(oG cX).Y ?_;rintro _ em _ ⟨bG,bH⟩;have cZ:=up (up cT bC) bG;have c0:=G (G cW bC) bG;generalize bI:((bk 1 4611686018427387904 aV).map (·.2)).map (bm (decide (64<n)))=aX at bH;refine(l0 bH).Y ?_;rintro _ en _ ⟨⟨bJ,bK⟩,most,eo,rfl,hm,c1⟩;rw[bA,bB];generalize bL:(bk 1 4611686018427387904 aX).map (·.2)=aY at bK;refine(l0 bK).Y ?_;rintro _ ep _ ⟨⟨bM,c2⟩,a1,er,rfl,bO,c3⟩;rw[bA,bB,bW];refine(oG c2).Y ?_;rintro _ es _ ⟨bP,bQ⟩;generalize bR:((bk 0 4611686018427387904 aY).map (·.2)).map (bm (decide (256<a1)))=bS at bQ;refine(l0 bQ).Y ?_;rintro _ et _ ⟨⟨bV,c4⟩,k,ev,rfl,hk,ew⟩;rw[bA,bB,bW];refine(oG c4).Y ?_;rintro _ ey _ ⟨bY,bZ⟩;generalize b0:((bk 1 4611686018427387904 bS).map (·.2)).map (bm (decide (2147483648<k)))=ag at bZ;have c5:=up (up (up (up (up cZ bJ) bM) bP) bV) bY;have c6:=G (G (G (G (G c0 bJ) bM) bP) bV) bY;rw[b5,aZ eu.p rfl];refine bs (g:=B) (o:=1) ay.i rfl rfl c6 Ξ λc7 b2 ez a2=>?_;have a2:=a2;have c8:=bZ.new b2 λr j=>by have j:r=B:=j;omega
 have b3:ai (λr=>w.heap.size<=r) w c7:=c5.F (b2.Y λr _ h=>by have h:r=B:=h;omega);have eA:0<=n/\n<=4611686018427387904:=by
  cases A:bk 1 4611686018427387904 aV with
  |none=>have:=cY A;omega
  |some q=>have af:=bD q A;have:=oA A;omega
 have eB:0<=most/\most<=4611686018427387904:=by
  cases A:bk 1 4611686018427387904 aX with
  |none=>have:=c1 A;omega
  |some q=>have af:=hm q A;have:=oA A;omega
 have c9:0<=a1/\a1<=4611686018427387904:=by
  cases A:bk 0 4611686018427387904 aY with
  |none=>have:=c3 A;omega
  |some q=>have af:=bO q A;have:=oA (s':=q.2) A;omega
 have db:Zero (σ (⟨(lex pl).1,0,sp,[]⟩:aN)):=λs V=>by cases V;exact⟨rfl,by simp only;omega⟩
 have dc:Zero aV:=by rw[<-aU];exact(QP db).big _
 have de:Zero aX:=by rw[<-bI];exact(zero_num dc).big _
 have dg:Zero aY:=by rw[<-bL];exact zero_num de
 have dh:Zero bS:=by rw[<-bR];exact(zero_num dg).big _
 have b4:Zero ag:=by rw[<-b0];exact(zero_num dh).big _
 have eC:=b3.size;refine⟨λa7 O=>∃i:Nat,a7=Δ (i:Int)/\i<=n.toNat/\ai (λr=>w.heap.size<=r) w O/\∃hv gz acc so,ak O B eu [ch t,Δ k,hv,.slice ν 0 0]/\aH .i64 ay O gz hv acc/\(∀r,lc hv r->C.heap.size<=r)/\bX O g C.heap.size bU 100000 so/\mU (gT most) n.toNat i ag acc so/\∀s,so=σ s->s.m1=0/\acc.length+s.hp.length<=100000/\∀z∈acc,1<=z/\z<=aD,λa7 _=>n.toNat-(b1 a7).toNat,
  ⟨0,rfl,W3 _,b3,_,0,[],ag,a2,aH.nil _ _ _ _,(λr j=>by obtain⟨a,aC,c,Y,Z⟩:=j;cases Y),c8,?_,λs V=>⟨(b4 s V).1,by simpa using(b4 s V).2,λz di=>by cases di⟩⟩,?_⟩
 .unfold mU;cases ag<;>rfl
 rintro _ O ⟨i,rfl,hi,a8,hv,gz,acc,so,b6,b7,b8,am,bc,b9⟩;refine a6 (λv dj=>O=dj/\((v= .bool s2/\i<n.toNat/\∃s,so=σ s)\/(v= .bool sp/\(so=ν\/i=n.toNat)))) ?_ ?_
 rotate_left
 .intro az R;rw[aW,ao];refine⟨λca=>?_,λeD=>R _ _ ⟨rfl,.inr ⟨rfl,.inr Ω⟩⟩⟩;rw[mT am];cases so with
  |none=>exact R _ _ ⟨rfl,.inr ⟨rfl,.inl rfl⟩⟩
  |some s=>exact R _ _ ⟨rfl,.inl ⟨rfl,Ω,s,rfl⟩⟩
 rintro _ _ ⟨rfl,⟨rfl,ca,s,rfl⟩|⟨rfl,dk⟩⟩
 .rw[bT];obtain⟨dl,eE,dm⟩:=b9 s rfl;refine(l0 am).Y ?_;rintro _ eF _ ⟨⟨dp,dq⟩,z,eH,rfl,bd,eI⟩;rw[bA,bB,bW];refine(oG dq).Y ?_;rintro _ eJ _ ⟨dr,ds⟩;have aF:=dp.F dr;have cb:=G b6 aF;have dt:∀r,r=g->iG O r\/O.heap.size<=r:=λr j=>(l1 am r j).imp (λ⟨e,c,M,du,dv,_⟩=>⟨e,c,M,du,dv⟩) id;have cc:=eZ b7 aF dt;rw[aO eu.p 2 cb rfl];refine e3 aA.u ay.i rfl λa22 eK dw eL S dx=>?_;refine jt aA.u ay.i rfl (cc.W S) dx.ls Θ Θ λdy dz eM aG dA ce=>?_;have cf:=cb.W S;have cg:=cf.aa ce λhe=>cC (cc.W S) cf Φ he rfl;rw[b5,aZ eu.p rfl];refine bs (g:=B) (o:=2) aA.i aG.ls.cells.1 aG.ls.cells.2 cg Ξ λdC ci eN be=>?_;have be:=be;rw[aT,lm Ω Ω];have cj:ai (λr=>lc hv r\/r=B) dw dC:=(ce.Y λr _ h=>.inl h).F (ci.Y λr _ h=>.inr h);have ck:∀r,(lc hv r\/r=B)->C.heap.size<=r:=λr j=>j.elim (b8 r) λj=>Ω
  have eO:=bl.size;have eP:=aF.size;have z22:=S.size;have eQ:=a8.size;have eR:=am.lt;refine⟨⟨i+1,rfl,Ω,((up a8 aF).F (S.aa _)).F (cj.Y λr _ h=>by have:=ck r h;omega),dy,dz,acc++[z],((bk 1 most (σ s)).map (·.2)).map (bm (decide (32<z))),be,bE aG ci λr j he=>?_,λr j=>?_,(ds.W S).new cj ck,?_,λs' K=>?_⟩,by simp only[b1];omega⟩
  .have he:r=B:=he;subst he;exact cC aG cg Φ j rfl
  .rcases dA r j with h|h
   .exact b8 r h
   .omega
  .refine bc.step ca ?_ λq A=>?_
   .show (V6 _ (bq 1 most s)).map _=_;unfold gT;cases A:bq 1 most s with
    |none=>rfl
    |some q=>
     have:=bd q A;obtain⟨cl,aI⟩:=q;subst this;rfl
   .unfold gT at A;cases L:bq 1 most s with
    |none=>rw[L]at A;cases A
    |some an=>
     rw[L]at A;have:=bd an L;obtain⟨cl,aI⟩:=an;cases A;exact this
  .cases L:bq 1 most s with
   |none=>
    have K:(V6 (λx=>x.2) (bq 1 most s)).map (bm (decide (32<z)))=σ s':=K;rw[L]at K;cases K
   |some an=>
    have K:(V6 (λx=>x.2) (bq 1 most s)).map (bm (decide (32<z)))=σ s':=K;rw[L]at K;have dD:=bd an L;obtain⟨cl,aI⟩:=an;cases K;have cm:=dP L;have iJ:=(jn L).1;have eS:=cm.1;refine⟨by show aI.m1=0;rw[cm.eqs.1];exact dl,?_,λy ap=>?_⟩
    .rw[j6];show acc.length+1+aI.hp.length<=100000;omega
    .rcases j9.1 ap with ap|ap
     .exact dm y ap
     .rw[Y4.1 ap,dD];exact⟨iJ.1,by unfold aD;have:=iJ.2;simp only at*;omega⟩
 .rw[bb];have dE:ag.bind (da (gT most) n.toNat [])=so.map λs=>(acc,s):=by
   unfold mU at bc;rw[bc];cases so with
   |none=>rfl
   |some s=>
    rcases dk with h|rfl
    .cases h
    .simp only[V7];rfl
  refine QO a8 b6 b7 am (λs V=>?_) Ω Ω ae c9 λv I X dF J dG dH cn=>?_
  .obtain⟨dI,eU,a3⟩:=b9 s V;exact⟨λ_=>by rw[dI];omega,Ω,a3,Ω⟩
  .have dJ:(decide ((64:Int)<(t.length:Int)))=decide (64<t.length):=by rw[U1,ro,ro];omega
   rw[dJ]at aU;have dK:=QM aU.symm (λq A=>cL q A) bI.symm bD bL.symm hm bR.symm bO b0.symm hk dE dG;have P:=QQ dK Ω;have cp:¬0<=bad↔(lex pl).2=s2:=by
    rw[cu];cases (lex pl).2<;>simp
   cases dF with
   |none=>
    obtain⟨aC,e,rfl⟩:=cn λs V=>by cases V
    exact⟨J,aC,e,λ_=>rfl,λf ah=>by rw[P]at ah;cases ah⟩
   |some s=>
    have P:il pl=if s.hp=[]/\(lex pl).2=s2/\s.big=sp then σ ⟨t,k,acc,X⟩else ν:=P;by_cases E:s.hp=[]/\(lex pl).2=s2/\s.big=sp
    .rw[m3 E]at P;obtain⟨rfl,dL⟩:=dH s rfl ⟨E.1,cp.2 E.2.1,E.2.2⟩;exact⟨J,_,_,(λah=>by rw[P]at ah;cases ah),λf ah=>⟨B,rfl,by rw[P]at ah;cases ah;exact dL⟩⟩
    .rw[m5 E]at P;obtain⟨aC,e,rfl⟩:=cn λs' K ax=>by
      cases K;exact E ⟨ax.1,cp.1 ax.2.1,ax.2.2⟩
     exact⟨J,aC,e,λ_=>rfl,λf ah=>by rw[P]at ah;cases ah⟩
theorem E3{a b:Int}:aq x8 Ko [Δ a,Δ b] w λv I=>v=Δ (min a b)/\Ext w I:=by
 refine aE func208 ?_;rw[aW,ao];exact⟨λh=>⟨by congr 1;omega,Ext.refl _⟩,λh=>⟨by congr 1;omega,Ext.refl _⟩⟩
theorem QS{s:ks}{x:cI}(h:iv w s x)(O:(x.lines.map (·.1)).Nodup)(P:aQ .i64 w aX t):aq x8 K1 [.agg (fS s).toArray,aX,Δ k] w λv I=>v=Δ (lb x k t)/\Ext w I:=by
 obtain⟨⟨g1,Q⟩,⟨an,R⟩,S,ap,L,f,V,E⟩:=id h;refine aE func265 ?_;refine br λW U au z a=>?_;have a:ak U W bj (fS s):=by
  obtain⟨_,_,_,X⟩:=dr Q.ls;obtain⟨_,_,_,Y⟩:=dr R.ls;obtain⟨_,_,_,_,_,Z,_⟩:=f.sl;simp only[fS,X,Y,Z]at a ⊢;exact a
 have aa:=f.W z;have ac:L.length=x.lines.length:=by rw[<-E,r9]
 rw[aP bj.p 2 a rfl,aP bj.p 3 a rfl,eF ev.u aa,S];refine cp.range L.length (λi j ab=>Ext U ab/\∃c:Int,j=Δ c/\min c k=mN x k i t) f.le ⟨Ext.refl _,x.other,rfl,(DP x k t).symm⟩ ?_ ?_
 .rintro i _ ab ad hi ⟨e,c,rfl,q⟩ ae;obtain⟨y,A⟩:=aJ (l:=L) hi;obtain⟨gy,G⟩:=V y (x7 A);have B:=z.F e;have af:x.lines[i]?=σ (y.t,y.c):=by rw[<-E,u4,A];rfl
  have H:=DR (k:=k) O af t;refine bK Ω ?_;refine a6 (λj J=>Ext U J/\∃c:Int,j=Δ c/\min c k=mN x k (i+1) t) ?_ ?_
  .rintro j J ag;rw[aT];exact ae _ _ ag
  intro az K;have M:=f.W B;rw[ct rfl ev.u cv.i M hi,bI cv.p cv.i rfl (M.range A)];refine bF cv.i λav aw ax ah ai=>?_;refine cd (vs:=pR y) cv.i rfl rfl (yz G) ai λay aj aA N=>?_;have r:=ah.put aj Ω;rw[aP cv.p 0 N rfl];refine(yy ((G.ls.W B).W r) ((P.W B).W r)).Y ?_;rintro _ aB _ ⟨rfl,C⟩;rw[ao];refine⟨λhe=>?_,λal=>?_⟩
  .rw[aP cv.p 1 (N.W C) rfl];refine K _ _ ⟨(e.F r).F C,y.c,rfl,?_⟩;rw[H,m3 he.symm]
  .refine K _ _ ⟨(e.F r).F C,c,rfl,?_⟩;rw[H,m5 λhe=>al he.symm,q]
 .rintro _ ab ad ⟨e,c,rfl,q⟩;rw[ac,DQ]at q;refine ck Ω ?_;refine E3.Y ?_;rintro _ aC _ ⟨rfl,am⟩;exact⟨by rw[q],(z.F e).F am⟩
theorem QT{dy:x4}(h:aQ .i64 w dy l)(L:l.Nodup)(ah:l.length<=64):aq x8 K0 [dy] w λv I=>Ext w I/\∃g,aH .i64 al I g v (bH l)/\∀r,lc v r->w.heap.size<=r:=by
 refine aE func264 ?_;have M:∀i,i<=64->(((Y9 i).map λ(v:Nat)=>(v:Int)).filter λv=>decide (v∈l)).length<=i:=λi _=>by
  have:=List.length_filter_le (λv=>decide (v∈l)) ((Y9 i).map λ(v:Nat)=>(v:Int));simp at this;omega
 refine cp.range 64 (λi e U=>Ext w U/\∃g,aH .i64 al U g e (((Y9 i).map λ(v:Nat)=>(v:Int)).filter λv=>decide (v∈l))/\∀r,lc e r->w.heap.size<=r) Ω ⟨Ext.refl _,0,aH.nil _ _ _ _,λr y=>by obtain⟨a,n,c,N,ai⟩:=y;cases N⟩ ?_ ?_
 .rintro i e U k hi ⟨z,g,hm,C⟩ hk;refine bK Ω ?_;rw[ba aA.u (h.W z)];have O:=M i Ω;generalize P:(((Y9 i).map λ(v:Nat)=>(v:Int)).filter λv=>decide (v∈l))=A at hm O;refine cp.range l.length (λj e ab=>Ext w ab/\∃g,aH .i64 al ab g e (A++(if(i:Int)∈l.take j then[(i:Int)]else[]))/\∀r,lc e r->w.heap.size<=r) h.le ⟨z,g,by simpa using hm,C⟩ ?_ ?_
  .rintro j Q ab R S ⟨q,E,f,s⟩ V;obtain⟨x,J⟩:=aJ (l:=l) S;refine bK Ω ?_;refine a6 (λe B=>Ext w B/\∃g,aH .i64 al B g e (A++(if(i:Int)∈l.take (j+1)then[(i:Int)]else[]))/\∀r,lc e r->w.heap.size<=r) ?_ ?_
   .rintro aj B W;rw[aT];exact V _ _ W
   intro az K;have G:(i:Int)∈l.take (j+1)↔(i:Int)∈l.take j\/(i:Int)=x:=by
    rw[u9,J,j4,j9,Y4]
   rw[bp aA.u ay.i Ψ (h.W q) J,bl,ao];refine⟨λhe=>?_,λX=>?_⟩
   .have Y:(i:Int)∉l.take j:=λhm=>by
     obtain⟨p,ae⟩:=Y5.1 hm;have Z:p<j:=by have:=(x6.1 ae).1;rw[Z3]at this;omega
     rw[V1 Z,<-he]at ae;have:=lT L ae J;omega
    rw[m5 Y,T5]at f;refine e3 au.u al.i rfl λa3 ak B am H aa=>?_;refine jt au.u al.i rfl (f.W H) aa.ls Θ Θ λan ac ap ad af ag=>?_;have av:=q.size;have z3:=H.size;refine K _ _ ⟨(q.F H).then ag λr y he=>by have:=s r he;omega,ac,?_,λr y=>(af r y).elim (s r) λh=>Ω⟩;rw[m3 (G.2 (.inr he.symm))];exact ad
   .refine K _ _ ⟨q,E,?_,s⟩;have:((i:Int)∈l.take (j+1))=((i:Int)∈l.take j):=propext ⟨λax=>(G.1 ax).resolve_right λhe=>X he.symm,λax=>G.2 (.inl ax)⟩;simp only[this];exact f
  .rintro Q ab R ⟨q,E,f,s⟩;rw[o9]at f;refine ck Ω ?_;rw[aT];refine hk _ _ ⟨q,E,?_,s⟩;rw[List.range_succ,Z0,List.filter_append,P];by_cases hm:(i:Int)∈l
   .rw[m3 hm]at f;simpa[hm]using f
   .rw[m5 hm]at f;simpa[hm]using f
 .rintro e U k ⟨z,g,hm,C⟩;rw[aW,ao];exact⟨λh=>Ω,λ_=>⟨z,g,hm,C⟩⟩
structure fT where
 a1:x4
 hv:x4
 bg:x4
 sc:Λ
 cs:Λ
def dW(h:fT):List x4:=[h.a1,h.hv,h.bg]
def q5(h:fT)(r:Nat):Prop:=lc h.bg r\/lc h.a1 r\/lc h.hv r
def gk(w:x5)(d6:Λ)(h:fT):Prop:=(∃g,aH .i64 al w g h.a1 h.sc)/\(∃g,aH .i64 al w g h.hv (b6 d6 h.sc))/\∃g,aH .i64 ay w g h.bg h.cs
theorem gk.W{h:fT}(ax:gk w d6 h)(J:Ext w I):gk I d6 h:=by
 obtain⟨⟨g1,h1⟩,⟨a,e⟩,f,j⟩:=ax;exact⟨⟨g1,h1.W J⟩,⟨a,e.W J⟩,f,j.W J⟩
theorem gk.one{h:fT}(ax:gk w d6 h):∀u∈dW h,u.oneCell'=s2:=by
 obtain⟨⟨g1,h1⟩,⟨f,a⟩,j,e⟩:=ax;intro u hu;simp[dW]at hu;rcases hu with rfl|rfl|rfl
 .exact h1.ls.cells.2
 .exact a.ls.cells.2
 .exact e.ls.cells.2
theorem E4{f:cg}{x:cI}{Y:ks}{sv:x4}(h:iv w Y x)(aB:fC N f)(bm:x∈f.ho)(bW:aH .i64 ay w gz sv f.d6):
  aq x8 Kl [.agg (fS Y).toArray,sv,Δ f.k] w λv I=>Ext w I/\∃c:fT,v= .agg (dW c).toArray/\c.sc=bH x.scope/\c.cs=(jP f.d6 f.k x).2/\gk I f.d6 c/\∀r,q5 c r->w.heap.size<=r:=by
 obtain⟨Z,bX,dt⟩:=aB.ho x bm;have ac:=uG Z aB.d6.2.1;have bn:=uF ac Z.scope.1;have du:(bH x.scope).length<=6:=by rw[bn.length_eq];exact bX
 have bY:=qW aB bm;have dv:=DI x.scope;obtain⟨⟨g1,aC⟩,⟨dw,bZ⟩,dx,dy,b0⟩:=id h;refine aE func204 ?_;refine br λaS U dz bo ad=>?_;have ad:ak U aS bj (fS Y):=by
  obtain⟨L,b1,_⟩:=b0;obtain⟨_,_,_,C⟩:=dr aC.ls;obtain⟨_,_,_,J⟩:=dr bZ.ls;obtain⟨_,_,_,_,_,b2,_⟩:=b1.sl;simp only[fS,C,J,b2]at ad ⊢;exact ad
 refine bF bd.i λb4 ab dA aU aW=>?_;have aY:=bo.F aU;rw[aP bj.p 0 (ad.W aU) rfl];refine(QT (aC.ls.W aY) Z.scope.1 Ω).Y ?_;rintro a1 dC _ ⟨aD,gr,a2,dD⟩;rw[dn (cs:=#[a1,.slice ν 0 0,.slice ν 0 0]) (by obtain⟨_,_,_,rfl⟩:=dr a2.ls;kernel_rfl)];refine bF bd.i λB dE b5 b7 b8=>?_;refine cd (vs:=[a1,.slice ν 0 0,.slice ν 0 0]) bd.i rfl rfl (by intro u hu;simp at hu;rcases hu with rfl|rfl;exact a2.ls.cells.2;rfl) b8 λQ b9 dF S=>?_;have aF:=b7.put b9 Ω;have bq:=(aY.F aD).F aF;have R:=a2.W aF;have bu:=((ad.W aU).W aD).W aF;have bw:=(aW.W aD).W aF;have dG:=aY.size;have z3:=aD.size;have dH:=bq.size;have dI:=S.lt;have dJ:=b5;rw[aP bd.p 0 S rfl,ba au.u R.ls];have bx:∀v∈bH x.scope,0<=v/\v<f.d6.length:=λv hm=>Z.scope.2 v (by grind);have a7:∀{I:x5},ai (λr=>r=B\/Q.heap.size<=r) Q I->Ext w I:=λbb=>bq.then bb Ω;have cb:(b6 f.d6 (bH x.scope)).length=(bH x.scope).length:=by simp[b6]
 refine b3.range (bH x.scope).length (λi W=>ai (λr=>r=B\/Q.heap.size<=r) Q W/\∃hv gs,ak W B bd [a1,hv,.slice ν 0 0]/\aH .i64 al W gs hv ((b6 f.d6 (bH x.scope)).take i)/\∀r,lc hv r->Q.heap.size<=r) Ω
  ⟨ai.refl _ _,_,0,S,aH.nil _ _ _ _,λr s=>by obtain⟨a,n,c,C,J⟩:=s;cases C⟩ ?_ ?_
 .rintro i W cc hi ⟨K,hv,gs,ce,af,cf⟩ ch;obtain⟨v,bz⟩:=aJ (l:=(bH x.scope)) hi;have dK:=bx v (x7 bz);have ci:=bE R K λr s V=>by
   rcases V with rfl|V
   .exact cC R S Φ s rfl
   .obtain⟨C,J⟩:=ca R s;omega
  refine bK Ω ?_;rw[bp au.u al.i Ψ ci.ls bz];intro dL ag _ _;have bA:=ce.W ag;have cj:f.d6[v.toNat]?=σ (f.d6.getD v.toNat 0):=by grind
  rw[aP bd.p 1 bA rfl,fz (y:=v) (i:=v.toNat) Ω aA.u ay.i Ψ (bW.W ((a7 K).F ag)).ls cj];refine e3 au.u al.i rfl λdM dN cl dO ah cm=>?_;refine⟨.inl ah,?_⟩;have cr:=(af.W ag).W ah;refine jt au.u al.i rfl cr cm.ls Θ Θ λct cu dP bB dQ bC=>?_;have cw:=bA.W ah;have cz:=cw.aa bC (by grind);rw[aZ bd.p rfl];refine bs (g:=B) (o:=1) au.i bB.ls.cells.1 bB.ls.cells.2 cz Ξ λcA cB dR cD=>?_;rw[aT];have cE:ai (λr=>lc hv r\/r=B) cl cA:=(bC.Y (by grind)).F (cB.Y Ω);have cF:=K.size;have dS:=(ag.F ah).size;refine ch _ ⟨((K.F (ag.aa _)).F (ah.aa _)).F (cE.Y (by grind)),ct,cu,cD,?_,by grind⟩
  grind [b6,u9,bE]
 rintro W cc ⟨K,hv,gs,bD,af,cf⟩;rw[<-cb,o9]at af;refine ck Ω ?_;have dT:=a7 K;have aG:cn (b6 f.d6 (bH x.scope)):=⟨Ω,pK aB.d6.2.2 bx⟩;have cG:=bY.small;rw[aP bd.p 1 bD rfl];refine(xj _ af.ls aG).Y ?_;rintro cH E _ ⟨aI,cJ⟩;have dU:=kF aG.2;have dV:=nJ aG.2;have dX:aV (b6 f.d6 (bH x.scope))<=4096:=cG;rw[ij cq.u cJ];have aK:ai (λr=>r=B\/Q.heap.size<=r) Q E:=K.F (aI.aa _);have aj:=bD.W aI;have bG:=af.W aI;have cF:=K.size;have dY:=aI.size;have bc:aH .i64 al E gr a1 (bH x.scope):=bE R aK λr s V=>by
  rcases V with rfl|V
  .exact cC R S Φ s rfl
  .obtain⟨C,J⟩:=ca R s;omega
 have bJ:ak E aS bj (fS Y):=bu.aa aK λV=>V.elim (λhe=>by subst he;exact m6 (fE bu S) Φ) Ω;have bL:=bw.aa aK λV=>V.elim (λhe=>by have:=aW.lt;omega) λh=>by have:=bw.lt;omega
 have bM:∀{I:x5},ai (λr=>r=B\/E.heap.size<=r) E I->Ext w I:=λbb=>(a7 aK).then bb Ω;have dZ:B<E.heap.size:=aj.lt;refine b3.range (bt (b6 f.d6 (bH x.scope))).length (λq z=>ai (λr=>r=B\/E.heap.size<=r) E z/\∃bg am,ak z B bd [a1,hv,bg]/\aH .i64 ay z am bg (((bt (b6 f.d6 (bH x.scope))).take q).map λt=>lb x f.k (qM x.scope (bH x.scope) t))/\∀r,lc bg r->E.heap.size<=r) Ω
  ⟨ai.refl _ _,_,0,aj,aH.nil _ _ _ _,λr s=>by obtain⟨a,n,c,C,J⟩:=s;cases C⟩ ?_ ?_
 .rintro q z cK cL ⟨H,bg,am,an,ap,cM⟩ cN;obtain⟨t,bN⟩:∃t,(bt (b6 f.d6 (bH x.scope)))[q]?=σ t:=⟨_,v8 cL⟩;have ea:t.length=(bH x.scope).length:=by
   have eb:=r0 aG.2 (i:=q) Ω
   grind [kE]
  have be:=bM H;have cO:aw.rep (α:=List (Λ)) s2 (e4 W.heap.size) bU z [cH] (bt (b6 f.d6 (bH x.scope))):=by grind [aw.aa]
  have X:∀{M:Nat}{O:x4}{P:Λ},aH .i64 al E M O P->aH .i64 al z M O P:=λhm=>bE hm H λr s V=>by
   rcases V with rfl|V
   .exact cC hm aj Φ s rfl
   .obtain⟨C,J⟩:=ca hm s;omega
  have bO:=X bc;have bP:ak z aS bj (fS Y):=bJ.aa H λV=>V.elim (λhe=>by subst he;exact m6 (fE bJ aj) Φ) Ω;refine bK Ω ?_;refine kf (α:=Λ) rfl rfl cq.u au.i Ψ cO bN λaX cP=>?_;have cQ:=ew cP;rw[aP bj.p 0 bP rfl,ba aA.u (aC.ls.W be)];have z12:=H.size;refine cp.range x.scope.length (λp G aL=>Ext z aL/\∃go,aH .i64 ay aL go G ((x.scope.take p).map λv=>t.getD ((bH x.scope).idxOf v) 0)/\∀r,lc G r->z.heap.size<=r) Ω ⟨Ext.refl _,0,aH.nil _ _ _ _,λr s=>by obtain⟨a,n,c,C,J⟩:=s;cases C⟩ ?_ ?_
  .rintro p G aL cR ae ⟨av,go,aM,cS⟩ ec;obtain⟨v,bQ⟩:=aJ (l:=x.scope) ae;have cT:v∈bH x.scope:=bn.mem_iff.2 (x7 bQ);refine bK Ω ?_;have cU:=be.F av;have cV:=an.W av;have cW:=bO.W av;rw[bp aA.u ay.i Ψ (aC.ls.W cU) bQ,aP bd.p 0 cV rfl,ba au.u cW.ls];generalize ed:((x.scope.take p).map λv=>t.getD ((bH x.scope).idxOf v) 0)=A at aM;have ee:A.length=p:=by grind
   refine cp.range (bH x.scope).length (λj G aN=>Ext z aN/\∃go,aH .i64 ay aN go G (A++if v∈(bH x.scope).take j then[t.getD ((bH x.scope).idxOf v) 0]else[])/\∀r,lc G r->z.heap.size<=r) Ω (by grind) ?_ ?_
   .rintro j cX aN cY cZ ⟨ax,c0,aO,c1⟩ ef;obtain⟨u,hu⟩:=aJ (l:=(bH x.scope)) cZ;have c2:=bO.W ax;refine bK Ω ?_;refine a6 (λG bf=>Ext z bf/\∃go,aH .i64 ay bf go G (A++if v∈(bH x.scope).take (j+1)then[t.getD ((bH x.scope).idxOf v) 0]else[])/\∀r,lc G r->z.heap.size<=r) ?_ ?_
    .rintro eg bf eh;rw[aT]
     grind
    intro az c3;have ei:v∈(bH x.scope).take (j+1)↔v∈(bH x.scope).take j\/v=u:=by
     grind [u9]
    rw[bp au.u al.i Ψ c2.ls hu,bl,ao];refine⟨λhe=>?_,λej=>?_⟩
    .have c4:v∉(bH x.scope).take j:=λhm=>by
      grind [Y5]
     rw[m5 c4,T5]at aO;have c5:t[j]?=σ (t.getD ((bH x.scope).idxOf v) 0):=by
      grind
     rw[bp au.u al.i Ψ (cQ.W ax) c5];refine e3 aA.u ay.i rfl λek em en eo bh c6=>?_;refine jt aA.u ay.i rfl (aO.W bh) c6.ls Θ Θ λep c7 er es et c8=>?_;have eu:=ax.size;have ev:=bh.size;refine c3 _ _ ⟨(ax.F bh).then c8 (by grind),c7,?_,by grind⟩
     grind
    grind
   .rintro cX aN cY ⟨ax,c0,aO,c1⟩;rw[o9,m3 cT]at aO;refine ck Ω ?_;rw[aT]
    grind [u9]
  .rintro G aL cR ⟨av,go,aM,cS⟩;rw[o9]at aM;refine ck Ω ?_;intro ey bR _ _;have aQ:=av.F bR;have c9:=an.W aQ;have da:=bP.W aQ;rw[aP bd.p 2 c9 rfl,bI bj.p bj.i rfl da.range];refine(QS (h.W (be.F aQ)) Z.lines.1 (aM.ls.W bR)).Y ?_;rintro _ ez _ ⟨rfl,bi⟩;refine⟨.inl bi,?_⟩;refine e3 aA.u ay.i rfl λeA eB db eC bS dc=>?_;refine⟨.inl (bi.F bS),?_⟩;have aR:=(aQ.F bi).F bS;have dd:=ap.W aR;refine jt aA.u ay.i rfl dd dc.ls Θ Θ λde df eD bk eE bT=>?_;have dg:=an.W aR;have dh:=dg.aa bT (by grind);rw[aZ bd.p rfl];refine bs (g:=B) (o:=2) aA.i bk.ls.cells.1 bk.ls.cells.2 dh Ξ λdi bV eF dj=>?_;rw[aT];have dk:ai (λr=>lc bg r\/r=B) db di:=(bT.Y (by grind)).F (bV.Y Ω);have eH:=aR.size;refine cN _ ⟨(H.F (aR.aa _)).F (dk.Y (by grind)),de,df,dj,?_,by grind⟩;rw[u9,bN,j4,Z0];exact bE bk bV (by grind)
 .rintro z cK ⟨H,bg,am,an,ap,cM⟩;rw[o9]at ap;refine ck Ω ?_;have X:∀{M:Nat}{O:x4}{P:Λ},aH .i64 al E M O P->aH .i64 al z M O P:=λhm=>bE hm H λr s V=>by
   rcases V with rfl|V
   .exact cC hm aj Φ s rfl
   .obtain⟨C,J⟩:=ca hm s;omega
  let c:fT:=⟨a1,hv,bg,bH x.scope,(jP f.d6 f.k x).2⟩;have dl:gk z f.d6 c:=⟨⟨gr,X bc⟩,⟨gs,X bG⟩,am,ap⟩;rw[bI bd.p bd.i rfl (show z.rangeAt B 0 (dW c)from an.range)];have dm:=bL.aa H λV=>V.elim (λhe=>by have:=aW.lt;omega) λh=>by have:=bL.lt;omega
  refine cd (vs:=dW c) bd.i rfl rfl dl.one dm λdp dq eI ds=>?_;rw[fA bd.p bd.i rfl ds.range];have a8:∀{M:Nat}{O:x4}{P:Λ}{e:o4},e≠bd->aH .i64 e z M O P->aH .i64 e dp M O P:=by grind [bE,cC]
  refine⟨(bM H).then dq λr s he=>by have he:r=b4:=he;have:=bo.size;omega,c,rfl,rfl,rfl,⟨⟨gr,a8 Φ (X bc)⟩,⟨gs,a8 Φ (X bG)⟩,am,a8 Φ ap⟩,λr s=>?_⟩;rcases s with s|s|s
  all_goals grind
theorem E5{h:fT}{g:Nat}(e:gk w d6 h)(a:ak I g bd (x4.agg (dW h).toArray).cells.toList):ak I g bd (dW h):=by
 obtain⟨⟨g1,h1⟩,⟨x,f⟩,y,j⟩:=e;obtain⟨_,_,_,q⟩:=dr h1.ls;obtain⟨_,_,_,r⟩:=dr f.ls;obtain⟨_,_,_,s⟩:=dr j.ls;simp only[dW,q,r,s]at a ⊢;exact a
theorem QU{a b:fT}(R:gk w d6 a)(S:gk w d6 b)(X:lV a.sc)(Y:lV b.sc):aq x8 Bf [.agg (dW a).toArray,.agg (dW b).toArray] w λv I=>v= .bool (decide (dq a.sc<dq b.sc))/\Ext w I:=by
 obtain⟨⟨ga,V⟩,_⟩:=id R;obtain⟨⟨aw,Z⟩,_⟩:=id S;have H:=(xV X Y).1;refine aE func206 ?_;refine br λg1 U ax aa L=>?_;refine br λac ab ay W M=>?_;have L:=(E5 R L).W W;have M:=E5 S M;have q:=aa.F W;have r:=V.ls.W q;have A:=Z.ls.W q;have s:∀{I:x5},Ext ab I->∀{K:x4->Prop},ad x8 (u6 bd (Γ g1) 0) I (λt=>ad x8 (u5 au t) I K)=K a.a1:=λJ K=>by
  rw[aP bd.p 0 (L.W J) rfl]
 have B:∀{I:x5},Ext ab I->∀{K:x4->Prop},ad x8 (u6 bd (Γ ac) 0) I (λt=>ad x8 (u5 au t) I K)=K b.a1:=λJ K=>by
  rw[aP bd.p 0 (M.W J) rfl]
 rw[s (Ext.refl _),ba au.u r,B (Ext.refl _),ba au.u A,bO,ao];refine⟨λae=>?_,λaf=>?_⟩
 .rw[s (Ext.refl _),ba au.u r,B (Ext.refl _),ba au.u A,aW];refine⟨?_,q⟩;congr 1;rw[U1,ro,ro,H];exact⟨λh=>.inl Ω,λh=>by rcases h with h|h<;>omega⟩
 have ag:a.sc.length=b.sc.length:=by have:=X1.1 af;omega
 rw[s (Ext.refl _),ba au.u r];refine cp.range a.sc.length (λi _ N=>Ext ab N/\∀(j:Nat)(x y:Int),j<i->a.sc[j]?=σ x->b.sc[j]?=σ y->x=y) V.ls.le ⟨Ext.refl _,λj x y ah=>Ω⟩ ?_ ?_
 .rintro i _ N k hi ⟨O,C⟩ hk;obtain⟨x,J⟩:=aJ (l:=a.sc) hi;obtain⟨y,E⟩:=aJ (l:=b.sc) (i:=i) Ω;have e:=uQ C Ω Ω;have ai:a.sc.drop i=x::a.sc.drop (i+1):=by rw[X2 hi,(x6.1 J).2]
  have aj:b.sc.drop i=y::b.sc.drop (i+1):=by rw[X2 (show i<b.sc.length by omega),(x6.1 E).2]
  rw[ai,aj]at e;simp only[jV]at e;refine bK Ω ?_;intro az ak _ _;have f:=O.F ak;rw[s f,bp au.u al.i Ψ (r.W f) J,B f,bp au.u al.i Ψ (A.W f) E,bO,ao];refine⟨λae=>?_,λhe=>?_⟩
  .intro aA am _ _;have z:=f.F am;rw[s z,bp au.u al.i Ψ (r.W z) J,B z,bp au.u al.i Ψ (A.W z) E,aW];refine⟨?_,q.F z⟩;congr 1;rw[U1,ro,ro,H,e];by_cases G:x<y
   .rw[m3 G];exact⟨λ_=>.inr ⟨ag,Ω⟩,λ_=>G⟩
   .rw[m5 G,m3 (show y<x by omega)];exact⟨λh=>m6 h G,λh=>by rcases h with h|h<;>omega⟩
  .rw[aT];refine hk _ _ ⟨f,λj an ap ah P Q=>?_⟩;by_cases av:j=i
   .subst av;rw[J]at P;rw[E]at Q;cases P;cases Q;exact X1.1 he
   .exact C j an ap Ω P Q
 .rintro _ N k ⟨O,C⟩;rw[aW,ao];refine⟨λh=>Ω,λ_=>⟨?_,q.F O⟩⟩;congr 1;symm;rw[decide_eq_false_iff_not,H];have e:=uQ C (o6 _) Ω;rw[List.drop_length,show b.sc.drop a.sc.length=[]from List.drop_eq_nil_of_le Ω]at e;rw[e];simp only[jV];omega
def dR(h:fT):c0:=(h.sc,h.cs)
def l2(w:x5)(B g:Nat)(v:x4)(d6:Λ)(L:List fT):Prop:=bn dW 3 bd w g v L/\(∀h∈L,gk w d6 h/\∀r,q5 h r->B<=r)/\(∀(i j:Nat)x y,L[i]?=σ x->L[j]?=σ y->i≠j->∀r,lc x.bg r->¬lc y.bg r)/\∀r,hx v r->B<=r
theorem oH{h:fT}(z:gk w d6 h)(s:ai S w I)(x:∀r,S r->(∃e c,ak w r e c/\e≠al/\e≠ay)\/w.heap.size<=r\/((∃c,ak w r ay c)/\¬lc h.bg r)):gk I d6 h:=by
 obtain⟨⟨g1,h1⟩,⟨A,B⟩,C,j⟩:=z;have y:∀{g:Nat}{v:x4}{l:Λ},aH .i64 al w g v l->aH .i64 al I g v l:=λhm=>bE hm s λr a V=>by
  rcases x r V with⟨e,c,f,q,_⟩|E|⟨⟨c,f⟩,_⟩
  .exact cC hm f (λhe=>q he.symm) a rfl
  .obtain⟨F,G⟩:=ca hm a;omega
  .exact cC hm f Φ a rfl
 refine⟨⟨g1,y h1⟩,⟨A,y B⟩,C,bE j s λr a V=>?_⟩;rcases x r V with⟨e,c,f,_,q⟩|E|⟨_,H⟩
 .exact cC j f (λhe=>q he.symm) a rfl
 .obtain⟨F,G⟩:=ca j a;omega
 .exact H a
theorem l2.W{g:Nat}{v:x4}{L:List fT}(h:l2 w B g v d6 L)(J:Ext w I):l2 I B g v d6 L:=⟨h.1.W J,λx a=>⟨(h.2.1 x a).1.W J,(h.2.1 x a).2⟩,h.2.2⟩
section
variable{α:Type}{f:α->List x4}{k:Nat}{P:X8}{w:x5}{e:o4}{g:Nat}{v:x4}{L:List α}
theorem QV{M:List α}(h:bn f k e w g v L)(ah:L.map f=M.map f):bn f k e w g v M:=by
 have j:L.length=M.length:=by have:=congrArg List.length ah;simpa using this
 have hm:L.flatMap f=M.flatMap f:=by rw[List.flatMap_def,List.flatMap_def,ah]
 refine⟨by rw[<-j,<-hm];exact h.1,λa q=>?_⟩;obtain⟨b,r,he⟩:=l9.1 (show f a∈L.map f by rw[ah];exact l9.2 ⟨a,q,rfl⟩);rw[<-he];exact h.2 b r
theorem E6{t:o4}{b l be:Nat}{low high:Option x4}{K:x4->Prop}(s:P.underlying t=σ (.slice e))(hi:aU P e k b z)(h:bn f k e w g v L)(h1:nB low l)(x:nC high L.length be)(q:l<=be)(ax:be<=L.length)(y:∀r,(∀I,bn f k e I g v L->cj I k r ((L.drop l).take (be-l)).length (((L.drop l).take (be-l)).flatMap f))->K r):ad P (V5 t v low high ν) w K:=by
 have A:=h.sl;obtain⟨_,C,o,base,cap,rfl,E,_⟩:=A;rw[iA s hi h1 x fy q Ω (o6 _)];refine y _ λI j=>?_;have:=cj.part (l:=l) (h:=be) (m:=cap) j.sl q ax Ω (o6 _);rw[uy l j.2,sg (be-l) (λa B=>j.2 a (List.mem_of_mem_drop B))]at this;have el:((L.drop l).take (be-l)).length=be-l:=by rw[Z3,List.length_drop];omega
 rw[el];exact this
theorem yB{t Q:o4}{b:Nat}{x:x4}{M:List α}(A:P.underlying t=σ (.slice e))(hi:aU P e k b z)(G:z.cells.size=k)(h:bn f k e w g v L)(J:cj w k x M.length (M.flatMap f))(R:∀a∈M,(f a).length=k)(h1:∀a∈M,∀u∈f a,u.oneCell'=s2)(B:(L.length+M.length)*b<=140737488355328)(H:L.length+M.length<=9223372036854775807)(N:∀j q I,bn f k e I q j (L++M)->(∀r,hx j r->hx v r\/w.heap.size<=r)->ai (λr=>hx v r) w I->K j I):aL P (c9 #[t,t] Q #[v,x]) w K:=by
 have O:∀u∈M.flatMap f,u.oneCell'=s2:=λu hu=>by
  obtain⟨a,S,hu⟩:=List.mem_flatMap.1 hu;exact h1 a S u hu
 have C:∀j q I,b7 I q e k j (L.length+M.length) (L.flatMap f++M.flatMap f)->bn f k e I q j (L++M):=λj q I hm=>⟨by simpa using hm,λb B=>by
  rcases j9.1 B with be|be
  .exact h.2 b be
  .exact R b be⟩
 rcases h.1.2 with⟨ac,T⟩|⟨cap,cs,ac,U,_⟩
 .have hm:b7 w w.heap.size e k v L.length (L.flatMap f):=⟨h.1.1,.inl ⟨ac,T⟩⟩;subst ac;refine pr A A hi G hm J O (by simpa using B) (by simpa[maxLen]using H) λj q I E s F=>N j q I (C _ _ _ s) (λr y=>.inr ?_) (F.Y λr y h=>Ω);have:=((C _ _ _ s).lc y).1;omega
 .refine pr A A hi G h.1 J O (by simpa using B) (by simpa[maxLen]using H) λj q I E s F=>N j q I (C _ _ _ s) (λr y=>?_) (F.Y λr y h=>⟨_,_,_,ac,h.symm⟩);have:=((C _ _ _ s).lc y).1;rcases E with E|E
  .exact .inl ⟨_,_,_,ac,by show g=r;omega⟩
  .exact .inr Ω
theorem QW{t:o4}{b:Nat}(a:P.underlying t=σ (.slice e))(hi:aU P e k b z)(h:∀v g I,g=w.heap.size->Ext w I->bn f k e I g v []->K v I):aL P (Y3 t 0 #[]) w K:=
 k5 a hi Ω (cs:=#[]) (by simp[Instr.fill]) λg I j q r=>by
  exact h _ g I j q ⟨by simpa using b7.full (n:=0) r Ξ (by simp[maxLen]),λc s=>by cases s⟩
end
theorem yC{α:Type}{A B:List α}{s:Nat}{a:α}(V:s<B.length)(e:A[s]?=σ a):(A.take s++B.drop s).set s a=A.take (s+1)++B.drop (s+1):=by
 have f:=(x6.1 e).1;have h1:(A.take s).length=s:=by rw[Z3];omega
 rw[U7 _ _ Ω,h1,V7,X2 V,List.set_cons_zero,u9,e,j4,T1];rfl
theorem E7{α:Type}{A B:List α}{s:Nat}(V:s<=A.length):(A.take s++B.drop s)[s]?=B[s]?:=by
 have h1:(A.take s).length=s:=by rw[Z3];omega
 rw[X3 Ω,h1,V7,List.getElem?_drop,Nat.add_zero]
theorem E8{g:c0}:∀{l:List c0}{i:Nat},(∀p<i,∀x,l[p]?=σ x->dq x.1<dq g.1)->i<=l.length->(∀x,l[i]?=σ x->¬dq x.1<dq g.1)->jo g l=l.take i++g::l.drop i
 |[],i,_,a,_=>by
  have:i=0:=by simpa using a
  subst this;rfl
 |x::l,0,_,_,e=>by
  unfold jo;rw[m5 (e x rfl)];rfl
 |x::l,i+1,h1,a,e=>by
  unfold jo;rw[m3 (h1 0 Ω x rfl),E8 (λp ae y f=>h1 (p+1) Ω y f) (by simpa using a) (λy f=>e y f)];rfl
theorem QX{g:Nat}{v:x4}{L:List fT}{h:fT}{s:Nat}{K:Unit->x5->Prop}(f:l2 w B g v d6 L)(E:L[j]?=σ h)(V:s<h.cs.length)(X:∀I,ai (λr=>lc h.bg r) w I->(∀r,lc h.bg r->∃c,ak w r ay c)->l2 I B g v d6 (L.set j {h with cs:=h.cs.set s n})->K () I):
  ad x8 (n9 aA h.bg (Δ (s:Int))) w λt=>aL x8 (o7 ay t (Δ n)) w K:=by
 obtain⟨h1,O,P,Y⟩:=f;have M:=(x6.1 E).1;obtain⟨Q,Z⟩:=O h (x7 E);obtain⟨_,_,R,F⟩:=id Q;have G:∀r,lc h.bg r->∃c,ak w r ay c:=λr f=>by
  obtain⟨rfl,_⟩:=ca F f;obtain⟨_,⟨ac,_⟩|⟨cap,full,_,z,_⟩⟩:=F
  .obtain⟨a,n,c,e,_⟩:=f;rw[ac]at e;cases e
  .exact⟨_,z⟩
 have ab:∀r,r=R->lc h.bg r:=λr he=>by
  subst he;obtain⟨_,⟨_,ax⟩|⟨cap,full,e,z,_⟩⟩:=F
  .omega
  .exact⟨_,_,_,e,rfl⟩
 rw[jk rfl aA.u ay.i F V];refine jl ay.i F V λI A az af=>?_;have A:=A.Y λr _ he=>ab r he;refine X I A G ⟨?_,λx J=>?_,λp q x y J ag ah r aj al=>?_,Y⟩
 .refine QV (h1.aa A λr f V=>?_) ?_
  .obtain⟨c,z⟩:=G r V;exact cO h1 z Φ f
  .rw[U2];symm;refine Y2 λp=>?_;rw[X6,u4];by_cases ae:j=p
   .subst ae;rw[m3 rfl,m3 (by simpa using M),E];rfl
   .rw[m5 ae]
 .have am:x={h with cs:=h.cs.set s n}\/∃p,p≠j/\L[p]?=σ x:=by
   obtain⟨p,ae⟩:=Y5.1 J;rw[X6]at ae;by_cases C:j=p
   .subst C;rw[m3 rfl,m3 M]at ae;exact .inl (Z5 ae).symm
   .rw[m5 C]at ae;exact .inr ⟨p,λh=>C h.symm,ae⟩
  rcases am with rfl|⟨p,an,ae⟩
  .obtain⟨⟨g1,S⟩,⟨ao,U⟩,_⟩:=Q;refine⟨⟨⟨g1,bE S A λr f V=>?_⟩,⟨ao,bE U A λr f V=>?_⟩,R,af⟩,Z⟩
   .obtain⟨c,z⟩:=G r V;exact cC S z Φ f rfl
   .obtain⟨c,z⟩:=G r V;exact cC U z Φ f rfl
  .obtain⟨ap,aq⟩:=O x (x7 ae);refine⟨oH ap A λr f=>.inr (.inr ⟨G r f,λN=>P p j x h ae E an r N f⟩),aq⟩
 .have W:∀{p:Nat}{x:fT},(L.set j {h with cs:=h.cs.set s n})[p]?=σ x->∃H,L[p]?=σ H/\H.bg=x.bg:=λ{p x}J=>by
   rw[X6]at J;by_cases C:j=p
   .subst C;rw[m3 rfl,m3 M]at J;cases J;exact⟨h,E,rfl⟩
   .rw[m5 C]at J;exact⟨x,J,rfl⟩
  obtain⟨H,N,ex⟩:=W J;obtain⟨au,av,aw⟩:=W ag;exact P p q H au N av ah r (by rw[ex];exact aj) (by rw[aw];exact al)
def mV(f:cg)(j:Nat):List c0:=(((gg f).take j).filter gf).foldl (λl g=>jo g l) []
theorem E9{f:cg}{x:c0}(h:(gg f)[j]?=σ x):mV f (j+1)=if gf x then jo x (mV f j)else mV f j:=by
 unfold mV;rw[u9,h,j4,List.filter_append,List.foldl_append];cases V:gf x with
 |true=>rw[List.filter_cons_of_pos V];rfl
 |false=>rw[List.filter_cons_of_neg (by simp[V])];rfl
theorem QY(f:cg):mV f (gg f).length=gh f:=by unfold mV gh;rw[o9]
theorem Fa(g:c0):∀l,(jo g l).length=l.length+1
 |[]=>rfl
 |h::l=>by
  unfold jo;split
  .rw[W0,Fa g l,W0]
  .rfl
theorem QZ{f:cg}(e:j<=(gg f).length):(mV f j).length<=j:=by
 induction j with
 |zero=>simp[mV]
 |succ j a=>
  have:=a Ω;rw[E9 (v8 Ω)];split
  .rw[Fa];omega
  .omega
theorem Q0{g:Nat}{l:x4}{f:cg}{L:List fT}{Q:x4->x5->Prop}(aB:fC N f)(z:l2 w B g l f.d6 L)(aD:L.map dR=gg f)(bM:∀out I go s,Ext w I->bn dW 3 bd I go out s->(∀h∈s,h∈L)->(∀h∈s,gk I f.d6 h)->s.map dR=gh f->(∀r,hx out r->w.heap.size<=r)->Q out I):
  ad x8 (X7 #[c6] al #[l]) w λbN=>
 cp (.slice ν 0 0) (Δ 0) w λout aE P bO=>
  ad x8 (aS .lss al sp sp aE bN) P λbP=>
  Split bP (cG (α:=x4->x5->Prop) (λ(bQ:x4)(R:x5)=>
   ad x8 (aS .add al sp s2 aE (Δ 1)) R λbS=>
   bO bQ bS R) λa7=>
  ad x8 (n9 c6 l aE) P λbU=>
  ad x8 (u5 bd bU) P λbV=>
  aL x8 (Instr.alloc bd s2 (.tuple #[])) P λak a8=>
  aL x8 (o7 bd ak bV) a8 λ(_:Unit)M=>
  ad x8 (u6 bd ak 2) M λbX=>
  ad x8 (u5 aA bX) M λbc=>
  ad x8 (X7 #[aA] al #[bc]) M λbY=>
  cp (.bool sp) (Δ 0) M λbe aF A bZ=>
   ad x8 (aS .lss al sp sp aF bY) A λb0=>
   Split b0 (cG (α:=x4->x5->Prop) (λ(b2:x4)(Y:x5)=>
    ad x8 (aS .add al sp s2 aF (Δ 1)) Y λb5=>
    bZ b2 b5 Y) λbf=>
   ad x8 (n9 aA bc aF) A λb6=>
   ad x8 (u5 ay b6) A λb7=>
   Split be (bf (.bool s2) A)
    (ad x8 (aS .gtr ay sp s2 b7 (Δ 0)) A λb8=>
   bf b8 A))
    (ad x8 (Op.unary .not be) A λb9=>
  Split b9 (a7 out A)
   (b3 (Δ 0) A λi am ca=>
   cG (α:=x4->x5->Prop) (λ(cb:x4)(S:x5)=>
    Split cb (ad x8 (aS .add al sp s2 i (Δ 1)) S λce=>
   ca ce S)
     (et S λO=>
  ad x8 (u5 bd ak) O λcf=>
  ad x8 (V5 c6 out (σ i) ν ν) O λbg=>
  aL x8 (Y3 c6 1 #[(0,cf)]) O λch Z=>
   (Ext O Z\/cc x8 (V5 c6 out (σ i) ν ν) bg Z/\True)/\
  aL x8 (c9 #[c6,c6] c6 #[ch,bg]) Z λci bh=>
   aL x8 (Y3 c6 0 #[]) bh λcj an=>
  ad x8 (V5 c6 out ν (σ i) ν) an λcl=>
  aL x8 (c9 #[c6,c6] c6 #[cj,cl]) an λcm bi=>
  aL x8 (c9 #[c6,c6] c6 #[cm,ci]) bi λcn bj=>
  a7 cn bj)) λbk=>
   et am λE=>
   ad x8 (X7 #[c6] al #[out]) E λcq=>
   ad x8 (aS .lss al sp sp i cq) E λcr=>
   Split cr (ad x8 (n9 c6 out i) E λcu=>
   ad x8 (u5 bd cu) E λcw=>
   ad x8 (u5 bd ak) E λcz=>
   aq x8 Bf [cw,cz] E λcA bl=>
    bk cA bl)
    (bk (.bool sp) E))))
   (Q out P):=by
 have cB:L.length=(gg f).length:=by rw[<-aD,r9]
 have dg:L.length<=256:=by have:=(mM aB).2.2;have:=aB.mG;omega
 have bm:=(mM aB).1;rw[eF c6.u z.1];refine cp.range L.length (λj out U=>∃go s,Ext w U/\bn dW 3 bd U go out s/\(∀h∈s,h∈L)/\s.map dR=mV f j/\∀r,hx out r->w.heap.size<=r) z.1.le
  ⟨0,[],Ext.refl _,bn.nil _ _ _ _ _,λh ax=>(by cases ax),rfl,λr z=>(gC z).elim⟩ ?_ ?_
 rotate_left
 .rintro out U cC ⟨go,s,bo,ab,H,ac,aG⟩;rw[aW,ao];refine⟨λh=>Ω,λ_=>bM _ _ go s bo ab H (λh ax=>((z.W bo).2.1 h (H h ax)).1) ?_ aG⟩;rw[ac,cB,QY]
 rintro j out P cC bq ⟨go,s,ap,ab,H,ac,aG⟩ cD;obtain⟨h,ax⟩:=aJ (l:=L) bq;have hm:(gg f)[j]?=σ (dR h):=by rw[<-aD,u4,ax];rfl
 have cE:=bm _ (x7 hm);have dh:s.length<=256:=by
  have:=QZ (f:=f) (j:=j) Ω;rw[<-ac,r9]at this;omega
 have af:=z.W ap;obtain⟨aH,_⟩:=af.2.1 h (x7 ax);obtain⟨_,_,di,cF⟩:=id aH;refine bK Ω ?_;refine a6 (λaI R=>∃aK ag,Ext w R/\bn dW 3 bd R aK aI ag/\(∀h∈ag,h∈L)/\ag.map dR=mV f (j+1)/\∀r,hx aI r->w.heap.size<=r) ?_ ?_
 .rintro aI R ⟨aK,ag,h1,cH,cI,cJ,cK⟩;rw[aT];exact cD _ _ ⟨aK,ag,h1,cH,cI,cJ,cK⟩
 intro az ai;rw[ct rfl c6.u bd.i af.1 bq,bI bd.p bd.i rfl (af.1.range ax)];refine bF bd.i λbr a8 dj cL cM=>?_;refine cd (vs:=dW h) bd.i rfl rfl aH.one cM λM cN dk bs=>?_;have bt:=cL.put cN Ω;have aM:=cF.W bt;rw[aP bd.p 2 bs rfl,ba aA.u aM.ls];refine cp.range h.cs.length (λq sv A=>Ext M A/\sv= .bool ((h.cs.take q).any λc=>decide (0<c))) aM.ls.le ⟨Ext.refl _,rfl⟩ ?_ ?_
 .rintro q _ A cO cP ⟨W,rfl⟩ cQ;obtain⟨c,bu⟩:=aJ (l:=h.cs) cP;have e:(h.cs.take (q+1)).any (λc=>decide (0<c))=((h.cs.take q).any (λc=>decide (0<c))||decide (0<c)):=by
   rw[u9,bu,j4,List.any_append];simp
  refine bK Ω ?_;refine a6 (λsv Y=>Ext M Y/\sv= .bool ((h.cs.take (q+1)).any λc=>decide (0<c))) ?_ ?_
  .rintro _ Y ⟨cR,rfl⟩;rw[aT];exact cQ _ _ ⟨cR,rfl⟩
  intro az ai;rw[bp aA.u ay.i Ψ (aM.W W).ls bu,b4];refine⟨λcS=>ai _ _ ⟨W,by rw[e,cS];rfl⟩,λah=>?_⟩;rw[bW];exact ai _ _ ⟨W,by rw[e,ah];rfl⟩
 rintro _ A cO ⟨W,rfl⟩;have bw:=bs.W W;have K:=bt.F W;rw[o9];refine ck Ω ?_;rw[bR,b4];have au:=E9 hm;have cT:(h.cs.any λc=>decide (0<c))=gf (dR h):=rfl;rw[cT];refine⟨λaN=>?_,λV=>?_⟩
 .have aN:gf (dR h)=sp:=by simpa using aN
  rw[aN]at au;exact ai _ _ ⟨go,s,ap.F K,ab.W K,H,by rw[ac,au];rfl,aG⟩
 have V:gf (dR h)=s2:=by simpa using V
 rw[V,m3 rfl]at au;refine⟨λaO am=>∃i:Nat,aO=Δ (i:Int)/\i<=s.length/\Ext A am/\∀p<i,∀x,s[p]?=σ x->dq x.sc<dq h.sc,λaO _=>s.length-(b1 aO).toNat,⟨0,rfl,W3 _,Ext.refl _,λp ae=>Ω⟩,?_⟩;rintro _ am ⟨i,rfl,hi,cU,aQ⟩;refine a6 (λaX S=>Ext A S/\((aX= .bool s2/\i<s.length/\∀x,s[i]?=σ x->dq x.sc<dq h.sc)\/(aX= .bool sp/\∀x,s[i]?=σ x->¬dq x.sc<dq h.sc))) ?_ ?_
 rotate_left
 .intro dl aR;intro E cV _ _;have X:=cU.F cV;have aU:=ab.W (K.F X);rw[eF c6.u aU,aW,ao];refine⟨λaQ=>?_,λdm=>aR _ _ ⟨X,.inr ⟨rfl,λx J=>m6 (x6.1 J).1 Ω⟩⟩⟩;obtain⟨x,J⟩:=aJ (l:=s) (i:=i) Ω;have bx:=H x (x7 J);have cW:=(bm (dR x) (by rw[<-aD];exact l9.2 ⟨x,bx,rfl⟩)).scope;have bz:=af.W (K.F X);rw[ct rfl c6.u bd.i aU Ω,bI bd.p bd.i rfl (aU.range J),bI bd.p bd.i rfl (show E.rangeAt br 0 (dW h)from(bw.W X).range)];refine(QU (bz.2.1 x bx).1 (bz.2.1 h (x7 ax)).1 cW cE.scope).Y ?_;rintro _ bl _ ⟨rfl,bA⟩;by_cases aC:dq x.sc<dq h.sc
  .rw[ms aC];exact aR _ _ ⟨X.F bA,.inl ⟨rfl,Ω,λy C=>by rw[J]at C;cases C;exact aC⟩⟩
  .rw[rc aC];exact aR _ _ ⟨X.F bA,.inr ⟨rfl,λy C=>by rw[J]at C;cases C;exact aC⟩⟩
 rintro _ S ⟨bB,⟨rfl,dn,cX⟩|⟨rfl,cY⟩⟩
 .rw[bT,aT,lm Ω Ω];refine⟨⟨i+1,rfl,Ω,bB,λp ae x J=>?_⟩,by simp only[b1];omega⟩;by_cases cZ:p=i
  .subst cZ;exact cX x J
  .exact aQ p Ω x J
 .rw[bb];intro O c0 _ _;have aj:=bB.F c0;have av:=ab.W (K.F aj);have c1:=af.W (K.F aj);have aV:∀x∈s,∀u∈dW x,u.oneCell'=s2:=λx J=>(c1.2.1 x (H x J)).1.one;have c2:∀u∈dW h,u.oneCell'=s2:=aH.one;rw[bI bd.p bd.i rfl (show O.rangeAt br 0 (dW h)from(bw.W aj).range)];refine E6 c6.u bd.i av (pn i _ rfl) k4 hi (o6 _) λdp bC=>?_;refine jr c6.u bd.i Ω rfl rfl λdr ds Z dt aY bD=>?_;refine⟨.inl aY,?_⟩;have c3:(s.drop i).take (s.length-i)=s.drop i:=j5 (by rw[List.length_drop];omega);rw[c3]at bC;refine yB c6.u bd.i rfl bD (bC Z (av.W aY)) (λ_ _=>rfl) (λa G=>aV a (List.mem_of_mem_drop G)) Θ Θ λdu dv bh aZ dw c4=>?_;have bE:=aY.then c4 λr z he=>by have:=(bD.lc he).1;omega
  refine QW (f:=dW) (k:=3) c6.u bd.i λdx dy an dz a1 aw=>?_;have a2:=bE.F a1;refine E6 c6.u bd.i (av.W a2) ke (po i _ rfl) (W3 _) hi λdA bG=>?_;rw[List.drop_zero,Nat.sub_zero]at bG;refine yB c6.u bd.i rfl aw (bG an (av.W a2)) (λ_ _=>rfl) (λa G=>aV a (List.mem_of_mem_take G)) Θ Θ λc5 dC bi c7 c8 bH=>?_;have dD:=bE.size;have dE:=a1.size;have da:=(aZ.W a1).aa bH λr z V=>by have:=(aZ.lc z).1;have:=(aZ.lc z).2;have:=(aw.lc V).1;omega
  refine yB c6.u bd.i rfl c7 da.sl (λ_ _=>rfl) (λa G=>?_) Θ Θ λdF db bj dc dd de=>?_
  .rcases j9.1 G with G|G
   .rw[Y4.1 G];exact c2
   .exact aV a (List.mem_of_mem_drop G)
  have bJ:=a2.then bH λr z he=>by have:=(aw.lc he).1;omega
  have bL:∀r,hx c5 r->O.heap.size<=r:=λr z=>(c8 r z).elim (λh=>by have:=(aw.lc h).1;omega) λh=>Ω
  have df:=bJ.then de λr z he=>by have:=bL r he;omega
  have dG:=(ap.F (K.F aj)).size;have dH:=bJ.size;refine ai _ _ ⟨db,_,(ap.F (K.F aj)).F df,dc,λx J=>?_,?_,λr z=>(dd r z).elim (λh=>by have:=bL r h;omega) λh=>Ω⟩
  .rcases j9.1 J with J|J
   .exact H x (List.mem_of_mem_take (by simpa using J))
   .rcases j9.1 J with J|J
    .rw[Y4.1 J];exact x7 ax
    .exact H x (List.mem_of_mem_drop J)
  .rw[au,<-ac,E8 (λp ae x J=>?_) (by simpa using hi) (λx J=>?_)]
   .simp
   .rw[u4]at J;cases C:s[p]? with
    |none=>rw[C]at J;cases J
    |some y=>rw[C]at J;cases J;exact aQ p ae y C
   .rw[u4]at J;cases C:s[i]? with
    |none=>rw[C]at J;cases J
    |some y=>rw[C]at J;cases J;exact cY y C
def Q1(w:x5)(f:cg)(v:x4)(I:x5):Prop:=Ext w I/\∃go a,bn dW 3 bd I go v a/\(∀h∈a,gk I f.d6 h/\∀r,q5 h r->w.heap.size<=r)/\a.map dR=gh f/\∀r,hx v r->w.heap.size<=r
def mW(k:Int)(sc cs:Λ)(h:c0):c0:=if h.1=sc then(h.1,eP k h.2 cs)else h
theorem Q2{bE:Nat}{f:cg}(cE:pT w bE f)(Q:fC N f):aq x8 Ju [Γ bE] w (Q1 w f):=by
 have hk:=Q.k;obtain⟨hv,gz,au,gr,aX,bG,cF⟩:=id cE;obtain⟨X,aY,cG,cH⟩:=id cF;refine aE func134 ?_;rw[aO eu.p 3 aX rfl,eF dK.u aY];refine cp.range X.length (λi l U=>∃g L,Ext w U/\l2 U w.heap.size g l f.d6 L/\L.map dR=e7 f i) aY.le
  ⟨0,[],Ext.refl _,⟨bn.nil _ _ _ _ _,λh ax=>(by cases ax),λi j x y J=>(by simp at J),λr A=>(gC A).elim⟩,rfl⟩ ?_ ?_
 rotate_left
 .rintro l U cI ⟨g,L,R,A,S⟩;rw[<-cG,En]at S;rw[aW,ao];refine⟨λh=>Ω,λ_=>Q0 Q A S λout I go cJ J a1 cK W cL cM=>?_⟩;have cN:=R.size;exact⟨R.F J,go,cJ,a1,λh ax=>⟨W h ax,(A.2.1 h (cK h ax)).2⟩,cL,λr A=>by have:=cM r A;omega⟩
 rintro i l U cI hi ⟨g,L,R,A,S⟩ cO;obtain⟨a2,bJ⟩:=aJ (l:=X) hi;obtain⟨x,a7⟩:=aJ (l:=f.ho) (i:=i) Ω;have a8:=x7 a7;have bb:=cH i a2 x bJ a7;have bL:=qW Q a8;obtain⟨cP,dz,dA⟩:=Em Q i;have bM:L.length=(e7 f i).length:=by rw[<-S,r9]
 have dC:=Q.mG;have bN:=aY.W R;refine bK Ω ?_;refine a6 (λl' ab=>∃g L,Ext w ab/\l2 ab w.heap.size g l' f.d6 L/\L.map dR=e7 f (i+1)) ?_ ?_
 .rintro l' ab bc;rw[aT];exact cO _ _ bc
 intro az bO;rw[ct rfl dK.u bj.i bN hi,bI bj.p bj.i rfl (bN.range bJ)];refine bF bj.i λav dD dE cQ cR=>?_;refine cd (vs:=fS a2) bj.i rfl rfl bb.one cR λdF cS dG cT=>?_;have bP:=cQ.put cS Ω;have dH:=bP.size;refine a6 (λbi aw=>∃E c,bi=Γ E/\Ext U aw/\ak aw E bd (dW c)/\c.sc=bH x.scope/\c.cs=(jP f.d6 f.k x).2/\gk aw f.d6 c/\U.heap.size<=E/\∀r,q5 c r->U.heap.size<=r) ?_ ?_
 rotate_left
 .intro dI bQ;intro cU bS _ _;have aB:=bP.F bS;have aC:=R.F aB;have cV:=cT.W bS;have bT:=aX.W aC;have dJ:=aB.size;rw[bI bj.p bj.i rfl (show cU.rangeAt av 0 (fS a2)from cV.range),aO eu.p 2 bT rfl,aO eu.p 1 bT rfl];refine⟨?_,?_⟩
  .refine (E4 (bb.W aC) Q a8 (bG.W aC)).Y ?_;rintro _ dL _ ⟨be,c,rfl,h1,bf,W,M⟩;refine bF bd.i λE dM bU bh aD=>?_;refine⟨.inl (be.F bh),?_⟩;refine cd (vs:=dW c) bd.i rfl rfl W.one aD λdN bV dO cW=>?_;have dP:=be.size;refine bQ _ _ ⟨E,c,rfl,(aB.F be).F (bh.then bV λr A he=>by have he:r=E:=he;omega),cW,h1,bf,?_,Ω,λr A=>by have:=M r A;omega⟩;exact oH (W.W bh) bV λr A=>.inl ⟨_,_,by have A:r=E:=A;subst A;exact aD,Φ,Φ⟩
  .refine bF bd.i λE dQ bU aG aD=>?_;refine⟨.inl aG,?_⟩;have bW:=aC.F aG;refine(E4 (bb.W bW) Q a8 (bG.W bW)).Y ?_;rintro _ dS _ ⟨bX,c,rfl,h1,bf,W,M⟩;have bY:=aD.W bX;have dT:=aG.size;refine cd (vs:=dW c) bd.i rfl rfl W.one bY λdU bZ dV cX=>?_;refine bQ _ _ ⟨E,c,rfl,aB.F ((aG.F bX).then bZ λr A he=>by have he:r=E:=he;omega),cX,h1,bf,?_,Ω,λr A=>by have:=M r A;omega⟩;exact oH W bZ λr A=>.inl ⟨_,_,by have A:r=E:=A;subst A;exact bY,Φ,Φ⟩
 rintro _ aw ⟨E,c,rfl,bk,cY,ai,aH,cZ,bU,M⟩;have b0:=A.W bk;have c0:∀h∈L,∀r,lc h.bg r->r<U.heap.size:=λh ax r c1=>by
  obtain⟨⟨_,_,c2,b1⟩,_⟩:=A.2.1 h ax;have:=ca b1 c1;omega
 have c3:∀{j:Nat},decide (c.sc∈(L.take j).map (·.sc))=decide (bH x.scope∈((e7 f i).take j).map (·.1)):=λ{j}=>by
  rw[ai,<-S,<-List.map_take,T6];rfl
 have cN:=R.size;rw[eF c6.u b0.1];refine cp.range L.length (λj au O=>∃C,au= .bool (decide (c.sc∈(L.take j).map (·.sc)))/\Ext w O/\U.heap.size<=O.heap.size/\l2 O w.heap.size g l f.d6 C/\C.map dR=((e7 f i).map (mW f.k c.sc c.cs)).take j++(e7 f i).drop j/\ak O E bd (dW c)/\gk O f.d6 c/\∀h∈C,∀r,lc h.bg r->r<U.heap.size) A.1.le
  ⟨L,Ξ,R.F bk,bk.size,b0,by simpa using S,cY,cZ,c0⟩ ?_ ?_
 .rintro j _ O c4 b2 ⟨C,rfl,aj,c5,aI,K,bl,bm,Y⟩ c7;have c8:C.length=L.length:=by
   have:=congrArg List.length K;simp only[r9,j6,Z3,List.length_drop]at this;omega
  obtain⟨h,ax⟩:=aJ (l:=C) (i:=j) Ω;have aK:(e7 f i)[j]?=σ (dR h):=by
   have b5:(C.map dR)[j]?=σ (dR h):=by rw[u4,ax];rfl
   rw[K,E7 (by rw[r9];omega)]at b5;exact b5
  have aL:((e7 f i).map (mW f.k c.sc c.cs))[j]?=σ (mW f.k c.sc c.cs (dR h)):=by rw[u4,aK];rfl
  have c9:∃y,L[j]?=σ y/\y.sc=h.sc:=by
   refine⟨_,v8 b2,?_⟩;rw[<-S,u4,v8 b2]at aK;exact congrArg Prod.fst (Z5 aK)
  obtain⟨y,H,da⟩:=c9;have bo:(c.sc∈(L.take (j+1)).map (·.sc))↔c.sc∈(L.take j).map (·.sc)\/h.sc=c.sc:=by
   rw[u9,H,j4,Z0,j9,List.map_singleton,Y4,da];exact or_congr Iff.rfl ⟨λe=>e.symm,λe=>e.symm⟩
  have b7:=cP _ (x7 aK);refine bK Ω ?_;refine a6 (λau P=>∃C,au= .bool (decide (c.sc∈(L.take (j+1)).map (·.sc)))/\Ext w P/\U.heap.size<=P.heap.size/\l2 P w.heap.size g l f.d6 C/\C.map dR=((e7 f i).map (mW f.k c.sc c.cs)).take (j+1)++(e7 f i).drop (j+1)/\ak P E bd (dW c)/\gk P f.d6 c/\∀h∈C,∀r,lc h.bg r->r<U.heap.size) ?_ ?_
  .rintro dX P bc;rw[aT];exact c7 _ _ bc
  intro dY b8;intro db am _ _;have aM:=aI.W am;have b9:=bl.W am;have cb:=bm.W am;obtain⟨dc,dZ⟩:=aM.2.1 h (x7 ax);obtain⟨⟨g1,h1⟩,_,c2,b1⟩:=id dc;obtain⟨⟨ea,dd⟩,_,eb,cc⟩:=id cb;rw[ct rfl c6.u bd.i aM.1 Ω,aZ bd.p rfl,aF Ψ (aM.1.range ax 0 _ rfl),aP bd.p 0 b9 rfl];refine(Ms h1.ls dd.ls).Y ?_;rintro _ ec _ ⟨rfl,ad⟩;have ce:=aM.W ad;have bq:=b9.W ad;have cf:=cb.W ad;have ch:=(aj.F am).F ad;have z9:=(am.F ad).size;rw[ao];refine⟨λbr=>?_,λci=>?_⟩
  rotate_left
  .refine b8 _ _ ⟨C,?_,ch,Ω,ce,?_,bq,cf,Y⟩
   .congr 1;exact decide_eq_decide.2 ⟨λh=>bo.2 (.inl h),λh=>(bo.1 h).resolve_right ci⟩
   .have e:mW f.k c.sc c.cs (dR h)=dR h:=m5 ci;rw[e]at aL;rw[<-yC Ω aL,<-K];symm;refine Y2 λp=>?_;rw[X6];by_cases ae:j=p
    .subst ae;rw[m3 rfl,m3 Θ,u4,ax];rfl
    .rw[m5 ae]
  have de:h.cs.length=c.cs.length:=by
   have df:h.cs.length=_:=b7.len;have dg:c.cs.length=(aV (b6 f.d6 (jP f.d6 f.k x).1)).toNat:=by rw[aH];exact bL.len
   rw[df,dg,show(dR h).1=h.sc from rfl,br,ai];rfl
  have ed:(eP f.k h.cs c.cs).length=h.cs.length:=by unfold eP;rw[List.length_zipWith];omega
  rw[aP bd.p 2 bq rfl,ba aA.u (cc.W ad).ls];refine b3.range c.cs.length (λs Z=>Ext w Z/\U.heap.size<=Z.heap.size/\l2 Z w.heap.size g l f.d6 (C.set j {h with cs:=(eP f.k h.cs c.cs).take s++h.cs.drop s})/\ak Z E bd (dW c)/\gk Z f.d6 c) cc.ls.le
   ⟨ch,Ω,?_,bq,cf⟩ ?_ ?_
  .have e:C.set j {h with cs:=(eP f.k h.cs c.cs).take 0++h.cs.drop 0}=C:=by
    refine Y2 λp=>?_;rw[X6];by_cases ae:j=p
    .subst ae;rw[m3 rfl,m3 Ω,ax];rfl
    .rw[m5 ae]
   rw[e];exact ce
  .rintro s Z dh V ⟨bs,cj,aN,bt,bu⟩ di;refine bK Ω ?_;intro ee an _ _;have af:=aN.W an;have cl:=bt.W an;have cm:=bu.W an;have cn:=bs.F an;have aQ:(C.set j {h with cs:=(eP f.k h.cs c.cs).take s++h.cs.drop s})[j]?=σ {h with cs:=(eP f.k h.cs c.cs).take s++h.cs.drop s}:=by
    rw[X6,m3 rfl,m3 Ω]
   have cq:j<(C.set j {h with cs:=(eP f.k h.cs c.cs).take s++h.cs.drop s}).length:=by rw[Y0];omega
   obtain⟨⟨_,_,dj,bw⟩,dk⟩:=af.2.1 _ (x7 aQ);obtain⟨_,_,eg,dl⟩:=id cm;obtain⟨a,bx⟩:=aJ (l:=h.cs) (i:=s) Ω;obtain⟨b,ap⟩:=aJ (l:=c.cs) V;have dm:s<({h with cs:=(eP f.k h.cs c.cs).take s++h.cs.drop s}:fT).cs.length:=by show s<((eP f.k h.cs c.cs).take s++h.cs.drop s).length;rw[j6,Z3,List.length_drop];omega
   have dn:((eP f.k h.cs c.cs).take s++h.cs.drop s)[s]?=σ a:=by rw[E7 Ω];exact bx
   have bz:(eP f.k h.cs c.cs)[s]?=σ (min (a+b) f.k):=by
    unfold eP;rw[List.getElem?_zipWith,bx,ap]
   have eh:=b7.iY a (x7 bx);have ei:=bL.iY b (by rw[<-aH];exact x7 ap);have dp:=aX.W cn;rw[ct rfl c6.u bd.i af.1 cq,aZ bd.p rfl,aF Ψ (af.1.range aQ 2 _ rfl),ct rfl c6.u bd.i af.1 cq,aZ bd.p rfl,aF Ψ (af.1.range aQ 2 _ rfl),bp aA.u ay.i Ψ bw.ls dn,aP bd.p 2 cl rfl,bp aA.u ay.i Ψ dl.ls ap,aO eu.p 1 dp rfl];refine(ox Ω Ω).Y ?_;rintro _ ej _ ⟨rfl,ag⟩;refine⟨.inl ag,?_⟩;have z12:=(an.F ag).size;refine QX (af.W ag) aQ dm λek aR cr bA=>?_;rw[aT];have dq:=cm.W ag;have cu:=cl.W ag;have em:=aR.size;refine di _ ⟨(cn.F ag).then aR λr A he=>by have:=dk r (.inl he);omega,Ω,?_,?_,?_⟩
   .rw[List.set_set]at bA;have e:=yC (B:=h.cs) (s:=s) Ω bz;simp only[e]at bA;exact bA
   .exact cu.aa aR λV=>by
     obtain⟨en,dr⟩:=cr _ V;exact m6 (fE cu dr) Φ
   .refine oH dq aR λr A=>.inr (.inr ⟨cr r A,λds=>?_⟩);have:=M r (.inl ds);have:=Y h (x7 ax) r A;omega
  .rintro Z dh ⟨bs,cj,aN,bt,bu⟩;refine ck Ω ?_;have e:(eP f.k h.cs c.cs).take c.cs.length++h.cs.drop c.cs.length=eP f.k h.cs c.cs:=by
    rw[<-de,List.drop_length,T5,j5 Ω]
   simp only[e]at aN;refine b8 _ _ ⟨_,?_,bs,cj,aN,?_,bt,bu,λz G r A=>?_⟩
   .congr 1;symm;exact ms (bo.2 (.inr br))
   .have dt:mW f.k c.sc c.cs (dR h)=dR {h with cs:=eP f.k h.cs c.cs}:=m3 br;rw[dt]at aL;rw[U2,K,yC Ω aL]
   .rcases U5 G with G|rfl
    .exact Y z G r A
    .exact Y h (x7 ax) r A
 rintro _ O c4 ⟨C,rfl,aj,c5,aI,K,bl,bm,Y⟩;refine ck Ω ?_;rw[c3,bM,o9,bR,b4];have cw:=yh a7;have bz:((e7 f i).map (mW f.k c.sc c.cs)).take L.length++(e7 f i).drop L.length=(e7 f i).map (mW f.k c.sc c.cs):=by
  rw[bM,List.drop_length,T5,j5 (by rw[r9];exact o6 _)]
 rw[bz]at K;have c8:C.length=L.length:=by
  have:=congrArg List.length K;rw[r9,r9]at this;omega
 refine⟨λaS=>?_,λah=>?_⟩
 .have aS:bH x.scope∉(e7 f i).map (·.1):=by simpa using aS
  have du:(e7 f i).map (mW f.k c.sc c.cs)=e7 f i:=by
   refine(List.map_congr_left λz G=>?_).F (List.map_id _);exact m5 λhe=>aS (l9.2 ⟨z,G,by rw[he,ai]⟩)
  rw[du]at K;rw[bI bd.p bd.i rfl (show O.rangeAt E 0 (dW c)from bl.range)];refine jr c6.u bd.i Ω rfl rfl λeo dj P ep aU bw=>?_;have ac:=aI.W aU;have cz:=bm.W aU;refine jT c6.u bd.i rfl ac.1 (by simpa using bw.sl) cz.one Ω Ω λer dv db a1 dw bB=>?_;have cA:∀r,hx l r->∃e c,ak P r e c/\e≠al/\e≠ay:=λr A=>by
   obtain⟨rfl,c,ap⟩:=ef ac.1 A;exact⟨_,c,ap,Φ,Φ⟩
  have es:=aU.size;have et:=aj.size;refine bO _ _ ⟨dv,C++[c],(aj.F aU).then bB λr A he=>by have:=ac.2.2.2 r he;omega,⟨a1,λz G=>?_,λp q y z H G dx r bC bD=>?_,λr A=>(dw r A).elim (ac.2.2.2 r) λh=>Ω⟩,?_⟩
  .rcases j9.1 G with G|G
   .exact⟨oH (ac.2.1 z G).1 bB λr A=>.inl (cA r A),(ac.2.1 z G).2⟩
   .rw[Y4.1 G];exact⟨oH cz bB λr A=>.inl (cA r A),λr A=>by have:=M r A;omega⟩
  .have cB:∀{p:Nat}{y:fT},(C++[c])[p]?=σ y->C[p]?=σ y\/(p=C.length/\y=c):=λ{p y}H=>by
    rw[List.getElem?_append]at H;split at H
    .exact .inl H
    .by_cases dy:p-C.length=0
     .rw[dy]at H;cases H;exact .inr ⟨Ω,rfl⟩
     .rw[W7 Θ]at H;cases H
   rcases cB H with cC|⟨ev,rfl⟩<;>rcases cB G with cD|⟨eq,rfl⟩
   .exact ac.2.2.1 p q y z cC cD dx r bC bD
   .have:=Y y (x7 cC) r bC;have:=M r (.inl bD);omega
   .have:=Y z (x7 cD) r bD;have:=M r (.inl bC);omega
   .omega
  .rw[Z0,K,cw,El λz G he=>aS (l9.2 ⟨z,G,he⟩)];show _++[(c.sc,c.cs)]=_;rw[ai,aH];rfl
 .have ah:bH x.scope∈(e7 f i).map (·.1):=by simpa using ah
  refine bO _ _ ⟨g,C,aj,aI,?_⟩;rw[K,cw];unfold jQ;rw[m3 (show(jP f.d6 f.k x).1∈_ from ah)];refine List.map_congr_left λz _=>?_;unfold mW;rw[ai,aH];rfl
def yD(w:x5)(B:Nat)(v:x4)(n:aI):Prop:=∃hv gz a f a7 e gr L,v= .agg #[Δ n.k,hv,Δ n.zero,a,e]/\aH .i64 al w gz hv n.d6/\i7 w f a a7/\a7.map (·.l)=n.unary/\bn dW 3 bd w gr e L/\(∀h∈L,gk w n.d6 h)/\L.map dR=n.ho/\(∀r,lc hv r->B<=r)/\∀h∈L,∀r,q5 h r->B<=r
def z9:List x4:=[Δ 0,.slice ν 0 0,Δ 0,.slice ν 0 0,.slice ν 0 0]
def oI(w:x5)(C gt gs go:Nat)(hv bg:x4)(f:cg)(a:List fT)(I:x5):Prop:=Ext w I/\C<=I.heap.size/\ak I gt ea z9/\aH .i64 al I gs hv f.d6/\bn dW 3 bd I go bg a/\(∀r,hx bg r->r<C)/\∀h∈a,gk I f.d6 h
theorem oI.W{ab:x5}{C gt gs go:Nat}{bg:x4}{f:cg}{a:List fT}(h:oI w C gt gs go hv bg f a I)(J:Ext I ab):oI w C gt gs go hv bg f a ab:=by
 obtain⟨h1,z,e,j,q,r,s⟩:=h;have:=J.size;exact⟨h1.F J,Ω,e.W J,j.W J,q.W J,r,λx y=>(s x y).W J⟩
def Q3(w I:x5)(C gt:Nat)(r:Nat):Prop:=w.heap.size<=r/\r≠gt/\((∃c,ak I r ea c)\/(∃c,ak I r aA c)\/((∃c,ak I r bd c)/\C<=r))
theorem oI.aa{ab:x5}{C gt gs go:Nat}{bg:x4}{f:cg}{z:List fT}(h:oI w C gt gs go hv bg f z I)(q:ai S I ab)(s:∀r,S r->Q3 w I C gt r):oI w C gt gs go hv bg f z ab:=by
 obtain⟨h1,K,F,A,y,B,G⟩:=h;have:=q.size;have E:∀r,S r->∃e c,ak I r e c/\e≠al/\e≠ay:=λr j=>by
  obtain⟨_,_,⟨c,a⟩|⟨c,a⟩|⟨⟨c,a⟩,_⟩⟩:=s r j
  .exact⟨_,c,a,Φ,Φ⟩
  .exact⟨_,c,a,Φ,Φ⟩
  .exact⟨_,c,a,Φ,Φ⟩
 refine⟨h1.then q λr j V=>by have:=(s r V).1;omega,Ω,F.aa q λV=>(s _ V).2.1 rfl,bE A q λr j V=>?_,y.aa q λr j V=>?_,B,λx J=>oH (G x J) q λr j=>.inl (E r j)⟩
 .obtain⟨e,c,a,H,_⟩:=E r V;exact cC A a (λhe=>H he.symm) j rfl
 .obtain⟨_,_,⟨c,a⟩|⟨c,a⟩|⟨_,L⟩⟩:=s r V
  .exact cO y a Φ j
  .exact cO y a Φ j
  .have:=B r j;omega
def Fb(w:x5)(C f:Nat)(hv:x4)(k:Int)(n:aI)(j:List fT)(I:x5):Prop:=∃a q a7 e gr L,ak I f ea [Δ k,hv,Δ n.zero,a,e]/\i7 I q a a7/\a7.map (·.l)=n.unary/\(∀r,hx a r->w.heap.size<=r)/\bn dW 3 bd I gr e L/\(∀h∈L,h∈j)/\L.map dR=n.ho/\∀r,hx e r->C<=r
theorem Fc{bT:Nat}{f:cg}(bU:pT w bT f)(Q:fC N f):aq x8 IM [Γ bT] w λv I=>Ext w I/\yD I w.heap.size v (cA f):=by
 have hk:=Q.k;have dx:=Q.d6.2.1;obtain⟨dy,dz,dA,dC,bV,bW,dD⟩:=id bU;refine aE func63 ?_;refine bF ea.i λgt U dE aR aS=>?_;have aS:=aS;rw[aO eu.p 1 (bV.W aR) rfl,dn (cs:=#[Δ f.k,.slice ν 0 0,Δ 0,.slice ν 0 0,.slice ν 0 0]) Ψ];refine bF ea.i λA ab dF bX cL=>?_;refine cd (vs:=[Δ f.k,.slice ν 0 0,Δ 0,.slice ν 0 0,.slice ν 0 0]) ea.i rfl rfl (by intro u hu;simp at hu;rcases hu with rfl|rfl|rfl|rfl<;>rfl) cL λdG bY dH cM=>?_;have bt:=(aR.F bX).then bY λr q he=>by have he:r=A:=he;have:=aR.size;omega
 have dI:=aS.lt;have E:A≠gt:=Ω
 have cN:=(aS.W bX).aa bY λhe=>by have he:=he;omega
 rw[aO eu.p 2 (bV.W bt) rfl,ba aA.u (bW.W bt).ls];have dJ:=aR.size;refine b3.range f.d6.length (λi W=>Ext w W/\ak W gt ea z9/\∃hv gs B H a7,ak W A ea [Δ f.k,hv,Δ 0,B,.slice ν 0 0]/\aH .i64 al W gs hv (f.d6.take i)/\(∀r,lc hv r->w.heap.size<=r)/\i7 W H B a7/\a7.map (·.l)=(f.d6.take i).map (λz=>o5 z.toNat 0)/\∀r,hx B r->w.heap.size<=r) Ω
  ⟨bt,cN,_,0,_,0,[],cM,aH.nil _ _ _ _,(λr q=>by obtain⟨a,n,c,cP,dK⟩:=q;cases cP),⟨bn.nil _ _ _ _ _,λx J=>(by cases J)⟩,rfl,λr q=>(gC q).elim⟩ ?_ ?_
 .rintro i W cQ hi ⟨X,bu,hv,gs,B,H,a7,aC,aU,aW,bw,aD,aX⟩ cR;obtain⟨z,C⟩:=aJ (l:=f.d6) hi;have dL:=Q.d6.2.2 z (x7 C);have dM:a7.length=i:=by have:=congrArg List.length aD;simp only[r9,Z3]at this;omega
  refine bK Ω ?_;rw[bp aA.u ay.i Ψ (bW.W X).ls C,aP ea.p 1 aC rfl];refine e3 au.u al.i rfl λa5 dN bZ dO ag cS=>?_;have aG:=aU.W ag;refine jt au.u al.i rfl aG cS.ls Θ Θ λb0 b1 dP aY cT b2=>?_;have bx:=aC.W ag;have b4:=bu.W ag;have b5:=bx.aa b2 λhe=>cC aG bx Φ he rfl;rw[aZ ea.p rfl];refine bs (g:=A) (o:=1) au.i aY.ls.cells.1 aY.ls.cells.2 b5 Ξ λb9 cb dQ a1=>?_;have a1:=a1;have bz:ai (λr=>lc hv r\/r=A) bZ b9:=(b2.Y λr _ h=>.inl h).F (cb.Y λr _ h=>.inr h);have cU:aH .i64 al b9 b1 b0 (f.d6.take (i+1)):=by
   rw[u9,C];exact bE aY cb λr q he=>by
    have he:r=A:=he;subst he;exact cC aY b5 Φ q rfl
  have ah:∀r,(lc hv r\/r=A)->∃e c,ak bZ r e c/\e≠ay/\e≠aA:=λr q=>by
   rcases q with q|rfl
   .obtain⟨rfl,_⟩:=ca aG q;obtain⟨_,⟨ac,_⟩|⟨cap,full,_,s,_⟩⟩:=aG
    .obtain⟨a,n,c,e,_⟩:=q;rw[ac]at e;cases e
    .exact⟨_,_,s,Φ,Φ⟩
   .exact⟨_,_,bx,Φ,Φ⟩
  have cV:=(bw.W ag).aa bz ah;have z4:=X.size;have z5:=ag.size;have cc:=(X.F ag).then bz λr q he=>by
   rcases he with he|he
   .have:=aW r he;omega
   .omega
  have cW:=b4.aa bz λV=>by
   rcases V with V|V
   .exact cC aG b4 Φ V rfl
   .omega
  intro dS ce _ _;have cX:=a1.W ce;rw[aP ea.p 3 cX rfl];obtain⟨a2,rfl⟩:∃n:Nat,z=n:=⟨z.toNat,Ω⟩;refine kD aA.u ay.i Ω Ω λcf dT dU bA cY=>?_;refine⟨.inl bA,?_⟩;have cZ:=aH.of (b7.full (n:=a2) cY Ξ (by simp[maxLen];omega));let a:mP:=⟨.slice (σ ⟨cf,0,ν⟩) a2 a2,o5 a2 0⟩;refine jr (f:=sD) (a:=a) c4.u aA.i Ω rfl rfl λdV dX bB dY bC c0=>?_;refine⟨.inl (bA.F bC),?_⟩;have aj:=(ce.F bA).F bC;have aI:=cV.W aj;refine jT (f:=sD) (a:=a) c4.u aA.i rfl aI.1 (by simpa using c0.sl) (λu hu=>by rw[Y4.1 (show u∈[a.v]from hu)];rfl) Ω Ω λbD bG dZ K bH ch=>?_;have am:∀{r:Nat},hx B r->∃c,ak bB r aA c:=λq=>by
   obtain⟨rfl,c,s⟩:=ef aI.1 q;exact⟨c,s⟩
  have bJ:=a1.W aj;have ci:=bJ.aa ch λhe=>cO aI.1 bJ Φ he;rw[aZ ea.p rfl];refine bs c4.i (eH K.sl).1 (eH K.sl).2 ci Ξ λc1 cj eb c2=>?_;rw[aT];have R:ai (λr=>hx B r\/r=A) bB c1:=(ch.Y λr _ h=>.inl h).F (cj.Y λr _ h=>.inr h);have bL:∀r,(hx B r\/r=A)->∃e c,ak bB r e c/\e≠ay/\e≠al:=λr q=>by
   rcases q with q|rfl
   .obtain⟨c,s⟩:=am q;exact⟨_,c,s,Φ,Φ⟩
   .exact⟨_,_,bJ,Φ,Φ⟩
  have cl:=cU.W aj;have ec:=cc.size;have ed:=aj.size;have cm:=cW.W aj;refine cR _ ⟨(cc.F aj).then R (λr q he=>?_),cm.aa R (λV=>?_),b0,b1,bD,bG,a7++[a],c2,bE cl R (λr q V=>?_),λr q=>?_,⟨K.aa cj λr q he=>?_,λy M=>?_⟩,?_,λr q=>?_⟩
  .rcases he with he|rfl
   .have:=aX r he;omega
   .omega
  .rcases V with V|V
   .exact cO aI.1 cm Φ V
   .omega
  .obtain⟨e,c,s,_,E⟩:=bL r V;exact cC cl s (λhe=>E he.symm) q rfl
  .rcases cT r q with h|h
   .exact aW r h
   .omega
  .have he:r=A:=he;subst he;exact cO K ci Φ q
  .rcases j9.1 M with M|M
   .exact aI.sE R (λr q=>by obtain⟨e,c,s,E,_⟩:=bL r q;exact⟨e,c,s,E⟩) y M
   .rw[Y4.1 M];have cn:=cZ.W bC;exact⟨cf,bE cn R λr q V=>by
     obtain⟨e,c,s,E,_⟩:=bL r V;exact cC cn s (λhe=>E he.symm) q rfl⟩
  .rw[Z0,aD,u9,C,j4,Z0];rfl
  .rcases bH r q with h|h
   .exact aX r h
   .omega
 rintro W cQ ⟨X,bu,hv,gs,B,H,a7,aC,aU,aW,bw,aD,aX⟩;refine ck Ω ?_;rw[o9]at aU aD;refine(Q2 (bU.W X) Q).Y ?_;rintro bg a6 _ ⟨an,go,O,K,cp,cq,ee⟩;have cr:O.length=(gh f).length:=by rw[<-cq,r9]
 have eg:O.length<=256:=by
  have h1:=(sr Q).2.length_eq;have a8:=(mM Q).2.2;have eh:=List.length_filter_le gf (gg f);have ej:=Q.mG;omega
 have z4:=X.size;have ek:=an.size;have em:=aC.lt;rw[eF c6.u K];refine b3.range O.length (λi ap=>oI w a6.heap.size gt gs go hv bg f O ap/\Fb w a6.heap.size A hv f.k (ei f i) O ap) K.le
  ⟨⟨X.F an,o6 _,bu.W an,aU.W an,K,λr q=>by have:=K.lc q;omega,λh ax=>(cp h ax).1⟩,B,H,a7,_,0,[],aC.W an,bw.W an,aD,aX,bn.nil _ _ _ _ _,λx J=>(by cases J),rfl,λr q=>(gC q).elim⟩ ?_ ?_
 rotate_left
 .rintro ap c3 ⟨av,B,H,a7,Y,gr,L,bb,bc,Z,aK,aL,aw,ad,aM⟩;obtain⟨c5,en,cu,bM,eo,ep,c7⟩:=id av;have be:=qZ f O.length;rw[cr,uX]at be;rw[cr,uX]at bb Z ad;refine ck Ω ?_;rw[bI ea.p ea.i rfl (show ap.rangeAt A 0 [Δ f.k,hv,Δ (cA f).zero,B,Y]from bb.range)];refine cd (vs:=[Δ f.k,hv,Δ (cA f).zero,B,Y]) ea.i rfl rfl (λu hu=>?_) cu λer aN es c8=>?_
  .simp at hu;rcases hu with rfl|rfl|rfl|rfl|rfl
   .rfl
   .exact bM.ls.cells.2
   .rfl
   .exact (eH bc.1.sl).2
   .exact (eH aL.sl).2
  rw[fA ea.p ea.i rfl c8.range];have ah:∀r,r=gt->∃e c,ak ap r e c/\e≠ay/\e≠aA/\e≠al/\e≠bd:=λr q=>by
   subst q;exact⟨_,_,cu,Φ,Φ,Φ,Φ⟩
  refine⟨c5.then aN λr q he=>by have he:r=gt:=he;omega,hv,gs,B,H,a7,Y,gr,L,?_,?_,bc.aa aN (λr q=>?_),Z,aL.aa aN (λr q V=>?_),λh ax=>?_,ad,aW,λh ax r q=>by have:=(cp h (aw h ax)).2 r q;omega⟩
  .rw[be.1]
  .rw[be.2.1];refine bE bM aN λr q V=>?_;obtain⟨e,c,s,_,_,E,_⟩:=ah r V;exact cC bM s (λhe=>E he.symm) q rfl
  .obtain⟨e,c,s,h1,a8,_⟩:=ah r q;exact⟨e,c,s,h1,a8⟩
  .obtain⟨e,c,s,_,_,_,E⟩:=ah r V;exact cO aL s (λhe=>E he.symm) q
  .rw[be.2.1];exact oH (c7 h (aw h ax)) aN λr q=>by
    obtain⟨e,c,s,h1,_,a8,_⟩:=ah r q;exact .inl ⟨e,c,s,a8,h1⟩
 rintro i ap c3 hi ⟨av,B,H,a7,Y,gr,L,bb,bc,Z,aK,aL,aw,ad,aM⟩ c9;obtain⟨y,M⟩:=aJ (l:=O) hi;have bf:=x7 M;have cw:(gh f)[i]?=σ (dR y):=by rw[<-cq,u4,M];rfl
 have bN:=uH Q _ (x7 cw);have bO:=yj cw;obtain⟨et,ev,ew,ey⟩:=qZ f i;refine bK Ω ?_;refine dd (λbP=>oI w a6.heap.size gt gs go hv bg f O bP/\Fb w a6.heap.size A hv f.k (ei f (i+1)) O bP) ?_ ?_
 .rintro bP h;rw[aT];exact c9 _ h
 intro az bQ;rw[ct rfl c6.u bd.i av.2.2.2.2.1 hi,bI bd.p bd.i rfl (av.2.2.2.2.1.range M)];refine bF bd.i λda ez eA db dc=>?_;refine cd (vs:=dW y) bd.i rfl rfl (av.2.2.2.2.2.2 y bf).one dc λde df eB bh=>?_;have bi:=db.put df Ω;have bj:=av.W bi;have ae:=bb.W bi;have bR:=bc.W bi;have bk:=aL.W bi;obtain⟨eC,eD,cz,eE,eI,eJ,cB⟩:=id bj;obtain⟨⟨eK,cD⟩,_,dg,cE⟩:=cB y bf;rw[aP bd.p 0 bh rfl,ba au.u cD.ls];have eL:a7.length=f.d6.length:=by have:=congrArg List.length Z;rw[r9]at this;omega
 have eM:L.length<=256:=by have:=congrArg List.length ad;rw[r9]at this;omega
 rw[bl,ao];refine⟨λeN=>?_,λeO=>?_⟩
 .
  have af:y.sc=[]:=b8 Ω;have G:ei f (i+1)={ei f i with zero:=y.cs.getD 0 0}:=by rw[bO];unfold km;simp only[dR,af]
  have eP:y.cs.length=1:=by have:=bN.len;simpa[dR,af,b6,aV]using this
  have dh:y.cs[0]?=σ (y.cs.getD 0 0):=by rw[r8,v8 Ω];rfl
  rw[aP bd.p 2 bh rfl,fz (y:=0) (i:=0) rfl aA.u ay.i Ψ cE.ls dh,aZ ea.p rfl];refine bs ay.i rfl rfl ae Ξ λdi P dj dk=>?_;refine bQ _ ⟨bj.aa P λr q=>?_,B,H,a7,Y,gr,L,?_,bR.aa P (λr q=>?_),by rw[G];exact Z,aK,bk.aa P (λr q V=>?_),aw,by rw[G];exact ad,aM⟩
  .have q:r=A:=q;subst q;exact⟨Ω,E,.inl ⟨_,ae⟩⟩
  .rw[G];exact dk
  .have q:r=A:=q;subst q;exact⟨_,_,ae,Φ,Φ⟩
  .have V:r=A:=V;subst V;exact cO bk ae Φ q
 rw[bl,ao];refine⟨λh1=>?_,λeQ=>?_⟩
 .
  obtain⟨v,af⟩:∃v,y.sc=[v]:=X9.1 Ω;have eR:=bN.scope.1 v (by show v∈y.sc;rw[af];exact .head _);have eS:=bN.d9 v (by show v∈y.sc;rw[af];exact .head _);have G:ei f (i+1)={ei f i with unary:=(ei f i).unary.set v.toNat y.cs}:=by rw[bO];unfold km;simp only[dR,af]
  intro dl S _ _;have bS:=ae.W S;have cF:=bh.W S;have aQ:=bR.W S;have dm:=bj.W S;have cG:=bk.W S;rw[aP ea.p 3 bS rfl,aP bd.p 0 cF rfl];refine om rfl au.u al.i (cD.ls.W S) (show y.sc[0]?=σ v by rw[af];rfl) λb o dp=>?_;rw[aF Ψ dp,aP bd.p 2 cF rfl];obtain⟨u,hu⟩:=aJ (l:=a7) (i:=v.toNat) Ω;rw[ct (i:=v.toNat) Ω c4.u aA.i aQ.1 Ω];let a:mP:=⟨y.bg,y.cs⟩;have bm:=cE.W S;refine lf (j:=0) (a:=u) (a':=a) aA.i bm.ls.cells.1 bm.ls.cells.2 aQ.1 hu rfl Ω λdi P dj dq=>?_;have am:∀{r:Nat},hx B r->∃c,ak dl r aA c:=λq=>by
   obtain⟨rfl,c,s⟩:=ef aQ.1 q;exact⟨c,s⟩
  refine bQ _ ⟨dm.aa P λr q=>?_,B,H,a7.set v.toNat a,Y,gr,L,?_,⟨dq,λz C=>?_⟩,?_,aK,cG.aa P (λr q V=>?_),aw,by rw[G];exact ad,aM⟩
  .obtain⟨c,s⟩:=am q;exact⟨aK r q,λhe=>(by subst he;exact m6 (fE s (cz.W S)) Φ),.inr (.inl ⟨c,s⟩)⟩
  .rw[G];exact bS.aa P λhe=>cO aQ.1 bS Φ he
  .rcases U5 C with C|rfl
   .exact aQ.sE P (λr q=>by obtain⟨c,s⟩:=am q;exact⟨_,c,s,Φ⟩) z C
   .exact⟨dg,bE bm P λr q V=>by
     obtain⟨c,s⟩:=am V;exact cC bm s Φ q rfl⟩
  .rw[G,U2,Z]
  .obtain⟨c,s⟩:=am V;exact cO cG s Φ q
 .
  have G:ei f (i+1)={ei f i with ho:=(ei f i).ho++[dR y]}:=by
   rw[bO];unfold km;have cH:2<=(dR y).1.length:=by show 2<=y.sc.length;omega
   generalize dR y=g at cH ⊢;obtain⟨sc,cs⟩:=g
   match sc,cH with
   |_::_::_,_=>rfl
  rw[aP ea.p 4 ae rfl,bI bd.p bd.i rfl (show de.rangeAt da 0 (dW y)from bh.range)];refine jr c6.u bd.i Ω rfl rfl λeU eV dr eW aB ds=>?_;have bo:=bk.W aB;have dt:=bR.W aB;have bq:=ae.W aB;have du:=bj.W aB;refine jT c6.u bd.i rfl bo (by simpa using ds.sl) (cB y bf).one Ω Ω λbD bG eX br bH cI=>?_;have cJ:=bq.aa cI λhe=>cO bo bq Φ he;rw[aZ ea.p rfl];refine bs c6.i (eH br.sl).1 (eH br.sl).2 cJ Ξ λdv cK eY dw=>?_;have R:ai (λr=>hx Y r\/r=A) dr dv:=(cI.Y λr _ h=>.inl h).F (cK.Y λr _ h=>.inr h);have eZ:=aB.size;refine bQ _ ⟨du.aa R λr q=>?_,B,H,a7,bD,bG,L++[y],?_,dt.aa R (λr q=>?_),by rw[G];exact Z,aK,br.aa cK (λr q V=>?_),λz C=>?_,?_,λr q=>?_⟩
  .rcases q with q|rfl
   .obtain⟨rfl,c,s⟩:=ef bo q;have:=aM _ q;refine⟨Ω,λhe=>?_,.inr (.inr ⟨⟨c,s⟩,this⟩)⟩;subst he;exact m6 (fE s (cz.W aB)) Φ
   .exact⟨Ω,E,.inl ⟨_,bq⟩⟩
  .rw[G];exact dw
  .rcases q with q|rfl
   .obtain⟨rfl,c,s⟩:=ef bo q;exact⟨_,c,s,Φ,Φ⟩
   .exact⟨_,_,bq,Φ,Φ⟩
  .have V:r=A:=V;subst V;exact cO br cJ Φ q
  .rcases j9.1 C with C|C
   .exact aw z C
   .rw[Y4.1 C];exact bf
  .rw[G,Z0,ad];rfl
  .rcases bH r q with h|h
   .exact aM r h
   .omega
def sM(w:x5)(S:Nat->Prop)(e:o4):Prop:=∀r,S r->∃c,ak w r e c
theorem yE{a:o4}{k:o8}{g:Nat}{v:x4}(h:aH k a w g v l)(f:ai S w I)(j:sM w S e)(q:a≠e):aH k a I g v l:=bE h f λr s V=>by
 obtain⟨c,x⟩:=j r V
 grind [cC]
theorem Fe{α:Type}{f:α->List x4}{k:Nat}{a:o4}{g:Nat}{v:x4}{L:List α}(h:bn f k a w g v L)(j:ai S w I)(q:sM w S e)(s:a≠e):bn f k a I g v L:=h.aa j λr x V=>by
 obtain⟨c,y⟩:=q r V
 grind [cO]
theorem yF{a:o4}{r:Nat}{c:List x4}(h:ak w r a c)(f:ai S w I)(j:sM w S e)(q:a≠e):ak I r a c:=h.aa f λV=>by
 obtain⟨c,s⟩:=j r V
 grind [fE]
theorem Ff{g:Nat}{c:List x4}(h:ak w g e c):sM w (λr=>r=g) e:=λr a=>by
 have a:r=g:=a;subst a;exact⟨c,h⟩
theorem Q4{k:o8}{g:Nat}{v:x4}(h:aH k e w g v l):sM w (λr=>lc v r) e:=λr f=>by
 have f:=f;obtain⟨rfl,_⟩:=ca h f;obtain⟨_,⟨ac,_⟩|⟨cap,full,_,j,_⟩⟩:=h
 .obtain⟨a,n,c,q,_⟩:=f;grind
 grind
def aG(x:bo):Λ:=((Y9 x.un.length).map λv:Nat=>(v:Int)).filter λv=>!dropped x.mask v
theorem yG{P:X8}{k:o8}{t:o4}{b:Nat}(a:P.underlying t=σ (.slice e))(hi:aU P e 1 b z)(f:∀v g I,g=w.heap.size->Ext w I->aH k e I g v []->K v I):aL P (Y3 t 0 #[]) w K:=
 k5 a hi Ω (cs:=#[]) (by simp[Instr.fill]) λg I h j q=>f _ g I h j (aH.of (b7.full (by simpa using q) Ξ (by simp[maxLen])))
theorem Q5{v:x4}{n:aI}(h:yD w B v n){g:Nat}(j:ak I g ea v.cells.toList):∃hv gz a f a7 e gr L,ak I g ea [Δ n.k,hv,Δ n.zero,a,e]/\aH .i64 al w gz hv n.d6/\i7 w f a a7/\a7.map (·.l)=n.unary/\bn dW 3 bd w gr e L/\(∀h∈L,gk w n.d6 h)/\L.map dR=n.ho/\(∀r,lc hv r->B<=r)/\∀h∈L,∀r,q5 h r->B<=r:=by
 obtain⟨hv,gz,a,f,a7,e,gr,L,rfl,q,s,y,x,z,A⟩:=h;obtain⟨_,_,_,C⟩:=dr q.ls;obtain⟨_,_,_,_,_,E,_⟩:=s.1.sl;obtain⟨_,_,_,_,_,F,_⟩:=x.sl;refine⟨hv,gz,a,f,a7,e,gr,L,?_,q,s,y,x,z,A⟩;rw[C,E,F]at j ⊢;exact j
def z12:List x4:=[Δ 0,.slice ν 0 0,Δ 0,.slice ν 0 0,.slice ν 0 0,.slice ν 0 0,.slice ν 0 0,.slice ν 0 0]
theorem Q6(u:Λ):aG (newVar u)=(Y9 u.length).map λv:Nat=>(v:Int):=by
 unfold aG newVar dropped;rw[List.filter_eq_self.2];intro a _;simp
section
variable{P:X8}{w:x5}{t:o4}{cx cy:Bool}{a b:Nat}{K:x4->Prop}
theorem Q7(f:a<2 ^ 62)(h:b<2 ^ 62):ad P (aS .or t cx cy (Δ a) (Δ b)) w K=K (Δ ((a ||| b:Nat):Int)):=ad.of λI _=>by
 have e:(U6 64 (a:Int) ||| U6 64 (b:Int)).toNat=a ||| b:=by
  rw[ot,ot,BitVec.toNat_or,BitVec.toNat_ofNat,BitVec.toNat_ofNat,Nat.mod_eq_of_lt Ω,Nat.mod_eq_of_lt Ω]
 have q:a ||| b<2 ^ 62:=Nat.or_lt_two_pow f h;have hw:X4.wrap ((a ||| b:Nat):Int)=((a ||| b:Nat):Int):=lm Ω Ω;have j:(U6 X4.bits (a:Int) ||| U6 X4.bits (b:Int)).toNat=a ||| b:=e;simp only[aS,eqGuard,binOp,Op.intBits,j,hw];rfl
theorem Fg(j:a<2 ^ 62)(f:b<2 ^ 62):ad P (aS .and t cx cy (Δ a) (Δ b)) w K=K (Δ ((a &&& b:Nat):Int)):=ad.of λI _=>by
 have e:(U6 64 (a:Int) &&& U6 64 (b:Int)).toNat=a &&& b:=by
  rw[ot,ot,BitVec.toNat_and,BitVec.toNat_ofNat,BitVec.toNat_ofNat,Nat.mod_eq_of_lt Ω,Nat.mod_eq_of_lt Ω]
 have q:a &&& b<2 ^ 62:=Nat.and_lt_two_pow _ f;have hw:X4.wrap ((a &&& b:Nat):Int)=((a &&& b:Nat):Int):=lm Ω Ω;have h:(U6 X4.bits (a:Int) &&& U6 X4.bits (b:Int)).toNat=a &&& b:=e;simp only[aS,eqGuard,binOp,Op.intBits,h,hw];rfl
theorem Q8{k:o8}{n:Nat}(a:n<62):ad P (aS .shl t cx cy (Δ 1) (.int k (n:Int))) w K=K (Δ ((2 ^ n:Nat):Int)):=by
 rw[Bt Ω];have e:min ((n:Int).toNat) X4.bits=n:=Nat.min_eq_left (by show n<=64;omega);have f:2 ^ n<2 ^ 62:=Nat.pow_lt_pow_right Ω a;rw[e,Int.one_mul,show((2:Int) ^ n)=((2 ^ n:Nat):Int) by simp];generalize 2 ^ n=q at f ⊢;rw[lm Ω Ω]
end
theorem Fh(a n:Nat):(a / 2 ^ n &&& 1=1)↔a.testBit n=s2:=by
 rw[Nat.and_one_is_mod,Nat.testBit_eq_decide_div_mod_eq,ro]
theorem Fi{b n:Nat}(q:mC b n):aq x8 Jc [ki b n,Δ v] w λr I=>r= .bool (decide (0<=v/\v<n)&&b.testBit v.toNat)/\Ext w I:=by
 refine aE func97 ?_;refine br λg U A e f=>?_;refine a6 (λr ab=>r= .bool (decide (0<=v/\v<n)&&b.testBit v.toNat)/\Ext w ab) (λ_ _ h=>h) λaz j=>?_;rw[bI ce.p ce.i rfl f.range];refine Cu.Y ?_;rintro _ B _ ⟨rfl,a⟩;rw[ao];refine⟨λh=>?_,λh=>j _ _ ⟨by rw[rc h];rfl,e.F a⟩⟩;obtain⟨x,C⟩:=q;obtain⟨s,rfl⟩:∃s:Nat,v=s:=⟨v.toNat,Ω⟩;have y:=f.W a;have E:(2:Nat) ^ n<=2 ^ 32:=T2 Ω x;have z:b / 2 ^ s<2 ^ 64:=Nat.lt_of_le_of_lt (Nat.div_le_self _ _) Ω;rw[aP ce.p 0 y rfl,mB Ω,show(1:Int)=((1:Nat):Int)from rfl,u64_and z Ω,bl];refine j _ _ ⟨?_,e.F a⟩;congr 1;rw[ms h,S7,U1,ro,u7,<-Fh];omega
theorem Q9(m v:Nat):dropped (m:Int) (v:Int)=m.testBit v:=by unfold dropped;rw[u7,u7]
def bC(w:x5)(af ag:Nat)(A R:aj)(n:aI)(s:am)(t:aB):Prop:=StateM w af ag A R n s t/\t.cb=s.cells/\oC t/\bc n.k n.d6 s/\kN n
theorem bC.W{A R:aj}{n:aI}{s:am}{t:aB}(h:bC w af ag A R n s t)(J:Ext w I):bC I af ag A R n s t:=⟨h.1.W J,h.2⟩
theorem StateM.parts{A R:aj}{n:aI}{s:am}{t:aB}(h:StateM w af ag A R n s t):∃a e f j bi q L r,ak w af cX [Γ a,Γ ag,e,f,j]/\gI w a n/\dF w ag r t/\aH .i64 al w bi e (jX s)/\bn q2 3 gq w q f L/\mS R w L s:=by
 obtain⟨a,e,f,j,_,bi,q,ge,L,E,r,w0,x,⟨y,z,H⟩,⟨B,I,J,K⟩,C,⟨F,G⟩,M,N⟩:=h;exact⟨a,e,f,j,bi,q,L,r,x,y.W z,B,C,F,G⟩
theorem vc{s:am}{i:Nat}(h:i<s.d9.length):(jX s)[i]?=σ (iD s i:Int):=by
 unfold jX;rw[u4,List.getElem?_range h];rfl
theorem sN{s:am}{t:aB}(ac:t.cb=s.cells)(V:oC t):s.cells.length<=100000000:=by
 rw[<-ac];unfold aB.cb;rw[r9];exact V.1
theorem vd{s:am}{i:Nat}{x:bo}(h:s.d9[i]?=σ x):iD s i+x.un.length+2<=s.cells.length:=by
 have h1:=sH h (j:=x.un.length+1) Ω;have a:(js x)[x.un.length+1]? ≠ν:=by
  rw[Ne,List.getElem?_eq_none_iff];show¬(x.un.length+1+1<=x.un.length+1);omega
 rw[<-h1]at a;have:=(x6.1 (Option.ne_none_iff_exists'.1 a).choose_spec).1;omega
theorem yH{s:am}{f:bP}(h:s.ho[j]?=σ f):fF s j+f.cs.length+1<=s.cells.length:=by
 have h1:=ym h (j:=f.cs.length) Ω;have a:(i9 f)[f.cs.length]? ≠ν:=by
  rw[Ne,List.getElem?_eq_none_iff];show¬(f.cs.length+1<=f.cs.length);omega
 rw[<-h1]at a;have:=(x6.1 (Option.ne_none_iff_exists'.1 a).choose_spec).1;omega
section
variable{w:x5}{af ag:Nat}{A R:aj}{n:aI}{s:am}{t:aB}
theorem Fj(h:bC w af ag A R n s t):aq x8 I8 [Γ af] w λv I=>(∃a,v=Γ a/\gI I a n)/\Ext w I:=by
 obtain⟨a,j,q,r,bi,x,L,y,e,f,z,B,C,E⟩:=h.1.parts;refine aE func92 ?_;rw[dj eD.u];simp only[b9,bb];rw[aO cX.p 0 e rfl];exact⟨⟨a,rfl,f⟩,Ext.refl _⟩
theorem Fk(h:bC w af ag A R n s t):aq x8 IB [Γ af] w λv I=>v=Δ (n.d6.length:Int)/\Ext w I:=by
 refine aE func46 ?_;refine(Fj h).Y ?_;rintro _ U _ ⟨⟨j,rfl,a⟩,e⟩;refine(yo a).Y ?_;rintro _ ab _ ⟨rfl,f⟩;exact⟨rfl,e.F f⟩
theorem nS(h:bC w af ag A R n s t):aq x8 JJ [Γ af] w λv I=>v=Δ n.k/\Ext w I:=by
 refine aE func152 ?_;refine(Fj h).Y ?_;rintro _ U _ ⟨⟨j,rfl,a⟩,e⟩;refine(Qh a).Y ?_;rintro _ ab _ ⟨rfl,f⟩;exact⟨rfl,e.F f⟩
theorem yI{i:Int}(h:bC w af ag A R n s t):aq x8 IN [Γ af,Δ i] w λv I=>v= .bool (decide (0<=i/\i<n.d6.length))/\Ext w I:=by
 refine aE func64 ?_;refine a6 (λv U=>v= .bool (decide (0<=i/\i<n.d6.length))/\Ext w U) (λ_ _ h=>h) λaz a=>?_;rw[cU,ao];refine⟨λe=>?_,λe=>a _ _ ⟨by rw[rc Ω],Ext.refl _⟩⟩;refine(Fk h).Y ?_;rintro _ U _ ⟨rfl,f⟩;rw[aW];refine a _ _ ⟨?_,f⟩;congr 1;exact decide_eq_decide.2 ⟨λh=>⟨e,h⟩,λh=>h.2⟩
theorem pU(h:bC w af ag A R n s t):aq x8 Is [Γ af] w λv I=>v=Δ s.zero/\Ext w I:=by
 obtain⟨j,q,r,x,bi,y,L,z,a,B,e,C,E,G⟩:=h.1.parts;refine aE func13 ?_;rw[dj eD.u];simp only[b9,bb];rw[aO cX.p 1 a rfl];refine(pO e rfl (show t.cb[0]?=σ s.zero by rw[h.2.1];exact Qc s)).Y ?_;rintro _ U _ ⟨rfl,f⟩;exact⟨rfl,f⟩
theorem q6(h:bC w af ag A R n s t):aq x8 It [Γ af] w λv I=>v=Δ (s.ho.length:Int)/\Ext w I:=by
 obtain⟨j,q,r,x,bi,y,L,z,a,B,C,E,e,f⟩:=h.1.parts;refine aE func15 ?_;rw[dj eD.u];simp only[b9,bb];rw[aO cX.p 3 a rfl,eF gp.u e];exact⟨by rw[f.1],Ext.refl _⟩
def dh(s:am)(i:Nat):Bool:=match s.d9[i]? with
 |some x=>decide (x.gone≠0)
 |none=>sp
theorem ve{i:Int}(h:bC w af ag A R n s t):aq x8 IC [Γ af,Δ i] w λv I=>v= .bool (decide (0<=i)&&dh s i.toNat)/\Ext w I:=by
 refine aE func48 ?_;refine a6 (λv U=>v= .bool (decide (0<=i)&&dh s i.toNat)/\Ext w U) (λ_ _ h=>h) λaz a=>?_;intro ab e _ _;refine(yI (h.W e)).Y ?_;rintro _ H _ ⟨rfl,q⟩;have J:=e.F q;have K:=h.2.2.2.1.d9;rw[ao];refine⟨λr=>?_,λM=>a _ _ ⟨?_,J⟩⟩
 .obtain⟨N,O,P,Q,bi,S,L,V,f,W,z,B,X,Y⟩:=(h.W J).1.parts;obtain⟨x,j⟩:=aJ (l:=s.d9) (i:=i.toNat) Ω;rw[aO cX.p 1 f rfl,aO cX.p 2 f rfl,fz (y:=i) (i:=i.toNat) Ω au.u al.i Ψ B.ls (vc Ω)];have C:t.cb[iD s i.toNat+0]?=σ x.gone:=by rw[h.2.1,sH j Ω];rfl
  refine(pO z rfl C).Y ?_;rintro _ Z _ ⟨rfl,E⟩;rw[bO];refine a _ _ ⟨?_,J.F E⟩;rw[ms r.1,S7];unfold dh;rw[j]
 .by_cases G:0<=i
  .unfold dh;rw[W7 Ω,Bool.and_false]
  .rw[rc G];rfl
def eB(n:aI)(i v:Int):Prop:=0<=i/\i<n.d6.length/\0<=v/\v<n.d6.getD i.toNat 0
instance (n:aI) (i v:Int):Decidable (eB n i v):=inferInstanceAs (Decidable (_/\_))
theorem eB.var{i:Int}(ac:eB n i v)(a:bc n.k n.d6 s):∃x,s.d9[i.toNat]?=σ x/\v.toNat<x.un.length/\x.un.length<=32/\n.d6.getD i.toNat 0=x.un.length:=by
 obtain⟨h1,h,j,f⟩:=ac;have q:=a.d9;obtain⟨x,J⟩:=aJ (l:=s.d9) (i:=i.toNat) Ω;obtain⟨z,e⟩:=aJ (l:=n.d6) (i:=i.toNat) Ω;have r:=a.eQ.2.2 z (x7 e);have w:=(a.var i.toNat x z J e).1;rw[r8,e,Option.getD_some]at f ⊢;exact⟨x,J,Ω,Ω,Ω⟩
theorem yJ{i:Int}(h:bC w af ag A R n s t):aq x8 I5 [Γ af,Δ i,Δ v] w λr I=>r=Δ (if eB n i v then((iD s i.toNat+2+v.toNat:Nat):Int)else-1)/\Ext w I:=by
 have Z:=h.2.2.2.1.d9;refine aE func84 ?_;refine a6 (λr U=>r= .bool (decide (¬eB n i v))/\Ext w U) ?_ ?_
 .rintro _ U ⟨rfl,q⟩;rw[ao];refine⟨λG=>⟨by rw[m5 G],q⟩,λf=>?_⟩;have f:=X1.1 f;obtain⟨x,H,aa,ad,_⟩:=f.var h.2.2.2.1;obtain⟨J,K,M,N,bi,O,L,P,a,B,Q,C,S,V⟩:=(h.W q).1.parts;have E:=vd H;have ae:=sN h.2.1 h.2.2.1;obtain⟨h1,ah,ai,aj⟩:=id f;rw[aO cX.p 2 a rfl,fz (y:=i) (i:=i.toNat) Ω au.u al.i Ψ C.ls (vc Ω),aT,lm Ω Ω,aT,lm Ω Ω,m3 f];refine⟨?_,q⟩;congr 1;omega
 .intro az z;refine(yI h).Y ?_;rintro _ ab _ ⟨rfl,j⟩;rw[bR,b4];refine⟨λa=>?_,λa=>?_⟩
  .have a:¬(0<=i/\i<n.d6.length):=λW=>by rw[ms W]at a;cases a
   exact z _ _ ⟨by rw[ms];exact λe=>a ⟨e.1,e.2.1⟩,j⟩
  have a:0<=i/\i<n.d6.length:=by simpa using a
  rw[aW,ao];refine⟨λac=>z _ _ ⟨by rw[ms];exact λe=>by have:=e.2.2.1;omega,j⟩,λac=>?_⟩;obtain⟨J,K,M,N,bi,O,L,P,X,B,Q,C,S,V⟩:=(h.W j).1.parts;rw[aO cX.p 0 X rfl];refine(EB B h.2.2.2.2).Y ?_;rintro _ ak _ ⟨Y,rfl⟩;rw[m3 a.1,cU];refine z _ _ ⟨?_,j.F Y⟩;congr 1;refine decide_eq_decide.2 ⟨λh e=>?_,λh=>?_⟩
  .have:=e.2.2.2;omega
  .refine Int.not_lt.1 λE=>h ⟨a.1,a.2,Ω,E⟩
def fs(s:am)(i v:Nat):Int:=match s.d9[i]? with
 |some x=>x.un.getD v 0
 |none=>0
theorem pV{i:Int}(h:bC w af ag A R n s t):aq x8 wK [Γ af,Δ i,Δ v] w λr I=>r=(if eB n i v then .tuple #[Δ (fs s i.toNat v.toNat),Δ 0]else .tuple #[Δ 0,Δ 1])/\Ext w I:=by
 refine aE func36 ?_;rw[dj eD.u];simp only[b9,bb];refine(yJ h).Y ?_;rintro _ U _ ⟨rfl,e⟩;by_cases a:eB n i v
 .rw[m3 a,m3 a];refine ck Ω ?_;obtain⟨x,f,j,C,_⟩:=a.var h.2.2.2.1;obtain⟨E,G,H,J,bi,K,L,M,q,N,y,O,P,Q⟩:=(h.W e).1.parts;rw[aO cX.p 1 q rfl];have z:t.cb[iD s i.toNat+2+v.toNat]?=σ (x.un.getD v.toNat 0):=by
   rw[h.2.1,Nat.add_assoc,sH f Ω,show 2+v.toNat=v.toNat+1+1 by omega];show x.un[v.toNat]?=_;rw[r8,v8 j];rfl
  refine(pO y rfl z).Y ?_;rintro _ ab _ ⟨rfl,B⟩;refine⟨?_,e.F B⟩;unfold fs;rw[f]
 .rw[m5 a,m5 a,aW,ao];exact⟨λ_=>⟨rfl,e⟩,λh=>Ω⟩
def e0(s:am)(j:Nat):Bool:=match s.ho[j]? with
 |some f=>decide (f.live≠0)
 |none=>sp
theorem sO{j:Int}(h:bC w af ag A R n s t):aq x8 ID [Γ af,Δ j] w λv I=>v= .bool (decide (0<=j)&&e0 s j.toNat)/\Ext w I:=by
 refine aE func49 ?_;refine a6 (λv U=>v= .bool (decide (0<=j)&&e0 s j.toNat)/\Ext w U) (λ_ _ h=>h) λaz a=>?_;intro ab e _ _;rw[cU,ao];refine⟨λq=>?_,λq=>a _ _ ⟨by rw[rc q];rfl,e⟩⟩;refine(q6 (h.W e)).Y ?_;rintro _ M _ ⟨rfl,C⟩;have J:=e.F C;rw[aW,ao];refine⟨λN=>?_,λO=>a _ _ ⟨?_,J⟩⟩
 .obtain⟨P,Q,S,V,bi,W,L,X,x,Y,E,Z,z,r⟩:=(h.W J).1.parts;obtain⟨f,ah⟩:=aJ (l:=s.ho) (i:=j.toNat) Ω;obtain⟨y,B⟩:∃y,L[j.toNat]?=σ y:=⟨_,v8 (by rw[r.1];omega)⟩;obtain⟨_,_,G⟩:=r.2 j.toNat y f B ah;rw[aO cX.p 1 x rfl,aO cX.p 3 x rfl,ct (i:=j.toNat) Ω gp.u gq.i z (by rw[r.1];omega),aZ gq.p rfl,aF Ψ (z.range B 2 _ rfl)];have H:t.cb[fF s j.toNat+0]?=σ f.live:=by rw[h.2.1,ym ah Ω];rfl
  refine(pO (i:=fF s j.toNat) E (by rw[G]) H).Y ?_;rintro _ aa _ ⟨rfl,K⟩;rw[bO];refine a _ _ ⟨?_,J.F K⟩;rw[ms q,S7];unfold e0;rw[ah]
 .unfold e0;rw[W7 Ω,Bool.and_false]
end
def vf(s:am)(n:aI)(i:Int)(b m:Nat):Prop:=mC b m/\(¬(0<=i/\i<n.d6.length)->b=0/\m=0)/\∀x,0<=i->s.d9[i.toNat]?=σ x->m=x.un.length/\∀j:Nat,b.testBit j=(decide (j<x.un.length)&& !dropped x.mask (j:Int))
section
variable{w:x5}{af ag:Nat}{A R:aj}{n:aI}{s:am}{t:aB}
theorem jv{i:Int}(h:bC w af ag A R n s t):aq x8 AS [Γ af,Δ i] w λv I=>(∃b m,v=ki b m/\vf s n i b m)/\Ext w I:=by
 have bo:=h.2.2.2.1.d9;refine aE func25 ?_;refine bF ce.i λB U bp am Q=>?_;have Q:=Q;refine(yI (h.W am)).Y ?_;rintro _ ab _ ⟨rfl,an⟩;have S:=Q.W an;have V:=am.F an;rw[bR,b4];refine⟨λa=>?_,λa=>?_⟩
 .have a:¬(0<=i/\i<n.d6.length):=λaN=>by rw[ms aN]at a;cases a
  rw[dn (cs:=#[.int .u64 0,Δ 0]) Ψ];refine cd (vs:=[.int .u64 0,Δ 0]) ce.i rfl rfl (by intro u hu;simp at hu;rcases hu with rfl|rfl<;>rfl) S λbq aP br aQ=>?_;rw[fA ce.p ce.i rfl aQ.range];refine⟨⟨0,0,rfl,⟨Ω,Ξ⟩,λ_=>⟨rfl,rfl⟩,λx ap J=>?_⟩,V.put aP Ω⟩;have:=(x6.1 J).1;exact m6 ⟨ap,Ω⟩ a
 have a:0<=i/\i<n.d6.length:=by simpa using a
 obtain⟨x,E⟩:=aJ (l:=s.d9) (i:=i.toNat) Ω;obtain⟨z,W⟩:=aJ (l:=n.d6) (i:=i.toNat) Ω;have aR:=h.2.2.2.1.eQ.2.2 z (x7 W);obtain⟨bs,_,bt,bu⟩:=h.2.2.2.1.var i.toNat x z E W;obtain⟨aS,aU,aV,aW,bi,aX,L,aY,G,av,_⟩:=(h.W V).1.parts;rw[aO cX.p 0 G rfl];refine(EB av h.2.2.2.2).Y ?_;rintro _ bw _ ⟨X,rfl⟩;rw[m3 a.1,r8,W,Option.getD_some];refine ME.Y ?_;rintro _ bx _ ⟨Y,rfl⟩;rw[m3 aR];obtain⟨m,rfl⟩:∃m:Nat,z=m:=⟨z.toNat,Ω⟩;rw[bA,bB,u7];have aw:=(V.F X).F Y;refine bF ce.i λe bz bD ax aZ=>?_;refine cd (vs:=[.int .u64 ((2 ^ m-1:Nat):Int),Δ (m:Int)]) ce.i rfl rfl (by intro u hu;simp at hu;rcases hu with rfl|rfl<;>rfl) aZ λa1 ay bE a2=>?_;have z5:=aw.size;have aA:=(aw.F ax).put ay Ω;have bG:=(((S.W X).W Y)).lt;have a6:ak a1 B ce [.int .u64 0,Δ 0]:=(((S.W X).W Y).W ax).aa ay λhe=>by have he:=he;omega
 intro bH Z _ _;have aB:=aA.F Z;obtain⟨aS,aU,aV,aW,bi,aX,L,aY,G,av,a7,a8,_⟩:=(h.W aB).1.parts;have bJ:=vd E;have bL:=sN h.2.1 h.2.2.1;rw[aO cX.p 1 G rfl,aO cX.p 2 G rfl,fz (y:=i) (i:=i.toNat) Ω au.u al.i Ψ a8.ls (vc Ω),aT,lm Ω Ω];have ba:t.cb[iD s i.toNat+1]?=σ x.mask:=by rw[h.2.1,sH E Ω];rfl
 refine(pO a7 Ω ba).Y ?_;rintro _ bb _ ⟨rfl,ac⟩;have aC:=(a2.W Z).W ac;have bc:=(a6.W Z).W ac;obtain⟨mk,aD⟩:∃mk:Nat,x.mask=mk:=⟨x.mask.toNat,Ω⟩;rw[bI ce.p ce.i rfl (show bb.rangeAt e 0 [.int .u64 ((2 ^ m-1:Nat):Int),Δ (m:Int)]from aC.range)];refine(xn).Y ?_;rintro _ bM _ ⟨rfl,ad⟩;have bd:=aB.F ac;have be:B≠e:=Ω
 have bN:=aA.size;have bO:w.heap.size<=e:=Ω
 have bP:w.heap.size<=B:=Ω
 refine b3.range m (λq f=>Ext w f/\ak f B ce [.int .u64 0,Δ 0]/\∃b:Nat,ak f e ce [.int .u64 (b:Int),Δ (m:Int)]/\mC b m/\∀j:Nat,b.testBit j=(decide (j<m)&& !(decide (j<q)&&mk.testBit j))) Ω
  ⟨bd.F ad,bc.W ad,_,aC.W ad,⟨Ω,by have:=Nat.two_pow_pos m;omega⟩,λj=>by rw[Ct];simp⟩ ?_ ?_
 .rintro q f bf bQ ⟨H,K,b,C,M,N⟩ bg;refine bK Ω ?_;refine dd (λO=>Ext w O/\ak O B ce [.int .u64 0,Δ 0]/\∃b:Nat,ak O e ce [.int .u64 (b:Int),Δ (m:Int)]/\mC b m/\∀j:Nat,b.testBit j=(decide (j<m)&& !(decide (j<q+1)&&mk.testBit j))) ?_ ?_
  .rintro O bh;rw[aT];exact bg _ bh
  intro az aF;have bj:mk / 2 ^ q<2 ^ 62:=Nat.lt_of_le_of_lt (Nat.div_le_self _ _) Ω;rw[aD,Dp Ω,show(1:Int)=((1:Nat):Int)from rfl,Fg bj Ω,bl,ao];have aG:(((mk / 2 ^ q &&& 1:Nat):Int)=((1:Nat):Int))↔mk.testBit q=s2:=by rw[<-Fh];omega
  refine⟨λae=>?_,λah=>?_⟩
  .have ae:=aG.1 ae;rw[bI ce.p ce.i rfl (show f.rangeAt e 0 [.int .u64 (b:Int),Δ (m:Int)]from C.range)];refine(MG M).Y ?_;rintro _ bS _ ⟨rfl,ai⟩;rw[m3 ⟨Ω,Ω⟩,u7];refine cd (vs:=[.int .u64 ((k9 b (2 ^ q):Nat):Int),Δ (m:Int)]) ce.i rfl rfl (by intro u hu;simp at hu;rcases hu with rfl|rfl<;>rfl) (C.W ai) λbT aH bU bk=>?_;have aI:∀j:Nat,(k9 b (2 ^ q)).testBit j=(decide (j<m)&& !(decide (j<q+1)&&mk.testBit j)):=λj=>by
    rw[Cl,N,Nat.testBit_two_pow];by_cases aK:j<m
    .by_cases P:j=q
     .subst P;simp[ae]
     .have aj:decide (j<q+1)=decide (j<q):=decide_eq_decide.2 ⟨λh=>Ω,λh=>Ω⟩;rw[aj,ms aK,ms (show j<64 by omega),rc (show¬q=j from λh=>P h.symm)];simp
    .simp[aK]
   refine aF _ ⟨(H.F ai).then aH λr bV he=>by have he:r=e:=he;omega,(K.W ai).aa aH λhe=>be he,_,bk,⟨Ω,Mx λj aL=>by rw[aI,rc Ω];rfl⟩,aI⟩
  .have ah:mk.testBit q=sp:=by simpa using λh=>ah (aG.2 h)
   refine aF _ ⟨H,K,b,C,M,λj=>?_⟩;rw[N];by_cases P:j=q
   .subst P;simp[ah]
   .have aj:decide (j<q+1)=decide (j<q):=decide_eq_decide.2 ⟨λh=>Ω,λh=>Ω⟩;rw[aj]
 .rintro f bf ⟨H,K,b,C,M,N⟩;refine ck Ω ?_;rw[bI ce.p ce.i rfl (show f.rangeAt e 0 [.int .u64 (b:Int),Δ (m:Int)]from C.range)];refine cd (vs:=[.int .u64 (b:Int),Δ (m:Int)]) ce.i rfl rfl (by intro u hu;simp at hu;rcases hu with rfl|rfl<;>rfl) K λbW bm bX bn=>?_;rw[fA ce.p ce.i rfl bn.range];refine⟨⟨b,m,rfl,M,λh=>m6 a h,λy ap aM=>?_⟩,H.put bm Ω⟩;rw[E]at aM;cases aM;refine⟨Ω,λj=>?_⟩;rw[N,aD,Q9,show x.un.length=m by omega];by_cases aL:j<m<;>simp[aL]
theorem vg{f:bP}(e:bc k d6 s)(ah:f∈s.ho):cn f.an/\f.cs.length=(aV f.an).toNat/\aV f.an<=4096:=by
 obtain⟨a,V,_⟩:=e.ho f ah;rw[V];refine⟨⟨?_,pK e.eQ.2.2 λv ac=>⟨(a.scope.1 v ac).1,a.d9 v ac⟩⟩,a.len,a.small⟩;have:=a.scope.2;simp[b6];exact this
def iK(s:am)(j:Nat)(tl:Λ):Option Nat:=match s.ho[j]? with
 |some f=>if f.live≠0 then(cr f.an tl 0).map λm=>fF s j+1+m.toNat else ν
 |none=>ν
def mX(s:am)(j:Nat)(tl:Λ):Int:=match s.ho[j]? with
 |some f=>bz f.an f.cs tl
 |none=>0
theorem Fl(h:bC w af ag A R n s t)(K:aQ .i64 w aX tl):aq x8 I6 [Γ af,Δ (j:Int),aX] w λv I=>v=Δ (match iK s j tl with|some p=>(p:Int)|none=>-1)/\Ext w I:=by
 refine aE func85 ?_;refine(sO h).Y ?_;rintro _ U _ ⟨rfl,z⟩;rw[ms Ω,S7,u7,bR,b4];refine⟨λa=>⟨?_,z⟩,λa=>?_⟩
 .have a:e0 s j=sp:=by simpa using a
  have:iK s j tl=ν:=by
   unfold iK;unfold e0 at a;cases ah:s.ho[j]? with
   |none=>rfl
   |some f=>
    rw[ah]at a;have a:f.live=0:=by simpa using a
    simp[a]
  rw[this]
 have a:e0 s j=s2:=by simpa using a
 obtain⟨f,ah,M⟩:∃f,s.ho[j]?=σ f/\f.live≠0:=by
  unfold e0 at a;cases ah:s.ho[j]? with
  |none=>rw[ah]at a;cases a
  |some f=>rw[ah]at a;exact⟨f,rfl,by simpa using a⟩
 obtain⟨G,ad,ae⟩:=vg h.2.2.2.1 (x7 ah);obtain⟨N,O,P,Q,bi,H,L,S,B,V,W,X,r,x⟩:=(h.W z).1.parts;obtain⟨y,e⟩:∃y,L[j]?=σ y:=⟨_,v8 (by rw[x.1];exact(x6.1 ah).1)⟩;have C:=(x6.1 e).1;obtain⟨_,Y,J⟩:=x.2 j y f e ah;have Z:U.rangeAt H (j*3+1) [y.hv]:=λq v ac=>by
  match q,ac with
  |0,ac=>cases ac;exact r.range e 1 _ rfl
 rw[aO cX.p 3 B rfl,ct rfl gp.u gq.i r C,aZ gq.p rfl,bI (cs:=[y.hv]) bL.p bL.i rfl Z];refine(BP Y.ls (K.W z) G).Y ?_;rintro _ ab _ ⟨rfl,aa⟩;have E:=z.F aa;unfold mw iK;rw[ah];simp only[m3 M];cases hi:cr f.an tl 0 with
 |none=>
  simp only[Option.map_none];rw[bA,bB,bO,ao];exact⟨λ_=>⟨trivial,E⟩,λh=>m6 (show(3:Int)≠0 by decide) h⟩
 |some m=>
  simp only[Y6];rw[bA,bB,bO,ao];refine⟨λh=>m6 rfl h,λ_=>?_⟩;have ai:=mv G.2 hi;have aj:=yH ah;have ak:=sN h.2.1 h.2.2.1;obtain⟨N,O,P,Q,bi,H,L,S,B,V,W,X,r,x⟩:=(h.W E).1.parts;obtain⟨y,e⟩:∃y,L[j]?=σ y:=⟨_,v8 (by rw[x.1];exact(x6.1 ah).1)⟩;have C:=(x6.1 e).1;obtain⟨_,_,J⟩:=x.2 j y f e ah;rw[aO cX.p 3 B rfl,ct rfl gp.u gq.i r C,aZ gq.p rfl,aF Ψ (r.range e 2 _ rfl),J,aT,lm Ω Ω,aT,lm Ω Ω];refine⟨?_,E⟩;congr 1;omega
theorem yK{p:Nat}(a:bc k d6 s)(h:iK s j tl=σ p):s.cells[p]?=σ (mX s j tl)/\∃f,s.ho[j]?=σ f/\f.live≠0/\∃m:Nat,cr f.an tl 0=σ (m:Int)/\m<f.cs.length/\p=fF s j+(m+1):=by
 unfold iK at h;cases ah:s.ho[j]? with
 |none=>rw[ah]at h;cases h
 |some f=>
  rw[ah]at h;simp only at h;split at h
  .rename_i e;obtain⟨m,hm,rfl⟩:=Z9.1 h;obtain⟨r,w,x⟩:=vg a (x7 ah);have y:=mv r.2 hm;obtain⟨q,rfl⟩:∃q:Nat,m=q:=⟨m.toNat,Ω⟩;refine⟨?_,f,rfl,e,q,hm,Ω,Ω⟩;rw[show fF s j+1+(q:Int).toNat=fF s j+(q+1) by omega,ym ah Ω];unfold mX bz;rw[ah];simp only[hm];show f.cs[q]?=_;rw[u7,r8,v8 Ω];rfl
  .cases h
theorem vh(h:bC w af ag A R n s t)(e:aQ .i64 w aX tl):aq x8 wL [Γ af,Δ (j:Int),aX] w λv I=>v=(if(iK s j tl).isSome then .tuple #[Δ (mX s j tl),Δ 0]else .tuple #[Δ 0,Δ 1])/\Ext w I:=by
 refine aE func37 ?_;rw[dj eD.u];simp only[b9,bb];refine(Fl h e).Y ?_;rintro _ U _ ⟨rfl,a⟩;cases ae:iK s j tl with
 |none=>
  simp only;rw[aW,ao];exact⟨λ_=>⟨rfl,a⟩,λh=>Ω⟩
 |some p=>
  simp only;refine ck Ω ?_;obtain⟨x,y,z,B,bi,C,L,E,f,G,q,H,J,K⟩:=(h.W a).1.parts;rw[aO cX.p 1 f rfl];refine(pO q rfl (by rw[h.2.1];exact(yK h.2.2.2.1 ae).1)).Y ?_;rintro _ ab _ ⟨rfl,r⟩;exact⟨rfl,a.F r⟩
end
theorem e8.parts{a:Nat}{e f r:x4}{A R:aj}{n:aI}{s:am}{t:aB}(h:e8 w af ag a e f r A R n s t):∃bi j L q,ak w af cX [Γ a,Γ ag,e,f,r]/\gI w a n/\dF w ag q t/\aH .i64 al w bi e (jX s)/\bn q2 3 gq w j f L/\mS R w L s:=by
 obtain⟨_,bi,j,ge,L,E,q,w0,x,⟨y,z,H⟩,⟨B,I,J,K⟩,C,⟨F,G⟩,M,N⟩:=h;exact⟨bi,j,L,q,x,y.W z,B,C,F,G⟩
theorem Ra{a b:Int}(e:0<=a/\a<=k)(f:0<=b/\b<=k)(hk:1<=k/\k<=2147483648):aq x8 Bh [Δ a,Δ b,Δ k] w λv I=>v= .tuple #[Δ (min (a+b) k),Δ 0]/\Ext w I:=by
 refine xD.Y ?_;rintro _ U _ ⟨rfl,J⟩;refine⟨?_,J⟩;unfold pE;rw[m3 ⟨⟨hk,e.1,e.2⟩,hk,f.1,f.2⟩]
def Room(t:aB):Prop:=t.marks=[]\/t.olds.length<100000000
def dX(s:am)(i v:Nat):am:=match s.d9[i]? with
 |some x=>{s with d9:=s.d9.set i {x with mask:=((x.mask.toNat ||| 2 ^ v:Nat):Int)}}
 |none=>s
theorem bc.vi{s:am}{i:Nat}{x y:bo}(h:bc k d6 s)(J:s.d9[i]?=σ x)(j:y.un.length=x.un.length)(r:∀c∈y.un,0<=c/\c<=k)(hm:0<=y.mask/\y.mask<4294967296):bc k d6 {s with d9:=s.d9.set i y}:=
 ⟨h.eI,h.eQ,h.zero,by grind [bc.d9],λp z q a e=>by
  have a:(s.d9.set i y)[p]?=σ z:=a;rw[X6]at a;by_cases f:i=p
  .subst f;rw[m3 rfl,m3 (x6.1 J).1]at a;cases a;exact⟨j.F (h.var i x q J e).1,r,hm⟩
  .rw[m5 f]at a;exact h.var p z q a e,h.ho⟩
theorem bc.Fm{s:am}{f g:bP}(h:bc k d6 s)(ah:s.ho[j]?=σ f)(h1:g.sc=f.sc)(e:g.an=f.an)(q:g.cs.length=f.cs.length)(a:∀c∈g.cs,0<=c/\c<=k):bc k d6 {s with ho:=s.ho.set j g}:=
 ⟨h.eI,h.eQ,h.zero,h.d9,h.var,λx J=>by
  rcases U5 J with J|rfl
  .exact h.ho x J
  .obtain⟨⟨r,w,y,z,A,B⟩,C,E⟩:=h.ho f (x7 ah);refine⟨⟨?_,?_,?_,?_,?_,a⟩,?_,?_⟩
   .grind
   all_goals grind⟩
theorem Rb{r:Nat}{c:List x4}(a:ak w r e c)(he:¬(e=gP\/e=fb\/e=ny\/e=ih\/e=cX\/e=gq\/e=wW)):¬eR w r:=by
 rintro (⟨h,j,q,s⟩|f)
 .grind [fE]
 .exact f _ a rfl
section
variable{w:x5}{af ag:Nat}{A R:aj}{n:aI}{s:am}{t:aB}
theorem oC.set(h:oC t)(aC:Room t)(p:Nat)(x:Int):oC (t.set p x):=by
 refine⟨by rw[aB.EG];exact h.1,?_,by rw[aB.yp];exact h.2.2⟩;rcases aC with aC|aC
 .rw[aB.yq aC];exact h.2.1
 grind [aB.EH]
theorem Fo{s':am}{p:Nat}{x:Int}(h:bC w af ag A R n s t)(f:y=(p:Int))(ae:p<s.cells.length)(j:s.cells.set p x=s'.cells)(V:pP s s')(q:bc n.k n.d6 s')(aC:Room t):
  aq x8 A4 [Γ ag,Δ y,Δ x] w λr I=>r=Δ 0/\ai (eR w) w I/\∃aR,Grow A w aR I/\bC I af ag aR R n s' (t.set p x):=by
 obtain⟨z,ac,e,_,B⟩:=id h;obtain⟨C,E,G⟩:=z.sJ;have H:p<t.cells.length:=by grind [aB.cb]
 refine(uZ E.min f H e).Y ?_;rintro _ U _ ⟨rfl,J,a,K⟩;obtain⟨aR,L,M⟩:=G (λr=>C r\/J r) U _ ⟨a.1.Y λr _ h=>h.1,λr N=>N.elim .inl λh=>(a.2.1 r h).imp (λh=>h.1) id,by grind⟩ (K.Y (by grind));exact⟨rfl,a.1.Y λr _ h=>.inl h.2,aR,L,M.same V,by rw[aB.rU,ac,j],e.set aC p x,q,B⟩
theorem yL{i:Int}(h:bC w af ag A R n s t)(aC:Room t):aq x8 IU [Γ af,Δ i,Δ v] w λr I=>(¬eB n i v->r=Δ 1/\Ext w I)/\
  (eB n i v->r=Δ 0/\ai (eR w) w I/\∃aR x,Grow A w aR I/\bC I af ag aR R n (dX s i.toNat v.toNat) (t.set (iD s i.toNat+1) x)):=by
 refine aE func70 ?_;rw[dj eD.u];simp only[b9,bb];refine(yJ h).Y ?_;rintro _ U _ ⟨rfl,B⟩;by_cases e:eB n i v
 rotate_left
 .rw[m5 e,aW,ao];exact⟨by grind,λh=>Ω⟩
 rw[m3 e];refine ck Ω ?_;obtain⟨x,a,J,aa,ac⟩:=e.var h.2.2.2.1;obtain⟨h1,ad,ae,ah⟩:=id e;have aj:=h.2.2.2.1.d9;obtain⟨z,K⟩:=aJ (l:=n.d6) (i:=i.toNat) Ω;obtain⟨_,M,ak,am⟩:=h.2.2.2.1.var i.toNat x z a K;have an:=vd a;have ap:=sN h.2.1 h.2.2.1;obtain⟨av,aw,ax,ay,N⟩:=(h.W B).1;obtain⟨bi,az,L,aA,C,aB,O,P,aD,aF⟩:=N.parts;rw[aO cX.p 2 C rfl,fz (y:=i) (i:=i.toNat) Ω au.u al.i Ψ P.ls (vc Ω),aT,lm Ω Ω];intro ab f _ _;have Q:=B.F f;have E:=C.W f;have S:=O.W f;obtain⟨q,rfl⟩:∃q:Nat,v=q:=⟨v.toNat,Ω⟩;obtain⟨mk,V⟩:∃mk:Nat,x.mask=mk:=⟨x.mask.toNat,Ω⟩;rw[u7]at J;rw[aO cX.p 1 E rfl,aO cX.p 1 E rfl,Q8 Ω];have W:t.cb[iD s i.toNat+1]?=σ x.mask:=by rw[h.2.1,sH a Ω];rfl
 refine(pO (i:=iD s i.toNat+1) S Ω W).Y ?_;rintro _ aG _ ⟨rfl,G⟩;refine⟨.inl G,?_⟩;have aH:(2:Nat) ^ q<=2 ^ 31:=T2 Ω Ω;rw[V,Q7 Ω Ω];have j:=Q.F G;have aI:mk ||| 2 ^ q<2 ^ 32:=Nat.or_lt_two_pow Ω Ω;have H:dX s i.toNat (q:Int).toNat={s with d9:=s.d9.set i.toNat {x with mask:=((mk ||| 2 ^ q:Nat):Int)}}:=by
  grind [dX,u7]
 refine(Fo (p:=iD s i.toNat+1) (s':=dX s i.toNat (q:Int).toNat) (h.W j) Ω Ω ?_ ?_ ?_ aC).Y ?_
 .rw[H,Ey a Ω];rfl
 .grind [EE]
 .rw[H];exact h.2.2.2.1.vi a rfl M (by grind)
 rintro _ aK _ ⟨rfl,X,aR,Y,Z⟩;exact⟨by grind,λ_=>⟨rfl,iF j X,aR,_,(Grow.W j).F Y,Z⟩⟩
end
theorem vj{dy:x4}(h:aQ .i64 w dy l):aq x8 Ix [dy,Δ v] w λr I=>r= .bool (decide (v∈l))/\Ext w I:=by
 refine aE func30 ?_;rw[ba au.u h];refine cp.range l.length (λi _ U=>Ext w U/\v∉l.take i) h.le ⟨Ext.refl _,Ξ⟩ ?_ ?_
 .rintro i _ U k hi ⟨J,a⟩ hk;obtain⟨x,e⟩:=aJ (l:=l) hi;refine bK Ω ?_;rw[bp au.u al.i Ψ (h.W J) e,bl,ao];refine⟨λhe=>⟨by rw[ms];rw[<-he];exact x7 e,J⟩,λf=>?_⟩;rw[aT];refine hk _ _ ⟨J,λhm=>?_⟩;rw[u9,e,j4,j9,Y4]at hm;rcases hm with hm|hm
  .exact a hm
  .exact f hm.symm
 .rintro _ U k ⟨J,a⟩;rw[o9]at a;rw[aW,ao];exact⟨λh=>Ω,λ_=>⟨by rw[rc a],J⟩⟩
theorem Fp:∀{s t:Λ}{m k v:Int},s.length=t.length->cr (s++[k]) (t++[v]) m=(cr s t m).bind λr=>if 0<=v/\v<k then σ (r*k+v)else ν
 |[],[],m,k,v,_=>by simp[cr]
 |x::s,y::t,m,k,v,h=>by
  have h:s.length=t.length:=by simpa using h
  rw[List.cons_append,List.cons_append];simp only[cr];split
  .exact Fp h
  .rfl
theorem Fq{x:bo}(h:0<=v/\v<x.un.length):v∈aG x↔dropped x.mask v=sp:=by
 unfold aG;rw[S6,l9];constructor
 .rintro⟨_,a⟩;simpa using a
 .intro a;exact⟨⟨v.toNat,List.mem_range.2 Ω,Ω⟩,by simp[a]⟩
def bY(s:am):Prop:=∀f∈s.ho,f.live≠0->∀v∈f.sc,∀x,s.d9[v.toNat]?=σ x->x.gone=0
theorem gI.put{g y:Nat}{c:List x4}{n:aI}(h:gI w y n)(a:ak w g aM c)(f:ai (λr=>r=g) w I):gI I y n:=by
 have q:=Ff a;have z:∀r,r=g->∃e c,ak w r e c/\e≠iS/\e≠c8/\e≠al/\e≠ay/\e≠aA:=λr j=>by
  subst j;exact⟨_,c,a,Φ,Φ,Φ,Φ,Φ⟩
 obtain⟨A,B,C,E,gr,a7,L,nm,hv,gz,fv2,h1,F,G,H,J,K,M⟩:=h;refine⟨A,B,C,E,gr,a7,L,nm,hv,gz,fv2,yF h1 f q Φ,yF F f q Φ,yE G f q Φ,H.aa f λr j=>?_,J,K.aa f λr j=>?_,M⟩
 .obtain⟨e,c,a,_,_,_,s,x⟩:=z r j;exact⟨e,c,a,s,x⟩
 .obtain⟨e,c,a,s,x,N,O,_⟩:=z r j;exact⟨e,c,a,s,x,N,O⟩
theorem StateM.put{g:Nat}{A R:aj}{n:aI}{s:am}{t:aB}{c:List x4}(h:StateM w af ag A R n s t)(B:ak w g aM c)(q:ai (λr=>r=g) w I)(S:¬A g):∃R',(∀r,R' r->R r/\r≠g)/\StateM I af ag A R' n s t:=by
 obtain⟨U,W,X,Y,⟨h1,Z,ab,ac⟩,bi,ad,ge,L,E,ae,w0,al,⟨M,F,an⟩,⟨ao,N,ap,aq⟩,au,⟨av,O⟩,aw,P⟩:=h;obtain⟨cQ,Q⟩:=Ep;have z:=q.size;have y:=Ff B;have C:∀r,(w0.heap.setIfInBounds g cQ)[r]?=if g=r then(if g<w0.heap.size then σ cQ else ν)else w0.heap[r]?:=λr=>Array.getElem?_setIfInBounds;have ax:∀r,A r->r≠g:=λr a he=>S (he▸a);have int:∀{v:x4}{l:Λ},kp R w v l->kp (λr=>R r/\r≠g) I v l:=λ⟨⟨ay,hm⟩,az⟩=>⟨⟨ay,yE hm q y Φ⟩,λr a=>⟨az r a,cC hm B Φ a⟩⟩;refine⟨λr=>R r/\r≠g,λr h=>h,U,W,X,Y,⟨h1,λr a aA=>Z r a aA.1,λr a=>by have:=ab r a.1;omega,λr a=>by have:=ac r a;omega⟩,bi,ad,ge,L,E,ae,{w0 with heap:=w0.heap.setIfInBounds g cQ},yF al q y Φ,⟨?_,?_,?_⟩,
  ⟨ao.aa q λr a=>ax r (N r a),N,ap,aq⟩,yE au q y Φ,⟨Fe av q y Φ,O.1,λj x f J ah=>?_⟩,Fe aw q y Φ,P.1,λj x e J he=>?_⟩
 .by_cases V:∃o,w0.heap[g]?=σ o/\fW o=s2
  .obtain⟨o,aC,aD⟩:=V;have aE:ak w0 g aM c:=by
    unfold ak at B ⊢;have:=F.a8 g o aC aD;rw[B]at this;rw[aC,this]
   refine M.put aE ⟨Ξ,λr o a V aF=>?_⟩;show(w0.heap.setIfInBounds g cQ)[r]?=σ o;rw[C,m5 λhe=>aF he.symm];exact a
  .refine M.W ⟨Ξ,λr o a aG=>?_⟩;show(w0.heap.setIfInBounds g cQ)[r]?=σ o;rw[C,m5 λhe=>V ⟨o,by rw[he];exact a,aG⟩];exact a
 .refine⟨by show(w0.heap.setIfInBounds g cQ).size<=_;rw[Array.size_setIfInBounds];exact X0 F.size z,λr o a V=>?_⟩;have a:(w0.heap.setIfInBounds g cQ)[r]?=σ o:=a;rw[C]at a;by_cases he:g=r
  .rw[m3 he]at a;split at a
   .cases a;rw[Q]at V;cases V
   .cases a
  .rw[m5 he]at a;exact q.a8 r o (F.a8 r o a V) V λh=>he h.symm
 .intro r o a V;have a:(w0.heap.setIfInBounds g cQ)[r]?=σ o:=a;rw[C]at a;by_cases he:g=r
  .rw[m3 he]at a;split at a
   .cases a;rw[Q]at V;cases V
   .cases a
  .rw[m5 he]at a;exact⟨an r o a V,λh=>he h.symm⟩
 .obtain⟨G,H,K⟩:=O.2 j x f J ah;exact⟨int G,int H,K⟩
 .obtain⟨G,H,K⟩:=P.2 j x e J he;exact⟨G,int H,int K⟩
theorem Rc{f:cg}(j:pl.length<=60000)(h:il pl=σ f):∃N,N<=60000/\fC N f/\f.name≠[]/\∀b∈f.name,cf b=s2:=by
 unfold il at h;rw[m5 Ω]at h;cases a:jN ⟨(lex pl).1,0,sp,[]⟩with
 |none=>rw[a]at h;cases h
 |some q=>
  obtain⟨r,s⟩:=q;rw[a]at h;simp only at h;split at h
  .rename_i ax;cases h;obtain⟨h1,e⟩:=CS rfl a ax.2.2;have w:=rT pl.length pl (o6 _);obtain⟨U,ab,_⟩:=tW pl.length pl (o6 _) f.name e;exact⟨_,by show(lex pl).1.length<=60000;omega,h1,U,ab⟩
  .cases h
theorem Re:aq x8 AX [.pointer ν] w λv I=>v= .pointer ν/\Ext w I:=by
 refine aE func61 ?_;rw[dj oe.u];simp only[Option.isNone_none,bT];exact⟨by trivial,Ext.refl _⟩
theorem Rf{v:x4}(h:aQ .u8 w v l)(C:l.length<=100000):aq x8 IH [v] w λf I=>Ext w I/\∃g,aH .u8 cT I g f l:=by
 have e:=h;obtain⟨E,b,o,base,cap,rfl,G,hm,s,x⟩:=h;refine aE func57 ?_;rw[tN cV.u,b4];refine⟨λy=>⟨Ext.refl _,0,?_⟩,λ_=>?_⟩
 .have:l=[]:=by
   cases base with
   |none=>
        by_cases e:0<l.length
        .have:=s e;cases this
        .exact b8 Ω
   |some a=>cases y
  subst this;exact aH.nil _ _ _ _
 .refine yG (k:=.u8) cV.u cT.i λH g1 U J j q=>?_;refine jt cV.u cT.i rfl q (e.W j) Θ Θ λf z ab A K B=>?_;exact⟨j.then B (λr x he=>by have:=(ca q he).1;omega),z,by simpa using A⟩
def Rg(sv:x4):Prop:=∃cs:List x4,sv= .agg cs.toArray/\cs.length=8/\∀u∈cs,u.oneCell'=s2
theorem Fr:Rg (.agg z12.toArray):=⟨z12,rfl,rfl,by intro u hu;simp[z12]at hu;rcases hu with rfl|rfl|rfl|rfl<;>rfl⟩
theorem yM{f:cg}(a:fC N f):(cA f).ho.length<=256:=by
 have h1:=(sr a).2.length_eq;have h:=(mM a).2.2;have j:=List.length_filter_le gf (gg f);have q:=a.mG;have e:=(qZ f (gh f).length).2.2.2;rw[uX]at e;omega
theorem Rh{n:aI}{t:aB}(e:kN n)(ah:n.ho.length<=256)(ac:t.cb=(cY n).cells)(a:Plain t):oC t:=by
 have h1:=va e ah n.unary.length n.ho.length;rw[yt,<-ac]at h1;unfold aB.cb at h1;rw[r9]at h1;refine⟨Ω,?_,?_⟩
 .rw[a.2.1];exact W3 _
 .rw[a.1];exact W3 _
section
variable{w:x5}{af ag:Nat}{A R:aj}{n:aI}{s:am}{t:aB}
theorem Fs{j:Int}(h:bC w af ag A R n s t)(q:¬(0<=j/\j<s.ho.length)):aq x8 rG [Γ af,Δ j] w λr I=>r= .slice ν 0 0/\Ext w I:=by
 refine aE func54 ?_;refine a6 (λv U=>v= .bool s2/\Ext w U) ?_ ?_
 .rintro _ U ⟨rfl,e⟩;rw[bT];exact⟨rfl,e⟩
 intro az a;rw[aW,ao];refine⟨λ_=>a _ _ ⟨rfl,Ext.refl _⟩,λx=>?_⟩;refine(q6 h).Y ?_;rintro _ y _ ⟨rfl,f⟩;rw[cU];exact a _ _ ⟨by rw[ms Ω],f⟩
end
section
variable{w:x5}{B:Nat}{sv:x4}{k:Int}{d6:Λ}{s:am}
end
def iL:List (Λ)->List (Λ)
 |[]=>[[]]
 |d::a=>d.flatMap λv=>(iL a).map (v:: ·)
theorem sP:∀{a:List (Λ)}{t:Λ},t∈iL a↔t.length=a.length/\∀(p:Nat)d v,a[p]?=σ d->t[p]?=σ v->v∈d
 |[],t=>by
  grind [iL]
 |d::a,t=>by
  simp only[iL,List.mem_flatMap,l9];constructor
  .rintro⟨v,ac,bu,f,rfl⟩;obtain⟨h1,e⟩:=sP.1 f
   grind
  .rintro⟨h1,e⟩;cases t with
   |nil=>simp at h1
   |cons v bu=>exact⟨v,e 0 d v rfl rfl,bu,sP.2 ⟨by grind,λp h u ae hu=>e (p+1) h u (by grind) (by grind)⟩,rfl⟩
def pW:List (Int->Bool)->Λ->Bool
 |q::a,v::t=>q v&&pW a t
 |_,_=>s2
theorem Ft:∀(a:List (Λ))(f:List (Int->Bool)),f.length=a.length->iL ((a.zip f).map λp=>p.1.filter p.2)=(iL a).filter (pW f)
 |[],[],_=>rfl
 |d::a,q::f,h=>by
  have j:=Ft a f (by grind);simp only[List.zip_cons_cons,List.map_cons,iL];rw[j];clear j h;induction d with
  |nil=>rfl
  |cons v d r=>
   rw[T0,List.filter_append,<-r];have e:((iL a).map (v:: ·)).filter (pW (q::f))=if q v then((iL a).filter (pW f)).map (v:: ·)else[]:=by
    rw[List.filter_map]
    grind [List.filter_congr,pW,List.filter_eq_nil_iff]
   grind
def jw(k:Int):Λ:=(Y9 k.toNat).map λv:Nat=>(v:Int)
theorem yN:∀(s:Λ),bt s=iL (s.map jw)
 :=by
 intro a;induction a<;>grind [bt,iL,jw,List.flatMap_map]
theorem sQ:v∈jw k↔0<=v/\v<k:=by
 unfold jw;rw[l9];constructor
 .grind
 .intro h;exact⟨v.toNat,by grind,Ω⟩
def ek(f:Int->Int)(L:List (Λ))(an cs:Λ):Λ:=((bt an).zip cs).map λp=>if p.1∈L then f p.2 else p.2
theorem q7(f:Int->Int)(L:List (Λ))(an cs:Λ)(h:cs.length<=(bt an).length):(ek f L an cs).length=cs.length:=by
 grind [ek]
theorem q8{f:Int->Int}{i:Nat}(a:(bt an)[i]?=σ t)(e:cs[i]?=σ c):(ek f L an cs)[i]?=σ (if t∈L then f c else c):=by
 grind [ek]
theorem Ri{f:Int->Int}{i:Nat}(V:dU an)(s:cs.length<=(bt an).length)(a:(bt an)[i]?=σ t)(e:cs[i]?=σ c)(r:t∉L):(ek f L an cs)[i]?=σ c/\(ek f L an cs).set i (f c)=ek f (L++[t]) an cs:=by
 have h1:=q8 (f:=f) (L:=L) a e;rw[m5 r]at h1;refine⟨h1,?_⟩;apply Y2;intro j;rw[X6];by_cases h:i=j
 .subst h;rw[m3 rfl,m3 (x6.1 h1).1,q8 a e,m3 Ξ]
 .rw[m5 h];cases q:cs[j]? with
  |none=>
   grind [q7]
  |some w=>
   obtain⟨u,hu⟩:∃u,(bt an)[j]?=σ u:=⟨_,v8 (by grind)⟩;rw[q8 hu q,q8 hu q];have x:u≠t:=λhe=>by
    subst he;have y:=kJ V a
    grind [kJ]
   grind
def lp(s:am)(i v:Nat)(c:Int):am:=match s.d9[i]? with
 |some x=>{s with d9:=s.d9.set i {x with un:=x.un.set v c}}
 |none=>s
def lq(s:am)(j m:Nat)(c:Int):am:=match s.ho[j]? with
 |some f=>{s with ho:=s.ho.set j {f with cs:=f.cs.set m c}}
 |none=>s
theorem vk{i:Nat}(h:∀x∈l,0<=x/\x<=k)(a:0<=c/\c<=k):∀x∈l.set i c,0<=x/\x<=k:=λx J=>by
 rcases U5 J with J|rfl
 .exact h x J
 .exact a
def oJ(w:x5)(af ag:Nat)(A R:aj)(n:aI)(s':am)(t:aB)(v:x4)(I:x5):Prop:=v=Δ 0/\ai (eR w) w I/\∃aR p x,Grow A w aR I/\bC I af ag aR R n s' (t.set p x)
theorem oJ.W{U:x5}{A R:aj}{n:aI}{s':am}{t:aB}{v:x4}(J:Ext w U)(h:oJ U af ag A R n s' t v I):oJ w af ag A R n s' t v I:=by
 obtain⟨h1,a,aR,p,x,e,f⟩:=h;exact⟨h1,iF J a,aR,p,x,(Grow.W J).F e,f⟩
section
variable{w:x5}{af ag:Nat}{A R:aj}{n:aI}{s:am}{t:aB}
theorem sR(h:bC w af ag A R n s t)(f:y<0\/¬(0<=c/\c<=n.k)):aq x8 Bo [Γ af,Δ y,Δ c] w λv I=>v=Δ (if y<0 then 1 else 3)/\Ext w I:=by
 refine aE func269 ?_;rw[dj eD.u];simp only[b9,bb];rw[aW,ao];refine⟨λe=>⟨by rw[m3 e],Ext.refl _⟩,λe=>?_⟩;refine(nS h).Y ?_;rintro _ U _ ⟨rfl,j⟩;refine(k8 (a:=c) (k:=n.k)).Y ?_;rintro _ ab _ ⟨rfl,q⟩;have r:=f.resolve_left e;rw[rc (λh=>r h.2),bR,X5,bT,m5 e];exact⟨rfl,j.F q⟩
theorem yO{s':am}{p:Nat}(h:bC w af ag A R n s t)(aC:Room t)(f:y=(p:Int))(ae:p<s.cells.length)(j:s.cells.set p c=s'.cells)(V:pP s s')(q:bc n.k n.d6 s')(r:0<=c/\c<=n.k):
  aq x8 Bo [Γ af,Δ y,Δ c] w (oJ w af ag A R n s' t):=by
 refine aE func269 ?_;rw[dj eD.u];simp only[b9,bb];refine ck Ω ?_;refine(nS h).Y ?_;rintro _ U _ ⟨rfl,x⟩;refine(k8 (a:=c) (k:=n.k)).Y ?_;rintro _ ab _ ⟨rfl,z⟩;have e:=x.F z;rw[ms (show cE c n.k from⟨h.2.2.2.1.eI,r⟩),bR,Y7,bb];obtain⟨H,I,J,K,bi,M,L,N,B,O,P,Q,S,W⟩:=(h.W e).1.parts;rw[aO cX.p 1 B rfl];refine(Fo (h.W e) f ae j V q aC).Y ?_;rintro _ X _ ⟨rfl,C,aR,E,G⟩;exact oJ.W e ⟨rfl,C,aR,_,_,E,G⟩
theorem Rj(h:bC w af ag A R n s t)(aC:Room t):aq x8 Kv [Γ af,Δ c] w λv I=>(¬(0<=c/\c<=n.k)->v=Δ 3/\Ext w I)/\((0<=c/\c<=n.k)->oJ w af ag A R n {s with zero:=c} t v I):=by
 refine aE func217 ?_;by_cases a:0<=c/\c<=n.k
 .refine (yO (p:=0) h aC rfl (by unfold am.cells lX;simp) (Qd s c) (ED s c) ⟨h.2.2.2.1.eI,h.2.2.2.1.eQ,a,h.2.2.2.1.d9,h.2.2.2.1.var,h.2.2.2.1.ho⟩ a).Y ?_;rintro v U _ e;exact⟨λh=>m6 a h,λ_=>e⟩
 .refine (sR h (.inr a)).Y ?_;rintro v U _ ⟨rfl,f⟩;exact⟨λ_=>⟨rfl,f⟩,λh=>m6 h a⟩
theorem Fu{i:Int}(h:bC w af ag A R n s t)(aC:Room t):aq x8 Ku [Γ af,Δ i,Δ v,Δ c] w λr I=>
  (¬eB n i v->r=Δ 1/\Ext w I)/\(eB n i v->¬(0<=c/\c<=n.k)->r=Δ 3/\Ext w I)/\(eB n i v->(0<=c/\c<=n.k)->oJ w af ag A R n (lp s i.toNat v.toNat c) t r I):=by
 refine aE func216 ?_;refine(yJ h).Y ?_;rintro _ U _ ⟨rfl,e⟩;by_cases a:eB n i v
 .rw[m3 a];by_cases j:0<=c/\c<=n.k
  .obtain⟨x,f,G,H,_⟩:=a.var h.2.2.2.1;have J:=h.2.2.2.1.d9;obtain⟨z,B⟩:∃z,n.d6[i.toNat]?=σ z:=⟨_,v8 (by have:=a.1;have:=a.2.1;omega)⟩;obtain⟨_,C,hm⟩:=h.2.2.2.1.var i.toNat x z f B;have K:=vd f;have q:lp s i.toNat v.toNat c={s with d9:=s.d9.set i.toNat {x with un:=x.un.set v.toNat c}}:=by unfold lp;rw[f]
   refine(yO (p:=iD s i.toNat+(2+v.toNat)) (s':=lp s i.toNat v.toNat c) (h.W e) aC Ω Ω ?_ ?_ ?_ j).Y ?_
   .rw[q];refine Ey f Ω ?_;rw[show 2+v.toNat=v.toNat+1+1 by omega];rfl
   .rw[q];exact EE f Ξ
   .rw[q];exact h.2.2.2.1.vi f Ξ (vk C j) hm
   .rintro r ab _ E;exact⟨λh=>m6 a h,λ_ h=>m6 j h,λ_ _=>E.W e⟩
  .refine (sR (h.W e) (.inr j)).Y ?_;rintro r ab _ ⟨rfl,y⟩;rw[m5 Ω];exact⟨λh=>m6 a h,λ_ _=>⟨rfl,e.F y⟩,λ_ h=>m6 h j⟩
 .rw[m5 a];refine(sR (h.W e) (.inl Ω)).Y ?_;rintro r ab _ ⟨rfl,y⟩;rw[m3 Ω];exact⟨λ_=>⟨rfl,e.F y⟩,λh=>m6 h a,λh=>m6 h a⟩
theorem Rk(h:bC w af ag A R n s t)(aC:Room t)(B:aQ .i64 w aX tl):aq x8 Kt [Γ af,Δ (j:Int),aX,Δ c] w λr I=>
  (iK s j tl=ν->r=Δ 1/\Ext w I)/\((iK s j tl).isSome=s2->¬(0<=c/\c<=n.k)->r=Δ 3/\Ext w I)/\
  ((iK s j tl).isSome=s2->(0<=c/\c<=n.k)->∀f (m:Nat),s.ho[j]?=σ f->cr f.an tl 0=σ (m:Int)->oJ w af ag A R n (lq s j m c) t r I):=by
 refine aE func215 ?_;refine(Fl h B).Y ?_;rintro _ U _ ⟨rfl,a⟩;cases C:iK s j tl with
 |none=>
  simp only;refine(sR (h.W a) (.inl Ω)).Y ?_;rintro r ab _ ⟨rfl,q⟩;rw[m3 Ω];exact⟨λ_=>⟨rfl,a.F q⟩,λh=>by simp at h,λh=>by simp at h⟩
 |some p=>
  simp only;by_cases e:0<=c/\c<=n.k
  .obtain⟨H,f,ah,J,m,hm,K,rfl⟩:=yK h.2.2.2.1 C;have L:=yH ah;have x:lq s j m c={s with ho:=s.ho.set j {f with cs:=f.cs.set m c}}:=by unfold lq;rw[ah]
   obtain⟨E,_⟩:=h.2.2.2.1.ho f (x7 ah);refine(yO (p:=fF s j+(m+1)) (s':=lq s j m c) (h.W a) aC rfl Ω ?_ ?_ ?_ e).Y ?_
   .rw[x];exact Qe ah Ω rfl
   .rw[x];exact Qn ah Ξ rfl rfl
   .rw[x];exact h.2.2.2.1.Fm ah rfl rfl Ξ (vk E.iY e)
   .rintro r ab _ G;refine⟨(λh=>by cases h),λ_ h=>m6 e h,λ_ _ M bV y z=>?_⟩;rw[ah]at y;cases y;rw[hm]at z;have:bV=m:=by have:=Z5 z;omega
    subst this;exact G.W a
  .refine (sR (h.W a) (.inr e)).Y ?_;rintro r ab _ ⟨rfl,q⟩;rw[m5 Ω];exact⟨(λh=>by cases h),λ_ _=>⟨rfl,a.F q⟩,λ_ h=>m6 h e⟩
end
def ft(of:Int->Int)(p:Int×Int)(v:Int):Int×Int:=if p.2= -1\/of v<p.1 then(of v,v)else p
def dC(k:Int)(l:Λ)(of:Int->Int):Int×Int:=l.foldl (ft of) (k,-1)
theorem lr{s:am}{n:aI}{i:Int}{b m:Nat}{x:bo}(h:vf s n i b m)(e:0<=i)(J:s.d9[i.toNat]?=σ x):(gV b m).map (λv:Nat=>(v:Int))=aG x:=by
 obtain⟨_,_,f⟩:=h;obtain⟨rfl,j⟩:=f x e J;unfold gV aG;rw[List.filter_map];congr 1;refine List.filter_congr λq a=>?_;have a:=List.mem_range.1 a;rw[j,ms a,S7];rfl
section
variable{w:x5}{af ag:Nat}{A R:aj}{n:aI}{s:am}{t:aB}
theorem Rl{a b:Int}(h:bC w af ag A R n s t)(f:0<=a/\a<=n.k)(j:0<=b/\b<=n.k):aq x8 KE [Γ af,Δ a,Δ b] w λv I=>v=Δ (min (a+b) n.k)/\Ext w I:=by
 refine aE func227 ?_;refine(nS h).Y ?_;rintro _ U _ ⟨rfl,q⟩;refine(xD).Y ?_;rintro _ ab _ ⟨rfl,r⟩;have hk:=h.2.2.2.1.eI;have e:pE a b n.k= .tuple #[Δ (min (a+b) n.k),Δ 0]:=by
  unfold pE;rw[m3 (show cE a n.k/\cE b n.k from⟨⟨hk,f⟩,⟨hk,j⟩⟩)]
 rw[e,bA,bB];exact⟨rfl,q.F r⟩
def lu(n:aI)(s:am)(i:Int):Bool:=decide (0<=i/\i<n.d6.length)&& !dh s i.toNat
theorem Rm{i:Int}(h:bC w af ag A R n s t):aq x8 Kx [Γ af,Δ i] w λv I=>v=Δ (if lu n s i=s2 then 0 else 1)/\Ext w I:=by
 refine aE func219 ?_;rw[dj eD.u];simp only[b9,bb];refine a6 (λv U=>v= .bool (!lu n s i)/\Ext w U) ?_ ?_
 .rintro _ U ⟨rfl,a⟩;rw[b4];refine⟨λj=>⟨by rw[m5 (by simpa using j)],a⟩,λj=>⟨by rw[m3 (by simpa using j)],a⟩⟩
 intro az q;refine(ve h).Y ?_;rintro _ U _ ⟨rfl,a⟩;rw[b4];refine⟨λe=>q _ _ ⟨?_,a⟩,λe=>?_⟩
 .rw[T9]at e;unfold lu;rw[e.2,Y7,Bool.and_false];rfl
 refine(jv (i:=i) (h.W a)).Y ?_;rintro _ ab _ ⟨⟨b,m,rfl,H,B,C⟩,E⟩;refine(xn).Y ?_;rintro _ J _ ⟨rfl,G⟩;rw[bl];refine q _ _ ⟨?_,(a.F E).F G⟩;congr 1;have K:=h.2.2.2.1.d9;unfold lu;by_cases f:0<=i/\i<n.d6.length
 .obtain⟨x,r⟩:=aJ (l:=s.d9) (i:=i.toNat) Ω;obtain⟨z,y⟩:=aJ (l:=n.d6) (i:=i.toNat) Ω;have h1:=(h.2.2.2.1.var i.toNat x z r y).1;have L:=h.2.2.2.1.eQ.2.2 z (x7 y);have hm:=(C x f.1 r).1;rw[ms f.1,S7]at e;rw[ms f,e,rc Ω];rfl
 .rw[rc f,(B f).2];rfl
def yP(w:x5)(l3:Nat)(cap:Array x4)(l:Λ)(of:Int->Int):Prop:=∀(I:x5)(v:Int),Ext w I->v∈l->aq x8 l3 (Δ v::cap.toList) I λr a=>r=Δ (of v)/\Ext I a
theorem Fv{i:Int}{x:bo}{of:Int->Int}{l3:Nat}{cap:Array x4}(h:bC w af ag A R n s t)(N:Laid w)(aN:0<=i)(J:s.d9[i.toNat]?=σ x)(aO:yP w l3 cap (aG x) of):
  aq x8 Ky [Γ af,Δ i,.func (.func l3) #[] cap] w λr I=>Ext w I/\r= .tuple #[Δ (dC n.k (aG x) of).1,Δ (dC n.k (aG x) of).2]:=by
 refine jh func220 ?_;refine br λaP U bd O E=>?_;have E:=E;refine(nS (h.W O)).Y ?_;rintro _ ab _ ⟨rfl,G⟩;refine bF ay.i λP be bf an ap=>?_;refine bF al.i λga bg bh Q au=>?_;have bj:=(O.F G).size;have z3:=an.size;have z4:=Q.size;refine bs ay.i rfl rfl (ap.W Q) Φ λbk av bm aQ=>?_;have bn:=ap.lt;have bp:=au.lt;refine bs al.i rfl rfl (au.aa av Ω) Φ λbq aw bt aR=>?_;have aS:=aQ.aa aw Ω;have ax:=((an.F Q).then av λr a he=>by have he:r=P:=he;omega).put aw Ω;have aA:=(O.F G).F ax;refine(jv (i:=i) (h.W aA)).Y ?_;rintro _ bu _ ⟨⟨b,m,rfl,V⟩,aB⟩;refine(mE).Y ?_;rintro _ W _ ⟨aT,bi,rfl,bw,X⟩;have bx:=V.1;have aC:=lr V aN J;have B:=aB.F aT;have y:=aA.F B;have bz:=y.size;have bA:=B.size;have bB:=E.lt;have bD:=aB.size;have z12:=G.size;obtain⟨S,H⟩:∃S:aj,S=λr=>r=P\/r=ga:=⟨_,rfl⟩;have K:∀r,S r->w.heap.size<=r:=λr a=>by rw[H]at a;rcases a with rfl|rfl<;>omega
 have Y:∀r,S r->r≠aP/\r≠bi:=λr a=>by rw[H]at a;rcases a with rfl|rfl<;>omega
 let st:Nat->Int×Int:=λj=>((aG x).take j).foldl (ft of) (n.k,-1);have aU:=E.W (G.F (ax.F B));refine ky.old ⟨_,sp,jG,#[Γ bi],_,_,_,_,λj I=>ai S W I/\ak I P ay [Δ (st j).1]/\ak I ga al [Δ (st j).2],λ_ _ _=>False,rfl,(mD (g:=bi) V.1).s,?_,
  λ_ _ J h=>⟨h.1.W J,h.2.W J⟩,λ_ _ _ J h=>⟨h.1.F (J.aa S),h.2.1.W J,h.2.2.W J⟩,λ_ _ _ _ _ h=>h,⟨X,N.W y⟩,⟨ai.refl _ _,aS.W B,aR.W B⟩,?_,?_,λ_ _ h=>h.elim,λ_ _ _ h=>h.elim⟩
 .rintro _ _ _ _ ⟨_,_,_,_,rfl⟩;rfl
 .rintro _ j _ aV ⟨_,_⟩ ⟨bE,rfl,v,ac,aX⟩ ⟨z,L,M⟩;cases aX;intro aD f _ _;have aE:(aG x)[j]?=σ (v:Int):=by rw[<-aC,u4,ac];rfl
  have aH:st (j+1)=ft of (st j) v:=by
   show((aG x).take (j+1)).foldl _ _=_;rw[u9,aE,List.foldl_append];rfl
  have aY:=((y.then z λr a h=>by have:=K r h;omega)).F f;have aZ:=(aU.aa z λh=>(Y _ h).1 rfl).W f;rw[aF Ψ (aZ.cell rfl)];refine aq.Y (aO aD v aY (x7 aE)) ?_;rintro _ aI _ ⟨rfl,Z⟩;have ad:=f.F Z;have ae:=L.W ad;have ah:=M.W ad;refine a6 (λr am=>r= .bool (decide ((st j).2= -1\/of v<(st j).1))/\Ext aI am) ?_ ?_
  .rintro _ am ⟨rfl,C⟩;have aJ:=ad.F C;rw[ao];refine⟨λa1=>?_,λa2=>?_⟩
   .refine bs ay.i rfl rfl (ae.W C) Ξ λbG aK bH a7=>?_;refine bs al.i rfl rfl ((ah.W C).aa aK Ω) Ξ λa8 aL bI ba=>?_;have bb:=a7.aa aL Ω;have q:ai S W a8:=((z.F (aJ.aa S)).F (aK.Y λr _ h=>by rw[H];exact .inl h)).F (aL.Y λr _ h=>by rw[H];exact .inr h);have e:st (j+1)=(of v,(v:Int)):=by rw[aH];unfold ft;rw[m3 a1]
    refine⟨⟨X.aa q λh=>(Y _ h).2 rfl,(N.W (y.then q λr a h=>by have:=K r h;omega))⟩,⟨q,?_,?_⟩,λh=>by cases h⟩
    .rw[e];exact bb
    .rw[e];exact ba
   .have e:st (j+1)=st j:=by rw[aH];unfold ft;rw[m5 a2]
    have q:ai S W am:=z.F (aJ.aa S);refine⟨⟨X.aa q λh=>(Y _ h).2 rfl,(N.W (y.then q λr a h=>by have:=K r h;omega))⟩,⟨q,?_,?_⟩,λh=>by cases h⟩
    .rw[e];exact ae.W C
    .rw[e];exact ah.W C
  .intro az aM;rw[aF Ψ (ah.cell rfl),bl,ao];refine⟨λh1=>aM _ _ ⟨by rw[ms (.inl h1)],Ext.refl _⟩,λh1=>?_⟩;rw[aF Ψ (ae.cell rfl),aW];refine aM _ _ ⟨?_,Ext.refl _⟩;congr 1;exact decide_eq_decide.2 ⟨.inr,λh=>h.resolve_left h1⟩
 .rintro k aV rfl ⟨z,L,M⟩;intro aD f _ _;have bc:st (gV b m).length=dC n.k (aG x) of:=by
   show((aG x).take _).foldl _ _=_;rw[j5 (by rw[<-aC,r9];exact o6 _)];rfl
  rw[bc]at L M;rw[aF Ψ ((L.W f).cell rfl),aF Ψ ((M.W f).cell rfl)];intro aI Z _;exact⟨((y.then z λr a h=>by have:=K r h;omega).F f).F Z,rfl⟩
end
theorem yQ{x:bo}(h:v∈aG x):0<=v/\v<x.un.length:=by
 unfold aG at h;obtain⟨h,_⟩:=S6.1 h;obtain⟨q,a,rfl⟩:=l9.1 h;have:=List.mem_range.1 a;omega
theorem Fw{s:am}{n:aI}{i:Int}{b m:Nat}{x:bo}(h:vf s n i b m)(e:0<=i)(J:s.d9[i.toNat]?=σ x):(decide (0<=v/\v<m)&&b.testBit v.toNat)=decide (v∈aG x):=by
 obtain⟨_,_,f⟩:=h;obtain⟨rfl,j⟩:=f x e J;by_cases ac:0<=v/\v<x.un.length
 .rw[ms ac,S7,j,ms (show v.toNat<x.un.length by omega),S7,show((v.toNat:Nat):Int)=v by omega];have:=Fq ac;cases a:dropped x.mask v with
  |false=>rw[ms (this.2 a)];rfl
  |true=>rw[rc λh=>by rw[this.1 h]at a;cases a];rfl
 .rw[rc ac,rc λh=>ac (yQ h)];rfl
def dY(s:am)(j:Nat)(tl:Λ):Int:=if(iK s j tl).isSome then mX s j tl else 0
def bM(n:aI)(s:am)(i v:Int):Int:=if eB n i v then fs s i.toNat v.toNat else 0
theorem vl{s:am}(a:bc k d6 s):0<=dY s j tl/\dY s j tl<=k:=by
 have hk:=a.eI;unfold dY;cases q:iK s j tl with
 |none=>simp;omega
 |some p=>
  obtain⟨r,f,ah,w,m,hm,h,rfl⟩:=yK a q;rw[T8,m3 rfl];have e:mX s j tl=f.cs.getD m 0:=by
   unfold mX bz;rw[ah];simp only;rw[hm];rfl
  rw[e,r8,v8 h];exact(a.ho f (x7 ah)).1.iY _ (S3 h)
theorem kQ{n:aI}{s:am}{i:Int}(a:bc n.k n.d6 s):0<=bM n s i v/\bM n s i v<=n.k:=by
 have hk:=a.eI;have q:=a.d9;unfold bM;split
 .rename_i h;obtain⟨x,e,f,_⟩:=h.var a;obtain⟨z,j⟩:∃z,n.d6[i.toNat]?=σ z:=⟨_,v8 (by have:=(x6.1 e).1;omega)⟩;have:=(a.var i.toNat x z e j).2.1;unfold fs;rw[e];simp only;rw[r8,v8 f];exact this _ (S3 f)
 .omega
section
variable{w:x5}{af ag:Nat}{A R:aj}{n:aI}{s:am}{t:aB}
theorem Fx(h:bC w af ag A R n s t)(f:aQ .i64 w aX tl)(q:∀e I,Ext w I->K (.tuple #[Δ (dY s j tl),Δ e]) I):aq x8 wL [Γ af,Δ (j:Int),aX] w K:=by
 refine(vh h f).Y ?_;rintro _ U _ ⟨rfl,a⟩;have:=q;unfold dY at this;split
 .rename_i V;rw[m3 V]at this;exact this 0 U a
 .rename_i V;rw[m5 V]at this;exact this 1 U a
theorem Fy{i:Int}(h:bC w af ag A R n s t)(f:∀e I,Ext w I->K (.tuple #[Δ (bM n s i v),Δ e]) I):aq x8 wK [Γ af,Δ i,Δ v] w K:=by
 refine(pV h).Y ?_;rintro _ U _ ⟨rfl,a⟩;have:=f;unfold bM at this;split
 .rename_i V;rw[m3 V]at this;exact this 0 U a
 .rename_i V;rw[m5 V]at this;exact this 1 U a
theorem Rn{i:Int}(h:bC w af ag A R n s t):aq x8 Kz [Γ af,Δ i] w λr I=>Ext w I/\∃cap,r= .func (.func Bp) #[] cap/\∀l,yP I Bp cap l (bM n s i):=by
 refine aE func221 ?_;refine br λg1 U B y a=>?_;refine br λC ab E q f=>?_;rw[lM];have x:=y.F q;refine⟨x,_,rfl,λl I v j _=>?_⟩;refine aE func270 ?_;have a:=a;have f:=f;rw[aF Ψ (((a.W q).W j).cell rfl),aF Ψ ((f.W j).cell rfl)];refine Fy (h.W (x.F j)) λe G z=>?_;rw[bA,bB];exact⟨rfl,z⟩
theorem Fz{i:Int}(f:bc n.k n.d6 s)(h:lu n s i=s2):0<=i/\∃x,s.d9[i.toNat]?=σ x/\x.gone=0:=by
 unfold lu at h;rw[T9]at h;have h1:=rs h.1;have j:=f.d9;obtain⟨x,e⟩:=aJ (l:=s.d9) (i:=i.toNat) Ω;have a:=h.2;unfold dh at a;rw[e]at a;exact⟨h1.1,x,e,by simpa using a⟩
theorem Ro{i:Int}(h:bC w af ag A R n s t)(q:Laid w):aq x8 A7 [Γ af,Δ i] w λr I=>Ext w I/\(lu n s i=sp->r= .tuple #[Δ 0,Δ (-1),Δ 1])/\
  ∀x,lu n s i=s2->s.d9[i.toNat]?=σ x->r= .tuple #[Δ (dC n.k (aG x) (bM n s i)).1,Δ (dC n.k (aG x) (bM n s i)).2,Δ 0]:=by
 refine aE func159 ?_;refine(Rm h).Y ?_;rintro _ U _ ⟨rfl,a⟩;cases ac:lu n s i with
 |false=>
  rw[m5 Φ,bO,ao];exact⟨λ_=>⟨a,λ_=>rfl,λ_ h=>by cases h⟩,λh=>m6 Φ h⟩
 |true=>
  obtain⟨y,x,f,_⟩:=Fz h.2.2.2.1 ac;rw[m3 rfl,bO,ao];refine⟨λh=>m6 rfl h,λ_=>?_⟩;refine(Rn (h.W a)).Y ?_;rintro _ ab _ ⟨z,cap,rfl,B⟩;have e:=a.F z;refine(Fv (h.W e) (q.W e) y f (B _)).Y ?_;rintro _ E _ ⟨C,rfl⟩;rw[bA,bB];exact⟨e.F C,(λh=>by cases h),λG _ j=>by rw[f]at j;cases j;rfl⟩
theorem l4{f:bP}(h:bC w af ag A R n s t)(ah:s.ho[j]?=σ f):aq x8 rG [Γ af,Δ (j:Int)] w λr I=>Ext w I/\∃g,w.heap.size<=g/\aH .i64 al I g r f.sc:=by
 have H:=(x6.1 ah).1;refine aE func54 ?_;refine a6 (λv U=>v= .bool sp/\Ext w U) ?_ ?_
 .rintro _ U ⟨rfl,a⟩;rw[bb];obtain⟨J,K,M,N,bi,O,L,P,z,Q,S,V,q,e⟩:=(h.W a).1.parts;obtain⟨y,x⟩:∃y,L[j]?=σ y:=⟨_,v8 (by rw[e.1];omega)⟩;obtain⟨B,_,_⟩:=e.2 j y f x ah;rw[aO cX.p 3 z rfl,ct rfl gp.u gq.i q (by rw[e.1];omega),aZ gq.p rfl,aF Ψ (q.range x 0 _ rfl)];have W:f.sc.length<=6:=(h.2.2.2.1.ho f (x7 ah)).1.scope.2;refine(my B.ls Ω).Y ?_;rintro v ab _ ⟨C,g,X,hm⟩;have:=a.size;exact⟨a.F C,g,Ω,hm⟩
 intro az E;rw[aW,ao];refine⟨λY=>Ω,λ_=>?_⟩;refine(q6 h).Y ?_;rintro _ Z _ ⟨rfl,G⟩;rw[cU];exact E _ _ ⟨by rw[rc Ω],G⟩
structure nT(s:am)(j pos v:Int)(f:bP)(u:Int)(x:bo):Prop where
 FA:0<=j
 ah:s.ho[j.toNat]?=σ f
 live:f.live≠0
 eK:0<=pos
 hu:f.sc[pos.toNat]?=σ u
 oK:0<=u
 J:s.d9[u.toNat]?=σ x
 ac:v∈aG x
theorem Rp{j pos:Int}(h:bC w af ag A R n s t):aq x8 JU [Γ af,Δ j,Δ pos,Δ v] w λr I=>Ext w I/\∃e:Int,r=Δ e/\(e=0\/e=1)/\(e=0↔ ∃f u x,nT s j pos v f u x):=by
 have av:=h.2.2.2.1.d9;refine aE func165 ?_;rw[dj eD.u];simp only[b9,bb];have key:∀(K:x4->x5->Prop),(∀r I,Ext w I->(∀f,0<=j->s.ho[j.toNat]?=σ f->aQ .i64 I r f.sc)->K r I)->aq x8 rG [Γ af,Δ j] w K:=λK N=>by
  by_cases O:0<=j/\j<s.ho.length
  .obtain⟨f,ah⟩:=aJ (l:=s.ho) (i:=j.toNat) Ω;have:=l4 h ah;rw[show((j.toNat:Nat):Int)=j by omega]at this;refine this.Y ?_;rintro r U _ ⟨a,g,_,hm⟩;exact N r U a λq _ P=>by rw[ah]at P;cases P;exact hm.ls
  .refine (Fs h O).Y ?_;rintro r U _ ⟨rfl,a⟩;exact N _ U a λf C ah=>m6 ⟨C,by have:=(x6.1 ah).1;omega⟩ O
 refine key _ λr U a aj=>?_;refine a6 (λak ab=>∃b,ak= .bool b/\(b=sp↔ ∃f u x,nT s j pos v f u x)/\Ext w ab) ?_ ?_
 .rintro _ ab ⟨b,rfl,E,Q⟩;rw[b4];refine⟨λS=>⟨Q,1,rfl,.inr rfl,⟨(λh=>by cases h),λh=>by rw[E.2 h]at S;cases S⟩⟩,λah=>⟨Q,0,rfl,.inl rfl,⟨λ_=>E.1 ah,λ_=>rfl⟩⟩⟩
 intro az G;refine(sO (h.W a)).Y ?_;rintro _ aw _ ⟨rfl,V⟩;have z:=a.F V;rw[bR,b4];refine⟨λH=>G _ _ ⟨s2,rfl,⟨(λh=>by cases h),λ⟨f,u,x,ae⟩=>?_⟩,z⟩,λL=>?_⟩
 .rw[ms ae.FA,S7]at H;unfold e0 at H;rw[ae.ah]at H;simp[ae.live]at H
 have L:0<=j/\e0 s j.toNat=s2:=by simpa using L
 obtain⟨C,B⟩:=L;obtain⟨f,ah,am⟩:∃f,s.ho[j.toNat]?=σ f/\f.live≠0:=by
  unfold e0 at B;cases ah:s.ho[j.toNat]? with
  |none=>rw[ah]at B;cases B
  |some f=>rw[ah]at B;exact⟨f,rfl,by simpa using B⟩
 have W:=(aj f C ah).W V;have X:=(h.2.2.2.1.ho f (x7 ah)).1;have same:∀{q u x},nT s j pos v q u x->q=f:=λae=>by have:=ae.ah;rw[ah]at this;cases this;rfl
 rw[aW,ao];refine⟨λax=>G _ _ ⟨s2,rfl,⟨(λh=>by cases h),λ⟨f,u,x,ae⟩=>by have:=ae.eK;omega⟩,z⟩,λay=>?_⟩;rw[ba au.u W,cU,ao];refine⟨λaA=>G _ _ ⟨s2,rfl,⟨(λh=>by cases h),λ⟨q,u,x,ae⟩=>?_⟩,z⟩,λaB=>?_⟩
 .obtain rfl:=same ae;have:=(x6.1 ae.hu).1;omega
 obtain⟨u,hu⟩:=aJ (l:=f.sc) (i:=pos.toNat) Ω;have Y:=x7 hu;have Z:=(X.scope.1 u Y).1;have aC:=X.d9 u Y;obtain⟨x,M⟩:=aJ (l:=s.d9) (i:=u.toNat) Ω;rw[fz (y:=pos) (i:=pos.toNat) Ω au.u al.i Ψ W hu];refine(jv (i:=u) (h.W z)).Y ?_;rintro _ aD _ ⟨⟨b,m,rfl,aa⟩,an⟩;refine(Fi aa.1).Y ?_;rintro _ aF _ ⟨rfl,ap⟩;rw[Fw aa Z M,bR];refine G _ _ ⟨_,rfl,⟨λE=>⟨f,u,x,C,ah,am,Ω,hu,Z,M,by simpa using E⟩,λ⟨q,u',aG,ae⟩=>?_⟩,(z.F an).F ap⟩;obtain rfl:=same ae;have ad:=ae.hu;rw[hu]at ad;cases ad;have ai:=ae.J;rw[M]at ai;cases ai;rw[ms ae.ac];rfl
end
def aY(s:am)(i:Int):Λ:=match s.d9[i.toNat]? with
 |some x=>aG x
 |none=>[]
def pX(s:am)(sc:Λ)(pos:Int):Nat->Nat->Λ->List (Λ)
 |0,_,tl=>[tl]
 |m+1,p,tl=>if(p:Int)=pos then pX s sc pos m (p+1) tl else(aY s (sc.getD p 0)).flatMap λv=>pX s sc pos m (p+1) (tl.set p v)
section
variable{af ag:Nat}{A R:aj}{n:aI}{s:am}{t:aB}
end
def kt(s:am)(pos:Nat)(v:Int):Λ->Nat->List (Λ)
 |[],_=>[]
 |u::sc,p=>(if p=pos then[v]else aY s u)::kt s pos v sc (p+1)
def cm(s:am)(sc:Λ)(pos:Nat)(v:Int):List (Λ):=iL (kt s pos v sc 0)
theorem yR{s:am}{sc:Λ}{pos:Nat}{v:Int}:∀(m p:Nat)(tl:Λ),sc.length=p+m->tl.length=sc.length->(p<=pos->tl[pos]?=σ v)->
  pX s sc pos m p tl=(iL (kt s pos v (sc.drop p) p)).map (tl.take p++ ·)
 |0,p,tl,h1,f,a=>by
  grind [pX,kt,iL]
 |m+1,p,tl,h1,f,a=>by
  have ae:p<sc.length:=Ω
  obtain⟨u,hu⟩:=aJ (l:=sc) ae;have q:sc.drop p=u::sc.drop (p+1):=by grind [X2]
  have r:sc.getD p 0=u:=by grind
  rw[q];unfold pX kt;rw[iL];by_cases j:p=pos
  .have w:=a Ω;rw[m3 Ω,m3 j,List.flatMap_singleton,yR m (p+1) tl Ω f (λ_=>w),T6]
   grind [List.map_congr_left,u9]
  .rw[m5 Ω,m5 j,r,List.map_flatMap];congr 1;funext x;have e:(tl.set p x).take (p+1)=tl.take p++[x]:=by grind [u9,List.take_set_of_le]
   rw[yR m (p+1) (tl.set p x) Ω (by grind) (λh=>by rw[Y8 Ω];exact a Ω),T6,e]
   grind [List.map_congr_left]
theorem Rq{s:am}{sc:Λ}(h:pos<sc.length):pX s sc pos sc.length 0 ((o5 sc.length 0).set pos v)=cm s sc pos v:=by
 rw[yR sc.length 0 _ Ω Ξ (λ_=>by rw[Z6 (by grind)])];unfold cm;simp
def pY(s:am)(pos:Nat)(v:Int):Λ->Nat->List (Int->Bool)
 |[],_=>[]
 |u::sc,p=>(λx=>(decide (p=pos->x=v))&&decide (x∈aY s u))::pY s pos v sc (p+1)
theorem Rr(h:0<=v/\v<k):(jw k).filter (λx=>decide (x=v))=[v]:=by
 have a:(jw k).Nodup:=by
  grind [jw,List.nodup_range]
 have hm:v∈jw k:=sQ.2 h;generalize jw k=l at a hm;induction l<;>grind [List.filter_eq_nil_iff]
section
variable{k:Int}{d6:Λ}{s:am}{v:Int}{pos:Nat}
theorem Rs{u:Int}(a:bc k d6 s)(h:0<=u/\u<d6.length):(jw (d6.getD u.toNat 0)).filter (λx=>decide (x∈aY s u))=aY s u:=by
 have f:=a.d9;obtain⟨x,J⟩:=aJ (l:=s.d9) (i:=u.toNat) Ω;obtain⟨z,e⟩:=aJ (l:=d6) (i:=u.toNat) Ω;have h1:=(a.var _ x z J e).1
 grind [aY,aG,jw,List.filter_congr]
theorem FB(a:bc k d6 s):∀(sc:Λ)(p:Nat),(∀u∈sc,0<=u/\u<d6.length)->(∀u,p<=pos->sc[pos-p]?=σ u->v∈aY s u)->
  kt s pos v sc p=(((b6 d6 sc).map jw).zip (pY s pos v sc p)).map λq=>q.1.filter q.2
 |[],p,_,_=>rfl
 |u::sc,p,hu,ac=>by
  have e:=FB a sc (p+1) (by grind) (by grind);have f:=hu u (.head _);have h:=Rs a f;show(if p=pos then[v]else aY s u)::kt s pos v sc (p+1)=(jw (d6.getD u.toNat 0)).filter (λx=>decide (p=pos->x=v)&&decide (x∈aY s u))::((((b6 d6 sc).map jw).zip (pY s pos v sc (p+1))).map λq=>q.1.filter q.2);rw[<-e];congr 1;by_cases ae:p=pos
  .rw[m3 ae];have j:v∈aY s u:=by grind
   grind [Rr,sQ]
  grind
theorem Rt:∀(sc:Λ)(p:Nat),(pY s pos v sc p).length=sc.length
 :=by
 intro a;induction a<;>grind [pY]
theorem yS{sc:Λ}(a:bc k d6 s)(e:∀u∈sc,0<=u/\u<d6.length)(ac:∀u,sc[pos]?=σ u->v∈aY s u):
  cm s sc pos v=(bt (b6 d6 sc)).filter (pW (pY s pos v sc 0)):=by
 grind [cm,FB,Ft,Rt,b6,yN]
end
theorem yT{k:Int}:∀(l:Λ)(z:Int),z<=k->(∀c∈l,0<=c)->l.foldl (λa c=>min (a+c) k) z=min (z+l.sum) k
 |[],z,h,_=>Θ
 |c::l,z,h,e=>by
  have V:∀(l:Λ),(∀c∈l,0<=c)->0<=l.sum:=λl=>by
   induction l with
   |nil=>grind
   |cons a l f=>intro h;have:=f λc e=>h c (.tail _ e);have:=h a (.head _);grind
  have h1:=e c (.head _);have j:=V l λc h=>e c (.tail _ h);rw[List.foldl_cons,yT l _ Ω (by grind),List.sum_cons];omega
def dZ(p:bo×Int):Int:=if p.1.gone≠0 then 0 else p.1.un.getD p.2.toNat 0
def fU(a:Λ)(f:bP):Int:=if f.live≠0 then bz f.an f.cs (ko a f.sc)else 0
theorem foldl_map'{α β e:Type}(g:α->β)(h:e->β->e)(be:e->α->e)(P:e->Prop)(ax:∀c a,P c->be c a=h c (g a))(f:∀c a,P c->P (be c a)):∀(l:List α)(c:e),P c->l.foldl be c=(l.map g).foldl h c
 :=by
 intro a;induction a<;>grind
theorem yU{i:Nat}{x:Int}(h:l[i]?=σ x):(l.set i y).sum=l.sum-x+y:=by
 induction l generalizing i with
 |nil=>simp at h
 |cons a l e=>
  cases i<;>grind
def cJ(k a c:Int):Int:=if a=k then k else a-c
def b2(k a c:Int):Int:=min (a+c) k
theorem vm{r g u:Int}(a:0<=r)(e:c<=g/\g<=k)(hu:0<=u/\u<=k)(f:0<=c):min (r+cJ k g c+b2 k u c) k=min (r+g+u) k:=by
 grind [cJ,b2]
theorem pZ:∀(l:Λ),(∀c∈l,0<=c)->0<=l.sum
 |[],_=>Ξ
 |a::l,h=>by have:=pZ l (by grind);have:=h a (.head _);grind
theorem sS:∀{l:Λ}{i:Nat}{x:Int},(∀c∈l,0<=c)->l[i]?=σ x->x<=l.sum
 |[],_,_,_,h=>by simp at h
 |a::l,0,x,e,h=>by
  simp at h;subst h;have:=pZ l (by grind)
  grind
 |a::l,i+1,x,e,h=>by
  have:=sS (by grind) (show l[i]?=σ x by grind);have:=e a (.head _)
  grind
theorem FC{i:Nat}(hk:0<=k)(h:∀c∈l,0<=c/\c<=k):0<=l.getD i 0/\l.getD i 0<=k:=by
 rw[r8];cases a:l[i]? with
 |none=>grind
 |some c=>exact h c (x7 a)
theorem FD{f:Int->Int}{m:Int}(V:dU an)(a:cs.length=(bt an).length)(hi:cr an t 0=σ m):bz an (ek f L an cs) t=if t∈L then f (bz an cs t)else bz an cs t:=by
 grind [ou,q8,bz]
section
variable{k:Int}{d6 a:Λ}{s:am}
theorem Ru{i:Nat}{p:bo×Int}(e:bc k d6 s)(h:(s.d9.zip a)[i]?=σ p):0<=dZ p/\dZ p<=k:=by
 have hk:=e.eI;obtain⟨h1,_⟩:=List.getElem?_zip_eq_some.1 h;have f:=(x6.1 h1).1;have j:=e.d9;have:=e.var i p.1 _ h1 (v8 Ω);unfold dZ;split
 .omega
 .exact FC Ω this.2.1
theorem Rv{f:bP}(e:bc k d6 s)(h:f∈s.ho):0<=fU a f/\fU a f<=k:=by
 have hk:=e.eI;have:=(e.ho f h).1.iY;unfold fU;split
 .exact (uT e.eI λc j=>⟨e.eI,this c j⟩).2
 .omega
theorem sT(e:bc k d6 s):∀c∈(s.d9.zip a).map dZ,0<=c:=λc f=>by
 obtain⟨p,ae,rfl⟩:=l9.1 f;obtain⟨i,hi⟩:=Y5.1 ae;exact(Ru e hi).1
theorem q9(e:bc k d6 s):∀c∈s.ho.map (fU a),0<=c:=λc f=>by
 obtain⟨p,ae,rfl⟩:=l9.1 f;exact(Rv e ae).1
theorem oL(e:bc k d6 s):ej k s a=if(s.d9.zip a).all gj then min (s.zero+((s.d9.zip a).map dZ).sum+(s.ho.map (fU a)).sum) k else k:=by
 have h1:(s.d9.zip a).foldl (mQ k) s.zero=((s.d9.zip a).map dZ).foldl (λx c=>min (x+c) k) s.zero:=by
  refine foldl_map' dZ (λx c=>min (x+c) k) (mQ k) (λc=>c<=k) (λc p f=>?_) (λc p f=>?_) _ _ e.zero.2
  all_goals grind [mQ,dZ]
 have h:∀z,z<=k->s.ho.foldl (lY k a) z=(s.ho.map (fU a)).foldl (λx c=>min (x+c) k) z:=λz j=>by
  refine foldl_map' (fU a) (λx c=>min (x+c) k) (lY k a) (λc=>c<=k) (λc p f=>?_) (λc p f=>?_) _ _ j
  all_goals grind [lY,fU]
 unfold ej;split
 .rw[h1,yT _ _ e.zero.2 (sT e),h _ Ω,yT _ _ Ω (q9 e)];have:=pZ _ (q9 (a:=a) e);omega
 .rfl
theorem vn{α β:Type}:∀{l:List α}{m:List β}{i:Nat}{x:α}{y:β},m[i]?=σ y->(l.set i x).zip m=(l.zip m).set i (x,y)
 |[],_,_,_,_,_=>Ξ
 |_::_,[],_,_,_,h=>by simp at h
 |a::l,b::m,0,x,y,h=>by simp at h;subst h;rfl
 |a::l,b::m,i+1,x,y,h=>by
  rw[List.set_cons_succ,List.zip_cons_cons,List.zip_cons_cons,List.set_cons_succ,vn (by simpa using h)]
theorem vo{α:Type}{q:α->Bool}:∀{l:List α}{i:Nat}{x y:α},l[i]?=σ x->q y=q x->(l.set i y).all q=l.all q
 |[],_,_,_,h,_=>by simp at h
 |a::l,0,x,y,h,e=>by grind
 |a::l,i+1,x,y,h,e=>by rw[List.set_cons_succ,List.all_cons,List.all_cons,vo (by grind) e]
def eS(s:am)(u:Nat)(x:bo)(un:Λ):am:={s with d9:=s.d9.set u {x with un:=un}}
def en(s:am)(j:Nat)(f:bP)(cs:Λ):am:={s with ho:=s.ho.set j {f with cs:=cs}}
theorem yV{u:Nat}{x:bo}{un:Λ}(a:bc k d6 s)(J:s.d9[u]?=σ x)(e:un.length=x.un.length)(f:∀c∈un,0<=c/\c<=k):bc k d6 (eS s u x un):=by
 have h:=(x6.1 J).1;have j:=a.d9;have h1:=a.var u x _ J (v8 Ω);exact a.vi J e f h1.2.2
theorem FE{f:bP}(a:bc k d6 s)(ah:s.ho[j]?=σ f)(e:cs.length=f.cs.length)(h:∀c∈cs,0<=c/\c<=k):bc k d6 (en s j f cs):=a.Fm ah rfl rfl e h
theorem Rw{u:Nat}{x:bo}{f:bP}{un:Λ}{bx:Int}(e:bc k d6 s)(J:s.d9[u]?=σ x)(ah:s.ho[j]?=σ f)(y:un.length=x.un.length)(z:∀c∈un,0<=c/\c<=k)(A:cs.length=f.cs.length)(B:∀c∈cs,0<=c/\c<=k)(q:a[u]?=σ bx)(h:(s.d9.zip a).all gj=s2->∀r,0<=r->min (r+fU a {f with cs:=cs}+dZ ({x with un:=un},bx)) k=min (r+fU a f+dZ (x,bx)) k):ej k (eS (en s j f cs) u x un) a=ej k s a:=by
 have C:=FE e ah A B;have E:=yV C J y z;rw[oL E,oL e];have w:(s.d9.zip a)[u]?=σ (x,bx):=List.getElem?_zip_eq_some.2 ⟨J,q⟩;have F:((eS (en s j f cs) u x un).d9.zip a)=(s.d9.zip a).set u ({x with un:=un},bx):=vn q;have G:((s.d9.zip a).set u ({x with un:=un},bx)).all gj=(s.d9.zip a).all gj:=vo w rfl;rw[F,G];split
 .rename_i H;have I:(((s.d9.zip a).set u ({x with un:=un},bx)).map dZ).sum=((s.d9.zip a).map dZ).sum-dZ (x,bx)+dZ ({x with un:=un},bx):=by
   grind [U2,yU]
  have K:((eS (en s j f cs) u x un).ho.map (fU a)).sum=(s.ho.map (fU a)).sum-fU a f+fU a {f with cs:=cs}:=by
   show((s.ho.set j {f with cs:=cs}).map (fU a)).sum=_
   grind [U2,yU]
  have h1:=sS (sT e) (by rw[u4,w];rfl);have L:=sS (q9 (a:=a) e) (by rw[u4,ah];rfl);have M:=e.zero.1;have N:=h H (s.zero+(((s.d9.zip a).map dZ).sum-dZ (x,bx))+((s.ho.map (fU a)).sum-fU a f)) Ω;rw[I,K];show min (s.zero+_+_) k=_;omega
 .rfl
end
theorem FF{s:am}:∀(sc:Λ)(p q:Nat),(kt s pos v sc p)[q]?=(sc[q]?).map λu=>if p+q=pos then[v]else aY s u
 :=by
 intro a;induction a<;>grind [kt]
theorem Rx{s:am}:∀(sc:Λ)(p:Nat),(kt s pos v sc p).length=sc.length
 :=by
 intro a;induction a<;>grind [kt]
theorem oM{s:am}{sc:Λ}:t∈cm s sc pos v↔t.length=sc.length/\∀(p:Nat)u w,sc[p]?=σ u->t[p]?=σ w->if p=pos then w=v else w∈aY s u:=by
 unfold cm;rw[sP,Rx];refine and_congr_right λ_=>⟨λh p u w hu hw=>?_,λh p d w a hw=>?_⟩
 .have:w∈if 0+p=pos then[v]else aY s u:=by grind [FF]
  grind
 grind [FF]
theorem fu{x:bo}:v∈aG x↔(0<=v/\v<x.un.length)/\dropped x.mask v=sp:=by
 unfold aG;rw[S6];refine and_congr ?_ Ξ;have:=sQ (k:=(x.un.length:Int)) (v:=v)
 grind [jw]
theorem FG{f:Int->Int}(V:dU an)(e:∀c∈cs,0<=c/\c<=k)(ah:∀t∈L,0<=f (bz an cs t)/\f (bz an cs t)<=k):∀c∈ek f L an cs,0<=c/\c<=k:=λc a=>by
 unfold ek at a;obtain⟨p,ae,rfl⟩:=l9.1 a;obtain⟨i,hi⟩:=Y5.1 ae;obtain⟨h1,h⟩:=List.getElem?_zip_eq_some.1 hi;split
 .grind [bz,kJ]
 .exact e _ (x7 h)
section
variable{k:Int}{d6 a:Λ}{s:am}
def fv(s:am)(j:Nat)(f:bP)(pos u:Nat)(x:bo)(v:Int)(tup un:Int->Int):am:=
 eS (en s j f (ek tup (cm s f.sc pos v) f.an f.cs)) u x (x.un.set v.toNat (un (x.un.getD v.toNat 0)))
theorem kR{f:bP}(e:bc k d6 s)(ah:f∈s.ho):dU f.an/\f.cs.length=(bt f.an).length:=by
 obtain⟨a,h,_⟩:=e.ho f ah;have j:dU f.an:=by rw[h];exact pK e.eQ.2.2 λv ac=>⟨(a.scope.1 v ac).1,a.d9 v ac⟩
 refine⟨j,?_⟩;have h1:=a.len
 grind [kF]
theorem FH{u:Nat}{f:bP}{x:bo}{tup un:Int->Int}(a:bc k d6 s)(ah:s.ho[j]?=σ f)(J:s.d9[u]?=σ x)(h:∀t∈cm s f.sc pos v,0<=tup (bz f.an f.cs t)/\tup (bz f.an f.cs t)<=k)(e:0<=un (x.un.getD v.toNat 0)/\un (x.un.getD v.toNat 0)<=k):bc k d6 (fv s j f pos u x v tup un):=by
 obtain⟨q,r⟩:=kR a (x7 ah);have w:=(a.ho f (x7 ah)).1;have y:=(x6.1 J).1;have z:=a.d9;have h1:=a.var u x _ J (v8 Ω);exact yV (by grind [FE,q7,FG,gi.iY]) J (by grind) (vk h1.2.1 e)
theorem FI{u:Nat}{f:bP}{x:bo}{tup un:Int->Int}(A:bc k d6 s)(F:iE s a)(ah:s.ho[j]?=σ f)(X:f.live≠0)(hu:f.sc[pos]?=σ (u:Int))(J:s.d9[u]?=σ x)(ac:v∈aG x)(G:∀w∈f.sc,∀y,s.d9[w.toNat]?=σ y->y.gone=0)(L:∀t∈cm s f.sc pos v,0<=tup (bz f.an f.cs t)/\tup (bz f.an f.cs t)<=k)(M:0<=un (x.un.getD v.toNat 0)/\un (x.un.getD v.toNat 0)<=k)(Y:∀t∈cm s f.sc pos v,∀r,0<=r->min (r+tup (bz f.an f.cs t)+un (x.un.getD v.toNat 0)) k=min (r+bz f.an f.cs t+x.un.getD v.toNat 0) k):
  ej k (fv s j f pos u x v tup un) a=ej k s a:=by
 obtain⟨N,Z⟩:=kR A (x7 ah);obtain⟨B,aa,_⟩:=A.ho f (x7 ah);have ab:=(x6.1 J).1;have ad:=A.d9;have h1:=A.var u x _ J (v8 Ω);have ae:=F.1;obtain⟨bx,O⟩:=aJ (l:=a) (i:=u) Ω;refine Rw A J ah (by grind) (vk h1.2.1 M) (by grind [q7]) (FG N B.iY L) O λP r af=>?_;have ag:=G u (x7 hu) x (by grind);obtain⟨tl,ai⟩:∃tl,tl=ko a f.sc:=⟨_,rfl⟩;have Q:∀(q:Nat)w,f.sc[q]?=σ w->∃y,s.d9[w.toNat]?=σ y/\tl[q]?=σ (a.getD w.toNat 0)/\a.getD w.toNat 0∈aG y/\f.an[q]?=σ (y.un.length:Int):=λq w hw=>by
  have hm:=x7 hw;have aj:=(B.scope.1 w hm).1;have ak:=B.d9 w hm;obtain⟨y,h⟩:=aJ (l:=s.d9) (i:=w.toNat) Ω;obtain⟨z,H⟩:=aJ (l:=d6) (i:=w.toNat) Ω;obtain⟨C,I⟩:=aJ (l:=a) (i:=w.toNat) Ω;have al:=G w hm y h;have am:=(A.var _ y z h H).1;have ao:=A.eQ.2.2 z (x7 H);have e:a.getD w.toNat 0=C:=by grind
  have ap:=List.all_eq_true.1 P (y,C) (x7 (List.getElem?_zip_eq_some.2 ⟨h,I⟩));have aq:=(F.2 _ y C h I).resolve_left Ω
  grind [ko,fu,gj,b6]
 have au:tl.length=f.sc.length:=by grind [ko]
 have av:f.an.length=f.sc.length:=by grind [b6]
 obtain⟨m,hm⟩:∃m,cr f.an tl 0=σ m:=by
  have:tl∈bt f.an:=by
   rw[yN,sP];refine⟨by grind,λq d w aw hw=>?_⟩;obtain⟨b,ax⟩:=aJ (l:=f.sc) (i:=q) (by grind)
   grind [sQ,fu]
  grind [Y5,kJ]
 have R:fU a f=bz f.an f.cs tl:=by grind [fU]
 have S:fU a {f with cs:=ek tup (cm s f.sc pos v) f.an f.cs}=if tl∈cm s f.sc pos v then tup (bz f.an f.cs tl)else bz f.an f.cs tl:=by
  grind [FD,fU]
 have T:dZ (x,bx)=x.un.getD bx.toNat 0:=by grind [dZ]
 have U:dZ ({x with un:=x.un.set v.toNat (un (x.un.getD v.toNat 0))},bx)=(x.un.set v.toNat (un (x.un.getD v.toNat 0))).getD bx.toNat 0:=by grind [dZ]
 obtain⟨y,h,K,E,_⟩:=Q pos _ hu;rw[u7]at h K E;rw[J]at h;cases h;have V:a.getD u 0=bx:=by grind
 rw[V]at K E;have ay:=(fu.1 ac).1;have az:=(fu.1 E).1;rw[R,S,T,U];by_cases he:bx=v
 .subst he
  grind [oM,aY]
 .have W:tl∉cm s f.sc pos v:=by grind [oM]
  rw[m5 W,r8,Y8 Ω,<-r8]
end
def eC(g:Int->Int)(un L:Λ):Λ:=L.foldl (λun v=>un.set v.toNat (g (un.getD v.toNat 0))) un
theorem vp{g:Int->Int}:∀(L un:Λ),(eC g un L).length=un.length
 :=by
 intro a;induction a<;>grind [eC,Y0]
theorem vq{g:Int->Int}:∀(L un:Λ)(w:Int),L.Nodup->(∀v∈L,0<=v/\v<un.length)->0<=w->(eC g un L).getD w.toNat 0=if w∈L then g (un.getD w.toNat 0)else un.getD w.toNat 0
 |[],un,w,_,_,_=>by simp[eC]
 |v::L,un,w,a,e,hw=>by
  obtain⟨h1,f⟩:=List.nodup_cons.1 a;have ac:=e v (.head _);have h:=vq (g:=g) L (un.set v.toNat (g (un.getD v.toNat 0))) w f (by grind) hw
  grind [eC]
theorem p0(x:bo):(aG x).Nodup:=by
 grind [aG,List.nodup_range]
theorem FJ{k:Int}{g:Int->Int}:∀(L un:Λ),(∀c∈un,0<=c/\c<=k)->L.Nodup->(∀v∈L,0<=v/\v<un.length)->(∀v∈L,0<=g (un.getD v.toNat 0)/\g (un.getD v.toNat 0)<=k)->∀c∈eC g un L,0<=c/\c<=k
 |[],un,h,_,_,_,c,a=>h c a
 |v::L,un,h,f,e,q,c,a=>by
  obtain⟨h1,j⟩:=List.nodup_cons.1 f;have ac:=e v (.head _);refine FJ (g:=g) L (un.set v.toNat (g (un.getD v.toNat 0))) (by grind) j (by grind) (λu hu=>?_) c a;have r:u≠v:=by grind
  have s:=e u (.tail _ hu);rw[r8,Y8 Ω,<-r8]
  grind
section
variable{k:Int}{d6 a:Λ}{s:am}
def iM(s:am)(u:Nat)(x:bo)(g z:Int->Int):am:={eS s u x (eC g x.un (aG x))with zero:=z s.zero}
theorem bc.Ry(a:bc k d6 s)(h:0<=c/\c<=k):bc k d6 {s with zero:=c}:=⟨a.eI,a.eQ,h,a.d9,a.var,a.ho⟩
theorem yW{u:Nat}{x:bo}{g z:Int->Int}(a:bc k d6 s)(J:s.d9[u]?=σ x)(e:∀v∈aG x,0<=g (x.un.getD v.toNat 0)/\g (x.un.getD v.toNat 0)<=k)(f:0<=z s.zero/\z s.zero<=k):bc k d6 (iM s u x g z):=by
 have h:=(x6.1 J).1;have j:=a.d9;have h1:=a.var u x _ J (v8 Ω);exact(yV a J (vp _ _) (FJ _ _ h1.2.1 (p0 x) (λv ac=>(fu.1 ac).1) e)).Ry f
theorem FK{u:Nat}{x:bo}{g z:Int->Int}(e:bc k d6 s)(j:iE s a)(J:s.d9[u]?=σ x)(L:x.gone=0)(q:∀v∈aG x,0<=g (x.un.getD v.toNat 0)/\g (x.un.getD v.toNat 0)<=k)(w:0<=z s.zero/\z s.zero<=k)(y:∀v∈aG x,∀r,0<=r->min (r+g (x.un.getD v.toNat 0)+z s.zero) k=min (r+x.un.getD v.toNat 0+s.zero) k):ej k (iM s u x g z) a=ej k s a:=by
 have A:=yW e J q w;have M:=(x6.1 J).1;have N:=e.d9;have O:=j.1;obtain⟨bx,f⟩:=aJ (l:=a) (i:=u) Ω;rw[oL A,oL e];have h:(s.d9.zip a)[u]?=σ (x,bx):=List.getElem?_zip_eq_some.2 ⟨J,f⟩;obtain⟨un,B⟩:∃un,un=eC g x.un (aG x):=⟨_,rfl⟩;have C:((iM s u x g z).d9.zip a)=(s.d9.zip a).set u ({x with un:=un},bx):=by rw[B];exact vn f
 have E:((s.d9.zip a).set u ({x with un:=un},bx)).all gj=(s.d9.zip a).all gj:=vo h rfl;rw[C,E];split
 .rename_i F;have G:(((s.d9.zip a).set u ({x with un:=un},bx)).map dZ).sum=((s.d9.zip a).map dZ).sum-dZ (x,bx)+dZ ({x with un:=un},bx):=by
   grind [U2,yU]
  have h1:=sS (sT e) (by rw[u4,h];rfl);have P:=pZ _ (q9 (a:=a) e);have Q:=List.all_eq_true.1 F (x,bx) (x7 h);have R:=(j.2 _ x bx J f).resolve_left Ω;have H:bx∈aG x:=by
   grind [fu,gj]
  have I:dZ (x,bx)=x.un.getD bx.toNat 0:=by grind [dZ]
  have K:dZ ({x with un:=un},bx)=g (x.un.getD bx.toNat 0):=by
   grind [dZ,vq,p0,fu]
  rw[G,K];rw[I]at h1 ⊢;have S:=y bx H (((s.d9.zip a).map dZ).sum-x.un.getD bx.toNat 0+(s.ho.map (fU a)).sum) Ω;show min (z s.zero+_+(s.ho.map (fU a)).sum) k=_;omega
 .rfl
theorem yX{m:Nat}{w:Int}(ac:0<=v)(hw:0<=w):dropped ((m ||| 2 ^ v.toNat:Nat):Int) w=(dropped (m:Int) w||decide (w=v)):=by
 unfold dropped;rw[u7,u7,Nat.testBit_or,Nat.testBit_two_pow]
 grind
theorem kS{i:Nat}{x:bo}(J:s.d9[i]?=σ x):dX s i v.toNat={s with d9:=s.d9.set i {x with mask:=((x.mask.toNat ||| 2 ^ v.toNat:Nat):Int)}}:=by
 grind [dX]
theorem yY{i:Nat}{x:bo}(a:bc k d6 s)(J:s.d9[i]?=σ x)(ac:0<=v/\v<x.un.length):bc k d6 (dX s i v.toNat):=by
 rw[kS J];have h:=(x6.1 J).1;have j:=a.d9;have h1:=a.var i x _ J (v8 Ω);have q:=a.eQ.2.2 _ (S3 (n:=i) Ω);refine a.vi J rfl h1.2.1 ⟨by grind,?_⟩;have e:x.mask.toNat<2 ^ 32:=Ω
 have f:2 ^ v.toNat<2 ^ 32:=Nat.pow_lt_pow_right Ω Ω;have:=Nat.or_lt_two_pow e f
 grind
theorem FL{i:Nat}{bx:Int}{x:bo}(f:bc k d6 s)(w:iE s a)(J:s.d9[i]?=σ x)(z:x.gone=0)(ac:0<=v/\v<x.un.length)(h:a[i]?=σ bx):ej k (dX s i v.toNat) a=if bx=v then k else ej k s a:=by
 have A:=yY f J ac;rw[oL A,oL f];have F:(s.d9.zip a)[i]?=σ (x,bx):=List.getElem?_zip_eq_some.2 ⟨J,h⟩;have B:=(w.2 _ x bx J h).resolve_left Ω;obtain⟨y,j⟩:∃y:bo,y={x with mask:=((x.mask.toNat ||| 2 ^ v.toNat:Nat):Int)}:=⟨_,rfl⟩;have C:((dX s i v.toNat).d9.zip a)=(s.d9.zip a).set i (y,bx):=by grind [kS,vn]
 have r:(dX s i v.toNat).zero=s.zero/\(dX s i v.toNat).ho=s.ho:=by grind [kS]
 have G:gj (y,bx)=(gj (x,bx)&&decide (bx≠v)):=by
  unfold gj;rw[j];simp only[z];rw[yX ac.1 B.1];have hm:((x.mask.toNat:Nat):Int)=x.mask:=by
   have H:=(x6.1 J).1;have I:=f.d9;have h1:=f.var i x _ J (v8 Ω);omega
  grind
 rw[C,r.1,r.2];by_cases e:bx=v
 .grind [Z6]
 .have K:((s.d9.zip a).set i (y,bx)).all gj=(s.d9.zip a).all gj:=by grind [vo]
  have L:((s.d9.zip a).set i (y,bx)).map dZ=(s.d9.zip a).map dZ:=by
   rw[U2];have E:dZ (y,bx)=dZ (x,bx):=by rw[j];rfl
   rw[E];refine Y2 λq=>?_
   grind
  grind
theorem FM{i:Nat}{bx:Int}{x:bo}(f:iE s a)(J:s.d9[i]?=σ x)(j:x.gone=0)(e:a[i]?=σ bx)(q:bx∉aG x):ej k s a=k:=by
 have r:=(f.2 _ x bx J e).resolve_left Ω;unfold ej;rw[m5];intro h;have:=List.all_eq_true.1 h (x,bx) (x7 (List.getElem?_zip_eq_some.2 ⟨J,e⟩))
 grind [gj,fu]
end
end Go.Proofs.YtlcdcbgoaljiiaaGreatDoor
namespace Go.Vc
open Go Go.RowKit
section
variable{P:X8}{w:x5}{α:Type}[aw α]{S R:aj}
theorem FN{k:Nat}{vs:List (List x4)}{i:Nat}{c:List x4}(h:∀x∈vs,x.length=k)(e:c.length=k)(hi:i<vs.length):over vs.flatten (i*k) c=(vs.set i c).flatten:=by
 have:=xJ (f:=id) (k:=k) (L:=vs) (i:=i) (a:=c) h e hi;rw[List.flatMap_id,List.flatMap_id]at this;exact this
theorem Rz{v:x4}{l:List α}{i:Nat}(h:bw S R w [v] l)(Q:i<l.length):∃g cap full s,v= .slice (σ ⟨g,0,ν⟩) l.length cap/\ak w g s full/\S g/\i*aw.n α+aw.n α<=full.length/\
  ∀{A:aj}{cs:List x4}{a:α},bw A R w cs a->(∀r,r<w.heap.size->S r->¬A r/\¬R r)->∀I,ai (λr=>r=g) w I->ak I g s (over full (i*aw.n α) cs)->bw (λr=>S r\/A r) R I [v] (l.set i a):=by
 obtain⟨vs,g,F,ae,he,V,hm⟩:=jK h;obtain⟨T,s,U⟩:=hm rfl;obtain⟨af,⟨rfl,ag⟩|⟨cap,full,rfl,E,H,W,ah,X⟩⟩:=id U
 .omega
 have J:=he.1;have Y:(i+1)*aw.n α<=l.length*aw.n α:=V4 _ Q;have Z:l.length*aw.n α<=full.length:=by rw[ah];exact V4 _ H
 rw[T7,Nat.one_mul]at Y;have y:=T.resolve_left Ξ;refine⟨g,cap,full,s,rfl,E,y,Ω,λ{A cs a}K z I L ab=>?_⟩;have M:=aw.len K;have N:=(z g E.lt y).1;have O:=(z g E.lt y).2;have ac:∀c∈vs.set i cs,c.length=aw.n α:=λc x=>by
  rcases U5 x with e|rfl
  .exact he.len c e
  .exact M
 have P:b7 I g s (aw.n α) (.slice (σ ⟨g,0,ν⟩) l.length cap) (l.set i a).length (vs.set i cs).flatten:=by
  refine⟨by rw[tR ac,Y0,Y0,J],.inr ⟨cap,_,by rw[Y0],ab,by rw[Y0];exact H,W,by rw[nD,ah],?_⟩⟩;rw[Y0,xK Ω Z,X,FN he.len M Ω]
 refine⟨_,rfl,vs.set i cs,g,λj r=>if j=i then A r/\r<w.heap.size else F j r/\r<w.heap.size,⟨λj r f=>?_,λ_ j f=>?_,λ_ j q r ad h1 e=>?_⟩,⟨by simp[J],λj c a' x B=>?_⟩,?_,λ_=>⟨.inr (.inl y),s,P⟩⟩
 .split at f
  .exact .inr f.1
  .exact .inl (ae.sub j r f.1)
 .split at f
  .exact N f.1
  .exact ae.top rfl j f.1
 .split at h1<;>split at e
  .omega
  .exact (z r e.2 (ae.sub q r e.1)).1 h1.1
  .exact (z r h1.2 (ae.sub j r h1.1)).1 e.1
  .exact ae.ii rfl j q r ad h1.1 e.1
 .by_cases C:j=i
  .subst C;rw[Z6 Ω]at x B;cases x;cases B;have G:bw (λr=>if j=j then A r/\r<w.heap.size else F j r/\r<w.heap.size) R w cs a:=aw.Y K (λr f h=>by rw[m3 rfl];exact⟨h,f⟩) λ_ _ h=>h;refine aw.aa G L λr f h1 e=>?_;have e:r=g:=e;subst e;rcases h1 with h1|h1
   .simp only[if_true]at h1;exact N h1.1
   .exact O h1
  .rw[Y8 (Ne.symm C)]at x B;have G:bw (λr=>if j=i then A r/\r<w.heap.size else F j r/\r<w.heap.size) R w c a':=aw.Y (he.2 j c a' x B) (λr f h=>by rw[m5 C];exact⟨h,f⟩) λ_ _ h=>h;refine aw.aa G L λr f h1 e=>?_;have e:r=g:=e;subst e;rcases h1 with h1|h1
   .simp only[m5 C]at h1;exact ae.top rfl j h1.1
   .exact O h1
 .have:=pu (S:=λr=>(S r\/A r)\/R r) P (.inr (.inl (.inl y)));exact this
theorem FO{t:o4}{C:o8}{i b:Nat}{v x:x4}{l:List α}{a:α}{A:aj}{K:Unit->x5->Prop}(j:aw.n α=1)(E:y=(i:Int))(F:P.underlying t=σ (.slice e))(hi:aU P e 1 b z)(h:bw S R w [v] l)(q:i<l.length)(J:x.cells= #[x])(s:bw A R w [x] a)(G:∀r,r<w.heap.size->S r->¬A r/\¬R r)(H:∀I,ai S w I->bw (λr=>S r\/A r) R I [v] (l.set i a)->K () I):ad P (n9 t v (.int C y)) w λp=>aL P (o7 e p x) w K:=by
 subst E;obtain⟨g,cap,full,T,rfl,L,M,N,O⟩:=Rz h q;rw[j]at N;rw[e2 F hi q λ_=>rfl];refine bs (o:=0+i*1) hi J (aw.one s x (.head _)) L Ω λI B _ Q=>H I (B.Y λr _ f=>by have f:r=g:=f;subst f;exact M) (O s G I B ?_);rw[j,V0]at*;exact Q
end
end Go.Vc
namespace Go.Proofs.YtlcdcbgoaljiiaaGreatDoor
open Go Go.Vc Go.RowKit Go.Proofs Go.Proofs.Tryz
set_option maxRecDepth 100000
abbrev jY:Type:=(Rd (Λ)×Rd (Λ)×Λ)×Bool
abbrev mY:Type:=Int×Rd (Λ)×Rd (Λ)
def jZ(f:bP):jY:=((f.sc,f.an,f.cs),decide (f.live≠0))
def ra(e:yl):mY:=(e.v,e.sc,e.qY)
def bG(m:Bool)(A:Nat->aj)(R:aj)(w:x5)(cs:List x4)(k:Int)(d6:Λ)(zero:Int)(D:List (Λ))(G:List Bool)(a7:List (Λ))(H:List jY)(E:List mY):Prop:=
 ∃hv a e f h q,cs=[Δ k,hv,Δ zero,a,e,f,h,q]/\Seen R w [hv] d6/\
 aw.rep m (A 0) R w [a] D/\aw.rep m (A 1) R w [e] G/\aw.rep m (A 2) R w [f] a7/\aw.rep m (A 3) R w [h] H/\aw.rep m (A 4) R w [q] E/\
 (m=s2->(∀i j r,i≠j->A i r->¬A j r)/\∀i r,A i r->¬R r)
abbrev iw(m:Bool)(A:Nat->aj)(R:aj)(w:x5)(cs:List x4)(k:Int)(d6:Λ)(s:am):Prop:=
 bG m A R w cs k d6 s.zero (s.d9.map aG) (s.d9.map λx=>decide (x.gone≠0)) (s.d9.map (·.un)) (s.ho.map jZ) (s.eJ.map ra)
def j0(w:x5)(v:x4)(k:Int)(d6:Λ)(s:am):Prop:=∃cs,v= .agg cs.toArray/\iw sp (λ_ _=>False) fB w cs k d6 s
def fG(A:Nat->aj)(i:Nat)(B:aj):Nat->aj:=λj=>if j=i then B else A j
section
variable{m:Bool}{A:Nat->aj}{R:aj}{w I:x5}{cs:List x4}{k zero:Int}{d6:Λ}{D:List (Λ)}{G:List Bool}{a7:List (Λ)}{H:List jY}{E:List mY}{s:am}
theorem bG.len(h:bG m A R w cs k d6 zero D G a7 H E):cs.length=8/\∀u∈cs,u.oneCell'=s2:=by
 obtain⟨hv,a,e,f,j,q,rfl,h1,r,s,x,y,z,_⟩:=h;refine⟨rfl,λu hu=>?_⟩;simp only[List.mem_cons,List.not_mem_nil,or_false]at hu;rcases hu with rfl|rfl|rfl|rfl|rfl|rfl|rfl|rfl
 .rfl
 .exact k6 h1
 .rfl
 all_goals grind [k6]
theorem bG.aa{T:aj}(h:bG m A R w cs k d6 zero D G a7 H E)(a:ai T w I)(J:∀r,r<w.heap.size->(∃i,A i r)\/R r->¬T r):bG m A R I cs k d6 zero D G a7 H E:=by
 obtain⟨hv,e,f,j,q,s,rfl,h1,x,y,z,B,C,F⟩:=h;have ax:∀i r,r<w.heap.size->A i r\/R r->¬T r:=by grind
 exact⟨hv,e,f,j,q,s,rfl,by grind [aw.aa],aw.aa x a (ax 0),aw.aa y a (ax 1),aw.aa z a (ax 2),aw.aa B a (ax 3),aw.aa C a (ax 4),F⟩
theorem bG.W(h:bG m A R w cs k d6 zero D G a7 H E)(J:Ext w I):bG m A R I cs k d6 zero D G a7 H E:=h.aa (J.aa λ_=>False) λ_ _ _ h=>h
theorem iw.yZ(h:iw m A R w cs k d6 s):j0 w (.agg cs.toArray) k d6 s:=by
 obtain⟨hv,a,e,f,j,q,rfl,h1,r,x,y,z,B,C⟩:=h;exact⟨_,rfl,hv,a,e,f,j,q,rfl,jJ h1,jJ r,jJ x,jJ y,jJ z,jJ B,by grind⟩
theorem bG.old(h:bG s2 A R w cs k d6 zero D G a7 H E):bG s2 (λi r=>A i r/\r<w.heap.size) R w cs k d6 zero D G a7 H E:=by
 obtain⟨hv,e,f,j,q,s,rfl,h1,x,y,z,B,C,a⟩:=h;obtain⟨a,F⟩:=a rfl;have hm:∀i r,r<w.heap.size->A i r->A i r/\r<w.heap.size:=by grind
 exact⟨hv,e,f,j,q,s,rfl,h1,aw.Y x (hm 0) λ_ _ h=>h,aw.Y y (hm 1) λ_ _ h=>h,aw.Y z (hm 2) λ_ _ h=>h,aw.Y B (hm 3) λ_ _ h=>h,aw.Y C (hm 4) λ_ _ h=>h,
  by grind⟩
theorem sU{i:Nat}{B:aj}(h:∀i j r,i≠j->A i r->¬A j r)(e:∀j r,j≠i->B r->¬A j r):∀p q r,p≠q->fG A i B p r->¬fG A i B q r:=λp q r f h1 a=>by
 unfold fG at h1 a
 grind
theorem sV{i:Nat}{B:aj}(h:∀i r,A i r->¬R r)(a:∀r,B r->¬R r):∀p r,fG A i B p r->¬R r:=λp r h1=>by
 unfold fG at h1
 grind
theorem bG.y0{B:aj}{x:x4}{D':List (Λ)}(h:bG s2 A R w cs k d6 zero D G a7 H E){T:aj}(a:ai T w I)(O:∀r,T r->A 0 r\/(∀j,¬A j r)/\¬R r)(f:bw B R I [x] D')(q:∀j r,j≠0->B r->¬A j r)(s:∀r,B r->¬R r):bG s2 (fG A 0 B) R I (cs.set 3 x) k d6 zero D' G a7 H E:=by
 obtain⟨hv,P,y,z,C,F,rfl,h1,Q,J,K,L,M,e⟩:=h;obtain⟨e,N⟩:=e rfl;have S:∀r,R r->¬T r:=by grind
 have ax:∀j r,j≠0->r<w.heap.size->A j r\/R r->¬T r:=by grind
 refine⟨hv,x,y,z,C,F,rfl,by grind [aw.aa],?_,?_,?_,?_,?_,λ_=>⟨sU e q,sV N s⟩⟩
 .exact f
 .exact aw.aa J a λr=>ax 1 r Ω
 .exact aw.aa K a λr=>ax 2 r Ω
 .exact aw.aa L a λr=>ax 3 r Ω
 .exact aw.aa M a λr=>ax 4 r Ω
theorem bG.RA{B:aj}{x:x4}{f:List Bool}(h:bG s2 A R w cs k d6 zero D G a7 H E){T:aj}(a:ai T w I)(P:∀r,T r->A 1 r\/(∀j,¬A j r)/\¬R r)(q:bw B R I [x] f)(s:∀j r,j≠1->B r->¬A j r)(y:∀r,B r->¬R r):bG s2 (fG A 1 B) R I (cs.set 4 x) k d6 zero D f a7 H E:=by
 obtain⟨hv,z,Q,C,F,J,rfl,h1,K,S,L,M,N,e⟩:=h;obtain⟨e,O⟩:=e rfl;have U:∀r,R r->¬T r:=by grind
 have ax:∀j r,j≠1->r<w.heap.size->A j r\/R r->¬T r:=by grind
 refine⟨hv,z,x,C,F,J,rfl,by grind [aw.aa],?_,?_,?_,?_,?_,λ_=>⟨sU e s,sV O y⟩⟩
 .exact aw.aa K a λr=>ax 0 r Ω
 .exact q
 .exact aw.aa L a λr=>ax 2 r Ω
 .exact aw.aa M a λr=>ax 3 r Ω
 .exact aw.aa N a λr=>ax 4 r Ω
theorem bG.lp{B:aj}{x:x4}{f:List (Λ)}(h:bG s2 A R w cs k d6 zero D G a7 H E){T:aj}(a:ai T w I)(P:∀r,T r->A 2 r\/(∀j,¬A j r)/\¬R r)(q:bw B R I [x] f)(s:∀j r,j≠2->B r->¬A j r)(y:∀r,B r->¬R r):bG s2 (fG A 2 B) R I (cs.set 5 x) k d6 zero D G f H E:=by
 obtain⟨hv,z,C,Q,F,J,rfl,h1,K,L,S,M,N,e⟩:=h;obtain⟨e,O⟩:=e rfl;have U:∀r,R r->¬T r:=by grind
 have ax:∀j r,j≠2->r<w.heap.size->A j r\/R r->¬T r:=by grind
 refine⟨hv,z,C,x,F,J,rfl,by grind [aw.aa],?_,?_,?_,?_,?_,λ_=>⟨sU e s,sV O y⟩⟩
 .exact aw.aa K a λr=>ax 0 r Ω
 .exact aw.aa L a λr=>ax 1 r Ω
 .exact q
 .exact aw.aa M a λr=>ax 3 r Ω
 .exact aw.aa N a λr=>ax 4 r Ω
theorem bG.lq{B:aj}{x:x4}{f:List jY}(h:bG s2 A R w cs k d6 zero D G a7 H E){T:aj}(a:ai T w I)(P:∀r,T r->A 3 r\/(∀j,¬A j r)/\¬R r)(q:bw B R I [x] f)(s:∀j r,j≠3->B r->¬A j r)(y:∀r,B r->¬R r):bG s2 (fG A 3 B) R I (cs.set 6 x) k d6 zero D G a7 f E:=by
 obtain⟨hv,z,C,F,Q,J,rfl,h1,K,L,M,S,N,e⟩:=h;obtain⟨e,O⟩:=e rfl;have U:∀r,R r->¬T r:=by grind
 have ax:∀j r,j≠3->r<w.heap.size->A j r\/R r->¬T r:=by grind
 refine⟨hv,z,C,F,x,J,rfl,by grind [aw.aa],?_,?_,?_,?_,?_,λ_=>⟨sU e s,sV O y⟩⟩
 .exact aw.aa K a λr=>ax 0 r Ω
 .exact aw.aa L a λr=>ax 1 r Ω
 .exact aw.aa M a λr=>ax 2 r Ω
 .exact q
 .exact aw.aa N a λr=>ax 4 r Ω
theorem bG.RB{B:aj}{x:x4}{f:List mY}(h:bG s2 A R w cs k d6 zero D G a7 H E){T:aj}(a:ai T w I)(P:∀r,T r->A 4 r\/(∀j,¬A j r)/\¬R r)(q:bw B R I [x] f)(s:∀j r,j≠4->B r->¬A j r)(y:∀r,B r->¬R r):bG s2 (fG A 4 B) R I (cs.set 7 x) k d6 zero D G a7 H f:=by
 obtain⟨hv,z,C,F,J,Q,rfl,h1,K,L,M,N,S,e⟩:=h;obtain⟨e,O⟩:=e rfl;have U:∀r,R r->¬T r:=by grind
 have ax:∀j r,j≠4->r<w.heap.size->A j r\/R r->¬T r:=by grind
 refine⟨hv,z,C,F,J,x,rfl,by grind [aw.aa],?_,?_,?_,?_,?_,λ_=>⟨sU e s,sV O y⟩⟩
 .exact aw.aa K a λr=>ax 0 r Ω
 .exact aw.aa L a λr=>ax 1 r Ω
 .exact aw.aa M a λr=>ax 2 r Ω
 .exact aw.aa N a λr=>ax 3 r Ω
 .exact q
theorem bG.RC{z:Int}(h:bG m A R w cs k d6 zero D G a7 H E):bG m A R w (cs.set 2 (Δ z)) k d6 z D G a7 H E:=by
 obtain⟨hv,a,e,f,j,q,rfl,h1,r,s,x,y,B,C⟩:=h;exact⟨hv,a,e,f,j,q,rfl,h1,r,s,x,y,B,C⟩
end
theorem p1{α:Type}[aw α]{st t L:o4}{pl:List (Nat×Nat)}{gs c q b M:Nat}{N y v:x4}{box cs:List x4}{S A R:aj}{l:List α}{a:α}{K:x5->Prop}(ae:bQ x8 st pl)(O:pl[c]?=σ (c,q+1))(P:x8.underlying t=σ (.slice e))(Q:aU x8 t 1 M N)(hi:aU x8 e (aw.n α) b z)(T:z.cells.size=aw.n α)(E:ak w gs st box)(ac:box[c]?=σ v)(h:bw S R w [v] l)(V:cj w (aw.n α) y 1 cs)(U:bw A R w cs a)(W:∀r,r<w.heap.size->S r->¬A r/\¬R r)(s:¬S gs/\¬A gs/\¬R gs)(ag:(l.length+1)*b<=140737488355328)(ah:l.length+1<=1000000)(X:∀j I,ai (λr=>S r\/r=gs) w I->ak I gs st (box.set c j)->bw (λr=>S r\/A r\/w.heap.size<=r) R I [j] (l++[a])->K I):
  aL x8 (c9 #[t,t] L #[v,y]) w λj ab=>ad x8 (u6 st (Γ gs) c) ab λY=>aL x8 (o7 t Y j) ab λ_ x=>K x:=by
 have Z:=(x6.1 ac).1;refine oj P hi T h V U (λr F V f=>?_) Ω Ω λj ab B G=>?_
 .have:=W r F V;exact f.elim this.1 this.2
 have af:=E.aa G s.1;rw[aZ ae O];refine bs (o:=0+c) Q (lO B) (k6 B) af (by rw[V0];exact Z) λx H al J=>?_;refine X j x ((G.Y λr _ h=>.inl h).F (H.Y λr _ h=>.inr h)) (by rw[V0]at J;exact J) (aw.aa B H λr F f C=>?_);have C:r=gs:=C;subst C;have am:=E.lt;rcases f with f|f
 .rcases f with f|f|f
  .exact s.1 f
  .exact s.2.1 f
  .omega
 .exact s.2.2 f
section
variable{A:Nat->aj}{B R:aj}{w:x5}{cs xs:List x4}{gs:Nat}{y v:x4}{k zero:Int}{d6:Λ}{D:List (Λ)}{G:List Bool}{a7:List (Λ)}{H:List jY}{E:List mY}{K:x5->Prop}
theorem bG.RD{a:Λ}(h:bG s2 A R w cs k d6 zero D G a7 H E)(F:ak w gs aM cs)(ac:cs[3]?=σ v)(f:∀j r,A j r->gs<r)(s:∀r,R r->r<gs)(V:cj w 1 y 1 xs)(Q:bw B R w xs a)(q:∀r,r<w.heap.size->B r->(∀j,¬A j r)/\gs<r)(ah:D.length<=1000)(S:∀aR bJ I,ai (λr=>gs<=r) w I->ak I gs aM bJ->bG s2 aR R I bJ k d6 zero (D++[a]) G a7 H E->(∀j r,aR j r->gs<r)->(∀j,j≠3->bJ[j]?=cs[j]?)->K I):
  aL x8 (c9 #[cq,cq] P #[v,y]) w λJ ab=>ad x8 (u6 aM (Γ gs) 3) ab λU=>aL x8 (o7 cq U J) ab λ_ x=>K x:=by
 have aC:=h.old;have W:=F.lt;obtain⟨hv,X,aj,al,am,L,Y,h1,Z,an,ao,ap,aq,z⟩:=id aC;obtain⟨z,M⟩:=z rfl;have L:v=X:=by rw[Y]at ac;exact(Z5 ac).symm
 subst L;have aa:bw (λr=>B r/\r<w.heap.size) R w xs a:=aw.Y Q (λr e h=>⟨h,e⟩) λ_ _ h=>h;refine p1 aM.p rfl cq.u cq.i au.i rfl F ac Z V aa (λr e N=>⟨λae=>(q r e ae.1).1 0 N.1,M 0 r N⟩) ⟨λh=>by have:=f 0 gs h.1;omega,λh=>by have:=(q gs W h.1).2;omega,λh=>by have:=s gs h;omega⟩ Ω Ω λJ x O af ag=>?_;refine S _ _ x (O.Y λr _ h=>h.elim (λh=>by have:=f 0 r h.1;omega) λh=>Ω) af (aC.y0 O (λr e=>?_) ag (λj r C e=>?_) λr e=>?_) (λj r e=>?_) λj C=>?_
 .rcases e with e|rfl
  .exact .inl e
  .exact .inr ⟨λj h=>by have:=f j r h.1;omega,λh=>by have:=s r h;omega⟩
 .rcases e with e|e|e
  .exact z 0 j r (Ne.symm C) e
  .exact λh=>(q r e.2 e.1).1 j h.1
  .exact λh=>by have:=h.2;omega
 .rcases e with e|e|e
  .exact M 0 r e
  .exact λh=>by have:=(q r e.2 e.1).2;have:=s r h;omega
  .exact λh=>by have:=s r h;omega
 .unfold fG at e;split at e
  .rcases e with e|e|e
   .exact f 0 r e.1
   .exact (q r e.2 e.1).2
   .omega
  .exact f j r e.1
 .rw[Y8 (Ne.symm C)]
theorem bG.RE{a:Bool}(h:bG s2 A R w cs k d6 zero D G a7 H E)(F:ak w gs aM cs)(ac:cs[4]?=σ v)(f:∀j r,A j r->gs<r)(s:∀r,R r->r<gs)(V:cj w 1 y 1 xs)(Q:bw B R w xs a)(q:∀r,r<w.heap.size->B r->(∀j,¬A j r)/\gs<r)(ah:G.length<=1000)(S:∀aR bJ I,ai (λr=>gs<=r) w I->ak I gs aM bJ->bG s2 aR R I bJ k d6 zero D (G++[a]) a7 H E->(∀j r,aR j r->gs<r)->(∀j,j≠4->bJ[j]?=cs[j]?)->K I):
  aL x8 (c9 #[jH,jH] P #[v,y]) w λJ ab=>ad x8 (u6 aM (Γ gs) 4) ab λU=>aL x8 (o7 jH U J) ab λ_ x=>K x:=by
 have aC:=h.old;have W:=F.lt;obtain⟨hv,aj,X,al,am,L,Y,h1,an,Z,ao,ap,aq,z⟩:=id aC;obtain⟨z,M⟩:=z rfl;have L:v=X:=by rw[Y]at ac;exact(Z5 ac).symm
 subst L;have aa:bw (λr=>B r/\r<w.heap.size) R w xs a:=aw.Y Q (λr e h=>⟨h,e⟩) λ_ _ h=>h;refine p1 aM.p rfl jH.u jH.i eg.i rfl F ac Z V aa (λr e N=>⟨λae=>(q r e ae.1).1 1 N.1,M 1 r N⟩) ⟨λh=>by have:=f 1 gs h.1;omega,λh=>by have:=(q gs W h.1).2;omega,λh=>by have:=s gs h;omega⟩ Ω Ω λJ x O af ag=>?_;refine S _ _ x (O.Y λr _ h=>h.elim (λh=>by have:=f 1 r h.1;omega) λh=>Ω) af (aC.RA O (λr e=>?_) ag (λj r C e=>?_) λr e=>?_) (λj r e=>?_) λj C=>?_
 .rcases e with e|rfl
  .exact .inl e
  .exact .inr ⟨λj h=>by have:=f j r h.1;omega,λh=>by have:=s r h;omega⟩
 .rcases e with e|e|e
  .exact z 1 j r (Ne.symm C) e
  .exact λh=>(q r e.2 e.1).1 j h.1
  .exact λh=>by have:=h.2;omega
 .rcases e with e|e|e
  .exact M 1 r e
  .exact λh=>by have:=(q r e.2 e.1).2;have:=s r h;omega
  .exact λh=>by have:=s r h;omega
 .unfold fG at e;split at e
  .rcases e with e|e|e
   .exact f 1 r e.1
   .exact (q r e.2 e.1).2
   .omega
  .exact f j r e.1
 .rw[Y8 (Ne.symm C)]
theorem bG.RF{a:Λ}(h:bG s2 A R w cs k d6 zero D G a7 H E)(F:ak w gs aM cs)(ac:cs[5]?=σ v)(f:∀j r,A j r->gs<r)(s:∀r,R r->r<gs)(V:cj w 1 y 1 xs)(Q:bw B R w xs a)(q:∀r,r<w.heap.size->B r->(∀j,¬A j r)/\gs<r)(ah:a7.length<=1000)(S:∀aR bJ I,ai (λr=>gs<=r) w I->ak I gs aM bJ->bG s2 aR R I bJ k d6 zero D G (a7++[a]) H E->(∀j r,aR j r->gs<r)->(∀j,j≠5->bJ[j]?=cs[j]?)->K I):
  aL x8 (c9 #[c4,c4] P #[v,y]) w λJ ab=>ad x8 (u6 aM (Γ gs) 5) ab λU=>aL x8 (o7 c4 U J) ab λ_ x=>K x:=by
 have aC:=h.old;have W:=F.lt;obtain⟨hv,aj,al,X,am,L,Y,h1,an,ao,Z,ap,aq,z⟩:=id aC;obtain⟨z,M⟩:=z rfl;have L:v=X:=by rw[Y]at ac;exact(Z5 ac).symm
 subst L;have aa:bw (λr=>B r/\r<w.heap.size) R w xs a:=aw.Y Q (λr e h=>⟨h,e⟩) λ_ _ h=>h;refine p1 aM.p rfl c4.u c4.i aA.i rfl F ac Z V aa (λr e N=>⟨λae=>(q r e ae.1).1 2 N.1,M 2 r N⟩) ⟨λh=>by have:=f 2 gs h.1;omega,λh=>by have:=(q gs W h.1).2;omega,λh=>by have:=s gs h;omega⟩ Ω Ω λJ x O af ag=>?_;refine S _ _ x (O.Y λr _ h=>h.elim (λh=>by have:=f 2 r h.1;omega) λh=>Ω) af (aC.lp O (λr e=>?_) ag (λj r C e=>?_) λr e=>?_) (λj r e=>?_) λj C=>?_
 .rcases e with e|rfl
  .exact .inl e
  .exact .inr ⟨λj h=>by have:=f j r h.1;omega,λh=>by have:=s r h;omega⟩
 .rcases e with e|e|e
  .exact z 2 j r (Ne.symm C) e
  .exact λh=>(q r e.2 e.1).1 j h.1
  .exact λh=>by have:=h.2;omega
 .rcases e with e|e|e
  .exact M 2 r e
  .exact λh=>by have:=(q r e.2 e.1).2;have:=s r h;omega
  .exact λh=>by have:=s r h;omega
 .unfold fG at e;split at e
  .rcases e with e|e|e
   .exact f 2 r e.1
   .exact (q r e.2 e.1).2
   .omega
  .exact f j r e.1
 .rw[Y8 (Ne.symm C)]
theorem bG.RG{a:jY}(h:bG s2 A R w cs k d6 zero D G a7 H E)(F:ak w gs aM cs)(ac:cs[6]?=σ v)(f:∀j r,A j r->gs<r)(s:∀r,R r->r<gs)(V:cj w 4 y 1 xs)(Q:bw B R w xs a)(q:∀r,r<w.heap.size->B r->(∀j,¬A j r)/\gs<r)(ah:H.length<=1000)(S:∀aR bJ I,ai (λr=>gs<=r) w I->ak I gs aM bJ->bG s2 aR R I bJ k d6 zero D G a7 (H++[a]) E->(∀j r,aR j r->gs<r)->(∀j,j≠6->bJ[j]?=cs[j]?)->K I):
  aL x8 (c9 #[dA,dA] P #[v,y]) w λJ ab=>ad x8 (u6 aM (Γ gs) 6) ab λU=>aL x8 (o7 dA U J) ab λ_ x=>K x:=by
 have aC:=h.old;have W:=F.lt;obtain⟨hv,aj,al,am,X,L,Y,h1,an,ao,ap,Z,aq,z⟩:=id aC;obtain⟨z,M⟩:=z rfl;have L:v=X:=by rw[Y]at ac;exact(Z5 ac).symm
 subst L;have aa:bw (λr=>B r/\r<w.heap.size) R w xs a:=aw.Y Q (λr e h=>⟨h,e⟩) λ_ _ h=>h;refine p1 aM.p rfl dA.u dA.i c5.i rfl F ac Z V aa (λr e N=>⟨λae=>(q r e ae.1).1 3 N.1,M 3 r N⟩) ⟨λh=>by have:=f 3 gs h.1;omega,λh=>by have:=(q gs W h.1).2;omega,λh=>by have:=s gs h;omega⟩ Ω Ω λJ x O af ag=>?_;refine S _ _ x (O.Y λr _ h=>h.elim (λh=>by have:=f 3 r h.1;omega) λh=>Ω) af (aC.lq O (λr e=>?_) ag (λj r C e=>?_) λr e=>?_) (λj r e=>?_) λj C=>?_
 .rcases e with e|rfl
  .exact .inl e
  .exact .inr ⟨λj h=>by have:=f j r h.1;omega,λh=>by have:=s r h;omega⟩
 .rcases e with e|e|e
  .exact z 3 j r (Ne.symm C) e
  .exact λh=>(q r e.2 e.1).1 j h.1
  .exact λh=>by have:=h.2;omega
 .rcases e with e|e|e
  .exact M 3 r e
  .exact λh=>by have:=(q r e.2 e.1).2;have:=s r h;omega
  .exact λh=>by have:=s r h;omega
 .unfold fG at e;split at e
  .rcases e with e|e|e
   .exact f 3 r e.1
   .exact (q r e.2 e.1).2
   .omega
  .exact f j r e.1
 .rw[Y8 (Ne.symm C)]
end
theorem oN{R:aj}{v:x4}{g:Nat}(h:aH .i64 e w g v l):bw (λr=>lc v r) R w [v] l:=by
 have h1:=mr (R:=R) h;by_cases f:v= .slice ν 0 0
 .subst f;have:l=[]:=by
   obtain⟨j,⟨_,a⟩|⟨_,_,a,_⟩⟩:=h
   .exact b8 a
   .cases a
  subst this;exact gx
 .obtain⟨j,⟨a,_⟩|⟨cap,cs,a,_⟩⟩:=id h
  .exact m6 a f
  .refine aw.Y h1 (λr _ q=>?_) λ_ _ h=>h;rw[a];exact⟨_,_,_,rfl,q.symm⟩
theorem y1{R:aj}{v:x4}{g:Nat}(e:∀r c,B<=r->ak w r al c->R r)(h:aH .i64 al w g v l)(ac:∀r,lc v r->B<=r):Seen R w [v] l:=qx (oN (R:=λ_=>False) h) λr j a=>by
 rcases a with a|a
 .obtain⟨c,f⟩:=Q4 h r a;exact e r c (ac r a) f
 .exact a.elim
theorem RH{R:aj}{zero:Int}(h:Seen R w [hv] d6):bG s2 (λ_ _=>False) R w [Δ k,hv,Δ zero,.slice ν 0 0,.slice ν 0 0,.slice ν 0 0,.slice ν 0 0,.slice ν 0 0] k d6 zero [] [] [] [] []:=
 ⟨_,_,_,_,_,_,rfl,h,gx,gx,gx,gx,gx,λ_=>⟨λ_ _ _ _ h=>h.elim,λ_ _ h=>h.elim⟩⟩
theorem bG.at{m:Bool}{A:Nat->aj}{R:aj}{cs:List x4}{zero:Int}{D:List (Λ)}{G:List Bool}{a7:List (Λ)}{H:List jY}{E:List mY}(h:bG m A R w cs k d6 zero D G a7 H E)(c:Nat)(a:c<8):∃v,cs[c]?=σ v:=⟨_,v8 (by rw[h.len.1];exact a)⟩
def RI(R:aj)(w:x5)(e gt gs:Nat)(n:aI)(f:List x4)(i j:Nat)(a:x5):Prop:=Ext w a/\ak a e ea f/\ak a gt aM z12/\∃A cs,ak a gs aM cs/\(∀q r,A q r->gs<r)/\
 bG s2 A R a cs n.k n.d6 n.zero ((n.unary.take i).map λu=>aG (newVar u)) (o5 i sp) (n.unary.take i) ((n.ho.take j).map λg=>jZ (mR n.d6 g)) []
theorem FP{bE:x4}{n:aI}{R:aj}(aw:∀r,R r->r<w.heap.size)(a6:∀r c,B<=r->ak w r al c->R r)(cA:yD w B bE n)(ad:kN n)(ah:n.ho.length<=256):aq x8 IL [bE] w λv I=>Ext w I/\∃A cs,v= .agg cs.toArray/\iw s2 A R I cs n.k n.d6 (cY n)/\∀q r,A q r->w.heap.size<=r:=by
 have dZ:=ad.d6.2.1;have cB:=ad.lW;refine aE func62 ?_;refine br λg1 U eb a7 cC=>?_;obtain⟨hv,gz,cD,ec,bH,cE,ed,a8,ax,az,cF,bJ,bb,cG,bL,cH,bM⟩:=Q5 cA cC;refine bF aM.i λgt ab ee aB aC=>?_;have aC:ak ab gt aM z12:=aC;have bc:=ax.W aB;rw[aP ea.p 0 bc rfl,aP ea.p 1 bc rfl,aP ea.p 2 bc rfl,
  dn (cs:=#[Δ n.k,hv,Δ n.zero,.slice ν 0 0,.slice ν 0 0,.slice ν 0 0,.slice ν 0 0,.slice ν 0 0]) (by obtain⟨_,_,_,e⟩:=dr az.ls;rw[e];kernel_rfl)]
 refine bF aM.i λgs ef eh aD cI=>?_;have cJ:Seen R w [hv] n.d6:=y1 a6 az cH;have ei:=a7.size;have ej:=aB.size;have z3:=aD.size;have cK:=(a7.F aB).F aD;have bN:=RH (k:=n.k) (zero:=n.zero) (bD cJ cK);refine cd (vs:=[Δ n.k,hv,Δ n.zero,.slice ν 0 0,.slice ν 0 0,.slice ν 0 0,.slice ν 0 0,.slice ν 0 0]) aM.i rfl rfl bN.len.2 cI λek be em cL=>?_;have en:=aC.lt;have eo:=ax.lt;have cM:gt≠gs:=Ω
 have bf:=(aB.F aD).put be Ω;have bO:=a7.F bf;have cN:=(aC.W aD).aa be λhe=>cM he;have ep:w.heap.size<gs:=Ω
 rw[aP ea.p 1 (ax.W bf) rfl,ba au.u (az.W bO).ls];have cO:=bN.aa be λr f h he=>by
  have he:r=gs:=he;rcases h with⟨_,h⟩|h
  .exact h
  .have:=aw r h;omega
 refine b3.range n.d6.length (λi P=>RI R w g1 gt gs n [Δ n.k,hv,Δ n.zero,cD,cE] i 0 P) Ω ⟨bO,ax.W bf,cN,_,_,cL,(λ_ _ h=>h.elim),cO⟩ ?_ ?_
 .rintro i P cP hi ⟨Q,bg,bh,A,cs,ae,bi,aK⟩ cQ;obtain⟨z,bj⟩:=aJ (l:=n.d6) hi;obtain⟨u,hu⟩:=aJ (l:=n.unary) (i:=i) Ω;have er:=ad.d6.2.2 z (x7 bj);obtain⟨es,_⟩:=ad.unary i z u bj hu;refine bK Ω ?_;rw[bp au.u al.i Ψ (az.W Q).ls bj];obtain⟨bP,rfl⟩:∃m:Nat,z=m:=⟨z.toNat,Ω⟩;refine cp.range bP (λj af aL=>Ext P aL/\∃g,aH .i64 al aL g af ((Y9 j).map λv:Nat=>(v:Int))/\∀r,lc af r->P.heap.size<=r) Ω
   ⟨Ext.refl _,0,aH.nil _ _ _ _,λr f=>by obtain⟨a,n,c,K,S⟩:=f;cases K⟩ ?_ ?_
  .rintro j af aL bk bl ⟨L,cR,V,aN⟩ bm;refine bK Ω ?_;refine e3 au.u al.i rfl λet eu cS ev H cT=>?_;refine jt au.u al.i rfl (V.W H) cT.ls Θ Θ λew cU cV cW cX W=>?_;rw[aT];have cZ:=L.size;have c0:=H.size;refine bm _ _ ⟨(L.F H).then W λr f he=>by have:=aN r he;omega,cU,?_,λr f=>(cX r f).elim (aN r) λh=>Ω⟩;rw[List.range_succ,Z0];exact cW
  rintro af aL bk ⟨L,cR,V,aN⟩;refine ck Ω ?_;have c1:(Y9 bP).map (λv:Nat=>(v:Int))=aG (newVar u):=by rw[Q6];congr 2;omega
  rw[c1]at V;have cZ:=L.size;have ey:=Q.size;have ez:=ae.lt;have ag:∀r,R r->r<gs:=λr f=>by have:=aw r f;omega
  have low:∀{s C:x5}{b:Nat}{e:o4}{c:List x4},ai (λr=>gs<=r) s C->b<gs->ak s b e c->ak C b e c:=λM c2 h=>h.aa M λX=>by have X:=X;omega
  have am:∀{s C:x5},Ext w s->ai (λr=>gs<=r) s C->Ext w C:=λJ M=>J.then M λr f h=>by have h:=h;omega
  have bQ:=aK.old.W L;have c3:∀q r,(A q r/\r<P.heap.size)->gs<r:=λq r h=>bi q r h.1;obtain⟨eA,bR⟩:=bQ.at 3 Ω;rw[aP aM.p 3 (ae.W L) bR];refine jL cq.u au.i Φ (a:=aG (newVar u)) (cs:=[af]) V.ls.cells.1 (oN (R:=R) V) λeB cS H _ c7=>?_;have c0:=H.size;have aO:=L.F H;refine bG.RD (bQ.W H) (ae.W aO) bR c3 ag c7 (bD (oN V) H) (λr f h=>?_) Θ λeC eD cV W bS bT c8 _=>?_
  .have:=aN r h;exact⟨λj h=>Ω,Ω⟩
  have eE:=W.size;obtain⟨eH,bU⟩:=bT.at 4 Ω;rw[aP aM.p 4 bS bU];refine jL (a:=sp) (cs:=[.bool sp]) (A:=λ_=>False) (R:=R) jH.u eg.i Φ rfl rfl λeI eJ Y _ c9=>?_;refine bG.RE (B:=λ_=>False) (bT.W Y) (bS.W Y) bU c8 ag c9 rfl (λr f h=>h.elim) Θ λda eK bV aQ bW db dc _=>?_;have z9:=Y.size;have eL:=aQ.size;have dd:Ext w bV:=am ((am (Q.F aO) W).F Y) aQ;have de:=low aQ Ω ((low W Ω (bg.W aO)).W Y);have df:=low aQ Ω ((low W Ω (bh.W aO)).W Y);intro bn Z _ _;have bX:=bW.W Z;have bY:=de.W Z;have bZ:=dd.F Z;obtain⟨oK,aR⟩:∃oK,bH[i]?=σ oK:=⟨_,v8 (by have:=congrArg List.length bJ;rw[r9]at this;omega)⟩;have dg:oK.l=u:=by
   have b0:(bH.map (·.l))[i]?=σ oK.l:=by rw[u4,aR];rfl
   rw[bJ,hu]at b0;exact(Z5 b0).symm
  have bo:=cF.W bZ;obtain⟨eM,b1⟩:=bo.2 oK (x7 aR);rw[dg]at b1;have b2:=db.old.W Z;have dh:∀q r,(da q r/\r<bV.heap.size)->gs<r:=λq r h=>dc q r h.1;obtain⟨eN,b4⟩:=b2.at 5 Ω;rw[aP aM.p 5 bX b4,aP ea.p 3 bY rfl,ct rfl c4.u aA.i bo.1 (x6.1 aR).1,aF (v:=oK.v) (o:=i*1) Ψ (bo.1.range aR 0 _ rfl)];refine yG (k:=.i64) aA.u ay.i λdi eO eP eQ aS b5=>?_;refine⟨.inl aS,?_⟩;refine jt aA.u ay.i rfl b5 (b1.W aS).ls Θ Θ λb6 eR dj aU dk dl=>?_;rw[List.nil_append]at aU;have eS:=Z.size;have eU:=aS.size;have b7:∀r,lc di r->bn.heap.size<=r:=λr f=>by have:=(ca b5 f).1;omega
  have dm:∀r,lc b6 r->bn.heap.size<=r:=λr f=>(dk r f).elim (b7 r) λh=>Ω
  have bq:Ext bn dj:=aS.then dl λr f he=>by have:=b7 r he;omega
  refine⟨.inl bq,?_⟩;have eV:=bq.size;refine jL c4.u aA.i Φ (a:=u) (cs:=[b6]) aU.ls.cells.1 (oN (R:=R) aU) λeW eX bs _ dp=>?_;have eY:=bs.size;have ac:=bq.F bs;refine⟨.inl ac,?_⟩;refine bG.RF (b2.W ac) (bX.W ac) b4 dh ag dp (bD (oN (R:=R) aU) bs) (λr f h=>?_) Θ λdq ds eZ bt dt du dv _=>?_
  .have:=dm r h;have:=bW.lt;exact⟨λj h=>Ω,Ω⟩
  rw[aT];refine cQ _ ⟨am (bZ.F ac) bt,low bt Ω (bY.W ac),low bt Ω ((df.W Z).W ac),dq,ds,dt,dv,?_⟩;rw[u9,hu,j4,Z0,List.map_cons,List.map_nil,List.replicate_succ'];exact du
 rintro P cP ⟨Q,bg,bh,A,cs,ae,bi,aK⟩;refine ck Ω ?_;rw[j5 Ω]at aK;have e0:a8.length=n.ho.length:=by rw[<-bL,r9]
 have dw:=bb.W Q;rw[aP ea.p 4 bg rfl,eF c6.u dw];have ag:∀r,R r->r<gs:=λr f=>by have:=aw r f;omega
 have low:∀{s C:x5}{b:Nat}{e:o4}{c:List x4},ai (λr=>gs<=r) s C->b<gs->ak s b e c->ak C b e c:=λM c2 h=>h.aa M λX=>by have X:gs<=_:=X;omega
 have am:∀{s C:x5},Ext w s->ai (λr=>gs<=r) s C->Ext w C:=λJ M=>J.then M λr f h=>by have h:gs<=r:=h;omega
 refine b3.range a8.length (λj G=>Ext w G/\ak G gt aM z12/\∃A cs,ak G gs aM cs/\(∀q r,A q r->gs<r)/\
  bG s2 A R G cs n.k n.d6 n.zero (n.unary.map λu=>aG (newVar u)) (o5 n.d6.length sp) n.unary ((n.ho.take j).map λg=>jZ (mR n.d6 g)) []) bb.le ⟨Q,bh,A,cs,ae,bi,aK⟩ ?_ ?_
 .rintro j G bk bl ⟨N,bu,bx,aV,aW,aX,an⟩ bm;obtain⟨y,ao⟩:=aJ (l:=a8) bl;have b8:n.ho[j]?=σ (dR y):=by rw[<-bL,u4,ao];rfl
  have b9:=(ad.ho (dR y) (x7 b8)).1;have e1:y.cs.length<=4096:=by
   have h1:y.cs.length=_:=b9.len;have X:=b9.small;omega
  have cb:=cG y (x7 ao);have cc:=cb.W N;have ce:=bb.W N;refine bK Ω ?_;rw[ct rfl c6.u bd.i ce bl,bI bd.p bd.i rfl (ce.range ao)];refine bF bd.i λe2 e4 e5 dx dy=>?_;refine cd (vs:=dW y) bd.i rfl rfl cc.one dy λdz dC e6 dD=>?_;have dE:Ext G dz:=dx.put dC Ω;intro bz cf _ _;have O:=dE.F cf;have cg:=aW.W O;have bA:=dD.W cf;have dF:=cc.W O;obtain⟨⟨e7,ch⟩,⟨e8,ci⟩,e9,dG⟩:=id dF;have cj:=an.old.W O;have dH:∀q r,(bx q r/\r<G.heap.size)->gs<r:=λq r h=>aX q r h.1;obtain⟨fa,cl⟩:=cj.at 6 Ω;rw[aP aM.p 6 cg cl,aP bd.p 0 bA rfl,aP bd.p 1 bA rfl,aP bd.p 2 bA rfl];refine yG (k:=.i64) aA.u ay.i λv25 fb fc fd aY cm=>?_;refine⟨.inl aY,?_⟩;refine jt aA.u ay.i rfl cm (dG.W aY).ls Θ Θ λE fe cn aZ dI dJ=>?_;rw[List.nil_append]at aZ;have ff:=O.size;have z25:=aY.size;have cr:∀r,lc v25 r->bz.heap.size<=r:=λr f=>by have:=(ca cm f).1;omega
  have dK:∀r,lc E r->bz.heap.size<=r:=λr f=>(dI r f).elim (cr r) λh=>Ω
  have a2:Ext bz cn:=aY.then dJ λr f he=>by have:=cr r he;omega
  refine⟨.inl a2,?_⟩;rw[dn (cs:=#[y.a1,y.hv,E]) (by obtain⟨_,_,_,K⟩:=dr ch.ls;obtain⟨_,_,_,S⟩:=dr ci.ls;obtain⟨_,_,_,ap⟩:=dr aZ.ls;rw[K,S,ap];kernel_rfl),
   dn (cs:=#[y.a1,y.hv,E,.bool s2]) (by obtain⟨_,_,_,K⟩:=dr ch.ls;obtain⟨_,_,_,S⟩:=dr ci.ls;obtain⟨_,_,_,ap⟩:=dr aZ.ls;rw[K,S,ap];kernel_rfl)]
  have fg:=a2.size;have cu:=(N.F O).F a2;obtain⟨⟨ga,dL⟩,⟨fh,dM⟩,_⟩:=id cb;have own:bw (α:=jY) (λr=>lc E r) R cn [y.a1,y.hv,E,.bool s2] (jZ (mR n.d6 (dR y))):=by
   refine⟨[y.a1,y.hv,E],[.bool s2],λr=>lc E r,λ_=>False,rfl,λ_ h=>h,λ_ h=>h.elim,λ_ _ _ h=>h,⟨[y.a1],[y.hv,E],λ_=>False,λr=>lc E r,rfl,λ_ h=>h.elim,λ_ h=>h,λ_ _ h=>h.elim,?_,[y.hv],[E],λ_=>False,λr=>lc E r,rfl,λ_ h=>h.elim,λ_ h=>h,λ_ _ h=>h.elim,?_,?_⟩,rfl⟩
   .exact bD (y1 a6 dL λr f=>bM y (x7 ao) r (.inr (.inl f))) cu
   .exact bD (y1 a6 dM λr f=>bM y (x7 ao) r (.inr (.inr f))) cu
   .exact oN aZ
  refine jL dA.u c5.i Φ rfl own λfi fj bB _ dN=>?_;have fk:=bB.size;have av:=a2.F bB;refine⟨.inl av,?_⟩;refine bG.RG (cj.W av) (cg.W av) cl dH ag dN (bD own bB) (λr f h=>?_) Θ λdO dP fm cw dQ dS dT _=>?_
  .have:=dK r h;have:=aW.lt;exact⟨λj h=>Ω,Ω⟩
  rw[aT];refine bm _ ⟨am (N.F (O.F av)) cw,low cw Ω (bu.W (O.F av)),dO,dP,dQ,dT,?_⟩;rw[u9,b8,j4,Z0,List.map_cons,List.map_nil];exact dS
 rintro G bk ⟨N,bu,bx,aV,aW,aX,an⟩;rw[j5 Ω]at an;refine ck Ω ?_;obtain⟨bC,dU⟩:=an.len;rw[bI aM.p aM.i bC (show G.rangeAt gs 0 aV from aW.range)];refine cd (vs:=aV) aM.i bC rfl dU bu λfo cz fp dV=>?_;rw[fA aM.p aM.i bC dV.range];have dX:=an.aa cz λr f h he=>by
  have he:r=gt:=he;rcases h with⟨q,h⟩|h
  .have:=aX q r h;omega
  .have:=aw r h;omega
 have fq:=N.size;refine⟨N.then cz λr f he=>by have he:r=gt:=he;omega,bx,aV,rfl,?_,λq r h=>by have:=aX q r h;omega⟩;have K:(cY n).d9.map aG=n.unary.map λu=>aG (newVar u):=by show(n.unary.map newVar).map aG=_;rw[T6];rfl
 have S:(cY n).d9.map (λx=>decide (x.gone≠0))=o5 n.d6.length sp:=by
  show(n.unary.map newVar).map _=_;rw[T6,<-cB];exact List.map_const' ..
 have ap:(cY n).d9.map (·.un)=n.unary:=by show(n.unary.map newVar).map _=_;rw[T6];exact List.map_id _
 have dY:(cY n).ho.map jZ=n.ho.map λg=>jZ (mR n.d6 g):=by show(n.ho.map (mR n.d6)).map jZ=_;rw[T6];rfl
 unfold iw;rw[K,S,ap,dY];exact dX
end Go.Proofs.YtlcdcbgoaljiiaaGreatDoor
