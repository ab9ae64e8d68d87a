/- own texts, made small by a tool (wip/ holds them as they were written): no statement of the seat. -/
import Derived.Test.YtlcdcbgoaljiiaaGreatDoorZa
set_option linter.unusedVariables false
set_option linter.unusedSimpArgs false
set_option linter.unnecessarySimpa false
open Array renaming getElem?_eq_some_iff→Z6
open BitVec renaming ofInt→U8
open Bool renaming false→ne,true→ms,not_true→Y1,not_false→X4,eq_iff_iff→U1,or_eq_false_iff→T5,and_eq_true→S0
open Decidable renaming not_not→X0
open Go renaming Value→x1,World→x4,TypeId→r8,IntKind→o5,Builtin→Z0,Program→W5,FuncId→S9
open Go.Builtin renaming append_→c9,len_→W7
open Go.Instr renaming loadAt→u4,fieldAt→u6,storeAt→o7,indexAt→n9,extract→Z9,buildSlice→Y3,sliceAt→V5,alloc→R4
open Go.IntKind renaming i64→X3,u64→U5
open Go.Proofs.Tryz renaming prog→x7
open Go.Result renaming andThen→V1
open Go.Sem renaming run_bind→W8,run_pure→V4
open Go.Value renaming int→V6
open Int renaming toNat_natCast→u5,le_refl→S8
open List renaming getElem?_eq_some_iff→x5,mem_of_getElem?→x6,getElem?_eq_getElem→x8,getElem?_map→v8,take_add_one→u7,length_map→u9,replicate→r9,getD_eq_getElem?_getD→p8,length_append→o4,take_length→o6,mem_map→o9,take_of_length_le→j4,mem_append→j5,eq_nil_of_length_eq_zero→j6,length_take→j9,map_append→Z2,mem_singleton→Z7,getElem?_set_self→Y2,mem_iff_getElem?→Y4,ext_getElem?→Y5,drop_eq_getElem_cons→Y8,getElem?_append_right→X1,range→X2,length_cons→X5,append_assoc→X7,getElem?_set→X8,getElem?_set_ne→W0,getElem?_take_of_lt→W3,length_eq_one_iff→W6,getElem?_eq_none→V0,append_nil→V2,getElem?_append_left→V3,flatMap_cons→U2,pairwise_iff_getElem→U3,map_set→U4,mem_or_eq_of_mem_set→U7,set_append_right→U9,mem_filter→T6,map_map→T7,getElem_mem→T9,length_singleton→S1,Perm→S2
open Nat renaming le_refl→p9,le_trans→Y7,mul_le_mul_right→X6,zero_le→X9,zero_add→V7,sub_self→V8,mul_one→T1,pow_le_pow_right→T3,add_mul→T4
open Option renaming toList_some→o8,isNone_some→l9,map_eq_some_iff→Y0,map_some→Y9,map→V9
open Option.some renaming inj→Z4,injEq→W9
open Prod.mk renaming injEq→R5
set_option maxHeartbeats 16000000
open Option renaming some→σ,none→ν
variable{I w:x4}{sv v z:x1}{C a all am cs l scope d6 t:Λ}{R S:Nat->Prop}{N da gs j n r:Nat}{at_ c hi k lo y:Int}{e:r8}{K:x1->Prop}{d9:List (Λ)}{cx cy f:Bool}
namespace Go.Proofs.YtlcdcbgoaljiiaaGreatDoor
open Go Go.Vc Go.RowKit Go.Proofs Go.Proofs.Tryz
set_option maxRecDepth 100000
theorem CA{b:Int}:aq x7 Kz [.int .u8 b] w λv I=>v= .bool (cW b)/\Ext w I:=by
 refine aF func176 ?_;refine a1 (λv U=>v= .bool (cW b)/\Ext w U) (λ_ _ h=>h) λaA a=>?_;rw[bl,ao];refine⟨λh=>a _ _ ⟨by unfold cW;rw[m3 (.inl h)],Ext.refl _⟩,λh1=>?_⟩;rw[bl,ao];refine⟨λh=>a _ _ ⟨by unfold cW;rw[m3 (.inr (.inl h))],Ext.refl _⟩,λe=>?_⟩;rw[bl,ao];refine⟨λh=>a _ _ ⟨by unfold cW;rw[m3 (.inr (.inr (.inl h)))],Ext.refl _⟩,λf=>?_⟩;rw[bl];refine a _ _ ⟨?_,Ext.refl _⟩;congr 1;unfold cW;rw[U1,m6,m6];omega
theorem MR{b:Int}:aq x7 Ky [.int .u8 b] w λv I=>v= .bool (ca b)/\Ext w I:=by
 refine aF func175 ?_;refine a1 (λv U=>v= .bool (ca b)/\Ext w U) (λ_ _ h=>h) λaA a=>?_;rw[cJ,ao];refine⟨λh=>?_,λh=>a _ _ ⟨by unfold ca;rw[m5 Ω],Ext.refl _⟩⟩;rw[nI];refine a _ _ ⟨?_,Ext.refl _⟩;congr 1;unfold ca;rw[U1,m6,m6];omega
def nS(w:x4)(g:Nat)(a:x1)(p:Λ)(at_:Nat)(bad:Int):Prop:=Bytes p/\p.length<=100000/\at_<=p.length/\ai w g jz [a,Δ (at_:Int),Δ bad]/\∃bf,aH .u8 cS w bf a p
theorem nS.W{g:Nat}{a:x1}{p:Λ}{at_:Nat}{bad:Int}(h:nS w g a p at_ bad)(J:Ext w I):nS I g a p at_ bad:=by
 obtain⟨h1,e,f,j,bf,q⟩:=h;exact⟨h1,e,f,j.W J,bf,q.W J⟩
theorem MS(h:aQ .u8 w v l)(B:l.length<=100000):aq x7 Kt [v] w λf I=>Ext w I/\∃g,aH .u8 cS I g f l:=by
 have e:=h;obtain⟨C,b,o,base,cap,rfl,E,hm,q,G⟩:=h;refine aF func169 ?_;rw[qP cU.u,b1];refine⟨λr=>⟨Ext.refl _,0,?_⟩,λ_=>?_⟩
 .have:l=[]:=by
   cases base with
   |none=>
        by_cases e:0<l.length
        .have:=q e;cases this
        .exact j6 Ω
   |some a=>cases r
  subst this;exact aH.nil _ _ _ _
 .refine lX (k:=1) (cs:=#[]) cU.u cS.i Ω Ψ λg U H j s=>?_;have x:aH .u8 cS U g (.slice (σ ⟨g,0,ν⟩) 0 0) []:=aH.of (n:=0) (b7.full (by simpa using s) rfl Ξ);refine kN cU.u cS.i rfl x (e.W j) Θ Θ λf y ab J z A=>?_;exact⟨j.put A Ω,y,by simpa using z⟩
theorem CB(h:aQ .u8 w v l)(q:Bytes l)(e:l.length<=100000):aq x7 Bl [v] w λr I=>Ext w I/\∃g,r=Γ g/\w.heap.size<=g/\∃a,nS I g a l 0 (-1):=by
 refine aF func106 ?_;refine(MS h e).Y ?_;rintro a U _ ⟨f,bf,ae⟩;rw[dk (cs:=#[a,Δ 0,Δ (-1)]) (by obtain⟨_,_,_,_,_,rfl,_⟩:=ae.ls;kernel_rfl)];refine bo λg ab x j s=>?_;have s1:=f.size;exact⟨f.F j,g,rfl,Ω,a,q,e,X9 _,s,bf,ae.W j⟩
def runN(f:Int->Bool)(p:Λ):Nat:=(p.takeWhile f).length
theorem MT(f:Int->Bool)(p:Λ):runN f p<=p.length:=(List.takeWhile_sublist f).length_le
theorem CC{f:Int->Bool}{p:Λ}{i:Nat}{b:Int}(hi:p[i]?=σ b)(ah:f b=ms):i+runN f (p.drop i)=(i+1)+runN f (p.drop (i+1)):=by
 have a:=x5.1 hi;unfold runN;rw[Y8 a.1,a.2,List.takeWhile_cons,lw ah,X5];omega
theorem CD{f:Int->Bool}{p:Λ}{i:Nat}(h:∀b,p[i]?=σ b->f b=ne):runN f (p.drop i)=0:=by
 unfold runN;cases ae:p[i]? with
 |none=>
  rw[List.drop_of_length_le (List.getElem?_eq_none_iff.1 ae)];rfl
 |some b=>
  have a:=x5.1 ae;rw[Y8 a.1,a.2,List.takeWhile_cons,m1 (by simp[h b ae])];rfl
theorem MU{g at_:Nat}{y:x1}{p:Λ}{bad:Int}(h:nS w g y p at_ bad):aq x7 Kx [Γ g] w λv I=>v=Δ ((at_+runN cW (p.drop at_):Nat):Int)/\Ext w I:=by
 obtain⟨J,K,z,a,bf,ae⟩:=h;refine aF func174 ?_;rw[aL jz.p 1 a rfl];refine⟨λv U=>Ext w U/\∃i:Nat,v=Δ (i:Int)/\i<=p.length/\i+runN cW (p.drop i)=at_+runN cW (p.drop at_),λv _=>p.length-(bY v).toNat,⟨Ext.refl _,at_,rfl,z,rfl⟩,?_⟩;rintro _ U ⟨j,i,rfl,hi,he⟩;refine a1 (λv ab=>Ext w ab/\∃c:Bool,v= .bool c/\(c=ms↔ ∃b,p[i]?=σ b/\cW b=ms)) ?_ ?_
 .rintro _ ab ⟨q,c,rfl,r⟩;rw[b1];refine⟨λA=>?_,λah=>?_⟩
  .obtain⟨b,e,B⟩:=r.1 A;have C:=(x5.1 e).1;rw[aR,hx Ω Ω];exact⟨⟨q,i+1,rfl,C,by rw[<-he,CC e B]⟩,by simp only[bY];omega⟩
  .have E:=CD (f:=cW) (p:=p) (i:=i) λb a=>by
    cases V:cW b with
    |false=>rfl
    |true=>rw[r.2 ⟨b,a,V⟩]at ah;cases ah
   exact⟨by rw[<-he,E,Nat.add_zero],q⟩
 .intro aA s;have x:=a.W j;rw[aL jz.p 0 x rfl,a7 cU.u (ae.W j).ls,aW,ao];refine⟨λL=>?_,λM=>s _ _ ⟨j,ne,rfl,⟨λh=>(by cases h),λ⟨b,a,_⟩=>by have:=(x5.1 a).1;omega⟩⟩⟩;have G:i<p.length:=Ω
  have e:=x8 G;rw[aL jz.p 0 x rfl,bm cU.u cS.i Ψ (ae.W j).ls e];refine CA.Y ?_;rintro _ N _ ⟨rfl,H⟩;exact s _ _ ⟨j.F H,_,rfl,⟨λh=>⟨_,e,h⟩,λ⟨b,a,h⟩=>by rw[e]at a;cases a;exact h⟩⟩
inductive MV where
 |word (from_ to:Nat)
 |none
 |text (at_:Nat)
def gZ(p:Λ)(at_:Nat):Nat:=at_+runN cW (p.drop at_)
def kr(p:Λ)(a:Nat):Nat:=a+runN ca (p.drop a)
open Classical in
noncomputable def qW(p:Λ)(at_:Nat):MV:=
 if kr p (gZ p at_)<p.length/\(∀c,p[kr p (gZ p at_)]?=σ c->cW c=ne)then .text (kr p (gZ p at_))else if gZ p at_=kr p (gZ p at_)then .none else .word (gZ p at_) (kr p (gZ p at_))
def se(w:x4)(g:Nat)(e:x1)(p:Λ)(at_:Nat)(v:x1)(I:x4):Prop:=
 match qW p at_ with
 | .word a b=>v= .tuple #[ce ((p.take b).drop a),Δ (a:Int),Δ 0]/\aj (λr=>r=g) w I/\nS I g e p b (-1)
 | .none=>∃n:Nat,v= .tuple #[ce [],Δ (n:Int),Δ 2]/\Ext w I
 | .text b=>v= .tuple #[ce [],Δ (b:Int),Δ 11]/\aj (λr=>r=g) w I/\nS I g e p at_ (b:Int)
theorem ji{bc:Nat->Prop}{a b c:x4}(h:aj S a b)(k:aj bc b c)(j:∀r,r<a.heap.size->bc r->S r):aj S a c:=
 ⟨Y7 h.size k.size,λr o e V f=>k.bb r o (h.bb r o e V f) V λhu=>f (j r (Z6.1 e).1 hu)⟩
theorem cv{g:Nat}{k:o5}{q:r8}{cs:List x1}(h:aH k e w g v l)(s:ai w j q cs)(y:e≠q)(x:hv v r):r≠j:=by
 obtain⟨rfl,_⟩:=b5 h x;obtain⟨_,⟨rfl,_⟩|⟨_,_,_,f,_⟩⟩:=h
 .obtain⟨a,n,c,h,_⟩:=x;cases h
 .rintro rfl;unfold ai at s f;rw[s]at f;injection f with h1;injection h1 with A z;exact y z.symm
theorem MW{s t:r8}{e f:o5}{b i:Nat}(q:x7.underlying s=σ (.slice t))(hi:aS x7 t 1 b z)(h:aQ .u8 w v l)(r:i<=j)(x:j<=l.length)(y:∀a,aQ .u8 w a ((l.take j).drop i)->K a):ad x7 (V5 s v (σ (.int e (i:Int))) (σ (.int f (j:Int))) ν) w K:=by
 refine uz q hi h (pC i _ rfl) (pD j _ rfl) r x λa bg=>y a (aQ.of (n:=j-i) ?_);have A:((ints .u8 l).drop (i*1)).take ((j-i)*1)=ints .u8 ((l.take j).drop i):=by
  rw[T1,T1,ints,ints,List.map_drop,List.map_take,List.drop_take]
 rw[A]at bg;exact bg
theorem MX{g at_:Nat}{E:x1}{p:Λ}(h:nS w g E p at_ (-1)):aq x7 w9 [Γ g] w (se w g E p at_):=by
 obtain⟨O,P,ak,e,bf,ae⟩:=id h;refine aF func112 ?_;rw[cT ui.u,l9,a6,aL jz.p 2 e rfl,cJ,ao];refine⟨λh=>Ω,λ_=>?_⟩;refine(MU h).Y ?_;rintro _ ab _ ⟨rfl,am⟩;obtain⟨a,Q⟩:∃a,a=at_+runN cW (p.drop at_):=⟨_,rfl⟩;rw[<-Q];have an:a<=p.length:=by have:=MT cW (p.drop at_);rw[List.length_drop]at this;omega
 refine⟨λv G=>Ext ab G/\∃i:Nat,v=Δ (i:Int)/\a<=i/\i<=p.length/\i+runN ca (p.drop i)=a+runN ca (p.drop a),λv _=>p.length-(bY v).toNat,⟨Ext.refl _,a,rfl,p9 _,an,rfl⟩,?_⟩;rintro _ G ⟨R,i,rfl,ap,hi,he⟩;have H:=am.F R;have S:=e.W H;have U:=ae.W H;refine a1 (λv y=>Ext G y/\∃c:Bool,v= .bool c/\(c=ms↔ ∃b,p[i]?=σ b/\ca b=ms)) ?_ ?_
 rotate_left
 .intro aA q;rw[aL jz.p 0 S rfl,a7 cU.u U.ls,aW,ao];refine⟨λau=>?_,λav=>q _ _ ⟨Ext.refl _,ne,rfl,⟨λh=>(by cases h),λ⟨b,e,_⟩=>by have:=(x5.1 e).1;omega⟩⟩⟩;have z:i<p.length:=Ω
  have j:=x8 z;rw[aL jz.p 0 S rfl,bm cU.u cS.i Ψ U.ls j];refine MR.Y ?_;rintro _ y _ ⟨rfl,A⟩;exact q _ _ ⟨A,_,rfl,⟨λh=>⟨_,j,h⟩,λ⟨b,e,h⟩=>by rw[j]at e;cases e;exact h⟩⟩
 rintro _ y ⟨A,c,rfl,s⟩;have I:=H.F A;have W:=e.W I;have X:=ae.W I;rw[b1];refine⟨λJ=>?_,λah=>?_⟩
 .obtain⟨b,j,aw⟩:=s.1 J;have ax:=(x5.1 j).1;rw[aR,hx Ω Ω];exact⟨⟨R.F A,i+1,rfl,Ω,ax,by rw[<-he,CC j aw]⟩,by simp only[bY];omega⟩
 have aD:=CD (f:=ca) (p:=p) (i:=i) λb e=>by
  cases V:ca b with
  |false=>rfl
  |true=>rw[s.2 ⟨b,e,V⟩]at ah;cases ah
 have ay:i=a+runN ca (p.drop a):=Ω
 refine a1 (λv K=>Ext y K/\∃c:Bool,v= .bool c/\(c=ms↔i<p.length/\∀c,p[i]?=σ c->cW c=ne)) ?_ ?_
 rotate_left
 .intro aA q;rw[aL jz.p 0 W rfl,a7 cU.u X.ls,aW,ao];refine⟨λau=>?_,λav=>q _ _ ⟨Ext.refl _,ne,rfl,⟨λh=>(by cases h),λh=>Ω⟩⟩⟩;have z:i<p.length:=Ω
  have j:=x8 z;rw[aL jz.p 0 W rfl,bm cU.u cS.i Ψ X.ls j];refine CA.Y ?_;rintro _ K _ ⟨rfl,L⟩;rw[bE];refine q _ _ ⟨L,_,rfl,⟨λh=>⟨z,λc s=>?_⟩,λh=>by rw[h.2 _ j];rfl⟩⟩;rw[j]at s;cases s;cases V:cW p[i]with
  |false=>rfl
  |true=>rw[V]at h;cases h
 rintro _ K ⟨L,aE,rfl,Y⟩;have x:=I.F L;have B:=e.W x;have C:=ae.W x;have Z:∀r,hv E r->r≠g:=λr az=>cv C B Φ az;have M:qW p at_=open Classical in if i<p.length/\(∀c,p[i]?=σ c->cW c=ne)then .text i else if a=i then .none else .word a i:=by
  unfold qW;rw[show gZ p at_=a from Q.symm,show kr p a=i from ay.symm]
 rw[b1];refine⟨λJ=>?_,λac=>?_⟩
 .rw[bR,aY jz.p rfl];refine bs (g:=g) (o:=2) al.i rfl rfl B Ξ λaG ad aH aB=>?_;unfold se;rw[M,lw (Y.1 J)];exact⟨rfl,(x.aa _).F ad,O,P,ak,aB,bf,bB C ad Z⟩
 .have af:¬(i<p.length/\∀c,p[i]?=σ c->cW c=ne):=λh=>by rw[Y.2 h]at ac;cases ac
  rw[bl,ao];refine⟨λaI=>?_,λaJ=>?_⟩
  .intro aK N _ _;rw[aL jz.p 0 (B.W N) rfl,a7 cU.u (C.W N).ls];unfold se;rw[M,m1 af,lw Ω];exact⟨p.length,rfl,x.F N⟩
  .rw[bR,aY jz.p rfl];refine bs (g:=g) (o:=1) al.i rfl rfl B Ξ λaM ag aN ai=>?_;have aj:=bB C ag Z;rw[aL jz.p 0 ai rfl];refine MW cU.u cS.i aj.ls ap hi λaO aC=>?_;rw[xA cU.u cS.u de.u aC];unfold se;rw[M,m1 af,m1 Ω];exact⟨rfl,(x.aa _).F ag,O,P,hi,ai,bf,aj⟩
abbrev b3:ak:=λ_=>False
abbrev fU(n:Nat):ak:=λr=>n<=r
theorem CE{b:Λ}{bD bv:x1}(e:aQ .i64 w bD a)(s:aQ .i64 w bv b):
  aq x7 KT [bD,bv] w λv I=>v= .bool (decide (a=b))/\Ext w I:=by
 refine aF func205 ?_;rw[a7 av.u e,a7 av.u s];simp only[bG,ao];refine⟨λj=>⟨?_,Ext.refl _⟩,λz=>?_⟩
 .rw[m5];rintro rfl;exact j rfl
 .have z:a.length=b.length:=Ω
  rw[a7 av.u e];refine cb.range a.length (λi _ U=>Ext w U/\a.take i=b.take i) e.le ⟨Ext.refl _,rfl⟩ ?_ ?_
  .rintro i t4 U k A ⟨J,q⟩ hk;simp only[aW,ao,eP];refine⟨λ_ ab B _ _=>?_,λh=>Ω⟩;have J:=J.F B;obtain⟨x,r⟩:=aK A;obtain⟨y,f⟩:=aK (l:=b) (i:=i) Ω;rw[bm av.u al.i Ψ (e.W J) r,bm av.u al.i Ψ (s.W J) f];simp only[bG,ao,aR];refine⟨λj=>⟨?_,J⟩,λC=>hk _ _ ⟨J,xp q r f Ω⟩⟩;rw[m5];rintro rfl;rw[r]at f;cases f;exact j rfl
  .rintro _ U k ⟨J,q⟩;simp only[aW,ao];refine⟨λh=>Ω,λ_=>⟨?_,J⟩⟩;rw[m3];rwa [o6,z,o6]at q
def kT(rest:List (Λ))(i:Nat):List (Λ):=(X2 i).flatMap λ(v:Nat)=>rest.map λt=>(v:Int)::t
theorem MY(rest:List (Λ))(i:Nat):kT rest (i+1)=kT rest i++rest.map λt=>(i:Int)::t:=by
 simp[kT,List.range_succ]
theorem CF(rest:List (Λ))(i:Nat):(kT rest i).length=i*rest.length:=by
 simp only[kT,List.length_flatMap,u9];rw[List.map_const',List.length_range,List.sum_replicate_nat]
def sf(l:Λ):Prop:=l.length<=90/\(∀x∈l,1<=x/\x<=32)/\aX l<=1073741824
theorem cg.p(h:cg l):sf l:=⟨by have:=h.1;omega,h.2,(prod_bound h).2⟩
theorem sf.tail{s:Λ}(h:sf (k::s)):sf s:=by
 have h1:=h.2.1 k (.head _);have a:=(oC s λx J=>h.2.1 x (.tail _ J)).1;have e:k*aX s<=1073741824:=h.2.2;have f:=Int.mul_le_mul_of_nonneg_right h1.1 (show 0<=aX s by omega);refine⟨?_,λx J=>h.2.1 x (.tail _ J),Ω⟩;have:=h.1;rw[X5]at this;omega
theorem CG:∀(s:Λ){sv:x1}{w:x4},aQ .i64 w sv s->sf s->
  aq x7 Bd [sv] w λv I=>Ext w I/\bS (fU w.heap.size) b3 I [v] (bq s)
 |[],sv,w,h,V=>by
  refine aF func29 ?_;rw[a7 av.u h];simp only[bl,List.length_nil,Int.natCast_zero,decide_true,bK];refine lZ (α:=Λ) (cs:=[.slice ν 0 0]) (A:=b3) df.u av.i Φ rfl jf λv I J aE _=>⟨J,ay.Y aE (λr _ h=>?_) λ_ _ h=>h⟩;exact h.elim False.elim id
 |k::s,sv,w,h,V=>by
  have ae:1<=aX (k::s)/\aX (k::s)<=1073741824:=⟨(oC _ V.2.1).1,V.2.2⟩;have q:=V.tail;have hk:=V.2.1 k (.head _);have P:=jg q.2.1;have am:1<=aX s/\aX s<=1073741824:=⟨(oC _ q.2.1).1,q.2.2⟩;obtain⟨kn,rfl⟩:∃kn:Nat,k=kn:=⟨k.toNat,Ω⟩;have an:kn*(bq s).length<=1073741824:=by
   have e:((kn*(bq s).length:Nat):Int)=aX ((kn:Int)::s):=by
    rw[Int.natCast_mul,P,aX,Int.toNat_of_nonneg Ω]
   omega
  refine aF func29 ?_;rw[a7 av.u h];simp only[bl,ao];refine⟨λQ=>by simp at Q;omega,λ_=>?_⟩;refine Mx rfl av.u al.i h Ξ λS bg=>?_;refine(CG s bg q).Y ?_;rintro ap ab _ ⟨E,z⟩;have au:=oB z;refine cb.range kn (λi out U=>Ext ab U/\bS (fU ab.heap.size) b3 U [out] (kT (bq s) i)) Ω ⟨Ext.refl _,jf⟩ ?_ ?_
  .rintro i out W X M ⟨f,aE⟩ Y;have Z:=bP z f;rw[fO (y:=0) (i:=0) rfl av.u al.i Ψ (h.W (E.F f)) (by rfl)];simp only[aW,ao];refine⟨λ_=>?_,λh=>Ω⟩;rw[jB df.u Z];refine cb.range (bq s).length (λj out U=>Ext ab U/\bS (fU ab.heap.size) b3 U [out] (kT (bq s) i++((bq s).take j).map λt=>(i:Int)::t)) Ω ⟨f,by simpa using aE⟩ ?_ ?_
   .rintro j out B aa ac ⟨C,aE⟩ ad;simp only[aW,ao];refine⟨λ_=>?_,λh=>Ω⟩;obtain⟨x,G⟩:=aK ac;have aw:x.length<=100:=by
     have:=ut G;have:=q.1;omega
    refine iN rfl rfl df.u av.i Ψ (bP z C) G λu hu=>?_;refine eI av.u al.i rfl λa ga ax az H af=>?_;refine kN av.u al.i rfl af (dy (bP hu H)) Θ Θ λb aA aB aC K ag=>?_;have aD:=H.size;have N:=H.then ag (by rintro r z rfl;omega);have aG:=N.size;refine lZ (α:=Λ) (a:=(i:Int)::x) (R:=b3) df.u av.i Φ (r4 (pJ K (R:=b3))) (ay.Y (pJ K) (λr _ h=>by subst h;show B.heap.size<=r;omega) λ_ _ h=>h) λc aH L _ ah=>?_;have O:=N.F L;have aI:=L.size;refine pI df.u av.i rfl (bP (oB aE) O) ah (bP (ay.Y (pJ K) (λr _ h=>by subst h;show B.heap.size<=r;omega) λ_ _ h=>h) L) (λr _ h bg=>?_) ?_ ?_ λS aJ ai aj=>?_
    .rcases bg with bg|bg
     .have:=h.2;have:B.heap.size<=r:=bg;omega
     .exact bg
    .have ak:(kT (bq s) i++((bq s).take j).map λt=>(i:Int)::t).length+1<=kn*(bq s).length:=by
      simp only[o4,CF,u9,j9];have:(i+1)*(bq s).length<=kn*(bq s).length:=X6 _ M;rw[T4]at this;omega
     omega
    .have ak:(kT (bq s) i++((bq s).take j).map λt=>(i:Int)::t).length+1<=kn*(bq s).length:=by
      simp only[o4,CF,u9,j9];have:(i+1)*(bq s).length<=kn*(bq s).length:=X6 _ M;rw[T4]at this;omega
     omega
    .simp only[aR];have aL:=C.size;refine ad _ _ ⟨(C.F O).then aj (λr z h=>?_),?_⟩
     .have:=h.1;have:ab.heap.size<=r:=this;omega
     .have e:kT (bq s) i++((bq s).take (j+1)).map (λt=>(i:Int)::t)=(kT (bq s) i++((bq s).take j).map λt=>(i:Int)::t)++[(i:Int)::x]:=by
       rw[u7,G];simp
      rw[e];refine ay.Y ai (λr _ h=>?_) λ_ _ h=>h;show ab.heap.size<=r;rcases h with h|h|h
      .exact h.1
      .have:B.heap.size<=r:=h;omega
      .omega
   .rintro out B aa ⟨C,aE⟩;simp only[aW,ao,aR];refine⟨λh=>Ω,λ_=>Y _ _ ⟨C,?_⟩⟩;rw[MY];simpa using aE
  .rintro out W X ⟨f,aE⟩;rw[fO (y:=0) (i:=0) rfl av.u al.i Ψ (h.W (E.F f)) (by rfl)];simp only[aW,ao];refine⟨λh=>Ω,λ_=>⟨E.F f,?_⟩⟩;have aM:=E.size;have e:bq ((kn:Int)::s)=kT (bq s) kn:=by simp[bq,kT]
   rw[e];exact ay.Y aE (λr _ h=>by have:ab.heap.size<=r:=h;show w.heap.size<=r;omega) λ_ _ h=>h
theorem uD(s:Λ)(h:aQ .i64 w sv s)(V:cg s):aq x7 Bd [sv] w λv I=>Ext w I/\bS (fU w.heap.size) b3 I [v] (bq s):=CG s h V.p
def sg(l:List (Λ))(t:Λ):Int:=match l.findIdx? (·=t)with
 |some i=>i
 |none=>-1
theorem MZ{s:Λ}{aV:x1}(h:aQ .i64 w sv s)(V:cg s)(A:aQ .i64 w aV t):
  aq x7 Ki [sv,aV] w λv I=>v=Δ (sg (bq s) t)/\Ext w I:=by
 have E:=jg V.2;have ae:=prod_bound V;refine aF func156 ?_;refine(uD s h V).Y ?_;rintro cQ U _ ⟨q,y⟩;rw[jB df.u y];refine cb.range (bq s).length (λi _ ab=>Ext U ab/\∀j,j<i->(bq s)[j]? ≠σ t) Ω ⟨Ext.refl _,λj a=>Ω⟩ ?_ ?_
 .rintro i _ ab k hi ⟨e,f⟩ hk;simp only[aW,ao];refine⟨λ_=>?_,λh=>Ω⟩;obtain⟨x,r⟩:=aK hi;refine iN rfl rfl df.u av.i Ψ (bP y e) r λu hu=>?_;refine(CE (dy hu) (A.W (q.F e))).Y ?_;rintro _ G _ ⟨rfl,z⟩;simp only[ao,aR];refine⟨λhe=>⟨?_,(q.F e).F z⟩,λB=>hk _ _ ⟨e.F z,λj a=>?_⟩⟩
  .subst he;have:(bq s).findIdx? (·=x)=σ i:=by
    rw[List.findIdx?_eq_some_iff_getElem];refine⟨hi,by simpa using(x5.1 r).2,λj a=>?_⟩;have:=f j a;rw[x8 Ω]at this;simpa using this
   unfold sg;rw[this]
  .by_cases C:j=i
   .subst C;rw[r];intro h;exact B (by simpa using h)
   .exact f j Ω
 .rintro _ ab k ⟨e,f⟩;simp only[aW,ao];refine⟨λh=>Ω,λ_=>⟨?_,q.F e⟩⟩;have:(bq s).findIdx? (·=t)=ν:=by
   rw[List.findIdx?_eq_none_iff];intro x J;obtain⟨j,a,rfl⟩:=List.mem_iff_getElem.1 J;have:=f j a;rw[x8 a]at this;simpa using this
  unfold sg;rw[this]
theorem M0:∀(x:Nat),0<x->∃k m,x=2 ^ k*(2*m+1):=by
 intro x;induction x using Nat.strongRecOn with
 |_ x a=>
  intro h;by_cases e:x % 2=1
  .exact⟨0,x / 2,Ω⟩
  .obtain⟨k,m,hk⟩:=a (x / 2) Ω Ω;refine⟨k+1,m,?_⟩;rw[Nat.pow_succ,Nat.mul_assoc,Nat.mul_comm 2,<-Nat.mul_assoc,<-hk];omega
theorem xE{k m i:Nat}:(2 ^ k*(2*m+1)).testBit i=(decide (i=k)||decide (k<i)&&m.testBit (i-k-1)):=by
 rw[Nat.testBit_two_pow_mul];by_cases h:k<=i
 .obtain⟨d,rfl⟩:=Nat.exists_eq_add_of_le h;cases d with
  |zero=>simp
  |succ d=>
   have e:(2*m+1).testBit (d+1)=m.testBit d:=by rw[Nat.testBit_succ];congr 1;omega
   simp[e,show k+(d+1)-k=d+1 by omega]
 .simp[h,show i≠k by omega,show¬k<i by omega]
theorem M1{k m:Nat}(J:2 ^ k*(2*m+1)<2 ^ 64):(2 ^ k*(2*m+1)) &&& (2 ^ 64-2 ^ k*(2*m+1))=2 ^ k:=by
 have q:=Nat.two_pow_pos k;have hk:k<64:=by
  rcases Nat.lt_or_ge k 64 with h|h
  .exact h
  .have:2 ^ 64<=2 ^ k:=T3 Ω h;have:2 ^ k*1<=2 ^ k*(2*m+1):=Nat.mul_le_mul_left _ Ω;omega
 have e:2 ^ k*(2*m+1)=(2 ^ k*(2*m)+(2 ^ k-1))+1:=by rw[Nat.mul_add];omega
 apply Nat.eq_of_testBit_eq;intro i;rw[Nat.testBit_and,xE]
 conv=>lhs;rhs;rw[e]
 rw[Nat.testBit_two_pow_sub_succ Ω,Nat.testBit_two_pow_mul_add _ Ω,Nat.testBit_two_pow];by_cases h1:i=k
 .subst h1;simp[hk]
 .by_cases a:k<i
  .have f:(2*m).testBit (i-k)=m.testBit (i-k-1):=by
    obtain⟨d,j⟩:∃d,i-k=d+1:=⟨i-k-1,Ω⟩;rw[j,Nat.testBit_succ];congr 1;omega
   simp[h1,a,show¬i<k by omega,f,show k≠i by omega];intro h;simp[h]
  .simp[h1,a,show k≠i by omega]
def lp(a c:Nat):Nat:=(BitVec.ofNat 64 a &&& ~~~BitVec.ofNat 64 c).toNat
theorem CH(a c i:Nat):(lp a c).testBit i=(decide (i<64)&&(a.testBit i&& !c.testBit i)):=by
 unfold lp;rw[BitVec.testBit_toNat,BitVec.getLsbD_and,BitVec.getLsbD_not,BitVec.getLsbD_ofNat,BitVec.getLsbD_ofNat];by_cases h:i<64<;>simp[h]
theorem M2(a c:Nat):lp a c<2 ^ 64:=BitVec.isLt _
theorem M3{a:Nat}(h:∀i,n<=i->a.testBit i=ne):a<2 ^ n:=Nat.lt_pow_two_of_testBit a h
theorem CI{a i:Nat}(h:a<2 ^ n)(hi:n<=i):a.testBit i=ne:=Nat.testBit_lt_two_pow (Nat.lt_of_lt_of_le h (T3 Ω hi))
def gD(b n:Nat):List Nat:=(X2 n).filter λi=>b.testBit i
theorem CJ(b n:Nat):(gD b n).Pairwise (·< ·):=List.Pairwise.filter _ List.pairwise_lt_range
theorem xF{b i:Nat}:i∈gD b n↔i<n/\b.testBit i=ms:=by simp[gD]
def pQ:Option Nat->Int
 |some i=>(i:Int)
 |none=>-1
def lq(b n:Nat)(v:Int):Int:=pQ ((X2 n).find? (λi:Nat=>decide (v<(i:Int))&&b.testBit i))
theorem CK:∀{l:List Nat}{k x:Nat},l.Pairwise (·< ·)->l[k]?=σ x->l.filter (λi=>decide (x<i))=l.drop (k+1)
 |y::l,0,x,h,hk=>by
  simp at hk;subst hk;rw[List.pairwise_cons]at h;simp only[List.drop_succ_cons,List.drop_zero];rw[List.filter_cons_of_neg Ξ,List.filter_eq_self.2 λa e=>by simpa using h.1 a e]
 |y::l,k+1,x,h,hk=>by
  simp only[List.getElem?_cons_succ]at hk;rw[List.pairwise_cons]at h;have:y<x:=h.1 x (x6 hk);rw[List.filter_cons_of_neg Θ,List.drop_succ_cons];exact CK h.2 hk
theorem CL(b n:Nat)(v:Int):lq b n v=pQ (((gD b n).filter (λi:Nat=>decide (v<i))).head?):=by
 unfold lq gD;rw[<-List.head?_filter,List.filter_filter]
theorem M4(b n:Nat):lq b n (-1)=pQ ((gD b n)[0]?):=by
 rw[CL,List.filter_eq_self.2 (λa _=>Θ),List.head?_eq_getElem?]
theorem CM{b k x:Nat}(h:(gD b n)[k]?=σ x):lq b n x=pQ ((gD b n)[k+1]?):=by
 have e:(λi:Nat=>decide ((x:Int)<i))=λi=>decide (x<i):=by funext i;simp
 rw[CL,e,CK (CJ b n) h,List.head?_eq_getElem?,List.getElem?_drop]
theorem M5{b:Nat}{v:Int}(h:(n:Int)-1<=v):lq b n v= -1:=by
 unfold lq;rw[List.find?_eq_none.2 λi hi=>by simp at hi ⊢;omega];rfl
theorem M6{b k m s:Nat}(z:n<=64)(f:b<2 ^ n)(e:∀i,r.testBit i=(decide (s<=i)&&b.testBit i))(hk:r=2 ^ k*(2*m+1)){v:Int}(ac:v+1=s):lq b n v=k:=by
 have q:r.testBit k=ms:=by rw[hk,xE];simp
 have w:∀i,i<k->r.testBit i=ne:=λi hi=>by rw[hk,xE];simp[show i≠k by omega,show¬k<i by omega]
 have a:=q;rw[e]at a;simp at a;have x:k<n:=by
  rcases Nat.lt_or_ge k n with h|h
  .exact h
  .rw[CI f h]at a;cases a.2
 unfold lq;have:(X2 n).find? (λi:Nat=>decide (v<(i:Int))&&b.testBit i)=σ k:=by
  rw[List.find?_range_eq_some];refine⟨by simp[a.2];omega,by simpa using x,λj y=>?_⟩;have:=w j y;rw[e]at this;simp only[Bool.not_eq_true',Bool.and_eq_false_iff,decide_eq_false_iff_not]at this ⊢;rcases this with h|h
  .exact .inl Ω
  .exact .inr h
 rw[this];rfl
theorem M7{b s:Nat}(a:∀i,r.testBit i=(decide (s<=i)&&b.testBit i))(hk:r=0){v:Int}(ac:v+1=s):lq b n v= -1:=by
 unfold lq;rw[List.find?_eq_none.2]
 .rfl
 .intro i hi;have:=a i;rw[hk,Nat.zero_testBit]at this;simp at hi this ⊢;intro h;exact this Ω
section
variable{P:W5}{w:x4}{t:r8}{cx cy:Bool}{a b:Nat}{K:x1->Prop}
theorem oG(a:Nat):U8 64 (a:Int)=BitVec.ofNat 64 a:=BitVec.ofInt_natCast _ _
theorem CN(x:BitVec 64):U5.wrap (x.toNat:Int)=(x.toNat:Int):=by
 have:=x.isLt;rw[lc Ω Ω]
theorem u64_and(f:a<2 ^ 64)(h:b<2 ^ 64):ad P (aU .and t cx cy (.int .u64 a) (.int .u64 b)) w K=K (.int .u64 ((a &&& b:Nat):Int)):=ad.of λI _=>by
 have e:(U8 64 (a:Int) &&& U8 64 (b:Int)).toNat=a &&& b:=by
  rw[oG,oG,BitVec.toNat_and,BitVec.toNat_ofNat,BitVec.toNat_ofNat,Nat.mod_eq_of_lt f,Nat.mod_eq_of_lt h]
 have hw:U5.wrap ((a &&& b:Nat):Int)=((a &&& b:Nat):Int):=by rw[<-e];exact CN _
 have j:(U8 U5.bits (a:Int) &&& U8 U5.bits (b:Int)).toNat=a &&& b:=e;simp only[aU,eqGuard,binOp,Op.intBits,j,hw];rfl
theorem CO:ad P (aU .andNot t cx cy (.int .u64 a) (.int .u64 b)) w K=K (.int .u64 (lp a b:Int)):=ad.of λI _=>by
 have e:(U8 64 (a:Int) &&& ~~~U8 64 (b:Int)).toNat=lp a b:=by rw[oG,oG];rfl
 have hw:U5.wrap (lp a b:Int)=(lp a b:Int):=CN _;have f:(U8 U5.bits (a:Int) &&& ~~~U8 U5.bits (b:Int)).toNat=lp a b:=e;simp only[aU,eqGuard,binOp,Op.intBits,f,hw];rfl
theorem mO{k:o5}(f:n<64):ad P (aU .shr t cx cy (.int .u64 (a:Int)) (.int k (n:Int))) w K=K (.int .u64 ((a / 2 ^ n:Nat):Int)):=ad.of λI _=>by
 have e:(a:Int).fdiv (2 ^ min n U5.bits)=((a / 2 ^ n:Nat):Int):=by
  have:min n U5.bits=n:=Nat.min_eq_left (by show n<=64;omega);rw[this,Int.fdiv_eq_ediv_of_nonneg _ (by exact Int.le_of_lt (Int.pow_pos Ω))];simp
 simp only[aU,eqGuard,binOp,Op.shift,u5,e];simp[show¬(n:Int)<0 by omega]
theorem xG{k:o5}(a:n<64):ad P (aU .shl t cx cy (.int .u64 1) (.int k (n:Int))) w K=K (.int .u64 ((2 ^ n:Nat):Int)):=by
 rw[BO Ω];have e:min ((n:Int).toNat) U5.bits=n:=Nat.min_eq_left (by show n<=64;omega);have f:2 ^ n<2 ^ 64:=Nat.pow_lt_pow_right Ω a;rw[e,Int.one_mul,show((2:Int) ^ n)=((2 ^ n:Nat):Int) by simp];generalize 2 ^ n=q at f ⊢;rw[lc Ω Ω]
end
def uE:Λ:=[0,1,56,2,57,49,28,3,61,58,42,50,38,29,17,4,62,47,59,36,45,43,51,22,53,39,33,30,24,18,12,5,63,55,48,27,60,41,37,16,46,35,44,21,52,32,23,11,54,26,40,15,34,20,31,10,25,14,19,9,13,8,7,6]
def Laid(w:x4):Prop:=w.rangeAt 0 0 (ints .u8 uE)
theorem Laid.W(h:Laid w)(J:Ext w I):Laid I:=pz J h
theorem M8:∀k:Nat,k<64->uE[(2 ^ k*285870213051353865 % 2 ^ 64) / 2 ^ 58]?=σ (k:Int):=Φ
theorem M9{x k m:Nat}(f:Laid w)(J:x=2 ^ k*(2*m+1))(j:x<2 ^ 64):
  aq x7 Kf [.int .u64 (x:Int)] w λv I=>v=Δ (k:Int)/\Ext w I:=by
 have z:=Nat.two_pow_pos k;have A:2 ^ k<=x:=by
  have:2 ^ k*1<=2 ^ k*(2*m+1):=Nat.mul_le_mul_left _ Ω;omega
 have hk:k<64:=by
  rcases Nat.lt_or_ge k 64 with h|h
  .exact h
  .have:2 ^ 64<=2 ^ k:=T3 Ω h;omega
 refine aF func153 ?_;simp only[bl,ao];refine⟨λh=>Ω,λ_=>?_⟩;rw[nJ];have q:U5.wrap (0-(x:Int))=((2 ^ 64-x:Nat):Int):=by
  simp only[o5.wrap,o5.bits,o5.signed];simp;omega
 rw[q,u64_and j Ω,J,M1 Ω];simp only[iv];have r:U5.wrap (((2 ^ k:Nat):Int)*285870213051353865)=((2 ^ k*285870213051353865 % 2 ^ 64:Nat):Int):=by
  have e:((2 ^ k:Nat):Int)*285870213051353865=((2 ^ k*285870213051353865:Nat):Int):=Ξ
  rw[e];simp only[o5.wrap,o5.bits,o5.signed];simp
 have s:(58:Int)=((58:Nat):Int):=rfl;rw[r,s,mO Ω];have a:=M8 k hk;have y:=(x5.1 a).1;rw[xo xk.u cS.i y,aD Ψ (by rw[T1];exact f _ _ (mJ a)),fN cS.u al.u,hx Ω Ω];exact⟨rfl,Ext.refl _⟩
def ks(b n:Nat):x1:=.agg #[.int .u64 (b:Int),Δ (n:Int)]
def mP(b n:Nat):Prop:=n<=32/\b<2 ^ n
theorem CP(s i:Nat):(2 ^ s-1).testBit i=decide (i<s):=Nat.testBit_two_pow_sub_one s i
theorem CQ{b:Nat}{v:Int}:aq x7 J0 [ks b n,Δ v] w λr I=>r= .bool (decide (0<=v/\v<n))/\Ext w I:=by
 refine aF func135 ?_;refine bo λg U f a e=>?_;simp only[cC,cJ,ao];refine⟨λh=>?_,λh=>⟨?_,a⟩⟩
 .rw[aO b9.p 1 e rfl];simp only[aW];exact⟨by simp[h],a⟩
 .rw[m5];omega
theorem xH{b:Nat}:aq x7 Jk [ks b n] w λr I=>r=Δ n/\Ext w I:=by
 refine aF func67 ?_;refine bo λg U f a e=>?_;rw[aO b9.p 1 e rfl];exact⟨rfl,a⟩
theorem Na{n:Int}:aq x7 Ji [Δ n] w λr I=>Ext w I/\r=(if 1<=n/\n<=32 then .tuple #[ks (2 ^ n.toNat-1) n.toNat,Δ 0]else .tuple #[ks 0 0,Δ 1]):=by
 refine aF func65 ?_;refine bC b9.i λg U z f j=>?_;refine a1 (λv ab=>v= .bool (decide (¬(1<=n/\n<=32)))/\U=ab) ?_ ?_
 .rintro _ _ ⟨rfl,rfl⟩;simp only[ao];refine⟨λh=>?_,λh=>?_⟩
  .rw[dk (cs:=#[.int .u64 0,Δ 0]) Ψ];refine b8 (vs:=[.int .u64 0,Δ 0]) b9.i rfl rfl (by intro u hu;simp at hu;rcases hu with rfl|rfl<;>rfl) j λs a x e=>?_;rw[gk b9.p b9.i rfl e.range,m1 h];exact⟨f.then a (by rintro r y rfl;omega),rfl⟩
  .have h:1<=n/\n<=32:=X0.1 h;obtain⟨m,rfl⟩:∃m:Nat,n=m:=⟨n.toNat,Ω⟩;rw[xG Ω];have ae:=Nat.two_pow_pos m;have A:2 ^ m<=2 ^ 32:=T3 Ω Ω;simp only[c5];rw[lc Ω Ω,show(((2 ^ m:Nat):Int)-1)=((2 ^ m-1:Nat):Int) by omega];rw[dk (cs:=#[.int .u64 ((2 ^ m-1:Nat):Int),Δ m]) Ψ];refine b8 (vs:=[.int .u64 ((2 ^ m-1:Nat):Int),Δ m]) b9.i rfl rfl (by intro u hu;simp at hu;rcases hu with rfl|rfl<;>rfl) j λs a x e=>?_;rw[gk b9.p b9.i rfl e.range,lw h];exact⟨f.then a (by rintro r y rfl;omega),rfl⟩
 .intro aA q;simp only[aW,bU,ao];refine⟨λh=>q _ _ ⟨?_,rfl⟩,λh=>q _ _ ⟨?_,rfl⟩⟩
  .rw[m3];omega
  .congr 1;simp;omega
theorem CR{b:Nat}{v:Int}(y:mP b n)(z:Laid w)(ac: -1<=v):aq x7 Jx [ks b n,Δ v] w λr I=>r=Δ (lq b n v)/\Ext w I:=by
 obtain⟨G,e⟩:=y;have f:b<2 ^ 64:=Nat.lt_of_lt_of_le e (T3 Ω Ω);refine aF func83 ?_;refine bo λg U H a j=>?_;rw[aO b9.p 1 j rfl];simp only[c5,cJ,ao];rw[hx Ω Ω];refine⟨λh=>⟨by rw[M5 h],a⟩,λJ=>?_⟩;rw[aO b9.p 0 j rfl];refine a1 (λu ab=>U=ab/\∃r s:Nat,u= .int .u64 (r:Int)/\r<2 ^ 64/\v+1=s/\∀i,r.testBit i=(decide (s<=i)&&b.testBit i)) ?_ ?_
 .rintro _ _ ⟨rfl,r,s,rfl,A,V,q⟩;simp only[bl,ao];refine⟨λB=>⟨by rw[M7 q Ω V],a⟩,λB=>?_⟩;obtain⟨k,m,hk⟩:=M0 r Ω;refine(M9 (z.W a) hk A).Y ?_;rintro _ K _ ⟨rfl,C⟩;exact⟨by rw[M6 Ω e q hk V],a.F C⟩
 .intro aA x;refine⟨λh=>?_,λh=>?_⟩
  .obtain⟨s,rfl⟩:∃s:Nat,v=s:=⟨v.toNat,Ω⟩;have ae:0<2 ^ (s+1):=Nat.two_pow_pos _;have L:2 ^ (s+1)<=2 ^ 32:=T3 Ω Ω;simp only[aR];rw[hx Ω Ω,show((s:Int)+1)=((s+1:Nat):Int) by omega,xG Ω];simp only[c5];rw[lc Ω Ω,show(((2 ^ (s+1):Nat):Int)-1)=((2 ^ (s+1)-1:Nat):Int) by omega,CO];refine x _ _ ⟨rfl,_,s+1,rfl,M2 _ _,Ω,λi=>?_⟩;rw[CH,CP];by_cases E:i<64
   .by_cases hi:s+1<=i
    .simp[E,hi,show¬i<s+1 by omega]
    .simp[hi,show i<s+1 by omega]
   .rw[CI f Ω];simp
  .exact x _ _ ⟨rfl,b,0,rfl,f,Ω,λi=>Ξ⟩
theorem Nb{b:Nat}(e:mP b n)(f:Laid w):aq x7 Jw [ks b n] w λr I=>r=Δ (lq b n (-1))/\Ext w I:=by
 refine aF func82 ?_;refine bo λg U q a h=>?_;rw[bF b9.p b9.i rfl h.range];refine(CR e (f.W a) Ω).Y ?_;rintro _ ab _ ⟨rfl,j⟩;exact⟨rfl,a.F j⟩
theorem Nc{b:Nat}{v:Int}(H:mP b n):aq x7 Jl [ks b n,Δ v] w λr I=>r=ks (if 0<=v/\v<n then lp b (2 ^ v.toNat)else b) n/\Ext w I:=by
 refine aF func68 ?_;refine bo λg U R x y=>?_;refine bC b9.i λJ ab S z A=>?_;have s1:=x.size;have V:=y.lt;refine cZ (λe=>∃f,ai e g b9 [.int .u64 ((f:Nat):Int),Δ (n:Int)]/\ai e J b9 [.int .u64 0,Δ 0]/\Ext w e/\f=(if 0<=v/\v<n then lp b (2 ^ v.toNat)else b)) ?_ ?_
 .rintro e ⟨f,K,L,M,rfl⟩;rw[bF b9.p b9.i rfl K.range];refine b8 (vs:=[_,_]) b9.i rfl rfl (by intro u hu;simp at hu;rcases hu with rfl|rfl<;>rfl) L λW N X O=>?_;rw[gk b9.p b9.i rfl O.range];exact⟨rfl,M.then N (by rintro r P rfl;omega)⟩
 .intro aA B;have j:=y.W z;rw[bF b9.p b9.i rfl j.range];refine CQ.Y ?_;rintro _ Y _ ⟨rfl,a⟩;have C:=(x.F z).F a;simp only[ao,eP];refine⟨λh Z q _ _=>?_,λh=>B _ ⟨b,j.W a,A.W a,C,by rw[m1 h]⟩⟩;have E:=(j.W a).W q;rw[aO b9.p 0 E rfl];obtain⟨s,rfl⟩:∃s:Nat,v=s:=⟨v.toNat,Ω⟩;have ac:=H.1;rw[xG Ω,CO,aY b9.p rfl];refine bs fL.i rfl rfl E (by simp[ks,x1.cells]) λad G ae Q=>?_;refine B _ ⟨_,Q,((A.W a).W q).aa G Ω,(C.F q).then G (by rintro r P rfl;omega),?_⟩;rw[lw h,u5]
def qX(v:Int):Nat:=if v<0 then 0 else 40-v.toNat
theorem xI(x:Nat):qX x=40-x:=by unfold qX;rw[m1 Ω];omega
theorem l2{b g:Nat}(a:mP b n):
  pn x7 jy [Γ g] (gD b n).length (λk vs _=>∃v:Nat,(gD b n)[k]?=σ v/\vs=[Δ (v:Int)])
   (λw=>ai w g b9 [.int .u64 (b:Int),Δ (n:Int)]/\Laid w):=by
 refine⟨jy.enters,λl aA O w j _ B ⟨q,r⟩ C=>?_⟩;have P:=a.1;refine qO func81 ?_;rw[bF b9.p b9.i rfl q.range];refine(Nb a r).free.Y ?_;rintro _ U ⟨E,rfl,J⟩;refine⟨λv ab=>∃k,k<=(gD b n).length/\v=Δ (pQ (gD b n)[k]?)/\aA k ab/\ai ab g b9 [.int .u64 (b:Int),Δ (n:Int)]/\Laid ab,
  λv _=>qX (bY v),⟨0,X9 _,by rw[M4],j 0 _ _ J E.b C,q.W J,r.W J⟩,?_⟩
 rintro _ ab ⟨k,hk,rfl,s,G,H⟩;cases ac:(gD b n)[k]? with
 |none=>
  have:k=(gD b n).length:=by
   have:=List.getElem?_eq_none_iff.1 ac;omega
  subst this;simp only[pQ,cJ,ao];exact⟨λh=>Ω,λ_=>.inl s⟩
 |some x=>
  have e:=(x5.1 ac).1;have Q:=(xF.1 (x6 ac)).1;simp only[pQ,cJ,ao];refine⟨λ_=>?_,λh=>Ω⟩;refine⟨rfl,(B k _ ab e ⟨G,H⟩ ⟨x,ac,rfl⟩ s).Y ?_⟩;rintro _ R (⟨rfl,⟨z,A⟩,I⟩|⟨rfl,K⟩)
  .simp only[bE,Y1,a6];rw[bF b9.p b9.i rfl z.range];refine(CR a A Ω).free.Y ?_;rintro _ S ⟨L,rfl,f⟩;refine⟨⟨k+1,e,congrArg (V6 .i64) (CM ac),j _ _ _ f L.b I.1,z.W f,A.W f⟩,?_⟩;rw[CM ac];cases M:(gD b n)[k+1]? with
   |none=>show 0<qX x;rw[xI];omega
   |some y=>
    have V:x<y:=by
     have h1:=(x5.1 ac).2;have N:=(x5.1 M).2;rw[<-h1,<-N];exact U3.1 (CJ b n) k (k+1) _ _ Ω
    show qX y<qX x;rw[xI,xI];omega
  .simp only[bE,X4,bK];exact .inr ⟨k,e,K⟩
theorem l3{b:Nat}:aq x7 IY [ks b n] w λr I=>Ext w I/\∃g,r= .func (.func jy) #[] #[Γ g]/\w.heap.size<=g/\ai I g b9 [.int .u64 (b:Int),Δ (n:Int)]:=by
 refine aF func35 ?_;refine bo λg U f a e=>?_;rw[lh];exact⟨a,g,rfl,Ω,e⟩
abbrev dN(s:Λ):Prop:=∀x∈s,1<=x/\x<=32
theorem dN.tail{s:Λ}(h:dN (k::s)):dN s:=λx J=>h x (.tail _ J)
theorem nT{s:Λ}(h:dN s):1<=aX s:=(oC s h).1
theorem qY:∀(s t:Λ)(m:Int),ct s t m=(ct s t 0).map λn=>n+m*aX s
 |[],[],m=>by simp[ct,aX]
 |k::s,v::t,m=>by
  unfold ct;split
  .rw[qY s t (m*k+v),qY s t (0*k+v)];simp only[Option.map_map,aX];congr 1;funext n;simp only[Function.comp];rw[Int.add_mul,Int.add_mul,<-Int.mul_assoc];simp;omega
  .rfl
 |[],_::_,_=>rfl
 |_::_,[],_=>rfl
theorem xJ{L j:Nat}{rest:List (Λ)}(e:rest.length=L):∀{kn v:Nat},v<kn->∀{x:Λ},rest[j]?=σ x->
  ((X2 kn).flatMap λ(v:Nat)=>rest.map λt=>(v:Int)::t)[v*L+j]?=σ ((v:Int)::x)
 |0,v,h,_,_=>Ω
 |kn+1,v,h,x,J=>by
  have f:=(x5.1 J).1;have a:((X2 kn).flatMap λ(v:Nat)=>rest.map λt=>(v:Int)::t).length=kn*L:=by
   simp only[List.length_flatMap,u9,e];rw[List.map_const',List.length_range,List.sum_replicate_nat]
  rw[List.range_succ,List.flatMap_append];by_cases ac:v<kn
  .have:(v+1)*L<=kn*L:=X6 _ ac;rw[T4]at this;rw[V3 (by rw[a];omega)];exact xJ e ac J
  .have ac:v=kn:=Ω
   subst ac;rw[X1 (by rw[a];omega),a,show v*L+j-v*L=j by omega];simp[J]
theorem kt:∀{s:Λ},dN s->∀{i:Nat}{t:Λ},(bq s)[i]?=σ t->ct s t 0=σ (i:Int)
 |[],_,i,t,h=>by
  cases i with
  |zero=>simp[bq]at h;subst h;rfl
  |succ i=>simp[bq]at h
 |k::s,V,i,t,h=>by
  have hk:=V k (.head _);have a:=jg V.tail;have ae:=nT V.tail;obtain⟨kn,rfl⟩:∃kn:Nat,k=kn:=⟨k.toNat,Ω⟩;have hi:=(x5.1 h).1;rw[jg V,aX,Int.toNat_mul Ω Ω,<-a,u5]at hi;have f:0<(bq s).length:=Ω
  have ac:i / (bq s).length<kn:=Nat.div_lt_of_lt_mul (by rw[Nat.mul_comm];exact hi);have j:i % (bq s).length<(bq s).length:=Nat.mod_lt _ f;obtain⟨x,J⟩:∃x,(bq s)[i % (bq s).length]?=σ x:=⟨_,x8 j⟩;have e:=xJ rfl ac J;rw[Nat.mul_comm,Nat.div_add_mod]at e;have bg:((X2 ((kn:Int).toNat)).flatMap λ(v:Nat)=>(bq s).map λt=>(v:Int)::t)[i]?=σ t:=h;rw[u5,e]at bg;cases bg;unfold ct;rw[lw ⟨Int.natCast_nonneg _,Int.ofNat_lt.2 ac⟩,qY,kt V.tail J];simp only[Y9,W9,Int.zero_mul,Int.zero_add];have q:aX s=((bq s).length:Int):=by rw[a];omega
  rw[q,<-Int.natCast_mul,<-Int.natCast_add];congr 1;rw[Nat.mul_comm,Nat.add_comm,Nat.div_add_mod]
theorem l4:∀{s:Λ},dN s->∀{t:Λ}{n:Int},ct s t 0=σ n->(bq s)[n.toNat]?=σ t
 |[],_,[],n,h=>by simp[ct]at h;subst h;rfl
 |k::s,V,v::t,n,h=>by
  have hk:=V k (.head _);have j:=jg V.tail;have ae:=nT V.tail;obtain⟨kn,rfl⟩:∃kn:Nat,k=kn:=⟨k.toNat,Ω⟩;unfold ct at h;split at h
  .rename_i ac;rw[qY]at h;cases f:ct s t 0 with
   |none=>rw[f]at h;cases h
   |some q=>
    rw[f]at h;simp only[Y9,W9,Int.zero_mul,Int.zero_add]at h;have r:=pK V.tail f;simp only[Int.zero_mul,Int.zero_add,Int.one_mul]at r;obtain⟨a,rfl⟩:∃a:Nat,v=a:=⟨v.toNat,Ω⟩;have w:=xJ (kn:=kn) (v:=a) rfl Ω (l4 V.tail f);have e:n.toNat=a*(bq s).length+q.toNat:=by
     rw[<-h,j];have:((a*(aX s).toNat:Nat):Int)=(a:Int)*aX s:=by rw[Int.natCast_mul,Int.toNat_of_nonneg Ω]
     omega
    rw[e];show((X2 ((kn:Int).toNat)).flatMap λ(v:Nat)=>(bq s).map λt=>(v:Int)::t)[_]?=_;rw[u5];exact w
  .cases h
 |[],_,_::_,_,h=>by cases h
 |_::_,_,[],_,h=>by cases h
theorem CS:∀(s:Λ),dN s->∀(n c:Int),dl s (n+c*aX s)=dl s n
 |[],_,_,_=>rfl
 |k::s,V,n,c=>by
  have ae:=nT V.tail;simp only[dl,aX];rw[<-Int.mul_assoc,CS s V.tail,Int.add_mul_ediv_right _ _ Ω,Int.add_mul_emod_self_right]
theorem uF:∀{s:Λ},dN s->∀{n:Int},0<=n->n<aX s->ct s (dl s n) 0=σ n
 |[],_,n,a,h1=>by simp[aX]at h1;simp[dl,ct];omega
 |k::s,V,n,a,h1=>by
  have hk:=V k (.head _);have ae:=nT V.tail;simp only[dl,aX]at h1 ⊢;have f:=Int.ediv_lt_of_lt_mul Ω h1;have h:0<=n / aX s:=Int.ediv_nonneg a Ω;have hm:n / aX s % k=n / aX s:=Int.emod_eq_of_lt h f;rw[hm];unfold ct;rw[lw ⟨h,f⟩,qY];have e:dl s n=dl s (n % aX s):=by
   have:=CS s V.tail (n % aX s) (n / aX s);rw[<-this];congr 1;have:=Int.emod_add_mul_ediv n (aX s);rw[Int.mul_comm (n / aX s)];omega
  rw[e,uF V.tail (Int.emod_nonneg _ Ω) (Int.emod_lt_of_pos _ Ω)];simp only[Y9,W9,Int.zero_mul,Int.zero_add];have:=Int.emod_add_mul_ediv n (aX s);rw[Int.mul_comm (n / aX s)];omega
theorem qZ{s:Λ}(V:dN s){i:Nat}(h:(i:Int)<aX s):(bq s)[i]?=σ (dl s i):=by
 have:=l4 V (uF V Ω h);simpa using this
def bt(s cs t:Λ):Int:=match ct s t 0 with
 |some n=>cs.getD n.toNat 0
 |none=>0
def upto{α:Type}(l:List α)(d:α)(i:Nat):List α:=l.take i++r9 (l.length-i) d
theorem sh{α:Type}(l:List α)(d:α)(i:Nat):(upto l d i).length=l.length:=by simp[upto];omega
theorem si{α:Type}(l:List α)(d:α):upto l d 0=r9 l.length d:=by simp[upto]
theorem sj{α:Type}(l:List α)(d:α):upto l d l.length=l:=by simp[upto]
theorem sk{α:Type}{l:List α}{d x:α}{i:Nat}(h:l[i]?=σ x):(upto l d i).set i x=upto l d (i+1):=by
 have hi:=(x5.1 h).1;unfold upto;rw[U9 _ _ Θ,u7,h];have e:i-(l.take i).length=0:=Θ
 obtain⟨m,hm⟩:∃m,l.length-i=m+1:=⟨l.length-i-1,Ω⟩;rw[e,hm,show l.length-(i+1)=m by omega];simp[List.replicate_succ]
theorem sn{α:Type}{l:List α}{i:Nat}{x:α}(h:l[i]?=σ x):l.set i x=l:=by
 apply Y5;intro j;rw[X8];split
 .rename_i a;subst a;rw[lw (x5.1 h).1,h]
 .rfl
def xK:Λ->Int
 |[]=>0
 |x::l=>l.foldl min x
def CT(P:Int->Prop)(m:Int):Prop:=P m/\∀x,P x->m<=x
def dE(s t:Λ):Prop:=∃n,ct s t 0=σ n
theorem Nd(k v:Int)(s t:Λ):ct (k::s) (v::t) 0=if 0<=v/\v<k then(ct s t 0).map (λn=>n+(0*k+v)*aX s)else ν:=by
 conv=>lhs;unfold ct
 rw[qY]
theorem CU{v:Int}{s:Λ}:dE (k::s) (v::t)↔(0<=v/\v<k)/\dE s t:=by
 unfold dE;rw[Nd];constructor
 .rintro⟨n,h⟩;split at h
  .rename_i ac;cases a:ct s t 0 with
   |none=>rw[a]at h;cases h
   |some q=>exact⟨ac,q,rfl⟩
  .cases h
 .rintro⟨ac,q,a⟩;rw[lw ac,a];exact⟨_,rfl⟩
theorem CV:dE [] t↔t=[]:=by
 cases t with
 |nil=>exact⟨λ_=>rfl,λ_=>⟨0,rfl⟩⟩
 |cons v t=>
  constructor
  .rintro⟨_,h⟩;cases h
  .intro h;cases h
theorem uG{s:Λ}(h:dE s t):s.length=t.length:=by
 obtain⟨n,h⟩:=h;rcases Nat.decEq s.length t.length with a|a
 .rw[xr s t 0 a]at h;cases h
 .exact a
theorem CW{s:Λ}(V:dN s){n:Int}(h:ct s t 0=σ n):dl s n=t:=by
 have f:=pK V h;have h1:=l4 V h;simp only[Int.zero_mul,Int.zero_add,Int.one_mul]at f;have a:=qZ V (i:=n.toNat) Ω;rw[h1]at a;have e:((n.toNat:Nat):Int)=n:=Ω
 rw[e]at a;exact(Z4 a).symm
theorem xL{s:Λ}(V:dN s)(a:cs.length=(aX s).toNat):cs=(X2 (aX s).toNat).map λ(q:Nat)=>bt s cs (dl s q):=by
 apply List.ext_getElem
 .simp[a]
 .intro i h1 e;rw[List.getElem_map,List.getElem_range];have ae:=nT V;have hi:(i:Int)<aX s:=Ω
  unfold bt;rw[uF V Ω hi];simp only[u5];rw[p8,x8 h1];rfl
theorem xM{s:Λ}(V:dN s){q:Nat}(a:q<(aX s).toNat):dE s (dl s q):=⟨_,uF V Ω (by have:=nT V;omega)⟩
theorem Nf{s:Λ}(V:dN s)(e:cs.length=(aX s).toNat)(f:a.length=(aX s).toNat)(h:∀t,dE s t->bt s cs t=bt s a t):cs=a:=by
 rw[xL V e,xL V f];apply List.map_congr_left;intro q j;exact h _ (xM V (by simpa using j))
theorem Ng(h:l≠[]):CT (λc=>c∈l) (xK l):=by
 obtain⟨x,r,rfl⟩:∃v r,l=v::r:=by cases l with
  |nil=>exact m2 rfl h
  |cons v r=>exact⟨v,r,rfl⟩
 clear h;show CT (λc=>c∈x::r) (r.foldl min x);induction r generalizing x with
 |nil=>exact⟨.head _,λy f=>by simp at f;simp[f]⟩
 |cons y r j=>
  rw[List.foldl_cons];obtain⟨h1,e⟩:=j (min x y);refine⟨?_,λz a=>?_⟩
  .rcases List.mem_cons.1 h1 with h1|h1
   .rw[h1];rcases Int.le_total x y with h|h
    .rw[Int.min_eq_left h];exact .head _
    .rw[Int.min_eq_right h];exact .tail _ (.head _)
   .exact .tail _ (.tail _ h1)
  .rcases List.mem_cons.1 a with rfl|a
   .have:=e _ (.head _);omega
   .rcases List.mem_cons.1 a with rfl|a
    .have:=e _ (.head _);omega
    .exact e _ (.tail _ a)
def q0(m:Λ)(i j:Nat):Prop:=∀(p q:Nat)(x y:Int),p<q->q<=i->q≠j->m[p]?=σ x->m[q]?=σ y->x<=y
def sq(m:Λ)(i:Nat):Prop:=∀(p q:Nat)(x y:Int),p<q->q<i->m[p]?=σ x->m[q]?=σ y->x<=y
theorem Nh{m:Λ}{i:Nat}(h:sq m i):q0 m i i:=λp q x y h1 f j a e=>h p q x y h1 Ω a e
theorem Ni{m:Λ}{i:Nat}(h:q0 m i 0):sq m (i+1):=λp q x y h1 f a e=>h p q x y h1 Ω Ω a e
theorem Nj{m:Λ}{i:Nat}{a b:Int}(h:q0 m i j)(A:0<j)(r:m[j-1]?=σ a)(w:m[j]?=σ b)(z:a<=b):sq m (i+1):=by
 intro p q x y h1 B e f;by_cases s:q=j
 .subst s;rw[w]at f;cases f;by_cases ae:p=q-1
  .subst ae;rw[r]at e;cases e;exact z
  .have:=h p (q-1) x a Ω Ω Ω e r;omega
 .exact h p q x y h1 Ω s e f
theorem Nk{m:Λ}{i:Nat}{a b:Int}(h:q0 m i j)(H:0<j)(hi:j<=i)(z:m[j-1]?=σ a)(A:m[j]?=σ b)(I:b<a):q0 ((m.set j a).set (j-1) b) i (j-1):=by
 intro p q x y h1 w B e f;have C:=(x5.1 A).1;have E:∀(r:Nat),((m.set j a).set (j-1) b)[r]?=if r=j-1 then σ b else if r=j then σ a else m[r]?:=λr=>by
  by_cases h:r=j-1
  .subst h;rw[Y2 Θ,lw rfl]
  .rw[W0 (Ne.symm h),m1 h];by_cases bg:r=j
   .subst bg;rw[Y2 C,lw rfl]
   .rw[W0 (Ne.symm bg),m1 bg]
 rw[E]at e f;rw[m1 B]at f;by_cases s:q=j
 .rw[lw s]at f;cases f;split at e
  .cases e;omega
  .split at e
   .omega
   .exact h p (j-1) x a Ω Ω Ω e z
 .rw[m1 s]at f;split at e
  .cases e;have:=h j q b y;by_cases F:j<q
   .exact this F w s A f
   .omega
  .split at e
   .rename_i G;subst G;cases e;exact h (p-1) q a y Ω w s z f
   .exact h p q x y h1 w s e f
theorem swap_perm{m:Λ}{i:Nat}{a b:Int}(r:i<j)(h:m[i]?=σ a)(f:m[j]?=σ b):((m.set j a).set i b).Perm m:=by
 induction m generalizing i j with
 |nil=>simp at h
 |cons x m q=>
  cases j with
  |zero=>omega
  |succ j=>
   cases i with
   |zero=>
    simp at h f ⊢;subst h;obtain⟨s,f⟩:=x5.1 f;rw[show m=m.take j++m[j]::m.drop (j+1) by simp];rw[U9 _ _ Θ];have e:j-(m.take j).length=0:=Θ
    rw[e,f];simp only[List.set_cons_zero];refine(S2.cons b (List.perm_middle)).F ?_;refine(S2.swap x b _).F ?_;exact S2.cons x List.perm_middle.symm
   |succ i=>
    simp at h f ⊢;exact q Ω h f
theorem Nl{m:Λ}(h:sq m m.length):m.Pairwise (·<= ·):=by
 rw[U3];intro i j hi a e;exact h i j _ _ e a (x8 hi) (x8 a)
def Good(o:Λ)(n:Nat):Prop:=o.length=n/\∀(i:Nat)(p:Int),o[i]?=σ p->(0<=p/\p<n)/\∀j,j<i->o[j]? ≠σ p
theorem Good.inj{o:Λ}{i:Nat}{p:Int}(h:Good o n)(hi:o[i]?=σ p)(a:o[j]?=σ p):i=j:=by
 rcases Nat.lt_trichotomy i j with h1|h1|h1
 .exact m2 hi ((h.2 j p a).2 i h1)
 .exact h1
 .exact m2 a ((h.2 i p hi).2 j h1)
def CX(m:Λ):Prop:=∀i:Nat,i<m.length->m[i]?=σ (i:Int)
theorem CY{o m:Λ}(h:Good o n)(ae:m.Perm o)(V:m.Pairwise (·<= ·)):CX m:=by
 have r:o.Nodup:=U3.2 λi j hi s A he=>by
  have:=h.inj (i:=i) (j:=j) (p:=o[j]) (by rw[x8 hi,he]) (x8 s);omega
 have w:=ae.nodup_iff.2 r;have B:m.length=n:=by rw[ae.length_eq,h.1]
 have f:∀x∈m,0<=x/\x<(n:Int):=λx J=>by
  obtain⟨i,hi,he⟩:=List.getElem_of_mem (ae.mem_iff.1 J);exact(h.2 i x (by rw[x8 hi,he])).1
 have q:∀(i:Nat)(hi:i+1<m.length),m[i]<m[i+1]:=λi hi=>by
  have h1:=U3.1 V i (i+1) Ω hi Ω;have a:=U3.1 w i (i+1) Ω hi Ω;omega
 have y:∀(i:Nat)(hi:i<m.length),(i:Int)<=m[i]:=by
  intro i;induction i with
  |zero=>intro hi;exact(f _ (T9 hi)).1
  |succ i e=>
   intro hi;have h1:=e Ω;have a:=q i hi;omega
 have z:∀(d i:Nat)(hi:i<m.length),i+d+1=m.length->m[i]<=(i:Int):=by
  intro d;induction d with
  |zero=>
   intro i hi he;have:=(f _ (T9 hi)).2;omega
  |succ d e=>
   intro i hi he;have h1:=e (i+1) Ω Ω;have a:=q i Ω;omega
 intro i hi;rw[x8 hi];have h1:=y i hi;have a:=z (m.length-i-1) i hi Ω;congr 1;omega
theorem Nn{o m:Λ}(h:CX m)(ae:m.Perm o):Good o m.length:=by
 have r:m.Nodup:=U3.2 λi j hi a w he=>by
  have h1:=h i hi;have e:=h j a;rw[x8 hi]at h1;rw[x8 a]at e;have h1:=Z4 h1;have e:=Z4 e;omega
 have s:=ae.nodup_iff.1 r;refine⟨ae.length_eq.symm,λi p hi=>⟨?_,λj a f=>?_⟩⟩
 .obtain⟨k,hk,he⟩:=List.getElem_of_mem (ae.mem_iff.2 (x6 hi));have h1:=h k hk;rw[x8 hk,he]at h1;cases h1;omega
 .have q:=(x5.1 hi).1;have:=U3.1 s j i Ω q a;rw[x8 q]at hi;rw[x8 (show j<o.length by omega)]at f;exact this ((Z4 f).F (Z4 hi).symm)
theorem Good.CZ{o:Λ}{p:Nat}(h:Good o n)(ae:p<n):∃j:Nat,o[j]?=σ (p:Int):=by
 let le:Int->Int->Bool:=λa b=>decide (a<=b);have h1:(o.mergeSort le).Perm o:=List.mergeSort_perm o le;have e:(o.mergeSort le).Pairwise (·<= ·):=by
  refine(List.pairwise_mergeSort (λa b c h1 e=>?_) (λa b=>?_) o).imp λh=>by simpa[le]using h
  .simp[le]at*;omega
  .simp[le];omega
 have f:=CY h h1 e p (by rw[h1.length_eq,h.1];exact ae);obtain⟨j,q,he⟩:=List.getElem_of_mem (h1.mem_iff.1 (x6 f));exact⟨j,by rw[x8 q,he]⟩
def oH(o x:Λ):Λ:=(X2 o.length).map λ(p:Nat)=>x.getD (o.idxOf (p:Int)) 0
theorem C0(o x:Λ):(oH o x).length=o.length:=by simp[oH]
theorem C1{o x:Λ}{p:Int}(h:Good o n)(J:x.length=n)(a:o[j]?=σ p):(oH o x)[p.toNat]?=x[j]?:=by
 have h1:=(h.2 j p a).1;have q:=(x5.1 a).1;have hm:=x6 a;have e:=List.idxOf_lt_length_of_mem hm;have f:=h.inj (by rw[x8 e,List.getElem_idxOf e]) a;have ae:((p.toNat:Nat):Int)=p:=Ω
 have r:=h.1;unfold oH;rw[v8,List.getElem?_range Ω];simp only[Y9,ae,f];rw[p8,x8 (show j<x.length by omega)];rfl
theorem C2{o x y:Λ}(h:Good o n)(J:x.length=n)(q:y.length=n)(f:∀(j:Nat)(p:Int),o[j]?=σ p->y[p.toNat]?=x[j]?):y=oH o x:=by
 refine Y5 λp=>?_;have r:=h.1;by_cases ae:p<n
 .obtain⟨j,a⟩:=h.CZ ae;have h1:=f j p a;have e:=C1 h J a;rw[u5]at h1 e;rw[h1,e]
 .rw[V0 Ω,V0 (by rw[C0];omega)]
theorem pR:∀{s t:Λ},dE s t↔s.length=t.length/\∀(i:Nat)(a v:Int),s[i]?=σ a->t[i]?=σ v->0<=v/\v<a
 |[],t=>by
  rw[CV];exact⟨λh=>⟨by rw[h],λi a v h _=>by simp at h⟩,λh=>j6 h.1.symm⟩
 |k::s,[]=>⟨λh=>m2 (uG h) Ξ,λh=>m2 h.1 Ξ⟩
 |k::s,v::t=>by
  rw[CU,pR];refine⟨λ⟨h1,f,j⟩=>⟨by simp[f],λi a u e hu=>?_⟩,λ⟨h1,f⟩=>⟨f 0 k v rfl rfl,by simpa using h1,λi a u e hu=>f (i+1) a u (by simpa using e) (by simpa using hu)⟩⟩;cases i with
  |zero=>simp at e hu;subst e;subst hu;exact h1
  |succ i=>exact j i a u (by simpa using e) (by simpa using hu)
def fd(s o:Λ):Λ:=o.map λp=>s.getD p.toNat 0
theorem uH(s o:Λ):(fd s o).length=o.length:=by simp[fd]
theorem C3{s o:Λ}{p:Int}(h:Good o n)(V:s.length=n)(a:o[j]?=σ p):(fd s o)[j]?=s[p.toNat]?:=by
 have h1:=(h.2 j p a).1;unfold fd;rw[v8,a,Y9,p8,x8 (show p.toNat<s.length by omega)];rfl
theorem No{s o:Λ}(h:Good o n)(V:s.length=n){x:Int}(J:x∈fd s o):x∈s:=by
 obtain⟨p,ae,rfl⟩:=o9.1 J;obtain⟨j,a,he⟩:=List.getElem_of_mem ae;have h1:=(h.2 j p (by rw[x8 a,he])).1;rw[p8,x8 (show p.toNat<s.length by omega)];exact T9 _
theorem cg.Np{s o:Λ}(a:cg s)(h:Good o n)(V:s.length=n):cg (fd s o):=
 ⟨by rw[uH,h.1,<-V];exact a.1,λx J=>a.2 x (No h V J)⟩
theorem Nq{s o x:Λ}(h:Good o n)(V:s.length=n)(J:dE (fd s o) x):dE s (oH o x):=by
 obtain⟨h1,w⟩:=pR.1 J;rw[uH,h.1]at h1;refine pR.2 ⟨by rw[C0,h.1,V],λp a v e ac=>?_⟩;have ae:p<n:=by have:=(x5.1 e).1;omega
 obtain⟨j,f⟩:=h.CZ ae;have q:=C3 h V f;have r:=C1 h h1.symm f;rw[u5]at q r;exact w j a v (by rw[q,e]) (by rw[<-r,ac])
def pS(s cs o:Λ):Λ:=(X2 (aX (fd s o)).toNat).map λ(q:Nat)=>bt s cs (oH o (dl (fd s o) q))
theorem C4(s cs o:Λ):(pS s cs o).length=(aX (fd s o)).toNat:=by simp[pS]
theorem xN{f:Int->Bool}{x:Int}:runN f (x::l)=if f x=ms then runN f l+1 else 0:=by
 grind [runN,List.takeWhile_cons]
theorem xO(f:Int->Bool):∀l:Λ,l.dropWhile f=l.drop (runN f l)
 |[]=>rfl
 |x::l=>by
  rw[List.dropWhile_cons,xN];by_cases h:f x=ms
  .rw[lw h,lw h,xO f l];rfl
  grind
theorem C5(f:Int->Bool):∀l:Λ,l.takeWhile f=l.take (runN f l)
 |[]=>rfl
 |x::l=>by
  rw[List.takeWhile_cons,xN];by_cases h:f x=ms
  .rw[lw h,lw h,List.take_succ_cons,C5 f l]
  grind
theorem C6{f:Int->Bool}:∀{l:Λ}{b:Int}{q:Λ},l.dropWhile f=b::q->f b=ne
 |x::l,b,q,h=>by
  rw[List.dropWhile_cons]at h;by_cases J:f x=ms
  .rw[lw J]at h;exact C6 h
  grind
theorem xP{p:Λ}{a:Nat}{b:Int}{q:Λ}(h:p.drop a=b::q):p[a]?=σ b:=by
 have:=List.getElem?_drop (xs:=p) (i:=a) (j:=0)
 grind
theorem Nr(p:Λ)(at_:Nat):match qW p at_ with
  | .word a b=>lex (p.drop at_)=(((p.take b).drop a)::(lex (p.drop b)).1,(lex (p.drop b)).2)
  | .none=>lex (p.drop at_)=([],ms)
  | .text _=>lex (p.drop at_)=([],ne):=by
 have h:(p.drop at_).dropWhile cW=p.drop (gZ p at_):=by rw[xO,List.drop_drop];rfl
 have j:(p.drop (gZ p at_)).dropWhile ca=p.drop (kr p (gZ p at_)):=by rw[xO,List.drop_drop];rfl
 have s:(p.drop (gZ p at_)).takeWhile ca=(p.take (kr p (gZ p at_))).drop (gZ p at_):=by
  grind [C5,List.drop_take,kr]
 have w:runN ca (p.drop (gZ p at_))=kr p (gZ p at_)-gZ p at_:=by grind [kr]
 have z:gZ p at_<=kr p (gZ p at_):=by grind [kr]
 unfold qW;generalize gZ p at_=a at*;generalize kr p a=b at*;by_cases h1:b<p.length/\(∀c,p[b]?=σ c->cW c=ne)
 .grind [mM,List.drop_eq_nil_iff,xP]
 .rw[m1 h1];by_cases f:a=b
  .rw[lw f];simp only;subst f;rw[mM,h];cases e:p.drop a with
   |nil=>rfl
   |cons x q=>
    exfalso;have A:=xP e
    grind [C6]
  .rw[m1 f];simp only;rw[mM (p.drop at_),h];cases e:p.drop a with
   |nil=>
    rw[e]at w;have:runN ca []=0:=rfl;omega
   |cons x q=>
    simp only;rw[e]at j s w;have J:ca x=ms:=by
     grind [xN]
    rw[lw J,j,s];cases y:p.drop b with
    |nil=>simp only;rw[mM []];rfl
    |cons c r=>
     simp only;have B:=xP y
     grind
def jj(w:x4)(g:Nat)(R:Nat->Prop)(d9:List (Λ))(e:Bool):Prop:=∃a p at_,nS w g a p at_ (-1)/\(∀r,hv a r->R r)/\lex (p.drop at_)=(d9,e)
theorem jj.aa{g:Nat}{e:Bool}(h:jj w g R d9 e)(J:aj S w I)(f:¬S g)(A:∀r,R r->¬S r):jj I g R d9 e:=by
 obtain⟨j,p,a,⟨h1,q,s,x,bf,B⟩,y,z⟩:=h;exact⟨j,p,a,⟨h1,q,s,x.aa J f,bf,by grind [bB]⟩,y,z⟩
theorem jj.words{g:Nat}(h:jj w g R d9 f):d9.length<=100000/\∀t∈d9,Bytes t/\t≠[]/\t.length<=100000:=by
 obtain⟨s,p,a,⟨x,y,z,_⟩,_,j⟩:=h;have A:(p.drop a).length<=100000:=by grind
 have q:=r6 _ (p.drop a) (p9 _);rw[j]at q;refine⟨by grind,λt B=>?_⟩;have e:=uy _ (p.drop a) (p9 _) t (by grind);refine⟨λb r=>?_,e.1,Ω⟩;have:=m7 (e.2.1 b r);omega
def Ns(w:x4)(g:Nat)(R:Nat->Prop)(d9:List (Λ))(a:Bool)(v:x1)(I:x4):Prop:=aj (λr=>r=g) w I/\match d9 with
 |t::l=>jj I g R l a/\∃n:Int,v= .tuple #[ce t,Δ n,Δ 0]
 |[]=>∃n:Int,v= .tuple #[ce [],Δ n,Δ (if a then 2 else 11)]
theorem sr{g:Nat}{z:Bool}(h:jj w g R d9 z):aq x7 w9 [Γ g] w (Ns w g R d9 z):=by
 obtain⟨A,p,a,h1,B,q⟩:=h;refine(MX h1).Y ?_;intro v I _ hw;have e:=Nr p a;unfold se at hw;cases r:qW p a with
 |word x y=>
  rw[r]at hw e;simp only at hw e;rw[q]at e;obtain⟨rfl,s,V⟩:=hw;obtain⟨f,j⟩:=Prod.mk.inj e;subst f j;exact⟨s,⟨A,p,y,V,B,rfl⟩,_,rfl⟩
 |none=>
  rw[r]at hw e;simp only at hw e;rw[q]at e;obtain⟨f,j⟩:=Prod.mk.inj e;subst f j;obtain⟨n,rfl,J⟩:=hw;exact⟨J.aa _,_,rfl⟩
 |text b=>
  rw[r]at hw e;simp only at hw e;rw[q]at e;obtain⟨f,j⟩:=Prod.mk.inj e;subst f j;obtain⟨rfl,s,_⟩:=hw;exact⟨s,_,rfl⟩
def l5(w:Λ):x1:=match ix w with
 |some n=>.tuple #[Δ n,Δ 0]
 |none=>.tuple #[Δ 0,Δ 4]
theorem C7{i:Nat}{b:Int}(hi:l[i]?=σ b):(l.take (i+1)).all gX=((l.take i).all gX&&gX b):=by
 grind [u7]
theorem C8{i:Nat}{b:Int}(hi:l[i]?=σ b):(l.take (i+1)).foldl fT 0=fT ((l.take i).foldl fT 0) b:=by
 grind [u7]
theorem C9(a:l≠[])(h:l.all gX=ms):l0 l=σ (l.foldl fT 0):=by
 grind [l0]
theorem Da{i:Nat}{b:Int}(hi:l[i]?=σ b)(a:gX b=ne):l0 l=ν:=by
 grind [l0]
def q1(w l:Λ)(s:Int):Prop:=(s=1\/s= -1)/\ix w=(l0 l).map λn=>s*n
theorem Db:q1 (45::l) l (-1):=⟨.inr rfl,by simp only[ix];congr 1;funext n;omega⟩
theorem Dc{w:Λ}(h:∀b,w[0]?=σ b->b≠45):q1 w w 1:=⟨.inl rfl,by
 have e:ix w=l0 w:=by
  unfold ix
  grind
 rw[e];cases l0 w<;>grind⟩
theorem uI{w:Λ}{s:Int}(h:q1 w l s)(a:l0 l=ν):l5 w= .tuple #[Δ 0,Δ 4]:=by
 unfold l5;rw[h.2,a];rfl
theorem Dd{w:Λ}{s n:Int}(h:q1 w l s)(a:l0 l=σ n):l5 w= .tuple #[Δ (s*n),Δ 0]:=by
 unfold l5;rw[h.2,a];rfl
theorem Nt(E:Bytes l)(ac:l.length<=100000):aq x7 Ku [ce l] w λv I=>v=l5 l/\Ext w I:=by
 refine aF func170 ?_;rw[MH];refine jw (λN O U=>Ext w U/\∃(m:Λ)(s:Int),N=ce m/\O=Δ s/\Bytes m/\m.length<=100000/\q1 l m s) ?_ ?_
 .rintro _ _ U ⟨G,m,s,rfl,rfl,H,ad,J⟩;rw[Cp H (λb a=>by cases a),ao];refine⟨λq=>⟨by rw[uI J (by rw[q];rfl)],G⟩,λq=>?_⟩;refine xB de.u cU.u cS.u H Ω λbv ab K L _=>?_;rw[a7 cU.u L];refine rN.range m.length (λi _ _ c z=>Ext ab z/\c=Δ ((m.take i).foldl fT 0)/\(m.take i).all gX=ms) Ω (by grind [Ext.refl]) ?_ ?_
  .rintro i P t3 _ z Q hi ⟨e,rfl,f⟩ ae;obtain⟨b,A⟩:=aK (l:=m) hi;have af:=H b (x6 A);refine bM Ω ?_;refine Cl (λ_ _ c B=>Ext ab B/\c=Δ ((m.take (i+1)).foldl fT 0)/\(m.take (i+1)).all gX=ms) ?_ ?_
   .rintro ag ai c B aj;rw[aR]
    grind
   intro aA C;rw[bm cU.u cS.i Ψ (L.W e) A];refine a1 (λv B=>z=B/\v= .bool (!gX b)) ?_ ?_
   rotate_left
   .intro R S;rw[aW,ao];refine⟨by grind [gX],λh=>?_⟩;rw[bU]
    grind [gX]
   rintro _ _ ⟨rfl,rfl⟩;cases M:gX b with
   |false=>
    rw[X4,bK];exact⟨by grind [uI,Da],(G.F K).F e⟩
   |true=>
    rw[Y1,a6];have ak:=m7 M;have j:=xx f ⟨S8 _,Φ⟩;rw[C8 A,C7 A,f,M]at C;generalize (m.take i).foldl fT 0=n at*;have j:=j;rw[c5,wrap_u8 Ω Ω,fN cS.u ax.u,hx Ω Ω,c5,hx Ω Ω,pA Φ,Int.tdiv_eq_ediv_of_nonneg Ω];rw[hx Ω Ω,bU,ao];refine⟨λV=>C _ _ _ _ ⟨e,?_,rfl⟩,λV=>?_⟩
    .grind [fT,aG]
    .rw[iv,hx Ω Ω,aR,hx Ω Ω]
     grind [fT,aG]
  .rintro P t3 _ z Q ⟨e,rfl,f⟩;rw[o6]at f ⊢;refine cc Ω ?_;have j:=xx f ⟨S8 _,Φ⟩;have j:0<=m.foldl fT 0/\m.foldl fT 0<=4611686018427387904:=j;rw[iv];have hw:X3.wrap (s*m.foldl fT 0)=s*m.foldl fT 0:=by
    rcases J.1 with rfl|rfl<;>exact(by grind [hx])
   rw[hw];exact⟨by grind [Dd,C9],(G.F K).F e⟩
 .intro aA C;refine a1 (λv ab=>w=ab/\∃c:Bool,v= .bool c/\(c=ms↔l[0]?=σ 45)) ?_ ?_
  .rintro _ _ ⟨rfl,c,rfl,W⟩;rw[b1];refine⟨λX=>?_,λah=>?_⟩
   .intro al Y _ _;have Z:=W.1 X;cases l with
    |nil=>simp at Z
    |cons x r=>
     have aa:x=45:=by grind
     subst aa;rw[Cq (y:=1) (i:=1) rfl de.u Ξ];exact C _ _ _ ⟨Y,r,-1,rfl,rfl,λb a=>E b (.tail _ a),by grind,Db⟩
   grind [Ext.refl,Dc]
  .intro R S;rw[ML E (λb a=>by cases a),ao];refine⟨λq=>?_,by grind⟩;cases l with
   |nil=>exact m2 rfl q
   |cons x r=>
    rw[sa (y:=0) (b:=x) rfl de.u E rfl,bl]
    grind
theorem xQ{s s':aN}{w:Λ}(h:eg s=σ (w,s')):s.d9=w::s'.d9/\s'={s with d9:=s'.d9}:=by
 grind [eg]
theorem jD{n:Int}{s s':aN}(h:br lo hi s=σ (n,s')):(lo<=n/\n<=hi)/\(∃w,s.d9=w::s'.d9/\ix w=σ n)/\s'={s with d9:=s'.d9}:=by
 grind [br,eg]
def jX(k:Nat)(s s':aN):Prop:=s.d9.length=s'.d9.length+k/\s'={s with d9:=s'.d9}
theorem jX.refl(s:aN):jX 0 s s:=⟨rfl,rfl⟩
theorem jX.F{a b:Nat}{r s t:aN}(h:jX a r s)(k:jX b s t):jX (a+b) r t:=⟨by have:=h.1;have:=k.1;omega,by rw[k.2,h.2]⟩
theorem dS{n:Int}{s s':aN}(h:br lo hi s=σ (n,s')):jX 1 s s':=by
 obtain⟨_,⟨w,h1,_⟩,a⟩:=jD h;exact⟨by rw[h1];simp,a⟩
theorem jX.eqs{k:Nat}{s s':aN}(h:jX k s s'):s'.li=s.li/\s'.big=s.big/\s'.lm=s.lm:=by rw[h.2];grind
theorem mQ{α:Type}{f:List α->aN->Option (α×aN)}(e:List α->aN->Prop)(ah:∀acc s a s',e acc s->f acc s=σ (a,s')->e (acc++[a]) s'):
  ∀(n:Nat)(acc:List α)(s:aN)(l:List α)(s':aN),e acc s->c6 f n acc s=σ (l,s')->e l s'/\l.length=acc.length+n
 :=by
 intro a;induction a<;>grind [c6]
theorem xR{n:Int}{k:Nat}{s s':aN}(h:fs n k s=σ (l,s')):jX l.length s s'/\l.length=k/\l.Nodup/\∀v∈l,0<=v/\v<n:=by
 have:=mQ (λacc t=>jX acc.length s t/\acc.Nodup/\∀v∈acc,0<=v/\v<n) (λacc t a bu ⟨h1,f,j⟩ h=>by
  cases e:br 0 (n-1) t with
  |none=>grind
  |some q=>
   obtain⟨v,r⟩:=q;rw[e]at h;simp only at h;split at h
   .cases h
   .rename_i w;simp only[W9,R5]at h;obtain⟨rfl,rfl⟩:=h;have z:=(jD e).1;refine⟨by rw[o4];exact h1.F (dS e),List.nodup_append.2 ⟨f,Ξ,λx J y A he=>?_⟩,λx J=>?_⟩
    all_goals grind) k [] s l s' (by grind [jX.refl]) h
 grind
theorem xS:∀{a acc:Λ}{s s':aN}{t:Λ},kR a acc s=σ (t,s')->∃u,t=acc++u/\dE a u/\jX u.length s s'
 |[],acc,s,s',t,h=>by
  simp only[kR,W9,R5]at h;obtain⟨rfl,rfl⟩:=h;exact⟨[],Ξ,CV.2 rfl,jX.refl s⟩
 |k::a,acc,s,s',t,h=>by
  simp only[kR]at h;cases e:br 0 (k-1) s with
  |none=>grind
  |some q=>
   obtain⟨v,s1⟩:=q;rw[e]at h;obtain⟨u,rfl,hu,f⟩:=xS h;have j:=(jD e).1;exact⟨v::u,Ξ,by grind [CU],by rw[X5,Nat.add_comm];exact(dS e).F f⟩
def oI(d6:Λ)(l:List (Λ×Int)):Prop:=(l.map (·.1)).Nodup/\∀p∈l,dE d6 p.1/\0<=p.2
theorem q2{acc:List (Λ×Int)}{s s':aN}{a:Λ×Int}(h:eX d6 acc s=σ (a,s')):a.1∉acc.map (·.1)/\dE d6 a.1/\0<=a.2/\jX (a.1.length+1) s s':=by
 unfold eX at h;cases f:kR d6 [] s with
 |none=>grind
 |some q=>
  obtain⟨t,s1⟩:=q;rw[f]at h;simp only at h;obtain⟨u,hu,ac,j⟩:=xS f;rw[List.nil_append]at hu;subst hu;cases e:br 0 aG s1 with
  |none=>grind
  |some q=>
   obtain⟨c,w⟩:=q;rw[e]at h;simp only at h;split at h
   .cases h
   .rename_i r;simp only[W9,R5]at h;obtain⟨rfl,rfl⟩:=h;exact⟨r,ac,(jD e).1.1,j.F (dS e)⟩
structure xT(s s':aN):Prop where
 d9:s'.d9.length<s.d9.length
 big:s.big=ms->s'.big=ms
theorem Nu{s s':aN}{l:List (Λ×Int)}(j:∀q∈s.lm,oI q.1 q.2/\q.2.length<=N)(B:s.d9.length<=N)(h:eh d6 s=σ (l,s')):
  oI d6 l/\l.length<=N/\s'.lm=s.lm/\xT s s':=by
 unfold eh at h;cases r:br (-aG) aG s with
 |none=>grind
 |some q=>
  obtain⟨n,s1⟩:=q;rw[r]at h;simp only at h;have h1:=dS r;obtain⟨C,E,e⟩:=h1.eqs;split at h
  .cases V:s1.lm[(-n-1).toNat]? with
   |none=>grind
   |some q=>
    obtain⟨z,fS⟩:=q;rw[V]at h;simp only at h;split at h
    .rename_i y;simp only[W9,R5]at h;obtain⟨rfl,rfl⟩:=h;subst y;have hm:=x6 V;rw[e]at hm;exact⟨(j _ hm).1,(j _ hm).2,e,by have:=h1.1;omega,by grind⟩
    .cases h
  .have:=mQ (λacc t=>oI d6 acc/\t.lm=s.lm/\t.d9.length+acc.length<=s1.d9.length/\(s.big=ms->t.big=ms)) (λacc t a bu ⟨g1,f,A,w⟩ g=>by
    obtain⟨F,G,H,x⟩:=q2 g;obtain⟨f1,f2,f3⟩:=x.eqs;refine⟨⟨?_,λp ae=>?_⟩,by rw[f3,f],by have:=x.1;grind,by grind⟩
    .rw[Z2];exact List.nodup_append.2 ⟨g1.1,Ξ,by grind⟩
    .rcases j5.1 ae with ae|ae
     .exact g1.2 p ae
     grind) n.toNat [] (bp (decide (16384<min (s1.li+n) aG)) {s1 with li:=min (s1.li+n) aG}) l s' ⟨⟨Ξ,λp ae=>by cases ae⟩,e,by simp[bp],by grind [bp]⟩ h
   obtain⟨⟨g1,f,A,w⟩,_⟩:=this;have:=h1.1;exact⟨g1,Ω,f,⟨Ω,w⟩⟩
structure uJ(all:Λ)(N:Nat)(f:cE):Prop where
 scope:f.scope.Nodup/\∀v∈f.scope,0<=v/\v<all.length
 d6:f.d6=f.scope.map λv=>all.getD v.toNat 0
 other:0<=f.other
 lines:oI f.d6 f.lines
 len:f.lines.length<=N
theorem Nv{s s':aN}{f:cE}(G:∀q∈s.lm,oI q.1 q.2/\q.2.length<=N)(Q:s.d9.length<=N)(h:dz all s=σ (f,s')):
  uJ all N f/\(∀q∈s'.lm,oI q.1 q.2/\q.2.length<=N)/\xT s s'/\(s'.big=ne->f.scope.length<=6/\dM f.d6=ne):=by
 unfold dz at h;cases z:br (-aG) aG s with
 |none=>grind
 |some q=>
 obtain⟨a,s1⟩:=q;rw[z]at h;simp only at h;have t0:=dS z;obtain⟨R,H,I⟩:=t0.eqs;cases h1:fs all.length a.natAbs s1 with
 |none=>grind
 |some q=>
 obtain⟨sc,j⟩:=q;rw[h1]at h;simp only at h;obtain⟨A,S,J,K⟩:=xR h1;obtain⟨T,L,M⟩:=A.eqs;generalize O:sc.map (λv=>all.getD v.toNat 0)=d6 at h;cases r:br 0 aG (bp (decide (6<a.natAbs)||dM d6) j)with
 |none=>grind
 |some q=>
 obtain⟨other,e⟩:=q;rw[r]at h;simp only at h;have B:=dS r;obtain⟨U,C,w⟩:=B.eqs;have w:e.lm=s.lm:=by rw[w];show j.lm=_;rw[M,I]
 have V:e.d9.length<s.d9.length:=by
  have:=t0.1;have:=A.1;have x:=B.1
  grind [bp]
 cases x:eh d6 e with
 |none=>grind
 |some q=>
 obtain⟨lines,y⟩:=q;rw[x]at h;simp only[W9,R5]at h;obtain⟨rfl,rfl⟩:=h;obtain⟨g1,P,W,E⟩:=Nu (by rw[w];exact G) Ω x;have X:=E.big;have gt:=E.d9;have Y:e.big=ms->∀F:aN,F=(if a<0 then{y with lm:=y.lm++[(d6,lines)]}else y)->F.big=ms:=by grind
 have C:e.big=(s.big||(decide (6<a.natAbs)||dM d6)):=by
  rw[C];show(j.big||_)=_;rw[L,H]
 refine⟨⟨⟨J,K⟩,O.symm,(jD r).1.1,g1,P⟩,λq Z=>?_,⟨?_,by grind⟩,λaa=>?_⟩
 all_goals grind
structure fC(N:Nat)(f:cd):Prop where
 name:f.name.length<=64
 k:1<=f.k/\f.k<=2147483648
 d6:1<=f.d6.length/\f.d6.length<=64/\∀z∈f.d6,1<=z/\z<=32
 mR:f.d8.length<=256
 d8:∀x∈f.d8,uJ f.d6 N x/\x.scope.length<=6/\dM x.d6=ne
theorem ss{b:Bool}{s:aN}(h:(bp b s).big=ne):s.big=ne/\b=ne:=by
 have h:(s.big||b)=ne:=h
 grind
theorem De{s s':aN}{f:cd}(V:s.lm=[])(h:jU s=σ (f,s'))(w:s'.big=ne):fC s.d9.length f/\f.name∈s.d9:=by
 unfold jU at h;cases E:eg s with
 |none=>grind
 |some q=>
 obtain⟨name,s0⟩:=q;rw[E]at h;simp only at h;obtain⟨U,ab⟩:=xQ E;cases h1:br 1 aG (bp (decide (64<name.length)) s0)with
 |none=>grind
 |some q=>
 obtain⟨n,s1⟩:=q;rw[h1]at h;simp only at h;have e:=dS h1;cases F:br 1 aG (bp (decide (64<n)) s1)with
 |none=>grind
 |some q=>
 obtain⟨most,P⟩:=q;rw[F]at h;simp only at h;have y:=dS F;cases G:br 0 aG P with
 |none=>grind
 |some q=>
 obtain⟨A,H⟩:=q;rw[G]at h;simp only at h;have t3:=dS G;cases B:br 1 aG (bp (decide (256<A)) H)with
 |none=>grind
 |some q=>
 obtain⟨k,j⟩:=q;rw[B]at h;simp only at h;have t4:=dS B;cases I:c6 (gY most) n.toNat [] (bp (decide (2147483648<k)) j)with
 |none=>grind
 |some q=>
 obtain⟨d6,r⟩:=q;rw[I]at h;simp only at h;cases J:c6 (λ_ s=>dz d6 s) A.toNat [] r with
 |none=>grind
 |some q=>
 obtain⟨d8,Q⟩:=q;rw[J]at h;simp only[W9,R5]at h;obtain⟨rfl,rfl⟩:=h;have R:=mQ (λ(acc:Λ)t=>t.lm=[]/\t.d9.length<=s.d9.length/\(t.big=ne->j.big=ne/\k<=2147483648/\∀z∈acc,1<=z/\z<=32)) (λacc t a bu ⟨g1,K,S⟩ g=>by
  unfold gY at g;cases C:br 1 most t with
  |none=>grind
  |some q=>
   obtain⟨z,e⟩:=q;rw[C]at g;simp only[W9,R5]at g;obtain⟨rfl,rfl⟩:=g;have L:=dS C;obtain⟨ah,ai,T⟩:=L.eqs;have aj:=(jD C).1;refine⟨by show e.lm=[];rw[T,g1],by show e.d9.length<=_;have:=L.1;omega,λw=>?_⟩
   grind [ss]) n.toNat [] (bp (decide (2147483648<k)) j) d6 r ⟨by
     show j.lm=[];rw[t4.eqs.2.2];show H.lm=[];rw[t3.eqs.2.2,y.eqs.2.2];show s1.lm=[];rw[e.eqs.2.2];show s0.lm=[]
     grind,by
     show j.d9.length<=_;have ak:=e.1;have al:=y.1;have a3:=t3.1;have a4:=t4.1
     grind [bp],by grind [ss]⟩ I
 obtain⟨⟨am,an,W⟩,X⟩:=R;have Y:=mQ (λ(acc:List cE)t=>(∀q∈t.lm,oI q.1 q.2/\q.2.length<=s.d9.length)/\t.d9.length<=s.d9.length/\(t.big=ne->r.big=ne/\∀x∈acc,uJ d6 s.d9.length x/\x.scope.length<=6/\dM x.d6=ne)) (λacc t a bu ⟨g1,K,S⟩ g=>by
  obtain⟨ao,Z,aa,ap⟩:=Nv g1 K g;refine⟨Z,by have:=aa.d9;omega,λw=>?_⟩
  grind [xT.big]) A.toNat [] r d8 Q (by grind) J
 obtain⟨⟨_,_,d3⟩,d4⟩:=Y;obtain⟨ac,d5⟩:=d3 w;obtain⟨M,ad,aq⟩:=W ac;rw[t4.eqs.2.1]at M;obtain⟨N,ae⟩:=ss M;rw[t3.eqs.2.1,y.eqs.2.1]at N;obtain⟨O,af⟩:=ss N;rw[e.eqs.2.1]at O;obtain⟨_,ag⟩:=ss O;have:=of_decide_eq_false ae;have:=of_decide_eq_false af;have:=of_decide_eq_false ag;have au:=(jD h1).1;have hk:=(jD B).1;simp only[List.length_nil,V7]at X d4;exact⟨⟨by grind,⟨hk.1,ad⟩,by grind,by grind,d5⟩,by grind⟩
def lr(x:cE)(k:Int)(t:Λ):Int:=min (match x.lines.find? (λp=>decide (p.1=t))with
 |some p=>p.2
 |none=>x.other) k
def bH(l:Λ):Λ:=((X2 64).map λ(v:Nat)=>(v:Int)).filter λv=>decide (v∈l)
def ci(d6 scope:Λ):Λ:=scope.map λv=>d6.getD v.toNat 0
def q3(scope a t:Λ):Λ:=scope.map λv=>t.getD (a.idxOf v) 0
abbrev cX:Type:=Λ×Λ
def jY(d6:Λ)(k:Int)(x:cE):cX:=(bH x.scope,(bq (ci d6 (bH x.scope))).map λt=>lr x k (q3 x.scope (bH x.scope) t))
def eS(k:Int)(a b:Λ):Λ:=List.zipWith (λx y=>min (x+y) k) a b
def jZ(k:Int)(acc:List cX)(g:cX):List cX:=if g.1∈acc.map (·.1)then acc.map λh=>if h.1=g.1 then(h.1,eS k h.2 g.2)else h else acc++[g]
def kU:Λ->Int
 |[]=>0
 |x::l=>x*64 ^ l.length+kU l
def dt(l:Λ):Int:=l.length*64 ^ 6+kU l
def jE(g:cX):List cX->List cX
 |[]=>[g]
 |h::l=>if dt h.1<dt g.1 then h::jE g l else g::h::l
def gl(g:cX):Bool:=g.2.any λc=>decide (0<c)
def gm(f:cd):List cX:=(f.d8.map (jY f.d6 f.k)).foldl (jZ f.k) []
def gn(f:cd):List cX:=((gm f).filter gl).foldl (λl g=>jE g l) []
structure aI where
 k:Int
 d6:Λ
 zero:Int
 unary:List (Λ)
 d8:List cX
deriving DecidableEq
def c7(f:cd):aI:=(gn f).foldl (λn g=>match g.1 with
 |[]=>{n with zero:=g.2.getD 0 0}
 |[v]=>{n with unary:=n.unary.set v.toNat g.2}
 |_=>{n with d8:=n.d8++[g]}) ⟨f.k,f.d6,0,f.d6.map λz=>r9 z.toNat 0,[]⟩
abbrev l6:Type:=Rd (Λ)×Rd (List (Λ×Int))
def bQ(g gs:Nat)(A:ak):ak:=λr=>r=g\/r=gs\/A r
def jF(gs:Nat)(e big a f li:Int)(sv:x1):List x1:=[Γ gs,Δ e,Δ big,Δ a,Δ f,Δ li,sv]
def cV(g gs:Nat)(A:ak)(B:ak):ak:=λr=>¬bQ g gs A r/\B r
def mS(w:x4)(g gs:Nat)(A:ak)(B:ak):Prop:=g≠gs/\¬A g/\¬A gs/\(∀r,bQ g gs A r->r<w.heap.size)/\∀r,B r->r<w.heap.size
def ey(w:x4)(g gs:Nat)(A:ak)(B:ak)(s:aN)(a:Bool):Prop:=mS w g gs A B/\jj w gs (cV g gs A B) s.d9 a/\(0<=s.li/\s.li<=aG/\s.lm.length+s.d9.length<=100000)/\
 ∃big e f li sv,ai w g cH (jF gs 0 big e f li sv)/\((s.big=ms↔big≠0)/\(s.big=ne->li=s.li))/\bS A (cV g gs A B) w [sv] (show List l6 from s.lm)
def ft(w:x4)(g gs:Nat)(A:ak)(B:ak):Prop:=mS w g gs A B/\∃(e big a f li:Int)(sv:x1)(l:List l6),ai w g cH (jF gs e big a f li sv)/\(e≠0/\l.length<=100000)/\bS A (cV g gs A B) w [sv] l
theorem mS.aa{g:Nat}{A:ak}{B:ak}(h:mS w g gs A B)(J:aj S w I):mS I g gs A B:=by
 obtain⟨h1,e,f,j,q⟩:=h;exact⟨h1,e,f,λr a=>Nat.lt_of_lt_of_le (j r a) J.size,λr a=>Nat.lt_of_lt_of_le (q r a) J.size⟩
theorem Df{g:Nat}{A:ak}{B:ak}(a:∀r,A r->¬S r)(e:∀r,cV g gs A B r->¬S r):∀r,A r\/cV g gs A B r->¬S r:=λr h=>h.elim (a r) (e r)
theorem ey.aa{g:Nat}{A:ak}{B:ak}{s:aN}{e:Bool}(h:ey w g gs A B s e)(J:aj S w I)(a:∀r,bQ g gs A r->¬S r)(f:∀r,cV g gs A B r->¬S r):ey I g gs A B s e:=by
 obtain⟨h1,j,q,big,x,y,li,sv,z,C,E⟩:=h;exact⟨h1.aa J,j.aa J (a gs (.inr (.inl rfl))) f,q,big,x,y,li,sv,z.aa J (a g (.inl rfl)),C,ay.aa E J λr _ h=>Df (λr F=>a r (.inr (.inr F))) f r h⟩
theorem ft.aa{g:Nat}{A:ak}{B:ak}(h:ft w g gs A B)(J:aj S w I)(a:∀r,bQ g gs A r->¬S r)(f:∀r,cV g gs A B r->¬S r):ft I g gs A B:=by
 obtain⟨h1,e,big,j,q,li,sv,l,s,x,y⟩:=h;exact⟨h1.aa J,e,big,j,q,li,sv,l,s.aa J (a g (.inl rfl)),x,ay.aa y J λr _ h=>Df (λr z=>a r (.inr (.inr z))) f r h⟩
theorem ey.W{g:Nat}{A:ak}{B:ak}{s:aN}{a:Bool}(h:ey w g gs A B s a)(J:Ext w I):ey I g gs A B s a:=h.aa (J.aa λ_=>False) (λ_ _ h=>h) (λ_ _ h=>h)
theorem ft.W{g:Nat}{A:ak}{B:ak}(h:ft w g gs A B)(J:Ext w I):ft I g gs A B:=h.aa (J.aa λ_=>False) (λ_ _ h=>h) (λ_ _ h=>h)
def gE(w:x4)(g gs:Nat)(A:ak)(B:ak)(a:Bool)(s':Option aN)(I:x4):Prop:=aj (bQ g gs A) w I/\match s' with
 |some s'=>ey I g gs A B s' a
 |none=>ft I g gs A B
theorem xU{g:Nat}{e big a f li:Int}(h:ai w g cH (jF gs e big a f li sv)):aq x7 mE [Γ g] w λv I=>v= .bool (decide (e=0))/\Ext w I:=by
 refine aF func110 ?_;rw[bR,aY cH.p rfl,aY fo.p rfl,aD Ψ (h.cell rfl),bl];exact⟨rfl,Ext.refl _⟩
theorem q4{g:Nat}{A:ak}{B:ak}{s:aN}{a:Bool}(h:ey w g gs A B s a):aq x7 mE [Γ g] w λv I=>v= .bool ms/\Ext w I:=by
 obtain⟨_,_,_,big,f,j,li,sv,e,_⟩:=h;exact(xU e).Y λ_ _ _ h=>h
theorem pT{g:Nat}{A:ak}{B:ak}(h:ft w g gs A B):aq x7 mE [Γ g] w λv I=>v= .bool ne/\Ext w I:=by
 obtain⟨_,e,big,j,q,li,sv,l,a,f,_⟩:=h;refine(xU a).Y ?_;rintro _ U _ ⟨rfl,J⟩;exact⟨by rw[m5 f.1],J⟩
theorem uK{g:Nat}{A B:ak}(h:A r\/cV g gs A B r)(a:¬A g):r≠g:=by
 rintro rfl;rcases h with h|h
 .exact a h
 .exact h.1 (.inl rfl)
theorem uL{g:Nat}{A:ak}{B:ak}{big x q li e:Int}{l:List l6}(V:mS w g gs A B)(s:ai w g cH (jF gs 0 big x q li sv))(y:bS A (cV g gs A B) w [sv] l)(he:e≠0)(z:l.length<=100000):
  aq x7 pt [Γ g,Δ e,Δ at_] w λ_ I=>aj (λr=>r=g) w I/\ft I g gs A B:=by
 refine aF func113 ?_;rw[bR,aY cH.p rfl,aY fo.p rfl,aD Ψ (s.cell rfl),bl,ao];refine⟨λ_=>?_,λh=>m2 rfl h⟩;rw[bR,aY cH.p rfl,aY fo.p rfl];refine bs (g:=g) (o:=1) ld.i rfl rfl s (by simp[jF]) λU C H a=>?_;have a:=a;rw[bR,aY cH.p rfl,aY fo.p rfl];refine bs (g:=g) (o:=3) al.i rfl rfl a (by simp[jF]) λab E J f=>?_;have f:=f;have j:=C.F E;exact⟨j,V.aa j,e,big,at_,q,li,sv,l,f,⟨he,z⟩,ay.aa y j λr _ h G=>uK h V.2.1 G⟩
theorem uM{g:Nat}{A:ak}{B:ak}{s:aN}{a:Bool}{e:Int}(h:ey w g gs A B s a)(he:e≠0):aq x7 pt [Γ g,Δ e,Δ at_] w λ_ I=>aj (λr=>r=g) w I/\ft I g gs A B:=by
 obtain⟨V,_,f,big,x,y,li,sv,j,_,q⟩:=h;exact uL V j q he (by have:=f.2.2;show s.lm.length<=_;omega)
theorem Nw{g:Nat}{A:ak}{B:ak}{e:Int}(h:ft w g gs A B):aq x7 pt [Γ g,Δ e,Δ at_] w λ_ I=>Ext w I:=by
 obtain⟨_,f,big,j,q,li,sv,l,h1,a,_⟩:=h;refine aF func113 ?_;rw[bR,aY cH.p rfl,aY fo.p rfl,aD Ψ (h1.cell rfl),bl,ao];exact⟨λh=>m2 h a.1,λ_=>Ext.refl _⟩
theorem uN{g:Nat}{A:ak}{B:ak}{s:aN}{y b:Bool}(h:ey w g gs A B s y):aq x7 rX [Γ g,.bool b,Δ at_] w λ_ I=>aj (λr=>r=g) w I/\ey I g gs A B (bp b s) y:=by
 obtain⟨V,z,C,big,E,J,li,sv,e,G,H⟩:=id h;refine aF func108 ?_;refine a1 (λv U=>w=U/\v= .bool (b&&decide (big=0))) ?_ ?_
 rotate_left
 .intro aA j;cases b with
  |false=>rw[a6];exact j _ _ ⟨rfl,rfl⟩
  |true=>
   rw[bK,bR,aY cH.p rfl,aY fo.p rfl,aD Ψ (e.cell rfl),bl,ao];refine⟨λa=>?_,λa=>j _ _ ⟨rfl,by rw[m5 a];rfl⟩⟩;rw[bR,aY cH.p rfl,aY fo.p rfl,aD Ψ (e.cell rfl),bl];exact j _ _ ⟨rfl,by rw[m3 a];rfl⟩
 rintro _ _ ⟨rfl,rfl⟩;rw[b1];refine⟨λK=>?_,λah=>?_⟩
 .obtain⟨rfl,a⟩:=Bool.and_eq_true_iff.1 K;rw[bR,aY cH.p rfl,aY fo.p rfl];refine bs (g:=g) (o:=2) ld.i rfl rfl e (by simp[jF]) λU L P q=>?_;have q:=q;rw[bR,aY cH.p rfl,aY fo.p rfl];refine bs (g:=g) (o:=4) al.i rfl rfl q (by simp[jF]) λab M Q x=>?_;have x:=x;have f:=L.F M;exact⟨f,V.aa f,z.aa f (λhe=>V.1 he.symm) (λr N he=>N.1 (.inl he)),C,5,E,at_,li,sv,x,⟨⟨λ_=>Ω,λ_=>by simp[bp]⟩,λh=>by simp[bp]at h⟩,ay.aa H f λr _ h O=>uK h V.2.1 O⟩
 .refine⟨aj.refl _ _,V,z,C,big,E,J,li,sv,e,⟨?_,λh=>G.2 (by
   have h:(s.big||b)=ne:=h;exact(T5.1 h).1)⟩,H⟩
  show(s.big||b)=ms↔big≠0;cases b with
  |false=>rw[Bool.or_false];exact G.1
  |true=>
   have a:=of_decide_eq_false (by simpa using ah);simp[a]
theorem Dg{g:Nat}{A:ak}{B:ak}{b:Bool}(h:ft w g gs A B):aq x7 rX [Γ g,.bool b,Δ at_] w λ_ I=>Ext w I:=by
 obtain⟨_,j,big,q,r,li,sv,l,h1,e,_⟩:=h;refine aF func108 ?_;refine a1 (λv U=>w=U/\v= .bool ne) ?_ ?_
 .rintro _ _ ⟨rfl,rfl⟩;rw[a6];exact Ext.refl _
 intro aA a;cases b with
 |false=>rw[a6];exact a _ _ ⟨rfl,rfl⟩
 |true=>
  rw[bK,bR,aY cH.p rfl,aY fo.p rfl,aD Ψ (h1.cell rfl),bl,ao];refine⟨λf=>?_,λf=>a _ _ ⟨rfl,rfl⟩⟩;rw[bR,aY cH.p rfl,aY fo.p rfl,aD Ψ (h1.cell rfl),bl];exact a _ _ ⟨rfl,by rw[m5 e.1]⟩
theorem ey.scan{g:Nat}{A:ak}{B:ak}{s:aN}{a:Bool}{l:List (Λ)}(h:ey w g gs A B s a)(e:aj (λr=>r=gs) w I)(V:jj I gs (cV g gs A B) l a)(E:l.length<=s.d9.length):ey I g gs A B {s with d9:=l} a:=by
 obtain⟨h1,_,f,big,q,x,li,sv,y,z,C⟩:=h;refine⟨h1.aa e,V,⟨f.1,f.2.1,by have:=f.2.2;show s.lm.length+l.length<=100000;omega⟩,big,q,x,li,sv,y.aa e h1.1,z,ay.aa C e λr _ h j=>?_⟩;have j:r=gs:=j;subst j;rcases h with h|h
 .exact h1.2.2.1 h
 .exact h.1 (.inr (.inl rfl))
theorem Dh{g:Nat}{A:ak}{B:ak}{s:aN}{y:Bool}(h:ey w g gs A B s y):aq x7 Bm [Γ g] w λv I=>gE w g gs A B y ((eg s).map (·.2)) I/\∃(t:Λ)(n:Int),v= .tuple #[ce t,Δ n]/\Bytes t/\t.length<=100000/\∀q,eg s=σ q->t=q.1:=by
 refine aF func107 ?_;refine(q4 h).Y ?_;rintro _ U _ ⟨rfl,K⟩;rw[bE,Y1,a6];have h1:=h.W K;obtain⟨_,L,_,big,O,P,li,sv,z,_⟩:=id h1;have Q:=L.words.2;rw[aL cH.p 0 z rfl];refine(sr L).Y ?_;rintro v ab _ ⟨j,ac⟩;have M:aj (bQ g gs A) w ab:=(K.aa _).F (j.Y λr _ h=>.inr (.inl h));cases f:s.d9 with
 |cons t l=>
  rw[f]at ac;obtain⟨R,n,rfl⟩:=ac;have S:=h1.scan j R (by rw[f];simp);have C:eg s=σ (t,{s with d9:=l}):=by unfold eg;rw[f]
  have N:=Q t (by rw[f];exact .head _);rw[fP,fQ,fR];refine a1 (λv E=>ab=E/\v=Δ 0) ?_ ?_
  .rintro _ _ ⟨rfl,rfl⟩;refine cZ (λx=>ab=x) ?_ ?_
   .rintro _ rfl;rw[C];exact⟨⟨M,S⟩,t,n,rfl,N.1,N.2.2,λq G=>by cases G;rfl⟩
   .intro aA a;rw[bG,ao];exact⟨λh=>m2 rfl h,λ_=>a _ rfl⟩
  .intro aA a;rw[bl,ao];exact⟨λh=>Ω,λ_=>a _ _ ⟨rfl,rfl⟩⟩
 |nil=>
  rw[f]at ac;obtain⟨n,rfl⟩:=ac;have C:eg s=ν:=by unfold eg;rw[f]
  obtain⟨H,_,V,big,O,P,li,sv,z,af,W⟩:=id h1;have X:=z.aa j H.1;have Y:=ay.aa W j λr _ h J=>by
   have J:r=gs:=J;subst J;rcases h with h|h
   .exact H.2.2.1 h
   .exact h.1 (.inr (.inl rfl))
  rw[fP,fQ,fR];refine a1 (λv E=>ab=E/\∃e:Int,v=Δ e/\e≠0) ?_ ?_
  .rintro _ _ ⟨rfl,e,rfl,he⟩;refine cZ (λx=>aj (λr=>r=g) ab x/\ft x g gs A B) ?_ ?_
   .rintro x ⟨Z,ad⟩;rw[C];exact⟨⟨M.F (Z.Y λr _ h=>.inl h),ad⟩,[],n,rfl,λb ae=>(by cases ae),Ξ,λq G=>by cases G⟩
   .intro aA a;rw[bG,ao];refine⟨λ_=>?_,λh=>m2 he h⟩;exact(uL (H.aa j) X Y he (by have:=V.2.2;show s.lm.length<=_;omega)).Y λ_ I _ h=>a _ h
  .intro aA a;rw[bl,ao];cases y with
   |true=>exact⟨λ_=>a _ _ ⟨rfl,4,rfl,Ω⟩,λh=>m2 rfl h⟩
   |false=>exact⟨λh=>by simp at h,λ_=>a _ _ ⟨rfl,11,rfl,Ω⟩⟩
theorem Nx{g:Nat}{A:ak}{B:ak}(h:ft w g gs A B):aq x7 Bm [Γ g] w λv I=>Ext w I/\v= .tuple #[ce [],Δ 0]:=by
 refine aF func107 ?_;refine(pT h).Y ?_;rintro _ U _ ⟨rfl,a⟩;rw[bE,X4,bK];exact⟨a,rfl⟩
theorem xV{g:Nat}{A:ak}{B:ak}{s:aN}{z:Bool}(h:ey w g gs A B s z):aq x7 ps [Γ g,Δ lo,Δ hi] w λv I=>gE w g gs A B z ((br lo hi s).map (·.2)) I/\∃n at_:Int,v= .tuple #[Δ n,Δ at_]/\(∀q,br lo hi s=σ q->n=q.1)/\(br lo hi s=ν->n=0):=by
 refine aF func109 ?_;refine(Dh h).Y ?_;rintro _ U _ ⟨⟨C,f⟩,t,n,rfl,J,K,hw⟩;rw[bx,bz];cases j:eg s with
 |none=>
  have a:br lo hi s=ν:=by unfold br;rw[j]
  rw[j]at f;have f:=f;refine(pT f).Y ?_;rintro _ ab _ ⟨rfl,x⟩;rw[bE,X4,bK,a];exact⟨⟨C.F (x.aa _),f.W x⟩,0,n,rfl,λq h=>(by cases h),λ_=>rfl⟩
 |some q=>
  obtain⟨bu,s1⟩:=q;have:=hw _ j;subst this;rw[j]at f;have f:=f;refine(q4 f).Y ?_;rintro _ ab _ ⟨rfl,x⟩;rw[bE,Y1,a6];refine(Nt J K).Y ?_;rintro _ L _ ⟨rfl,E⟩;have G:=(f.W x).W E;have H:=(C.F (x.aa _)).F (E.aa _);obtain⟨m,e,ac,hm⟩:∃m e:Int,l5 t= .tuple #[Δ m,Δ e]/\((ix t=σ m/\e=0)\/(ix t=ν/\e=4)):=by
   unfold l5;cases P:ix t with
   |none=>exact⟨0,4,rfl,.inr ⟨rfl,rfl⟩⟩
   |some m=>exact⟨m,0,rfl,.inl ⟨rfl,rfl⟩⟩
  rw[ac,bx,bz];refine a1 (λv M=>L=M/\v= .bool (br lo hi s).isNone) ?_ ?_
  .rintro _ _ ⟨rfl,rfl⟩;cases a:br lo hi s with
   |none=>
    rw[Option.isNone_none,bK];refine(uM G Ω).Y ?_;rintro _ Q _ ⟨N,O⟩;exact⟨⟨H.F (N.Y λr _ h=>.inl h),O⟩,0,n,rfl,λq h=>(by cases h),λ_=>rfl⟩
   |some q=>
    rw[l9,a6];unfold br at a;rw[j]at a;simp only at a;rcases hm with⟨hm,_⟩|⟨hm,_⟩
    .rw[hm]at a;simp only at a;split at a
     .cases a;exact⟨⟨H,G⟩,m,n,rfl,λq h=>(by cases h;rfl),λh=>(by cases h)⟩
     .cases a
    .rw[hm]at a;cases a
  .intro aA y;have a:br lo hi s=match ix t with
     |none=>ν
     |some n=>if lo<=n/\n<=hi then σ (n,s1)else ν:=by
    unfold br;rw[j];simp only;cases ix t<;>rfl
   rw[bG,ao];rcases hm with⟨hm,rfl⟩|⟨hm,rfl⟩
   .rw[hm]at a;simp only at a;refine⟨λh=>m2 rfl h,λ_=>?_⟩;rw[aW,ao];refine⟨λh=>y _ _ ⟨rfl,by rw[a,m1 Ω];rfl⟩,λh=>?_⟩;rw[bU];refine y _ _ ⟨rfl,?_⟩;rw[a];by_cases aw:hi<m
    .rw[m3 aw,m1 Ω];rfl
    .rw[m5 aw,lw Ω];rfl
   .rw[hm]at a;exact⟨λ_=>y _ _ ⟨rfl,by rw[a];rfl⟩,λh=>m2 (by omega:(4:Int)≠0) h⟩
theorem Ny{g:Nat}{A:ak}{B:ak}(h:ft w g gs A B):aq x7 ps [Γ g,Δ lo,Δ hi] w λv I=>Ext w I/\v= .tuple #[Δ 0,Δ 0]:=by
 refine aF func109 ?_;refine(Nx h).Y ?_;rintro _ U _ ⟨a,rfl⟩;rw[bx,bz];refine(pT (h.W a)).Y ?_;rintro _ ab _ ⟨rfl,e⟩;rw[bE,X4,bK];exact⟨a.F e,rfl⟩
theorem Nz{x:Int}(h:aQ .i64 w sv l):aq x7 LB [sv,Δ x] w λv I=>Ext w I/\∃r:Int,v=Δ r/\(0<=r↔x∈l):=by
 refine aF func272 ?_;rw[a7 aC.u h];refine cb.range l.length (λi _ U=>Ext w U/\x∉l.take i) h.le ⟨Ext.refl _,Ξ⟩ ?_ ?_
 .rintro i _ U k hi ⟨a,e⟩ hk;refine bM Ω ?_;obtain⟨y,f⟩:=aK (l:=l) hi;rw[bm aC.u ax.i Ψ (h.W a) f,bl,ao];refine⟨λhe=>⟨a,i,rfl,⟨λ_=>he▸x6 f,λ_=>Ω⟩⟩,λhe=>?_⟩;rw[aR];refine hk _ _ ⟨a,λhm=>?_⟩;rw[u7,f]at hm;rcases j5.1 hm with hm|hm
  .exact e hm
  .simp at hm;exact he hm
 .rintro _ U k ⟨a,e⟩;rw[o6]at e;rw[aW,ao];exact⟨λh=>Ω,λ_=>⟨a,-1,rfl,⟨λh=>Ω,λh=>m2 h e⟩⟩⟩
theorem NA{x:Int}(h:aQ .i64 w sv l):aq x7 Lc [sv,Δ x] w λv I=>v= .bool (decide (x∈l))/\Ext w I:=by
 refine aF func228 ?_;refine(Nz h).Y ?_;rintro _ U _ ⟨J,r,rfl,a⟩;rw[cJ];exact⟨by congr 1;rw[U1,m6,m6];exact a,J⟩
theorem uO:∀{l:Λ},(∀z∈l,1<=z)->∀i,aX ((l.take i).map λk=>min k 4097)<=aX (l.map λk=>min k 4097)/\1<=aX ((l.take i).map λk=>min k 4097)
 |[],_,i=>by simp[aX]
 |z::l,h,0=>by
  have a:=uO (λx J=>h x (.tail _ J)) l.length;rw[o6]at a;have e:=h z (.head _);simp only[List.take_zero,List.map_nil,List.map_cons,aX];have:=Int.mul_le_mul_of_nonneg_left a.2 (show 0<=min z 4097 by omega);omega
 |z::l,h,i+1=>by
  have a:=uO (λx J=>h x (.tail _ J)) i;have e:=h z (.head _);simp only[List.take_succ_cons,List.map_cons,aX];have h1:=Int.mul_le_mul_of_nonneg_left a.1 (show 0<=min z 4097 by omega);have f:=Int.mul_le_mul_of_nonneg_left a.2 (show 0<=min z 4097 by omega);exact⟨h1,Ω⟩
theorem Di(l:Λ)(x:Int):aX (l++[x])=aX l*x:=by
 induction l with
 |nil=>simp[aX]
 |cons a l e=>rw[List.cons_append,aX,e,aX,Int.mul_assoc]
theorem Dj(h:aQ .i64 w sv l)(h1:∀z∈l,1<=z):aq x7 Kv [sv] w λv I=>v= .bool (dM l)/\Ext w I:=by
 refine aF func172 ?_;rw[a7 aC.u h];refine k9.range l.length (λi _ n U=>Ext w U/\n=Δ (aX ((l.take i).map λk=>min k 4097))/\aX ((l.take i).map λk=>min k 4097)<=4096) h.le ⟨Ext.refl _,by simp[aX],by simp[aX]⟩ ?_ ?_
 .rintro i _ _ U q hi ⟨a,rfl,f⟩ r;refine bM Ω ?_;obtain⟨z,j⟩:=aK (l:=l) hi;have x:=h1 z (x6 j);have y:=uO h1 i;have A:=uO h1 (i+1);have e:aX ((l.take (i+1)).map λk=>min k 4097)=aX ((l.take i).map λk=>min k 4097)*min z 4097:=by
   rw[u7,j,o8,Z2,List.map_cons,List.map_nil,Di]
  rw[bm aC.u ax.i Ψ (h.W a) j,nK,iv,<-e];have B:aX ((l.take (i+1)).map λk=>min k 4097)<=4096*4097:=by
   rw[e];have C:=Int.mul_le_mul_of_nonneg_right f (show 0<=min z 4097 by omega);have E:=Int.mul_le_mul_of_nonneg_left (show min z 4097<=4097 by omega) (show(0:Int)<=4096 by omega);omega
  rw[hx Ω Ω,bU,ao];refine⟨λs=>⟨?_,a⟩,λs=>?_⟩
  .unfold dM;rw[m3];omega
  .rw[aR];exact r _ _ _ ⟨a,rfl,Ω⟩
 .rintro _ _ U q ⟨a,rfl,f⟩;rw[o6]at f;rw[aW,ao];refine⟨λh=>Ω,λ_=>⟨?_,a⟩⟩;unfold dM;rw[m5];omega
def l7(n:Int)(acc:Λ)(s:aN):Option (Int×aN):=match br 0 (n-1) s with
 |none=>ν
 |some (v,s)=>if v∈acc then ν else σ (v,s)
theorem q5{α:Type}{f:List α->aN->Option (α×aN)}{acc:List α}{s:aN}(h:f acc s=ν):c6 f (n+1) acc s=ν:=by
 simp only[c6,h]
theorem uP{α:Type}{f:List α->aN->Option (α×aN)}{acc:List α}{s s':aN}{a:α}(h:f acc s=σ (a,s')):c6 f (n+1) acc s=c6 f n (acc++[a]) s':=by
 simp only[c6,h]
theorem ey.su{g:Nat}{A:ak}{B:ak}{s:aN}{a:Bool}(h:ey w g gs A B s a):(∀r,bQ g gs A r->r<w.heap.size)/\(∀r,B r->r<w.heap.size):=⟨h.1.2.2.2.1,h.1.2.2.2.2⟩
theorem NB{g k:Nat}{A B:ak}{s:aN}{J:Bool}{m:Int}(h:ey w g gs A B s J)(hk:k<=4611686018427387904)(hm:0<=m/\m<=1000000):
  aq x7 Bu [Γ g,Δ (k:Int),Δ m] w λv I=>gE w g gs A B J ((fs m k s).map (·.2)) I/\
   ∃gr l,aH .i64 ax I gr v l/\(∀r,hv v r->w.heap.size<=r)/\l.length<=100001/\∀q,fs m k s=σ q->l=q.1:=by
 obtain⟨ad,ay⟩:=h.su;have az:=h.2.1.words.1;refine aF func171 ?_;refine⟨λout R U=>∃i:Nat,R=Δ (i:Int)/\i<=k/\aj (bQ g gs A) w U/\∃gr l,aH .i64 ax U gr out l/\w.heap.size<=gr/\l.length<=100001/\
  ((∃st,ey U g gs A B st J/\c6 (l7 m) (k-i) l st=fs m k s/\l.length+st.d9.length<=100000)\/(ft U g gs A B/\fs m k s=ν)),λ_ R _=>k-(bY R).toNat,
  ⟨0,rfl,X9 _,aj.refl _ _,w.heap.size,[],aH.nil _ _ _ _,p9 _,Ξ,.inl ⟨s,h,rfl,by simpa using az⟩⟩,?_⟩
 rintro out _ U ⟨i,rfl,aB,ae,gr,l,af,bd,be,ag⟩;have s1:=ae.size;have S:∀r,hv out r->w.heap.size<=r:=λr z=>by have:=b5 af z;omega
 refine a1 (λv ab=>Ext U ab/\((v= .bool ms/\i<k/\∃st,ey ab g gs A B st J/\c6 (l7 m) (k-i) l st=fs m k s/\l.length+st.d9.length<=100000)\/
  (v= .bool ne/\((∃st,ey ab g gs A B st J/\fs m k s=σ (l,st))\/(ft ab g gs A B/\fs m k s=ν))))) ?_ ?_
 rotate_left
 .intro aA M;rw[aW,ao];refine⟨λbf=>?_,λbg=>?_⟩
  .rcases ag with⟨st,C,x,V⟩|⟨G,W⟩
   .refine (q4 C).Y ?_;rintro _ ab _ ⟨rfl,E⟩;exact M _ _ ⟨E,.inl ⟨rfl,Ω,st,C.W E,x,V⟩⟩
   .refine (pT G).Y ?_;rintro _ ab _ ⟨rfl,E⟩;exact M _ _ ⟨E,.inr ⟨rfl,.inr ⟨G.W E,W⟩⟩⟩
  .have aD:k-i=0:=Ω
   rcases ag with⟨st,C,x,V⟩|aE
   .rw[aD]at x;exact M _ _ ⟨Ext.refl _,.inr ⟨rfl,.inl ⟨st,C,x.symm⟩⟩⟩
   .exact M _ _ ⟨Ext.refl _,.inr ⟨rfl,.inr aE⟩⟩
 rintro _ ab ⟨E,aG⟩;have X:aj (bQ g gs A) w ab:=ae.F (E.aa _);have N:=af.W E;rcases aG with⟨rfl,aB,st,C,x,V⟩|⟨rfl,aI⟩
 rotate_left
 .rw[a6];rcases aI with⟨st,C,K⟩|⟨G,K⟩
  .rw[K];exact⟨⟨X,C⟩,gr,l,N,S,Ω,λq f=>by cases f;rfl⟩
  .rw[K];exact⟨⟨X,G⟩,gr,l,N,S,Ω,λq f=>by cases f⟩
 rw[bK,c5,hx Ω Ω];have aJ:k-i=(k-(i+1))+1:=Ω
 rw[aJ]at x;refine(xV C).Y ?_;rintro _ ah _ ⟨⟨O,P⟩,n,at_,rfl,aK,bh⟩;rw[bx,bz];have ai:∀r,hv out r->¬bQ g gs A r:=λr z aL=>by have:=ad r aL;have:=S r z;omega
 have bi:∀r,g=r->bQ g gs A r:=λr h=>.inl h.symm;refine cZ (λe=>aj (bQ g gs A) ab e/\((∃y,ey e g gs A B y J/\c6 (l7 m) (k-(i+1)) (l++[n]) y=fs m k s/\l.length+1+y.d9.length<=100000)\/(ft e g gs A B/\fs m k s=ν))/\l.length+1<=100001) ?_ ?_
 .rintro e ⟨al,aM,am⟩;have aO:=bB N al ai;have an:=X.F al;have bj:=an.size;refine eI aC.u ax.i rfl λa ga ap bk H aP=>?_;refine kN aC.u ax.i rfl (aO.W H) aP.ls Θ Θ λaQ aS aT bl aU Y=>?_;have bm:=H.size;rw[aR,hx Ω Ω];have aV:aj (bQ g gs A) w aT:=ji (an.F (H.aa _)) Y λr z he=>by have he:r=gr:=he;omega
  have au:∀r,bQ g gs A r->¬(λr=>r=gr) r:=λr z he=>by have:=ad r z;have he:r=gr:=he;omega
  have av:∀r,cV g gs A B r->¬(λr=>r=gr) r:=λr z he=>by have:=ay r z.2;have he:r=gr:=he;omega
  refine⟨⟨i+1,rfl,Ω,aV,aS,l++[n],aU,Ω,Θ,?_⟩,by simp only[bY];omega⟩;rcases aM with⟨y,Q,aX,bn⟩|⟨aY,W⟩
  .exact .inl ⟨y,(Q.W H).aa Y au av,aX,Θ⟩
  .exact .inr ⟨(aY.W H).aa Y au av,W⟩
 .intro bo Z;cases f:br 0 (m-1) st with
  |none=>
   rw[f]at P;have G:=P;have L:l7 m l st=ν:=by unfold l7;rw[f]
   have K:fs m k s=ν:=by rw[<-x];exact q5 L
   refine a1 (λv e=>Ext ah e/\v= .bool ne) ?_ ?_
   rotate_left
   .intro aZ ac;refine(pT G).Y ?_;rintro _ e _ ⟨rfl,j⟩;rw[a6];exact ac _ _ ⟨j,rfl⟩
   rintro _ e ⟨j,rfl⟩;rw[a6];exact Z _ ⟨O.F (j.aa _),.inr ⟨G.W j,K⟩,Ω⟩
  |some q=>
   obtain⟨aQ,y⟩:=q;have a2:=aK _ f;subst a2;rw[f]at P;have aw:=P;have a7:=dS f;have am:l.length+1+y.d9.length<=100000:=by have:=a7.1;omega
   refine a1 (λv e=>Ext ah e/\v= .bool (decide (n∈l))) ?_ ?_
   rotate_left
   .intro aZ ac;refine(q4 aw).Y ?_;rintro _ e _ ⟨rfl,j⟩;rw[bK];refine(NA ((bB N O ai).W j).ls).Y ?_;rintro _ ap _ ⟨rfl,H⟩;exact ac _ _ ⟨j.F H,rfl⟩
   rintro _ e ⟨j,rfl⟩;have Q:=aw.W j;rw[ao];refine⟨λa8=>?_,λba=>?_⟩
   .have L:l7 m l st=ν:=by unfold l7;rw[f];simp only;rw[lw a8]
    refine(uM Q Ω).Y ?_;rintro _ ap _ ⟨bb,bc⟩;exact Z _ ⟨(O.F (j.aa _)).F (bb.Y λr _ h=>.inl h),.inr ⟨bc,by rw[<-x];exact q5 L⟩,Ω⟩
   .have L:l7 m l st=σ (n,y):=by unfold l7;rw[f];simp only;rw[m1 ba]
    exact Z _ ⟨O.F (j.aa _),.inl ⟨y,Q,by rw[<-x];exact(uP L).symm,am⟩,Ω⟩
theorem NC{s:Λ}(V:dN s):sg (bq s) t=match ct s t 0 with
  |some n=>n
  |none=>-1:=by
 unfold sg;cases ah:(bq s).findIdx? (λx=>decide (x=t))with
 |none=>
  cases hi:ct s t 0 with
  |none=>rfl
  |some n=>
   have:=l4 V hi;rw[List.findIdx?_eq_none_iff]at ah;have:=ah t (x6 this);simp at this
 |some i=>
  rw[List.findIdx?_eq_some_iff_getElem]at ah;obtain⟨hi,h1,_⟩:=ah;have h1:(bq s)[i]=t:=by simpa using h1
  have:=kt V (i:=i) (t:=t) (by rw[x8 hi,h1]);rw[this]
theorem oJ{a b:Int}(e:0<=a/\a<=4294967296)(f:0<=b/\b<=4294967296):aq x7 IW [Δ a,Δ b,Δ k] w λv I=>v=Δ (min (a+b) k)/\Ext w I:=by
 refine aF func31 ?_;simp only[aR,bU,ao];rw[hx Ω Ω];exact⟨λh=>⟨by rw[Int.min_eq_right Ω],Ext.refl _⟩,λh=>⟨by rw[Int.min_eq_left Ω],Ext.refl _⟩⟩
def pU(a b k:Int):x1:=if cA a k/\cA b k then .tuple #[Δ (min (a+b) k),Δ 0]else .tuple #[Δ 0,Δ 3]
theorem xW{a b:Int}:aq x7 BC [Δ a,Δ b,Δ k] w λv I=>v=pU a b k/\Ext w I:=by
 refine aF func214 ?_;refine a1 (λv U=>Ext w U/\v= .bool (decide (¬(cA a k/\cA b k)))) ?_ ?_
 .rintro _ U ⟨J,rfl⟩;simp only[ao,aR,nK];refine⟨λh=>⟨by unfold pU;rw[m1 h],J⟩,λh=>?_⟩;have h:=X0.1 h;obtain⟨⟨h1,r⟩,s,x⟩:=id h;have:=h1.2;rw[hx Ω Ω];exact⟨by unfold pU;rw[lw h],J⟩
 .intro aA e;refine ln.Y ?_;rintro _ ab _ ⟨rfl,f⟩;simp only[bE,b1];refine⟨λh=>e _ _ ⟨f,?_⟩,λh=>?_⟩
  .have:¬cA a k:=by simpa using h
   rw[m3];exact λh=>this h.1
  .have j:cA a k:=by simpa using h
   refine ln.Y ?_;rintro _ y _ ⟨rfl,q⟩;simp only[bE];exact e _ _ ⟨f.F q,by simp[j]⟩
theorem ND(h:aQ .i64 w sv l)(f:l≠[]):
  aq x7 LK [sv] w λv I=>v=Δ (xK l)/\Ext w I:=by
 obtain⟨x,l,rfl⟩:∃x r,l=x::r:=by cases l with
  |nil=>exact m2 rfl f
  |cons x r=>exact⟨x,r,rfl⟩
 have j:=h.le;refine aF func292 ?_;refine cZ (λU=>w=U) ?_ ?_
 .rintro _ rfl;rw[fO (y:=0) (i:=0) rfl aC.u ax.i Ψ h (by rfl)];refine⟨λm i ab=>Ext w ab/\∃k:Nat,i=Δ (k+1:Nat)/\k<=l.length/\m=Δ ((l.take k).foldl min x),λ_ i _=>l.length+1-(bY i).toNat,⟨Ext.refl _,0,rfl,X9 _,rfl⟩,?_⟩;rintro _ _ ab ⟨a,k,rfl,hk,rfl⟩;rw[a7 aC.u (h.W a)];simp only[X5,aW,ao]at j ⊢;refine⟨λs=>?_,λz=>⟨?_,a⟩⟩
  .obtain⟨y,e⟩:=aK (l:=l) (i:=k) Ω;rw[bm aC.u ax.i Ψ (h.W a) (show(x::l)[k+1]?=σ y from e),nK];simp only[aR];rw[hx Ω Ω];refine⟨⟨a,k+1,by congr 1,Ω,?_⟩,?_⟩
   .rw[u7,e,List.foldl_append];rfl
   .simp only[bY];omega
  .have:k=l.length:=Ω
   subst this;rw[o6];rfl
 .intro aA q;rw[a7 aC.u h];simp only[aW,ao];exact⟨λh=>by simp at h;omega,λ_=>q _ rfl⟩
theorem Dk{g a:Nat}(h:ds w g a sv am k cs):aq x7 xh [Γ g] w λv I=>v=Δ k/\Ext w I:=by
 obtain⟨⟨bd,gs,e,hm,f⟩,_⟩:=h;refine aF func255 ?_;rw[cT fp.u];simp only[l9,a6];rw[aL c4.p 1 e rfl];exact⟨rfl,Ext.refl _⟩
theorem oK{g e:Nat}(h:ds w g e sv am k cs):
  aq x7 JS [Γ g] w λv I=>Ext w I/\∃a,w.heap.size<=a/\aH .i64 ax I a v cs:=by
 obtain⟨⟨bd,gs,f,hm,j⟩,⟨_,_,ae⟩,V,q⟩:=h;refine aF func124 ?_;rw[cT fp.u];simp only[l9,a6];rw[aL c4.p 2 f rfl];exact xt j.ls Ω
theorem q6{g e:Nat}(h:ds w g e sv am k cs):
  aq x7 KQ [Γ g] w λv I=>v= .agg #[sv]/\Ext w I:=by
 obtain⟨⟨bd,gs,f,hm,z⟩,_⟩:=h;have q:=hm.ls.cells;refine aF func202 ?_;refine bC bL.i λA U B a s=>?_;rw[cT fp.u];simp only[l9,a6];rw[bR,aY c4.p rfl,bF (cs:=[sv]) bL.p bL.i rfl (pL (f.W a) (by
  intro j v ac
  match j,ac with
  |0,ac=>exact ac))]
 refine b8 (vs:=[sv]) bL.i rfl rfl (by intro u hu;simp at hu;subst hu;exact q.2) s λC x E y=>?_;rw[gk bL.p bL.i rfl y.range];exact⟨rfl,a.then x (by rintro r G rfl;omega)⟩
theorem Dl(h:aQ .i64 w sv am)(q:am.length<=1000):aq x7 BH [.agg #[sv]] w λv I=>Ext w I/\∃a,w.heap.size<=a/\aH .i64 al I a v am:=by
 refine aF func254 ?_;refine bo λg U r e f=>?_;rw[aO bL.p 0 f rfl];refine(mL (h.W e) Ω).Y ?_;rintro v ab _ ⟨j,a,s,hm⟩;have s1:=e.size;exact⟨e.F j,a,Ω,hm⟩
theorem Dm(h:aQ .i64 w sv am):aq x7 LG [.agg #[sv]] w λv I=>v=Δ am.length/\Ext w I:=by
 refine aF func279 ?_;refine bo λg U f a e=>?_;rw[aO bL.p 0 e rfl,a7 av.u (h.W a)];exact⟨rfl,a⟩
def jG(am:Λ)(i:Int):Int:=if 0<=i then am.getD i.toNat 0 else 0
theorem sw{i:Int}(h:aQ .i64 w sv am):aq x7 LH [.agg #[sv],Δ i] w λv I=>v=Δ (jG am i)/\Ext w I:=by
 refine aF func280 ?_;refine bo λg U r a e=>?_;refine a1 (λv ab=>v= .bool (decide (i<0\/(am.length:Int)<=i))/\U=ab) ?_ ?_
 .rintro _ _ ⟨rfl,rfl⟩;simp only[ao];refine⟨λh=>⟨?_,a⟩,λq=>?_⟩
  .unfold jG;split
   .rw[p8,V0 Ω];rfl
   .rfl
  .rw[aO bL.p 0 e rfl];obtain⟨n,rfl⟩:∃n:Nat,i=n:=⟨i.toNat,Ω⟩;have f:n<am.length:=Ω
   rw[bm av.u al.i Ψ (h.W a) (x8 f)];refine⟨?_,a⟩;unfold jG;rw[lw Ω,p8,u5,x8 f];rfl
 .intro aA j;simp only[aW,ao];refine⟨λh=>j _ _ ⟨by rw[m3];omega,rfl⟩,λq=>?_⟩;rw[aO bL.p 0 e rfl,a7 av.u (h.W a)];simp only[cJ];exact j _ _ ⟨by congr 1;simp;omega,rfl⟩
theorem uQ{g B0:Nat}(V:cg am):
  pn x7 mD [Γ g] (aX am).toNat (λk vs w=>∃aV gt,vs=[Δ (k:Int),aV]/\B0<=gt/\aH .i64 al w gt aV (dl am k))
   (λw=>ai w g bL [sv]/\aQ .i64 w sv am/\B0<=w.heap.size):=by
 refine⟨mD.enters,λl aA O w q _ y ⟨r,s,z⟩ A=>?_⟩;have ae:=prod_bound V;refine qO func94 ?_;rw[bF bL.p bL.i rfl r.range];refine(qT s V).free.Y ?_;rintro _ U ⟨B,rfl,J⟩;refine b6.range (aX am).toNat (λi ab=>aA i ab/\ai ab g bL [sv]/\aQ .i64 ab sv am/\B0<=ab.heap.size) Ω ⟨q 0 _ _ J B.b A,r.W J,s.W J,Y7 z J.size⟩ ?_ ?_
 .rintro i ab k hi ⟨e,f,j,x⟩ hk;simp only[aW,ao];refine⟨λ_=>?_,λh=>Ω⟩;rw[bF bL.p bL.i rfl f.range];refine(Mh j V Ω Ω).free.Y ?_;rintro _ C ⟨E,a,aV,gt,rfl,G,H⟩;rw[bx,bz];refine⟨rfl,(y i _ C hi ⟨f.W a,j.W a,Y7 x a.size⟩ ⟨aV,gt,rfl,Y7 x G,H⟩ (q _ _ _ a E.b e)).Y ?_⟩;rintro _ P (⟨rfl,⟨I,K,L⟩,M⟩|⟨rfl,N⟩)
  .simp only[bE,Y1,a6,aR];exact hk _ ⟨M.1,I,K,L⟩
  .simp only[bE,X4,bK];exact .inr ⟨i,hi,N⟩
 .rintro ab k ⟨e,f,j,_⟩;simp only[aW,ao];exact⟨λh=>Ω,λ_=>.inl e⟩
theorem uR:aq x7 I6 [.agg #[sv]] w λr I=>Ext w I/\∃g,r= .func (.func mD) #[] #[Γ g]/\w.heap.size<=g/\ai I g bL [sv]:=by
 refine aF func50 ?_;refine bo λg U f a e=>?_;rw[lh];exact⟨a,g,rfl,Ω,e⟩
end Go.Proofs.YtlcdcbgoaljiiaaGreatDoor
namespace Go.Vc
open Go Go.RowKit
set_option maxRecDepth 100000
section
variable{P:W5}{w:x4}
theorem aM.cO{α:Type}{s:Sem α}{K:α->x4->Prop}(h:aM P s w λv I=>cR w I->K v I):aM P s w K:=by
 obtain⟨v,I,h1,a,e⟩:=h;exact⟨v,I,h1,a,e a⟩
structure Keys(P:W5)(k:r8)(G:x1->Prop):Prop where
 check:∀(w:x4)(em:Bool){v:x1},G v->(Instr.checkKey em 10000 k v).run P w= .ok () w
 find:∀(w:x4){x:x1},G x->∀es:List MapEntry,(∀e∈es,G e.key)->
  ((Instr.findKey k x es).run P w= .ok ν w/\∀e∈es,e.key≠x)\/∃j e,(Instr.findKey k x es).run P w= .ok (σ (j,e.val)) w/\es[j]?=σ e/\e.key=x
 stays:∀(w:x4){v:x1},G v->(Instr.keyThatStays v v).run P w= .ok v w
theorem Keys.law{k:r8}(K:WideMaps.KeyLaw P k):Keys P k λv=>∃l,keyOf P k v=σ l:=
 ⟨λw a _ ⟨_,h⟩=>K.check w a h,λw _ ⟨_,h⟩ e f=>K.find w h e f,λw _ ⟨_,h⟩=>K.stays w h⟩
theorem Keys.int{k:r8}{a:o5}(hk:P.underlying k=σ (.int a)):Keys P k λv=>∃n,v= .int a n:=by
 have key:∀n,MapKept.IsKey (.int a) (.int a n):=λn=>rfl;refine⟨λw e v ⟨n,h⟩=>?_,λw x ⟨n,h⟩ f j=>?_,λw v ⟨n,h⟩=>?_⟩
 all_goals grind [MapKept.run_checkKey,MapKept.findNow_spec,MapKept.run_findKey,MapKept.run_keyThatStays]
def iz(e:MapEntry):x1×x1:=(e.key,e.val)
def c8(w:x4)(m:Nat)(d:List (x1×x1)):Prop:=∃a e,w.heap[m]?=σ (.map a e)/\MapKept.Stamped a e/\a.toList.map iz=d
theorem c8.W{m:Nat}{d:List (x1×x1)}(h:c8 w m d)(J:Ext w I):c8 I m d:=by
 obtain⟨a,c,h1,e⟩:=h;exact⟨a,c,J.bb m _ h1 rfl,e⟩
theorem c8.aa{m:Nat}{d:List (x1×x1)}(h:c8 w m d)(J:aj S w I)(a:¬S m):c8 I m d:=by
 obtain⟨e,c,h1,f⟩:=h;exact⟨e,c,J.bb m _ h1 rfl a,f⟩
theorem c8.lt{m:Nat}{d:List (x1×x1)}(h:c8 w m d):m<w.heap.size:=by
 obtain⟨a,c,h1,e⟩:=h
 grind
theorem c8.nodup{m:Nat}{d:List (x1×x1)}(h:c8 w m d):(d.map (·.1)).Nodup:=by
 obtain⟨e,c,_,⟨_,_,a⟩,rfl⟩:=h;rw[T7];exact a
theorem l8{α:Type}{l:List α}(h:l.Nodup){i:Nat}{x:α}(hi:l[i]?=σ x)(a:l[j]?=σ x):i=j:=by
 grind [U3]
theorem mT{α β:Type}(f:α->β):∀(l:List α)(i:Nat),(l.map f).eraseIdx i=(l.eraseIdx i).map f
 |[],_=>Ξ
 |_::_,0=>rfl
 |x::l,i+1=>by simp[mT f l i]
theorem c8.uniq{m:Nat}{d:List (x1×x1)}(h:c8 w m d){i:Nat}{p q:x1×x1}(hi:d[i]?=σ p)(a:d[j]?=σ q)(he:p.1=q.1):i=j:=by
 have e:=h.nodup;have h1:(d.map (·.1))[i]?=σ p.1:=by grind
 have f:(d.map (·.1))[j]?=σ p.1:=by grind
 grind [l8]
theorem uS{m:Nat}{q:Array MapEntry}{c:Nat}(h:w.heap[m]?=σ (.map q c))(a:Array MapEntry)(e:Nat):
  aj (λr=>r=m) w {w with heap:=w.heap.setIfInBounds m (.map a e)}/\cR w {w with heap:=w.heap.setIfInBounds m (.map a e)}/\({w with heap:=w.heap.setIfInBounds m (.map a e)}:x4).heap[m]?=σ (.map a e):=by
 have V:=MapKept.heap_set (o':=.map a e) h;refine⟨⟨Ξ,λr o f j x=>?_⟩,⟨rfl,.lP,rfl,Ξ,λr o f j=>?_⟩,V.1⟩
 .grind
 .show (w.heap.setIfInBounds m _)[r]?=σ o;by_cases s:r=m
  .subst s;rw[h]at f;cases f;cases j
  grind
theorem sx{t:r8}{K:x1->x4->Prop}(h:∀m I,m=w.heap.size->Ext w I->c8 I m []->K (.map (σ m)) I):aM P (Instr.makeMap t ν) w K:=by
 refine .of (run_makeMap t w) (qE w _) (h _ _ rfl (qD w _) ⟨#[],0,?_,MapKept.stamped_empty 0,rfl⟩);exact heap_alloc_new w _
variable{k e:r8}{G:x1->Prop}
theorem sy{t:r8}{c:Bool}{m:Nat}{d:List (x1×x1)}{x:x1}(s:P.underlying t=σ (.map k e))(hk:Keys P k G)(hm:c8 w m d)(y:∀p∈d,G p.1)(J:G x)(a:d[j]?=σ (x,v)):
  ad P (Instr.lookup t (.map (σ m)) x c) w K=K (if c then .tuple #[v,.bool ms]else v):=ad.of λI z=>by
 obtain⟨f,A,h,B,rfl⟩:=hm.W z;have C:∀e∈f.toList,G e.key:=λe he=>y (iz e) (o9.2 ⟨e,he,rfl⟩);rcases hk.find I J f.toList C with⟨_,q⟩|⟨i,r,h1,q,E⟩
 .rw[v8]at a;obtain⟨F,H,L⟩:=Y0.1 a;exact m2 (congrArg Prod.fst L) (q F (x6 H))
 .have ac:r.val=v:=by
   have hi:(f.toList.map iz)[i]?=σ (iz r):=by grind
   have M:c8 I m (f.toList.map iz):=⟨f,A,h,B,rfl⟩;have:=M.uniq hi a E;subst this;rw[hi]at a;exact congrArg Prod.snd (Z4 a)
  simp only[Instr.lookup,W8,run_underlying s,V1,MapKept.run_getObj_map h,V4,hk.check I _ J,h1,ac]
theorem uT{t:r8}{c:Bool}{m:Nat}{d:List (x1×x1)}{x:x1}(q:P.underlying t=σ (.map k e))(hk:Keys P k G)(a:∃s b,aS P e s b z)(hm:c8 w m d)(r:∀p∈d,G p.1)(J:G x)(y:∀p∈d,p.1≠x):
  ad P (Instr.lookup t (.map (σ m)) x c) w K=K (if c then .tuple #[z,.bool ne]else z):=ad.of λI A=>by
 obtain⟨f,H,B,L,rfl⟩:=hm.W A;have C:∀e∈f.toList,G e.key:=λe he=>r (iz e) (o9.2 ⟨e,he,rfl⟩);have E:(zeroValue e).run P I= .ok z I:=by
  obtain⟨s,b,i,hi,_,_,a⟩:=a;simp[zeroValue,typeInfo,hi,a]
 rcases hk.find I J f.toList C with⟨h1,h⟩|⟨i,j,h1,h,F⟩
 .simp only[Instr.lookup,W8,run_underlying q,V1,MapKept.run_getObj_map B,V4,hk.check I _ J,h1,E]
 .exact m2 F (y (iz j) (o9.2 ⟨j,x6 h,rfl⟩))
theorem NE{a:Array MapEntry}{e:MapEntry}{f:MapEntry->MapEntry}(h:a[j]?=σ e):(a.modify j f).toList.map iz=(a.toList.map iz).set j (iz (f e)):=by
 refine Y5 λi=>?_
 grind
theorem q7{t:r8}{m:Nat}{d:List (x1×x1)}{x:x1}{K:Unit->x4->Prop}(z:P.underlying t=σ (.map k e))(hk:Keys P k G)(hm:c8 w m d)(F:∀p∈d,G p.1)(J:G x)(h1:∀j v0 I,d[j]?=σ (x,v0)->c8 I m (d.set j (x,v))->aj (λr=>r=m) w I->K () I)(H:∀I,(∀p∈d,p.1≠x)->c8 I m (d++[(x,v)])->aj (λr=>r=m) w I->K () I):aM P (Instr.mapUpdate t (.map (σ m)) x v) w K:=by
 obtain⟨f,h,a,A,rfl⟩:=hm;have L:∀e∈f.toList,G e.key:=λe he=>F (iz e) (o9.2 ⟨e,he,rfl⟩);rcases hk.find w J f.toList L with⟨ah,B⟩|⟨i,C,ah,hi,he⟩
 .obtain⟨q,s,y⟩:=uS a (f.push {key:=x,val:=v,born:=h}) (h+1);refine .of ?_ s (H _ (λp ae=>?_) ⟨_,_,y,MapKept.stamped_push A B,by simp[iz]⟩ q)
  .simp only[Instr.mapUpdate,W8,run_underlying z,V1,MapKept.run_getObj_map a,hk.check w _ J,ah,MapKept.run_setObj_map _ a]
  .obtain⟨M,N,rfl⟩:=o9.1 ae;exact B M N
 .have E:f[i]?=σ C:=by grind
  obtain⟨q,s,y⟩:=uS a (f.modify i λe=>{e with key:=x,val:=v}) h;refine .of ?_ s (h1 i C.val _ (by grind [iz]) ⟨_,_,y,MapKept.stamped_modify A _ _ (λ_ _=>rfl) (by grind),NE E⟩ q);simp only[Instr.mapUpdate,W8,run_underlying z,V1,MapKept.run_getObj_map a,hk.check w _ J,ah,E,Y9,Option.getD_some,he,hk.stays w J,MapKept.run_setObj_map _ a]
theorem NF{t B C:r8}{m:Nat}{d:List (x1×x1)}{x:x1}{K:x1->x4->Prop}(y:P.underlying t=σ (.map k e))(hk:Keys P k G)(hm:c8 w m d)(E:∀p∈d,G p.1)(J:G x)(h1:∀j v0 I,d[j]?=σ (x,v0)->c8 I m (d.eraseIdx j)->aj (λr=>r=m) w I->K (.tuple #[]) I)(F:∀I,(∀p∈d,p.1≠x)->c8 I m d->aj (λr=>r=m) w I->K (.tuple #[]) I):aM P (Z0.delete_ #[t,B] C #[.map (σ m),x]) w K:=by
 obtain⟨f,z,a,A,rfl⟩:=hm;have H:∀e∈f.toList,G e.key:=λe he=>E (iz e) (o9.2 ⟨e,he,rfl⟩);rcases hk.find w J f.toList H with⟨ah,L⟩|⟨i,M,ah,hi,he⟩
 .obtain⟨h,q,s⟩:=uS a f z;refine .of ?_ q (F _ (λp ae=>?_) ⟨_,_,s,A,rfl⟩ h)
  .simp only[Z0.delete_,List.getElem?_toArray,List.getElem?_cons_zero,List.getElem?_cons_succ,W8,run_underlying y,V1,MapKept.run_getObj_map a,hk.check w _ J,ah,MapKept.run_setObj_map _ a,V4]
  .obtain⟨N,O,rfl⟩:=o9.1 ae;exact L N O
 .obtain⟨h,q,s⟩:=uS a (f.eraseIdxIfInBounds i) z;refine .of ?_ q (h1 i M.val _ (by grind [iz]) ⟨_,_,s,MapKept.stamped_erase A _,by rw[mT];simp⟩ h);simp only[Z0.delete_,List.getElem?_toArray,List.getElem?_cons_zero,List.getElem?_cons_succ,W8,run_underlying y,V1,MapKept.run_getObj_map a,hk.check w _ J,ah,MapKept.run_setObj_map _ a,V4]
theorem Dn{t a:r8}{m:Nat}{d:List (x1×x1)}(f:P.underlying t=σ (.map k e))(hm:c8 w m d):ad P (W7 #[t] a #[.map (σ m)]) w K=K (Δ d.length):=ad.of λI h=>by
 obtain⟨q,r,j,s,rfl⟩:=hm.W h;simp[W7,run_underlying f,MapKept.run_getObj_map j,goInt]
def iA(w:x4)(j m:Nat)(d left:List (x1×x1))(q:Option (x1×x1)):Prop:=∃a f seen gB,w.heap[m]?=σ (.map a f)/\MapKept.Stamped a f/\a.toList.map iz=d/\
 w.heap[j]?=σ (.mapIter (σ m) f seen gB)/\f<=gB/\(leftOf a seen).toList.map iz=left/\∀p,q=σ p->gB=f/\∃h,a.toList.find? (λe=>e.born == seen.back?.getD 0)=σ h/\seen.back? =σ h.born/\iz h=p
theorem iA.map{a m:Nat}{d left:List (x1×x1)}{e:Option (x1×x1)}(h:iA w a m d left e):c8 w m d:=by
 obtain⟨f,c,_,_,h1,j,q,_⟩:=h;exact⟨f,c,h1,j,q⟩
theorem iA.bb{a m:Nat}{d left:List (x1×x1)}{e:Option (x1×x1)}(h:iA w a m d left e)(J:aj S w I)(hm:¬S m)(hi:fl w I):iA I a m d left e:=by
 obtain⟨f,c,s,gB,h1,j,q,r,x⟩:=h;exact⟨f,c,s,gB,J.bb m _ h1 rfl hm,j,q,hi a _ r rfl,x⟩
theorem iA.W{a m:Nat}{d left:List (x1×x1)}{e:Option (x1×x1)}(h:iA w a m d left e)(J:Ext w I)(hi:fl w I):iA I a m d left e:=
 h.bb (J.aa λ_=>False) (λh=>h) hi
theorem NG(a:Array MapEntry):leftOf a #[]=a:=by
 grind [leftOf,Array.filter_eq_self]
theorem uU{t:r8}{m:Nat}{d:List (x1×x1)}{K:x1->x4->Prop}(s:P.underlying t=σ (.map k e))(hm:c8 w m d)(h:∀a I,a=w.heap.size->Ext w I->fl w I->iA I a m d d ν->K (Γ a) I):aM P (Instr.range t (.map (σ m))) w K:=by
 obtain⟨j,f,q,r,rfl⟩:=hm;refine .of (by grind [run_range_map]) (qE w _) (h _ _ rfl (qD w _) (qE w _).kH ⟨j,f,#[],f,(qD w _).bb m _ q rfl,r,rfl,heap_alloc_new w _,p9 _,by rw[NG],by grind⟩)
theorem Do:∀(l:List MapEntry)(j:Nat)(a:MapEntry),(l.map (·.born)).Nodup->l[j]?=σ a->l.filter (λx=>!(x.born == a.born))=l.eraseIdx j
 |[],j,a,_,h=>by simp at h
 |x::l,0,a,e,h=>by
  grind [List.filter_eq_self]
 |x::l,j+1,a,e,h=>by
  simp at h;have f:=List.nodup_cons.1 (by simpa using e:(x.born::l.map (·.born)).Nodup);have J:x.born≠a.born:=λhe=>f.1 (he▸o9.2 ⟨a,x6 h,rfl⟩);have q:=Do l j a f.2 h
  grind
theorem uV{free:gh}{a m:Nat}{d left:List (x1×x1)}{H:Option (x1×x1)}{K:x1->x4->Prop}(h:iA w a m d left H)(ah:free.1=ne->free.2<=a)(M:left=[]->K (.tuple #[.bool ne]) w)(h1:∀j p I,left[j]?=σ p->Ext w I->cN a w I->iA I a m d (left.eraseIdx j) (σ p)->K (.tuple #[.bool ms,p.1,p.2]) I):tC P free (Instr.next (Γ a) ne 0) w K:=by
 obtain⟨f,s,seen,gB,N,z,rfl,hi,O,rfl,_⟩:=h;have E:∀x∈f.toList,x.born<s:=z.1;have af:=z.2.1;have ag:∀x∈(leftOf f seen).toList,x.born<s:=λx J=>E x (mem_left J).1;have ai:∀(U:x4)(o':Obj),U.heap=w.heap->(setObj a o').run P U= .ok () {U with heap:=U.heap.setIfInBounds a o'}:=by grind [setObj,Sem.run]
 unfold tC;simp only[Instr.next,getObj,W8,Sem.run,hi,N,V1,next_test_false seen f s gB E O,Bool.false_eq_true,if_false];have Q:Array.filter (λe=>!seen.contains e.born) f=leftOf f seen:=rfl;rw[Q];have R:((leftOf f seen).toList.map (·.born)).Nodup:=by
  grind
 have S:∀A:MapEntry,leftOf f (seen.push A.born)=(leftOf f seen).filter λx=>!(x.born == A.born):=λA=>by
  unfold leftOf;rw[Array.filter_filter]
  grind
 generalize T:leftOf f seen=L at*;have V:L.filter (λx=>decide (x.born<s))=L:=by grind [Array.filter_eq_self]
 have W:L.filter (λx=>decide (x.born≥s))= #[]:=by
  grind [Array.filter_eq_empty_iff]
 simp only[V,W,Array.append_empty];by_cases X:L.size=0
 .have Y:=Array.eq_empty_of_size_eq_zero X;subst Y;refine⟨.tuple #[.bool ne],w,?_,λ_=>cN.refl _ _,M rfl⟩;simp[choose,Sem.run,Question.forced]
 .have Z:L.isEmpty=ne:=by grind
  simp only[Z,Bool.false_eq_true,if_false,Array.empty_append,Array.size_map];have aa:∃(j:Nat)(n:Nat),j<L.size/\w.drawn<=n/\(choose (Question.mapNext L.size)).run P w= .ok j {w with drawn:=n}:=by
   by_cases ah:L.size<=1
   .exact⟨0,w.drawn,Ω,p9 _,by simp[choose,Sem.run,Question.forced,ah]⟩
   .exact⟨_,w.drawn+1,Nat.mod_lt _ Ω,Nat.le_succ _,by
     simp only[choose,Sem.run,Question.forced,m6,ah,if_false,Question.cut];rfl⟩
  obtain⟨j,n,F,G,aj⟩:=aa;have ab:L.toList[j]?=σ L[j]:=by simp[F]
  have ak:=(mem_left (by rw[T];exact Array.mem_toList_iff.2 (Array.getElem_mem F))).1;refine⟨.tuple #[.bool ms,L[j].key,L[j].val],{w with drawn:=n,heap:=w.heap.setIfInBounds a (.mapIter (σ m) s (seen.push L[j].born) s)},?_,?_,?_⟩
  .grind [W8,V1,V4]
  .intro ac;have:=ah ac;refine⟨rfl,⟨rfl,G⟩,rfl,Ξ,λr o q B=>?_,λr o ad q C=>?_⟩
   .show (w.heap.setIfInBounds a _)[r]?=σ o;by_cases y:r=a
    .subst y;rw[hi]at q;cases q;cases B
    grind
   grind
  .refine h1 j (iz L[j]) _ (by grind) ⟨Ξ,λr o q C=>?_⟩ ⟨rfl,⟨rfl,G⟩,rfl,Ξ,λr o q B=>?_,λr o ad q C=>?_⟩ ⟨f,s,seen.push L[j].born,s,?_,z,rfl,?_,p9 _,?_,λp ae=>⟨rfl,L[j],?_,Ξ,Z4 ae⟩⟩
   .show (w.heap.setIfInBounds a _)[r]?=σ o;by_cases y:r=a
    .subst y;rw[hi]at q;cases q;cases C
    grind
   .show (w.heap.setIfInBounds a _)[r]?=σ o;by_cases y:r=a
    .subst y;rw[hi]at q;cases q;cases B
    grind
   .grind
   .grind
   .grind
   .rw[S,Array.toList_filter,Do _ _ _ R ab,mT]
   grind [find_born]
theorem uW{a m:Nat}{d left:List (x1×x1)}{p:x1×x1}{K:x1->x4->Prop}(h:iA w a m d left (σ p))(f:K (.tuple #[p.1,p.2]) w):aM P (Instr.entry (Γ a)) w K:=by
 obtain⟨r,s,seen,gB,j,x,rfl,hi,y,rfl,q⟩:=h;obtain⟨rfl,z,h1,e,rfl⟩:=q p rfl;refine .of ?_ (cR.refl _) f;rw[e]at h1;simp only[Instr.entry,getObj,W8,Sem.run,hi,j,V1,e,bne_self_eq_false,Bool.false_eq_true,if_false,<-Array.find?_toList];simp only[Option.getD_some]at h1;rw[h1];rfl
end
end Go.Vc
namespace Go.Proofs.YtlcdcbgoaljiiaaGreatDoor
open Go Go.Vc Go.RowKit Go.Proofs Go.Proofs.Tryz
set_option maxRecDepth 100000
def ez(a:Λ):x1:=.agg (ints .i8 a).toArray
def nU(a:Λ):Prop:=a.length=6/\∀x∈a,0<=x/\x<32
theorem NH{b:Λ}(h:ez a=ez b):a=b:=by
 unfold ez at h;have h:ints .i8 a=ints .i8 b:=by grind
 have e:∀l:Λ,(ints .i8 l).map valOf=l:=λl=>by
  unfold ints;rw[T7];exact List.map_id l
 grind
theorem Dp(a:Λ):(ez a).cells.toList=ints .i8 a:=by simp[ez,x1.cells]
theorem NI:WideMaps.ArrKey x7 cM gA 6:=⟨cM.u,Ψ,Ψ,Ψ⟩
theorem keys:Keys x7 cM λv=>∃l,keyOf x7 cM v=σ l:=Keys.law NI.law
theorem xX{q:Λ}(h:nU q):∃l,keyOf x7 cM (ez q)=σ l:=by
 obtain⟨s,j⟩:=h
 match q,s with
 |[a,b,c,d,e,f],_=>
  have w:=j a Ξ;have y:=j b Ξ;have z:=j c Ξ;have rd:=j d Ξ;have A:=j e Ξ;have lP:=j f Ξ;have wf:∀x:Int,0<=x/\x<32->(Lit.int .i8 x).wf=ms:=λx J=>by
   simp only[Lit.wf,S0,m6];have H:o5.i8.min= -128:=Φ
   have I:o5.i8.max=127:=Φ
   omega
  have r:decide (0<x7.types.size)=ms:=Ψ
  have r:=m7 r;obtain⟨n,B⟩:∃n,x7.types.size=n+1:=⟨x7.types.size-1,Ω⟩;have one:∀x:Int,0<=x/\x<32->x7.keyLits (n+1) gA [.int .i8 x]=σ [.int .i8 x]:=λx J=>by
   unfold W5.keyLits
   grind [gA.u]
  unfold keyOf;rw[cM.u];simp only;have C:x7.keyType cM=ms:=Ψ
  have E:x7.cellsOf gA=1:=Ψ
  have F:x7.cellsOf cM=6:=Ψ
  have ah:(ez [a,b,c,d,e,f]).formed x7 cM=ms:=by
   grind [ez,x1.formed,cM.u]
  rw[C,ah,Dp,B];simp only[Bool.and_self,if_true];unfold W5.keyLits;rw[cM.u];simp only[F,E,ints];have G:X2 6=[0,1,2,3,4,5]:=Φ
  simp[G,one a w,one b y,one c z,one d rd,one e A,one f lP]
def pad(t:Λ):Λ:=t++r9 (6-t.length) 0
theorem NJ(e:t.length<=6)(a:∀x∈t,0<=x/\x<32):nU (pad t):=
 ⟨by simp[pad];omega,λx J=>by
  rcases j5.1 J with h|h
  .exact a x h
  .have:=(List.mem_replicate.1 h).2;omega⟩
theorem NK{b:Λ}(e:a.length=b.length)(h:pad a=pad b):a=b:=by
 grind [pad,List.append_inj]
theorem Dq:(pad t).take t.length=t:=by simp[pad]
theorem pV{b o:Nat}(e:a.length=6)(h:w.rangeAt b o (ints .i8 a)):ad x7 (u4 cM (.pointer (σ ⟨b,o,ν⟩))) w K=K (ez a):=
 BR cM.u rfl cM.i (by simp[e]) h
theorem NL{b o:Nat}(e:a.length=6)(h:w.rangeAt b o (ints .i8 a)):ad x7 (do loadVar cM (<-asAddr (.pointer (σ ⟨b,o,ν⟩)))) w K=K (ez a):=ad.of λI J=>by
 have:=run_loadVar_mid I b o cM (ints .i8 a) (.array 6 gA) (pz J h) cM.u rfl (by rw[cM.i.size];simp[e]);simp only[asAddr,W8,V4,Result.andThen_ok,this];rfl
theorem sz{g:Nat}{cs:List x1}{K:Unit->x4->Prop}(e:a.length=6)(f:cs.length=6)(j:ai w g cM cs)(h:∀I,aj (λr=>r=g) w I->I.heap.size=w.heap.size->ai I g cM (ints .i8 a)->K () I):aM x7 (o7 cM (Γ g) (ez a)) w K:=
 b8 (vs:=ints .i8 a) cM.i (by simp[e]) f (λv ac=>by obtain⟨x,_,rfl⟩:=o9.1 ac;rfl) j h
def uX:List x1:=[.int .i8 0,.int .i8 0,.int .i8 0,.int .i8 0,.int .i8 0,.int .i8 0]
theorem NM{x:Int}:aq x7 uf [Δ x] w λv I=>v= .bool (decide (¬jT x))/\Ext w I:=by
 refine aF func230 ?_;simp only[cC,aW,bU,ao];refine⟨λh=>⟨?_,Ext.refl _⟩,λh=>⟨?_,Ext.refl _⟩⟩
 .rw[m3];intro a;have:=a.1;omega
 .congr 1;have:(32<x)=(¬jT x):=propext ⟨λe a=>by have:=a.2;omega,λe=>by
   by_cases f:32<x
   .exact f
   .exact m2 ⟨Ω,Ω⟩ e⟩
  simp only[this]
theorem NN(h:aQ .i64 w sv l):
  aq x7 xb [sv,.func (.func uf) #[] #[]] w λv I=>Ext w I/\∃n:Int,v=Δ n/\((0<=n)=¬∀x∈l,jT x):=by
 have z:=h.le;refine aF func136 ?_;rw[a7 av.u h];refine⟨λ_ t U=>Ext w U/\∃i:Nat,t=Δ i/\i<=l.length/\∀x∈l.take i,jT x,λ_ t _=>l.length-(bY t).toNat,⟨Ext.refl _,0,rfl,X9 _,Ξ⟩,?_⟩;rintro _ _ U ⟨J,i,rfl,hi,e⟩;simp only[aW,ao];refine⟨λA=>?_,λB=>⟨J,-1,rfl,?_⟩⟩
 .obtain⟨x,f⟩:=aK (l:=l) (i:=i) Ω;rw[bm av.u al.i Ψ (h.W J) f];show aq x7 uf [Δ x] U _;refine NM.Y ?_;rintro _ ab _ ⟨rfl,j⟩;simp only[ao,aR];refine⟨λq=>⟨J.F j,i,rfl,?_⟩,λr=>?_⟩
  .exact propext ⟨λ_ s=>q (s x (x6 f)),λ_=>Ω⟩
  .rw[hx Ω Ω];refine⟨⟨J.F j,i+1,rfl,Ω,λy a=>?_⟩,?_⟩
   .rw[u7,f]at a;rcases j5.1 a with a|a
    .exact e y a
    .simp at a;subst a;exact X0.1 r
   .simp only[bY];omega
 .have:i=l.length:=Ω
  rw[this,o6]at e;exact propext ⟨λh=>Ω,λh=>m2 e h⟩
theorem Dr(h:aQ .i64 w sv l):
  aq x7 xe [sv,.func (.func uf) #[] #[]] w λv I=>v= .bool (decide (¬∀x∈l,jT x))/\Ext w I:=by
 refine aF func231 ?_;refine(NN h).Y ?_;rintro _ U _ ⟨J,n,rfl,a⟩;simp only[cJ];exact⟨by congr 1;simp only[a],J⟩
abbrev Told:=List (Λ×Int)
def lu(p:Λ×Int):x1×x1:=(ez (pad p.1),Δ p.2)
def e4(w:x4)(g m:Nat)(am:Λ)(k o:Int)(D:Told):Prop:=
 (∃sv gs,ai w g gi [sv,Δ k,Δ o,.map (σ m)]/\aH .i64 al w gs sv am)/\c8 w m (D.map lu)/\cg am/\cA o k/\∀p∈D,dE am p.1/\cA p.2 k/\p.2≠o
theorem e4.W{g m:Nat}{o:Int}{D:Told}(h:e4 w g m am k o D)(J:Ext w I):e4 I g m am k o D:=by
 obtain⟨⟨sv,gs,h1,a⟩,e,f⟩:=h;exact⟨⟨sv,gs,h1.W J,a.W J⟩,e.W J,f⟩
theorem xY(V:cg am)(h:dE am t):t.length=am.length/\∀x∈t,0<=x/\x<32:=by
 obtain⟨h1,f⟩:=pR.1 h;refine⟨h1.symm,λx J=>?_⟩;obtain⟨i,hi,rfl⟩:=List.getElem_of_mem J;obtain⟨a,e⟩:=aK (l:=am) (i:=i) Ω;have j:=f i a _ e (x8 hi);have q:=(V.2 a (x6 e)).2;omega
theorem sA(V:cg am)(h:dE am t):nU (pad t):=by
 obtain⟨h1,a⟩:=xY V h;exact NJ (by rw[h1];exact V.1) a
theorem e4.q8{g m:Nat}{o:Int}{D:Told}(h:e4 w g m am k o D):∀p∈D.map lu,∃l,keyOf x7 cM p.1=σ l:=λp ae=>by
 obtain⟨q,a,rfl⟩:=o9.1 ae;exact xX (sA h.2.2.1 (h.2.2.2.2 q a).1)
theorem Ds{s:Λ}(V:dE am s)(a:dE am t)(h:ez (pad s)=ez (pad t)):s=t:=
 NK ((uG V).symm.F (uG a)) (NH h)
theorem e4.nodup{g m:Nat}{o:Int}{D:Told}(h:e4 w g m am k o D):(D.map (·.1)).Nodup:=by
 have e:=h.2.1.nodup;rw[T7]at e;refine List.Pairwise.of_map (S:=λa b=>a≠b) (λt=>ez (pad t)) (λa b h he=>h (by rw[he])) ?_;rw[T7];exact e
def NO(w:x4)(l:Λ)(k o:Int)(v:x1)(I:x4):Prop:=
 Ext w I/\(¬cg l->v= .tuple #[.pointer ν,Δ 1])/\(cg l->¬cA o k->v= .tuple #[.pointer ν,Δ 3])/\
  (cg l->cA o k->∃g m,v= .tuple #[Γ g,Δ 0]/\w.heap.size<=g/\w.heap.size<=m/\e4 I g m l k o [])
theorem Dt{o:Int}(h:aQ .i64 w sv l):aq x7 qI [sv,Δ k,Δ o] w (NO w l k o):=by
 refine aF func177 ?_;refine a1 (λv U=>Ext w U/\∃c,v= .bool c/\(c=ms↔¬cg l)) ?_ ?_
 .rintro _ U ⟨e,c,rfl,f⟩;rw[b1];refine⟨λs=>⟨e,λ_=>rfl,λh=>m2 h (f.1 s),λh=>m2 h (f.1 s)⟩,λah=>?_⟩;have V:=Classical.byContradiction λh=>by have:=f.2 h;rw[ah]at this;cases this
  have C:=V.1;refine ln.Y ?_;rintro _ ab _ ⟨rfl,a⟩;by_cases hi:cA o k
  rotate_left
  .simp only[hi,decide_false,bE,X4,bK];exact⟨e.F a,λh=>m2 V h,λ_ _=>rfl,λ_ h=>m2 h hi⟩
  simp only[hi,decide_true,bE,Y1,a6];refine(mL ((h.W e).W a) Ω).Y ?_;rintro aV E _ ⟨x,z,G,hm⟩;have H:=hm.ls.cells;refine sx λm I J j A=>?_;rw[dk (cs:=#[aV,Δ k,Δ o,.map (σ m)]) (by obtain⟨_,_,_,_,_,rfl,_⟩:=hm.ls;kernel_rfl)];refine bo λg K L q B=>?_;have s1:=e.size;have M:=a.size;have N:=x.size;have O:=j.size;exact⟨((((e.F a).F x).F j).F q),λh=>m2 V h,λ_ h=>m2 hi h,λ_ _=>⟨g,m,rfl,Ω,Ω,⟨aV,z,B,(hm.W j).W q⟩,A.W q,V,hi,λp ae=>by cases ae⟩⟩
 .intro aA y;rw[a7 av.u h];simp only[bU,ao];refine⟨λP=>y _ _ ⟨Ext.refl _,ms,rfl,λ_ V=>by have:=V.1;omega,λ_=>rfl⟩,λQ=>?_⟩;refine(Dr h).Y ?_;rintro _ ab _ ⟨rfl,a⟩;refine y _ _ ⟨a,_,rfl,?_⟩;rw[m6];exact⟨λr V=>r V.2,λr V=>r ⟨Ω,V⟩⟩
def kV(t:Λ)(i:Nat):Λ:=t.take i++r9 (6-i) 0
theorem NP{i:Nat}(hi:i<=t.length)(a:t.length<=6):(kV t i).length=6:=by simp[kV];omega
theorem NQ{i:Nat}{x:Int}(J:t[i]?=σ x)(e:t.length<=6):(kV t i).set i x=kV t (i+1):=by
 have hi:=(x5.1 J).1;unfold kV;have a:(t.take i).length=i:=by rw[j9];omega
 rw[U9 _ _ Ω,a,V8,u7,J];have:6-i=(6-(i+1))+1:=Ω
 rw[this,List.replicate_succ];simp
theorem NR(t:Λ):kV t t.length=pad t:=by simp[kV,pad]
def Du(w:x4)(am t:Λ)(v:x1)(I:x4):Prop:=Ext w I/\∃a e,v= .tuple #[ez a,Δ e]/\a.length=6/\(dE am t->a=pad t/\e=0)/\(¬dE am t->e=3)
theorem NS{g m:Nat}{o:Int}{D:Told}{aV:x1}(h:e4 w g m am k o D)(G:aQ .i64 w aV t):aq x7 Ld [Γ g,aV] w (Du w am t):=by
 obtain⟨⟨sv,gs,H,hm⟩,_,V,_⟩:=h;have aG:=V.1;refine aF func232 ?_;refine bC cM.i λA U aH S B=>?_;refine bC cM.i λau ab aI I K=>?_;have s:=S.F I;have s1:=S.size;have aJ:=I.size;have aN:=B.lt;have aO:=K.lt;have aP:=H.lt;have B:=B.W I;have ag:=H.W s;rw[cT fb.u];simp only[l9,a6];have L:∀{f:x4}{C:Λ}{e:Int},Ext w f->ai f au cM (ints .i8 C)->ai f A cM uX->C.length=6->(dE am t->C=pad t/\e=0)->(¬dE am t->e=3)->
   ad x7 (u4 cM (Γ au)) f λah=>aM x7 (o7 cM (Γ A) ah) f λ(_:Unit)M=>ad x7 (do loadVar cM (<-asAddr (Γ A))) M λaj=>Du w am t (.tuple #[aj,Δ e]) M:=by
  intro f C e q r y E ac N;rw[pV E r.range];refine sz E rfl y λM ak aS an=>?_;rw[NL E an.range];exact⟨q.put ak Ω,C,e,rfl,E,ac,N⟩
 rw[a7 av.u (G.W s),aL gi.p 0 ag rfl,a7 av.u (hm.ls.W s)];simp only[bG,ao];have W:ints .i8 (kV t 0)=uX:=by simp[kV,uX,ints]
 refine⟨λap=>L s (by rw[W];exact K) B (by simp[kV]) (λac=>m2 (by rw[uG ac]) ap) (λ_=>rfl),λX=>?_⟩;have X:t.length=am.length:=Ω
 rw[a7 av.u (G.W s)];refine cb.range t.length (λi _ f=>Ext w f/\ai f au cM (ints .i8 (kV t i))/\ai f A cM uX/\∀(j:Nat)(a x:Int),j<i->am[j]?=σ a->t[j]?=σ x->0<=x/\x<a) Ω
  ⟨s,by rw[W];exact K,B,λj a x ax=>Ω⟩ ?_ ?_
 .rintro i _ f ay hi ⟨q,r,y,O⟩ az;simp only[aW,ao];refine⟨λ_=>?_,λh=>Ω⟩;obtain⟨x,J⟩:=aK (l:=t) hi;obtain⟨a,z⟩:=aK (l:=am) (i:=i) Ω;have aT:=V.2 a (x6 z);rw[bm av.u al.i Ψ (G.W q) J];have Y:=NP (t:=t) (i:=i) Ω Ω;refine a1 (λv aB=>f=aB/\v= .bool (decide (¬(0<=x/\x<a)))) ?_ ?_
  .rintro _ _ ⟨rfl,rfl⟩;simp only[ao];refine⟨λaC=>L q r y Y (λac=>m2 ((pR.1 ac).2 i a x z J) aC) (λ_=>rfl),λP=>?_⟩;have P:=X0.1 P;rw[fN al.u gA.u,L3 Ω Ω,xo cM.u gA.i Ω];refine bs gA.i rfl rfl r (by simp[Y];omega) λaU Z aX ae=>?_;simp only[aR];refine az _ _ ⟨q.put Z Ω,?_,y.aa Z (by show¬(A=au);omega),λj a' aD ax Q R=>?_⟩
   .have e:(ints .i8 (kV t i)).set (0+i*1) (.int .i8 x)=ints .i8 (kV t (i+1)):=by
     rw[<-NQ J Ω];simp[ints,U4]
    rw[e]at ae;exact ae
   .by_cases aE:j=i
    .subst aE;rw[z]at Q;rw[J]at R;cases Q;cases R;exact P
    .exact O j a' aD Ω Q R
  .intro aA af;simp only[aW,ao];refine⟨λaY=>af _ _ ⟨rfl,by rw[m3];omega⟩,λaZ=>?_⟩;rw[aL gi.p 0 (H.W q) rfl,bm av.u al.i Ψ (hm.ls.W q) z,cJ];refine af _ _ ⟨rfl,?_⟩;congr 1;exact decide_eq_decide.2 ⟨λh aw=>Ω,λh=>Ω⟩
 .rintro _ f ay ⟨q,r,y,O⟩;simp only[aW,ao];refine⟨λh=>Ω,λ_=>?_⟩;rw[NR]at r;exact L q r y (by simp[pad];omega) (λ_=>⟨rfl,rfl⟩) (λN=>m2 (pR.2 ⟨X.symm,λj a x z J=>O j a x (x5.1 J).1 z J⟩) N)
def j0(D:Told)(o:Int)(t:Λ):Int:=match D.find? (λp=>decide (p.1=t))with
 |some p=>p.2
 |none=>o
theorem Dv{D:Told}(e:(D.map (·.1)).Nodup){p q:Λ×Int}(ae:p∈D)(f:q∈D)(h:p.1=q.1):p=q:=by
 obtain⟨i,hi⟩:=Y4.1 ae;obtain⟨j,a⟩:=Y4.1 f;have h1:(D.map (·.1))[i]?=σ p.1:=by rw[v8,hi];rfl
 have r:(D.map (·.1))[j]?=σ p.1:=by rw[v8,a,h];rfl
 have:=l8 e h1 r;subst this;rw[hi]at a;exact Z4 a
theorem sB{D:Told}{o:Int}(a:(D.map (·.1)).Nodup)(h:(t,c)∈D):j0 D o t=c:=by
 unfold j0;cases ah:D.find? (λp=>decide (p.1=t))with
 |none=>
  have:=List.find?_eq_none.1 ah _ h;simp at this
 |some p=>
  have h1:=List.find?_some ah;have h1:p.1=t:=by simpa using h1
  have:=Dv a (List.mem_of_find?_eq_some ah) h h1;rw[this]
theorem sC{D:Told}{o:Int}(h:∀p∈D,p.1≠t):j0 D o t=o:=by
 unfold j0;cases ah:D.find? (λp=>decide (p.1=t))with
 |none=>rfl
 |some p=>
  have h1:=List.find?_some ah;have h1:p.1=t:=by simpa using h1
  exact m2 h1 (h p (List.mem_of_find?_eq_some ah))
def mU(D:Told)(t:Λ)(c o:Int)(D':Told):Prop:=(∀p,p∈D'↔(c≠o/\p=(t,c))\/(p∈D/\p.1≠t))/\D'.length<=D.length+1
theorem mU.cost{D D':Told}{o:Int}(h:mU D t c o D')(q:(D.map (·.1)).Nodup)(e:(D'.map (·.1)).Nodup)(s:Λ):j0 D' o s=if s=t then c else j0 D o s:=by
 by_cases V:s=t
 .subst V;rw[lw rfl];by_cases f:c=o
  .subst f;exact sC λp ae he=>by
    rcases(h.1 p).1 ae with a|a
    .exact a.1 rfl
    .exact a.2 he
  .exact sB e ((h.1 _).2 (.inl ⟨f,rfl⟩))
 .rw[m1 V];by_cases he:∃p∈D,p.1=s
  .obtain⟨p,ae,rfl⟩:=he;rw[sB q ae];exact sB e ((h.1 _).2 (.inr ⟨ae,V⟩))
  .have j:∀p∈D,p.1≠s:=λp ae h=>he ⟨p,ae,h⟩;rw[sC j];exact sC λp ae a=>by
    rcases(h.1 p).1 ae with⟨_,rfl⟩|⟨r,_⟩
    .exact V a.symm
    .exact j p r a
theorem NT{D:Told}{o v0:Int}(h:(D.map (·.1)).Nodup)(e:D[j]?=σ (t,v0))(q:c≠o):mU D t c o (D.set j (t,c)):=by
 have f:=(x5.1 e).1;refine⟨λp=>⟨λae=>?_,λae=>?_⟩,Ξ⟩
 .obtain⟨i,hi⟩:=Y4.1 ae;by_cases a:j=i
  .subst a;rw[Y2 f]at hi;exact .inl ⟨q,(Z4 hi).symm⟩
  .rw[W0 a]at hi;refine .inr ⟨x6 hi,λhe=>a ?_⟩;exact l8 h (by rw[v8,e];rfl) (by rw[v8,hi,Y9,he])
 .rcases ae with⟨_,rfl⟩|⟨ae,r⟩
  .exact x6 (Y2 f)
  .obtain⟨i,hi⟩:=Y4.1 ae;have a:j≠i:=λhe=>by subst he;rw[e]at hi;cases hi;exact r rfl
   exact x6 (by rw[W0 a];exact hi)
theorem Dw{D:Told}{o:Int}(a:∀p∈D,p.1≠t)(e:c≠o):mU D t c o (D++[(t,c)]):=by
 refine⟨λp=>?_,Ξ⟩;rw[j5,Z7];exact⟨λh=>h.elim (λh=>.inr ⟨h,a p h⟩) (λh=>.inl ⟨e,h⟩),λh=>h.elim (λh=>.inr h.2) (λh=>.inl h.1)⟩
theorem NU{D:Told}{o v0:Int}(e:(D.map (·.1)).Nodup)(a:D[j]?=σ (t,v0)):mU D t o o (D.eraseIdx j):=by
 refine⟨λp=>⟨λae=>?_,λae=>?_⟩,by have:=List.length_eraseIdx_le D j;omega⟩
 .refine .inr ?_;obtain⟨i,f,hi⟩:=List.mem_eraseIdx_iff_getElem?.1 ae;refine⟨x6 hi,λhe=>f ?_⟩;exact l8 e (by rw[v8,hi,Y9,he]) (by rw[v8,a];rfl)
 .rcases ae with⟨h,_⟩|⟨ae,q⟩
  .exact m2 rfl h
  .obtain⟨i,hi⟩:=Y4.1 ae;exact List.mem_eraseIdx_iff_getElem?.2 ⟨i,λhe=>by subst he;rw[a]at hi;cases hi;exact q rfl,hi⟩
theorem NV{D:Told}{o:Int}(a:∀p∈D,p.1≠t):mU D t o o D:=
 ⟨λp=>⟨λh=>.inr ⟨h,a p h⟩,λh=>h.elim (λh=>m2 rfl h.1) (λh=>h.1)⟩,Ω⟩
theorem Dx{g m:Nat}{o:Int}{D:Told}(h:e4 w g m am k o D)(e:dE am t)(a:(D.map lu)[j]?=σ (ez (pad t),v)):∃c,D[j]?=σ (t,c)/\v=Δ c:=by
 rw[v8]at a;obtain⟨p,ae,he⟩:=Y0.1 a;have h1:=Ds (h.2.2.2.2 p (x6 ae)).1 e (congrArg Prod.fst he);exact⟨p.2,by rw[ae,<-h1],(congrArg Prod.snd he).symm⟩
theorem Dy{g m:Nat}{o:Int}{D:Told}(h:e4 w g m am k o D)(a:∀p∈D.map lu,p.1≠ez (pad t)):∀p∈D,p.1≠t:=λp ae he=>a (lu p) (o9.2 ⟨p,ae,rfl⟩) (by rw[lu,he])
def NW(w:x4)(g m:Nat)(am t:Λ)(k o c:Int)(D:Told)(v:x1)(I:x4):Prop:=
 (¬(dE am t/\cA c k)->v=Δ 3/\Ext w I)/\(dE am t/\cA c k->v=Δ 0/\aj (λr=>r=m) w I/\∃D',mU D t c o D'/\e4 I g m am k o D')
theorem Dz{g m:Nat}{o:Int}{D:Told}{aV:x1}(h:e4 w g m am k o D)(af:aQ .i64 w aV t):aq x7 KA [Γ g,aV,Δ c] w (NW w g m am t k o c D):=by
 refine aF func178 ?_;refine(NS h af).Y ?_;rintro _ U _ ⟨R,aE,e,rfl,K,ag,ah⟩;rw[bx,bz];refine bC cM.i λau ab aG S W=>?_;refine sz K rfl W λX ai aH Y=>?_;have s1:=R.size;have aI:=S.size;have aJ:=W.lt;have G:=(R.F S).put ai Ω;refine a1 (λv L=>v=Δ 0/\(dE am t/\cA c k)/\aj (λr=>r=m) w L/\∃D',mU D t c o D'/\e4 L g m am k o D') ?_ ?_
 .rintro _ L ⟨_,h1,C⟩;exact⟨λh=>m2 h1 h,λ_=>⟨rfl,C⟩⟩
 intro aA ak;simp only[bG,ao];by_cases ac:dE am t
 rotate_left
 .have he:=ah ac;subst he;exact⟨λ_=>⟨λ_=>⟨rfl,G⟩,λh=>m2 h.1 ac⟩,λh=>by simp at h⟩
 obtain⟨rfl,rfl⟩:=ag ac;refine⟨λh=>m2 rfl h,λ_=>?_⟩;have x:=h.W G;obtain⟨⟨sv,gs,y,hm⟩,H,V,al,an⟩:=id x;rw[aL gi.p 1 y rfl];refine ln.Y ?_;rintro _ ap _ ⟨rfl,z⟩;have av:=G.F z;by_cases hi:cA c k
 rotate_left
 .simp only[hi,decide_false,bE,X4,bK];exact⟨λ_=>⟨rfl,av⟩,λh=>m2 h.2 hi⟩
 simp only[hi,decide_true,bE,Y1,a6];rw[aL gi.p 2 (y.W z) rfl];simp only[bl,ao,eP];have Z:=xX (sA V ac);have ax:∀{D':Told},mU D t c o D'->∀p∈D',dE am p.1/\cA p.2 k/\p.2≠o:=λhu p ae=>by
  rcases(hu.1 p).1 ae with⟨B,rfl⟩|⟨h1,_⟩
  .exact⟨ac,hi,B⟩
  .exact an p h1
 have I:∀{E A:x4}{D':Told},Ext ap E->aj (λr=>r=m) E A->c8 A m (D'.map lu)->mU D t c o D'->aA (Δ 0) A:=by
  intro E A D' f q ay hu;have az:g≠m:=λhe=>by
   obtain⟨aB,aC,aw,_⟩:=H;have y:X.heap[g]?=_:=y;rw[he,aw]at y;cases y
  have aD:∀r,hv sv r->r≠m:=λr ad he=>by
   subst he;obtain⟨aB,aC,aw,_⟩:=H;obtain⟨_,⟨rfl,_⟩|⟨cap,cs,rfl,J,_⟩⟩:=hm
   .obtain⟨a,n,c,h1,_⟩:=ad;cases h1
   .obtain⟨a,n,c,h1,C⟩:=ad;cases h1;have J:X.heap[gs]?=_:=J;have C:gs=r:=C;rw[C,aw]at J;cases J
  have M:=z.F f;exact ak _ _ ⟨rfl,⟨ac,hi⟩,((G.F M).aa _).F q,D',hu,⟨sv,gs,(y.W M).aa q az,bB (hm.W M) q aD⟩,ay,V,al,ax hu⟩
 refine⟨λB E f _ _=>?_,λB E f _ _=>?_⟩
 .rw[aL gi.p 3 ((y.W z).W f) rfl,pV K ((Y.W z).W f).range];subst B;refine NF kl.u keys ((H.W z).W f) x.q8 Z (λj v0 A N s q=>?_) (λA O s q=>?_)
  .obtain⟨gB,P,_⟩:=Dx x ac N;rw[mT]at s;exact I f q s (NU x.nodup P)
  .exact I f q s (NV (Dy x O))
 .rw[aL gi.p 3 ((y.W z).W f) rfl,pV K ((Y.W z).W f).range];refine q7 kl.u keys ((H.W z).W f) x.q8 Z (λj v0 A N s q=>?_) (λA O s q=>?_)
  .obtain⟨gB,P,_⟩:=Dx x ac N;have Q:(D.map lu).set j (ez (pad t),Δ c)=(D.set j (t,c)).map lu:=by rw[U4];rfl
   rw[Q]at s;exact I f q s (NT x.nodup P B)
  .have Q:D.map lu++[(ez (pad t),Δ c)]=(D++[(t,c)]).map lu:=by rw[Z2];rfl
   rw[Q]at s;exact I f q s (Dw (Dy x O) B)
theorem NX{g m:Nat}{o:Int}{D:Told}{b:Bool}(h:e4 w g m am k o D)(ac:dE am t)(h1:∀c,(t,c)∈D->K (if b then .tuple #[Δ c,.bool ms]else Δ c))(f:(∀p∈D,p.1≠t)->K (if b then .tuple #[Δ 0,.bool ne]else Δ 0)):
  ad x7 (Instr.lookup kl (.map (σ m)) (ez (pad t)) b) w K:=by
 have a:=xX (sA h.2.2.1 ac);by_cases he:∃p∈D,p.1=t
 .obtain⟨p,ae,rfl⟩:=he;obtain⟨j,r⟩:=Y4.1 ae;rw[sy kl.u keys h.2.1 h.q8 a (j:=j) (v:=Δ p.2) (by rw[v8,r];rfl)];exact h1 p.2 ae
 .have e:∀p∈D,p.1≠t:=λp ae h=>he ⟨p,ae,h⟩;rw[uT kl.u keys ⟨_,_,ax.i⟩ h.2.1 h.q8 a (λq s hk=>by
   obtain⟨p,ae,rfl⟩:=o9.1 s;exact e p ae (Ds (h.2.2.2.2 p ae).1 ac hk))]
  exact f e
theorem NY{g m:Nat}{o:Int}{D:Told}(h:e4 w g m am k o D):aq x7 Lh [Γ g] w λv I=>v=Δ D.length/\Ext w I:=by
 obtain⟨⟨sv,gs,a,hm⟩,e,_⟩:=h;refine aF func238 ?_;rw[cT fb.u];simp only[l9,a6];rw[aL gi.p 3 a rfl,Dn kl.u e];exact⟨Ξ,Ext.refl _⟩
theorem NZ{g m:Nat}{o:Int}{D:Told}(h:e4 w g m am k o D):aq x7 LQ [Γ g] w λv I=>v=Δ k/\Ext w I:=by
 obtain⟨⟨sv,gs,a,hm⟩,_⟩:=h;refine aF func300 ?_;rw[cT fb.u];simp only[l9,a6];rw[aL gi.p 1 a rfl];exact⟨rfl,Ext.refl _⟩
theorem xZ{g m:Nat}{o:Int}{D:Told}(h:e4 w g m am k o D):aq x7 Li [Γ g] w λv I=>Ext w I/\∃a,w.heap.size<=a/\aH .i64 al I a v am:=by
 obtain⟨⟨sv,gs,e,hm⟩,_,V,_⟩:=h;have f:=V.1;refine aF func239 ?_;rw[cT fb.u];simp only[l9,a6];rw[aL gi.p 0 e rfl];exact mL hm.ls Ω
theorem N0{g m:Nat}{o:Int}{D:Told}(h:e4 w g m am k o D):aq x7 LR [Γ g] w λv I=>v=Δ am.length/\Ext w I:=by
 refine aF func301 ?_;refine(xZ h).Y ?_;rintro v U _ ⟨J,a,_,hm⟩;rw[a7 av.u hm.ls];exact⟨rfl,J⟩
end Go.Proofs.YtlcdcbgoaljiiaaGreatDoor
namespace Go.Vc
open Go Go.RowKit
set_option maxRecDepth 100000
def hp(v:x1)(r:Nat):Prop:=∃a n c,v= .slice (σ a) n c/\a.block=r
theorem gF(h:hp (.slice ν 0 0) r):False:=by
 obtain⟨a,n,c,h,_⟩:=h;cases h
section
variable{α:Type}{f:α->List x1}{k:Nat}
theorem iO:∀{L:List α},(∀a∈L,(f a).length=k)->(L.flatMap f).length=L.length*k
 :=by
 intro a;induction a<;>grind
theorem sD:∀{L:List α}(i:Nat),(∀a∈L,(f a).length=k)->(L.flatMap f).take (i*k)=(L.take i).flatMap f
 |[],i,_=>Ξ
 |a::L,0,_=>Ξ
 |a::L,i+1,h=>by
  have e:=h a (.head _);rw[U2,List.take_succ_cons,U2,<-sD i (by grind),T4,Nat.one_mul,Nat.add_comm,List.take_append,e]
  grind
theorem uY:∀{L:List α}(i:Nat),(∀a∈L,(f a).length=k)->(L.flatMap f).drop (i*k)=(L.drop i).flatMap f
 |[],i,_=>Ξ
 |a::L,0,_=>Ξ
 |a::L,i+1,h=>by
  have e:=h a (.head _);rw[U2,List.drop_succ_cons,<-uY i (by grind),T4,Nat.one_mul,Nat.add_comm,List.drop_append,e]
  grind [List.drop_of_length_le]
theorem pW{L:List α}{i:Nat}{a:α}(h:∀a∈L,(f a).length=k)(hi:L[i]?=σ a)(e:(f a)[j]?=σ v):(L.flatMap f)[i*k+j]?=σ v:=by
 have q:=(x5.1 e).1;rw[<-List.getElem?_drop,uY i h]
 grind [Y8]
theorem x0{L:List α}{i:Nat}{a:α}(h:∀a∈L,(f a).length=k)(e:(f a).length=k)(hi:i<L.length):over (L.flatMap f) (i*k) (f a)=(L.set i a).flatMap f:=by
 have j:=iO h;have q:(i+1)*k<=L.length*k:=X6 _ hi
 grind [T4,oA,sD,uY,List.set_eq_take_append_cons_drop]
theorem x2{cs vs:List x1}{o m:Nat}(h1:o+vs.length<=m)(a:m<=cs.length):(over cs o vs).take m=over (cs.take m) o vs:=by
 rw[oA Ω,oA (by rw[j9];omega),X7,X7,List.take_append,List.take_append,List.take_take,List.take_take,List.drop_take,j9]
 grind [j4]
def bn(f:α->List x1)(k:Nat)(e:r8)(w:x4)(g:Nat)(v:x1)(L:List α):Prop:=b7 w g e k v L.length (L.flatMap f)/\∀a∈L,(f a).length=k
variable{P:W5}{w:x4}{e:r8}{g:Nat}{v:x1}{L:List α}
theorem bn.nil(f:α->List x1)(k:Nat)(e:r8)(w:x4)(g:Nat):bn f k e w g (.slice ν 0 0) []:=⟨b7.nil w g e k,λa h=>by cases h⟩
theorem bn.hv(h:bn f k e w g v L)(j:hp v r):r=g/\g<w.heap.size:=by
 obtain⟨_,⟨rfl,_⟩|⟨cap,cs,rfl,q,_⟩⟩:=h.1
 .grind [gF]
 .obtain⟨a,n,c,h1,s⟩:=j;cases h1;exact⟨s.symm,q.lt⟩
theorem bn.aa(h:bn f k e w g v L)(J:aj S w I)(a:∀r,hp v r->¬S r):bn f k e I g v L:=
 ⟨⟨h.1.1,h.1.2.imp id λ⟨cap,cs,h1,j,q⟩=>⟨cap,cs,h1,j.aa J (a g ⟨_,_,_,h1,rfl⟩),q⟩⟩,h.2⟩
theorem bn.W(h:bn f k e w g v L)(J:Ext w I):bn f k e I g v L:=h.aa (J.aa λ_=>False) λ_ _ h=>h
theorem bn.sl(h:bn f k e w g v L):cn w k v L.length (L.flatMap f):=h.1.sl
theorem bn.le(h:bn f k e w g v L):L.length<=9223372036854775807:=by
 have:=cn.le h.sl
 grind [maxLen]
theorem dO{t a:r8}(j:P.underlying t=σ (.slice e))(h:bn f k e w g v L):ad P (W7 #[t] a #[v]) w K=K (Δ L.length):=by
 obtain⟨_,_,_,_,_,rfl,_⟩:=h.sl;exact je j
theorem cf{t:r8}{q:o5}{b:Nat}{i:Nat}(a:y=(i:Int))(j:P.underlying t=σ (.slice e))(hi:aS P e k b z)(h:bn f k e w g v L)(r:i<L.length):
  ad P (n9 t v (.int q y)) w K=K (.pointer (σ ⟨g,i*k,ν⟩)):=by
 subst a;obtain⟨_,⟨rfl,s⟩|⟨cap,cs,rfl,x,A⟩⟩:=h.1
 .omega
 .rw[fq j hi r (λ_=>rfl),V7]
theorem bn.range{i:Nat}{a:α}(h:bn f k e w g v L)(hi:L[i]?=σ a):w.rangeAt g (i*k) (f a):=λj u hu=>by
 have h1:=pW h.2 hi hu;have x:=(x5.1 hi).1;obtain⟨_,⟨rfl,y⟩|⟨cap,cs,rfl,r,_,_,z,s⟩⟩:=h.1
 .omega
 .have q:=(x5.1 h1).1;rw[iO h.2]at q;rw[<-s,W3 q]at h1;exact r.cell h1
theorem uZ{t:r8}{b:Nat}{i:Nat}{a:α}{K:Unit->x4->Prop}(hi:aS P t k b z)(h:bn f k e w g v L)(j:(f a).length=k)(h1:∀u∈f a,u.oneCell'=ms)(q:i<L.length)(s:∀I,aj (λr=>hp v r) w I->I.heap.size=w.heap.size->bn f k e I g v (L.set i a)->K () I):aM P (o7 t (.pointer (σ ⟨g,i*k,ν⟩)) (.agg (f a).toArray)) w K:=by
 have F:=iO h.2;have x:(i+1)*k<=L.length*k:=X6 _ q;rw[T4,Nat.one_mul]at x;obtain⟨⟨G,⟨rfl,H⟩|⟨cap,cs,rfl,y,J,A,B,M⟩⟩,N⟩:=h
 .omega
 .have O:L.length*k<=cs.length:=by grind
  refine BU hi j h1 y Ω λI C V E=>s I (C.Y λr _ he=>⟨_,_,_,rfl,he.symm⟩) V ⟨⟨?_,.inr ⟨cap,_,Ξ,E,by grind,A,by rw[nN,B],?_⟩⟩,λb Q=>?_⟩
  all_goals grind [iO,x0,x2]
theorem lv{t:r8}{b:Nat}{u:x1}{i:Nat}{a a':α}{K:Unit->x4->Prop}(hi:aS P t 1 b z)(hu:u.cells= #[u])(h1:u.oneCell'=ms)(h:bn f k e w g v L)(q:L[i]?=σ a)(ah:f a'=(f a).set j u)(M:j<k)(A:∀I,aj (λr=>hp v r) w I->I.heap.size=w.heap.size->bn f k e I g v (L.set i a')->K () I):aM P (o7 t (.pointer (σ ⟨g,i*k+j,ν⟩)) u) w K:=by
 have s:=(x5.1 q).1;have N:=iO h.2;have B:(i+1)*k<=L.length*k:=X6 _ s;rw[T4,Nat.one_mul]at B;have O:(f a).length=k:=h.2 a (x6 q);have x:(f a').length=k:=by grind
 have Q:(L.flatMap f).set (i*k+j) u=(L.set i a').flatMap f:=by
  rw[<-x0 h.2 x s];refine Y5 λp=>?_;rw[qQ _ _ _ Ω,X8,x];by_cases ae:i*k<=p/\p<i*k+k
  .rw[lw ae,ah,X8];by_cases C:i*k+j=p
   .grind
   .rw[m1 C,m1 Ω];obtain⟨y,E⟩:∃y,(f a)[p-i*k]?=σ y:=⟨_,x8 Ω⟩;have:=pW h.2 q E
    grind
  grind
 obtain⟨⟨R,⟨rfl,S⟩|⟨cap,cs,rfl,F,T,G,U,W⟩⟩,X⟩:=h
 .omega
 .have Y:L.length*k<=cs.length:=by grind
  refine bs hi hu h1 F Ω λI H V J=>A I (H.Y λr _ he=>⟨_,_,_,rfl,he.symm⟩) V ⟨⟨?_,.inr ⟨cap,_,Ξ,J,by grind,G,by grind,?_⟩⟩,λb Z=>?_⟩
  all_goals grind [List.take_set]
theorem jH{t M:r8}{b:Nat}{x:x1}{a:α}{K:x1->x4->Prop}(y:P.underlying t=σ (.slice e))(hi:aS P e k b z)(F:z.cells.size=k)(h:bn f k e w g v L)(J:cn w k x 1 (f a))(h1:∀u∈f a,u.oneCell'=ms)(G:(L.length+1)*b<=140737488355328)(O:L.length+1<=9223372036854775807)(H:∀j q I,bn f k e I q j (L++[a])->(∀r,hp j r->hp v r\/w.heap.size<=r)->aj (λr=>hp v r) w I->K j I):aM P (c9 #[t,t] M #[v,x]) w K:=by
 have Q:(f a).length=k:=by have:=J.1;omega
 have A:∀j q I,b7 I q e k j (L.length+1) (L.flatMap f++f a)->bn f k e I q j (L++[a]):=λj q I hm=>⟨by grind,λb G=>by
  rcases j5.1 G with bg|bg
  .exact h.2 b bg
  grind⟩
 rcases h.1.2 with⟨ac,N⟩|⟨cap,cs,ac,R,_⟩
 .have hm:b7 w w.heap.size e k v L.length (L.flatMap f):=⟨h.1.1,.inl ⟨ac,N⟩⟩;subst ac;refine pG y y hi F hm J h1 Ω (by grind [maxLen]) λj q I B s E=>H j q I (A _ _ _ s) (λr C=>.inr ?_) (E.Y Ω);have:=((A _ _ _ s).hv C).1;omega
 .refine pG y y hi F h.1 J h1 Ω (by grind [maxLen]) λj q I B s E=>H j q I (A _ _ _ s) (λr C=>?_) (E.Y λr C h=>⟨_,_,_,ac,h.symm⟩);have:=((A _ _ _ s).hv C).1;rcases B with B|B
  .exact .inl ⟨_,_,_,ac,by show g=r;omega⟩
  omega
theorem N1{t q:r8}{b:Nat}{x:x1}{a:α}{K:x1->x4->Prop}(s:P.underlying t=σ (.slice e))(hi:aS P e k b z)(y:z.cells.size=k)(h:bn f k e w g v L)(J:cn w k x 1 (f a))(h1:∀a,∀u∈f a,u.oneCell'=ms)(A:(L.length+1)*b<=140737488355328)(B:L.length+1<=9223372036854775807)(C:∀j E I,bn f k e I E j (L++[a])->(∀r,hp j r->hp v r\/w.heap.size<=r)->aj (λr=>hp v r) w I->K j I):aM P (c9 #[t,t] q #[v,x]) w K:=jH s hi y h J (h1 a) A B C
theorem jk{t:r8}{b:Nat}{a:α}{x:x1}{K:x1->x4->Prop}(h:P.underlying t=σ (.slice e))(hi:aS P e k b z)(y:k<=100000)(J:x.cells=(f a).toArray)(A:(f a).length=k)(j:∀v g I,g=w.heap.size->Ext w I->bn f k e I g v [a]->K v I):aM P (Y3 t 1 #[(0,x)]) w K:=
 lX h hi Ω (cs:=x.cells) (B3 Ξ (by grind)) λg I q r s=>by
  have s:ai I g e (f a):=by grind
  exact j _ g I q r ⟨by simpa using(by grind [b7.full,maxLen]),by grind⟩
end
end Go.Vc
namespace Go.Proofs.YtlcdcbgoaljiiaaGreatDoor
open Go Go.Vc Go.RowKit Go.Proofs Go.Proofs.Tryz
set_option maxRecDepth 100000
theorem sE{α:Type}:∀{l:List α}{j:Nat}{x:α},l[j]?=σ x->(x::l.eraseIdx j).Perm l
 |[],j,x,h=>by simp at h
 |a::l,0,x,h=>by simp at h;subst h;exact S2.refl _
 |a::l,j+1,x,h=>by
  simp at h;rw[List.eraseIdx_cons_succ];exact(S2.swap a x _).F ((sE h).cons a)
theorem u0{α:Type}{l:List α}(h:j<l.length):(l.eraseIdx j).length+1=l.length:=by
 rw[List.length_eraseIdx,lw h];omega
def lx(w:x4)(a:Nat):Nat:=match w.heap[a]? with
 |some (.mapIter (σ m) _ seen _)=>(match w.heap[m]? with
  |some (.map e _)=>(leftOf e seen).size
  |_=>0)
 |_=>0
theorem oL{a m:Nat}{d left:List (x1×x1)}{e:Option (x1×x1)}(h:iA w a m d left e):lx w a=left.length:=by
 obtain⟨j,q,seen,gB,h1,_,_,f,_,rfl,_⟩:=h;unfold lx;rw[f];simp only;rw[h1];simp
theorem N2{w0:x4}{a m:Nat}{d d0 left:List (x1×x1)}{e:Option (x1×x1)}(h:iA w a m d left e)(hm:c8 w0 m d0)(h1:Ext w0 w)(j:Ext w0 I)(hi:fl w I):iA I a m d left e:=by
 obtain⟨q,c,s,gB,r,x,y,z,A⟩:=h;obtain⟨B,C,f1,_⟩:=hm;have g1:=h1.bb m _ f1 rfl;have f:=j.bb m _ f1 rfl;rw[r]at g1;rw[<-g1]at f;exact⟨q,c,s,gB,f,x,y,hi a _ z rfl,A⟩
abbrev pX(w:x4)(g:Nat)(v:x1)(L:List (Λ)):Prop:=bn (ints .i8) 6 cM w g v L
theorem DA{k:o5}:∀u∈ints k l,u.oneCell'=ms:=λu hu=>by
 obtain⟨x,_,rfl⟩:=o9.1 hu;rfl
theorem keysIter{m:Nat}{d:List (x1×x1)}{e:List (Λ)}{w0:x4}(Q:ai w0 da kl [.map (σ m)])(hm:c8 w0 m d)(R:d.map (·.1)=e.map ez)(S:∀a∈e,a.length=6):
  qC x7 ms nG [Γ da] ([]:List (Λ)) (λh=>h.Perm e) (λh vs bg _=>∃a∈e,h.length<e.length/\vs=[ez a]/\bg=h++[a]) (λw=>Ext w0 w):=by
 refine⟨nG.enters,λl aA aF w r _ V J W=>?_⟩;refine qO func298 ?_;rw[aD Ψ ((Q.W J).cell rfl)];refine aM.cO (uU kl.u (hm.W J) λB U X s aG Y Z=>?_);refine⟨λab=>∃h f left C,aA h ab/\Ext w0 ab/\w.heap.size<=ab.heap.size/\iA ab B m d left C/\left.map (·.1)=f.map ez/\(h++f).Perm e,λab=>lx ab B,
  ⟨[],e,d,ν,r _ _ _ s Z.b W,J.F s,s.size,Y,R,S2.refl _⟩,?_⟩
 rintro ab ⟨h,f,left,C,E,aa,aH,G,x,q⟩;have ac:left.length=f.length:=by have:=congrArg List.length x;simpa using this
 refine uV G (λh=>by cases h) (λad=>?_) (λj p aI ae H af I=>?_)
 .rw[gj (v:=.bool ne) rfl,a6];subst ad;have:f=[]:=j6 (by rw[<-ac];rfl);subst this;rw[V2]at q;exact .inl ⟨h,q,E⟩
 .rw[gj (v:=.bool ms) rfl,bK];refine uW I ?_;obtain⟨a,y,ag⟩:∃a,f[j]?=σ a/\p.1=ez a:=by
   have h1:(left.map (·.1))[j]?=σ p.1:=by rw[v8,ae];rfl
   rw[x,v8]at h1;obtain⟨a,K,ah⟩:=Y0.1 h1;exact⟨a,K,ah.symm⟩
  have L:=q.mem_iff.1 (j5.2 (.inr (x6 y)));have M:=S a L;rw[gj (v:=p.1) rfl,ag];refine aM.cO (bC cM.i λaJ aK aL aj ak al=>?_);refine aM.cO (sz M rfl ak λam an aN ao ap=>?_);rw[pV M ao.range];have z:=aj.put an Ω;have N:=al.F ap;have O:=(aa.F H).F z;have aq:=r _ _ _ H (by rw[<-X];exact af) E;have au:=r _ _ _ z N.b aq;have av:=I.W z N.kH;have aw:h.length<e.length:=by
   have h1:=q.length_eq;have K:=(x5.1 y).1;rw[o4]at h1;omega
  refine⟨rfl,(V h (h++[a]) _ am O ⟨a,L,aw,rfl,rfl⟩ au).Y ?_⟩;rintro _ ax (⟨rfl,P,ay,az⟩|⟨rfl,aB⟩)
  .simp only[bE,Y1,a6];have A:=N2 av hm O P (az rfl).kH;have aC:w.heap.size<=ax.heap.size:=by
    obtain⟨_,_,_,_,_,_,_,aE,_⟩:=A;have:=(Z6.1 aE).1;omega
   refine⟨⟨h++[a],f.eraseIdx j,left.eraseIdx j,σ p,ay,P,aC,A,?_,?_⟩,?_⟩
   .rw[<-mT,x,mT]
   .refine S2.F ?_ q;rw[X7];exact S2.append_left h (sE y)
   .rw[oL A,oL G];have:=u0 (x5.1 ae).1;omega
  .simp only[bE,X4,bK];exact .inr ⟨h,aB⟩
theorem N3{m:Nat}:aq x7 Lv [.map (σ m)] w λr I=>Ext w I/\∃g,r= .func (.func nG) #[] #[Γ g]/\w.heap.size<=g/\ai I g kl [.map (σ m)]:=by
 refine aF func262 ?_;refine bo λg U f a e=>?_;rw[lh];exact⟨a,g,rfl,Ω,e⟩
theorem N4{m:Nat}{d:List (x1×x1)}{s:List (Λ)}(Y:ai w da kl [.map (σ m)])(hm:c8 w m d)(Z:d.map (·.1)=s.map ez)(G:∀j∈s,j.length=6)(aE:s.length<=1000000):
  aq x7 LU [.slice ν 0 0,.func (.func nG) #[] #[Γ da]] w λv I=>Ext w I/\∃g L,(∀r,hp v r->w.heap.size<=r)/\L.Perm s/\pX I g v L:=by
 refine iM func311 ?_;refine bo λgs U aF H x=>?_;have x:=x;have aG:=x.lt;refine ki.old ⟨List (Λ),ms,_,_,_,_,_,_,λh I=>aj (λr=>w.heap.size<=r) w I/\∃v g,ai I gs lg [v]/\(∀r,hp v r->w.heap.size<=r/\r≠gs)/\pX I g v h,λ_ _ _=>False,rfl,keysIter Y hm Z G,?_,λ_ _ J h=>h.F J,
  λ_ _ _ J h=>⟨h.1.F (J.aa _),by obtain⟨v,g,h1,ad,ae⟩:=h.2;exact⟨v,g,h1.W J,ad,ae.W J⟩⟩,λ_ _ _ _ _ h=>h,H,⟨H.aa _,_,0,x,λr h=>(gF h).elim,bn.nil _ _ _ _ _⟩,?_,?_,λ_ _ h=>h.elim,λ_ _ _ h=>h.elim⟩
 .rintro h _ bg I ⟨j,_,_,rfl,_⟩;rfl
 .rintro a h bg ab af ⟨j,ag,aH,ah,rfl⟩ ⟨K,v,g,A,cQ,ac⟩;cases ah;have B:=G j ag;have aI:h.length<=1000000:=Ω
  refine aM.cO (bC cM.i λaJ aK aL ak M al=>?_);refine aM.cO (sz B rfl M λaN am aO an ao=>?_);intro aP N _ ap;have aQ:=M.lt;have au:=ak.put am Ω;have q:=au.F N;rw[aD Ψ ((A.W q).cell rfl),pV B (an.W N).range];refine aM.cO (jk (f:=ints .i8) (a:=j) lg.u cM.i Ω (by simp[ez,x1.cells]) (by simp[B]) λa ga aR aS y av aw=>?_);have O:=av.sl;rw[U2,List.flatMap_nil,V2]at O;refine aM.cO (N1 lg.u cM.i rfl ((ac.W q).W y) O (λa=>DA) Ω Ω λP ax Q C ay z az=>?_);have aT:=K.size;have aU:=q.size;have aV:=y.size;have aW:=A.lt;have R:∀r,hp P r->w.heap.size<=r/\r≠gs:=λr e=>by
   rcases ay r e with h|h
   .exact cQ r h
   .omega
  have E:ai Q gs lg [v]:=((A.W q).W y).aa z (λh=>(cQ gs h).2 rfl);refine aM.cO (bs lg.i (by obtain⟨_,_,_,_,_,rfl,_⟩:=C.sl;rfl) (by obtain⟨_,_,_,_,_,rfl,_⟩:=C.sl;rfl) E Ξ λS V aX aA aB=>?_);have W:aj (λr=>w.heap.size<=r) ab S:=(((q.F y).aa _).F (z.Y λr _ h=>(cQ r h).1)).F (V.Y λr _ h=>by show w.heap.size<=r;omega);refine⟨af.then W (λr e h=>by have h:=h;omega),⟨K.F W,P,ax,aA,R,C.aa V λr e h=>(R r e).2 h⟩,λ_=>?_⟩;exact((((al.kH.F ao.kH).F ap).F aw.kH).F az.kH).F aB.kH
 .rintro h Q aC ⟨z,v,g,E,cQ,ac⟩;rw[aD Ψ (E.cell rfl)];intro S X _;exact⟨(z.W λr e h=>by have:w.heap.size<=r:=h;omega).F X,g,h,λr e=>(cQ r e).1,aC,ac.W X⟩
theorem N5{m:Nat}{d:List (x1×x1)}{a:List (Λ)}(e:ai w da kl [.map (σ m)])(hm:c8 w m d)(f:d.map (·.1)=a.map ez)(j:∀q∈a,q.length=6)(s:a.length<=1000000):
  aq x7 LN [.func (.func nG) #[] #[Γ da]] w λv I=>Ext w I/\∃g L,(∀r,hp v r->w.heap.size<=r)/\L.Perm a/\pX I g v L:=by
 refine aF func296 ?_;exact(N4 e hm f j s).Y λ_ _ _ h=>h
def iB:Λ->Int
 |[]=>0
 |x::l=>x*32 ^ l.length+iB l
theorem x3(n:Nat):(0:Int)<32 ^ n:=Int.pow_pos Ω
theorem u1:∀(l:Λ),(∀x∈l,0<=x/\x<32)->0<=iB l/\iB l<32 ^ l.length
 |[],_=>by simp[iB]
 |x::l,h=>by
  have f:=u1 l λy a=>h y (.tail _ a);have J:=h x (.head _);have ae:=x3 l.length;simp only[iB,X5];have e:(32:Int) ^ (l.length+1)=32*32 ^ l.length:=by rw[Int.pow_succ,Int.mul_comm]
  have h1:x*32 ^ l.length<=31*32 ^ l.length:=Int.mul_le_mul_of_nonneg_right Ω Ω;have j:0<=x*32 ^ l.length:=Int.mul_nonneg J.1 Ω;rw[e];omega
def ku:Λ->Λ->Int
 |x::a,y::b=>if x<y then-1 else if y<x then 1 else ku a b
 |_,_=>0
theorem DB:∀(a b:Λ),a.length=b.length->(∀x∈a,0<=x/\x<32)->(∀x∈b,0<=x/\x<32)->(ku a b<0↔iB a<iB b)/\(iB a=iB b->a=b)
 |[],[],_,_,_=>by simp[ku]
 |[],_::_,h,_,_=>by simp at h
 |_::_,[],h,_,_=>by simp at h
 |x::a,y::b,h,w,A=>by
  have j:a.length=b.length:=by simpa using h
  have q:∀x∈a,0<=x/\x<32:=λz e=>w z (.tail _ e);have r:∀x∈b,0<=x/\x<32:=λz e=>A z (.tail _ e);have s:=DB a b j q r;have B:=u1 a q;have E:=u1 b r;have ae:=x3 b.length;simp only[ku,iB];rw[j]at B ⊢;have step:∀u v:Int,u<v->u*32 ^ b.length+32 ^ b.length<=v*32 ^ b.length:=λu v F=>by
   have:=Int.mul_le_mul_of_nonneg_right (show u+1<=v by omega) (show(0:Int)<=32 ^ b.length by omega);rw[Int.add_mul,Int.one_mul]at this;exact this
  by_cases h1:x<y
  .rw[lw h1];have:=step x y h1;exact⟨⟨λ_=>Ω,λ_=>Ω⟩,λh=>Ω⟩
  .rw[m1 h1];by_cases f:y<x
   .rw[lw f];have:=step y x f;exact⟨⟨λh=>Ω,λh=>Ω⟩,λh=>Ω⟩
   .rw[m1 f];have C:x=y:=Ω
    subst C;exact⟨s.1.F ⟨λh=>Ω,λh=>Ω⟩,λh=>by rw[s.2 Ω]⟩
theorem x9:∀{a b:Λ}{i:Nat},(∀(j:Nat)(x y:Int),j<i->a[j]?=σ x->b[j]?=σ y->x=y)->i<=a.length->i<=b.length->ku a b=ku (a.drop i) (b.drop i)
 |_,_,0,_,_,_=>Ξ
 |[],_,i+1,_,h,_=>by simp at h
 |_::_,[],i+1,_,_,h=>by simp at h
 |x::a,y::b,i+1,he,h1,e=>by
  have f:=he 0 x y Ω rfl rfl;subst f;simp only[ku,Int.lt_irrefl,if_false,List.drop_succ_cons];exact x9 (λj u v q hu ac=>he (j+1) u v Ω hu ac) (by simpa using h1) (by simpa using e)
theorem DC{x:Int}:aq x7 LS [.int .i8 x] w λv I=>v= .bool ne/\Ext w I:=by
 refine aF func310 ?_;simp only[bG];exact⟨Ξ,Ext.refl _⟩
theorem N6{x:Int}:aq x7 LM [.int .i8 x,.int .i8 y] w λv I=>v=Δ (if x<y then-1 else if y<x then 1 else 0)/\Ext w I:=by
 refine aF func295 ?_;refine DC.Y ?_;rintro _ U _ ⟨rfl,a⟩;refine DC.Y ?_;rintro _ ab _ ⟨rfl,e⟩;simp only[a6,aW,bU,ao];exact⟨λh=>⟨by rw[lw h],a.F e⟩,λh=>⟨λf=>⟨by rw[m1 h,lw f],a.F e⟩,λf=>⟨by rw[m1 h,m1 f],a.F e⟩⟩⟩
theorem N7{bD bv:x1}{b:Λ}(r:aQ .i8 w bD a)(z:aQ .i8 w bv b)(V:a.length=b.length):aq x7 Lt [bD,bv] w λv I=>v=Δ (ku a b)/\Ext w I:=by
 refine aF func260 ?_;have W:=r.le;rw[a7 mI.u r];refine cb.range a.length (λi _ U=>Ext w U/\∀(j:Nat)(x y:Int),j<i->a[j]?=σ x->b[j]?=σ y->x=y) Ω ⟨Ext.refl _,λj x y K=>Ω⟩ ?_ ?_
 .rintro i _ U L hi ⟨e,s⟩ M;simp only[aW,ao];refine⟨λ_=>?_,λh=>Ω⟩;obtain⟨x,J⟩:=aK (l:=a) hi;obtain⟨y,A⟩:=aK (l:=b) (i:=i) Ω;rw[bm mI.u gA.i Ψ (r.W e) J,a7 mI.u (z.W e)];simp only[cJ,ao];refine⟨λh=>Ω,λ_=>?_⟩;rw[bm mI.u gA.i Ψ (z.W e) A];refine N6.Y ?_;rintro _ ab _ ⟨rfl,E⟩;have f:ku a b=ku (a.drop i) (b.drop i):=x9 s Ω Ω;have N:a.drop i=x::a.drop (i+1):=by rw[Y8 hi,(x5.1 J).2]
  have O:b.drop i=y::b.drop (i+1):=by rw[Y8 Ω,(x5.1 A).2]
  rw[N,O]at f;simp only[ku]at f;simp only[bG,ao,aR];refine⟨λG=>⟨?_,e.F E⟩,λP=>M _ _ ⟨e.F E,λj Q R K B C=>?_⟩⟩
  .rw[f];by_cases h1:x<y
   .rw[lw h1,lw h1]
   .by_cases q:y<x
    .rw[m1 h1,lw q,m1 h1,lw q]
    .rw[m1 h1,m1 q]at G;exact m2 rfl G
  .by_cases S:j=i
   .subst S;rw[J]at B;rw[A]at C;cases B;cases C;have H:=X0.1 P;by_cases h1:x<y
    .rw[lw h1]at H;omega
    .by_cases q:y<x
     .rw[m1 h1,lw q]at H;omega
     .omega
   .exact s j Q R Ω B C
 .rintro _ U L ⟨e,s⟩;simp only[aW,show decide ((a.length:Int)<(a.length:Int))=ne from m5 Ω,a6];rw[a7 mI.u (r.W e),a7 mI.u (z.W e)];simp only[aW,ao];refine⟨λh=>Ω,λ_=>⟨?_,e⟩⟩;have f:ku a b=ku (a.drop a.length) (b.drop a.length):=x9 s Ω Ω;rw[f,List.drop_length];cases b.drop a.length<;>rfl
theorem N8{b:Λ}(q:nU a)(r:nU b):aq x7 BI [ez a,ez b] w λv I=>Ext w I/\v=Δ (ku a b):=by
 have C:∀{c:Λ},nU c->(ints .i8 c).length=6:=λh=>by simp[h.1]
 refine aF func259 ?_;refine bo λg1 U E z e=>?_;refine bo λG ab H s f=>?_;rw[Dp]at e f;intro x j _ _;have e:=(e.W s).W j;have f:=f.W j;rw[ul cM.u gA.i (l:=0) (h:=6) (m:=6) ko kp fc Ω Ω Ω,ul cM.u gA.i (l:=0) (h:=6) (m:=6) ko kp fc Ω Ω Ω];rw[m1 Ω,m1 Ω];have ls:∀{g:Nat}{c:Λ},nU c->ai x g cM (ints .i8 c)->aQ .i8 x (.slice (σ ⟨g,0+0*1,ν⟩) (6-0) (6-0)) c:=λ{g c}y A=>by
  unfold aQ;refine⟨Ξ,g,0,_,6,by rw[y.1],by rw[y.1];omega,by simp[maxLen],λ_=>rfl,A.range⟩
 refine(N7 (ls q e) (ls r f) (by rw[q.1,r.1])).Y ?_;rintro _ J _ ⟨rfl,B⟩;exact⟨((z.F s).F j).F B,rfl⟩
end Go.Proofs.YtlcdcbgoaljiiaaGreatDoor
namespace Go.Vc
open Go Go.RowKit Go.Shelf Go.Proofs Go.Sort
theorem grown_of(J:Ext w I)(a:cR w I):∃q os,I=grow (w.drewN q) os:=by
 refine⟨I.drawn-w.drawn,I.heap.extract w.heap.size I.heap.size,?_⟩;have hk:∀k,k<w.heap.size->I.heap[k]?=w.heap[k]?:=λk hk=>by
  have aE:=Array.getElem?_eq_getElem hk;rw[aE];cases V:gf w.heap[k]with
  |true=>exact J.bb k _ aE V
  |false=>exact a.bb k _ aE V
 have aw:I.heap=w.heap++I.heap.extract w.heap.size I.heap.size:=by
  apply Array.ext_getElem?
  grind
 have h1:=a.os;have e:=a.tape.1;have f:=a.output;have h:w.drawn+(I.drawn-w.drawn)=I.drawn:=by have:=a.tape.2;omega
 cases I
 grind [Sort.grow,x4.drewN]
section
variable{α:Type}[Inhabited α]
theorem DD(enc:α->List x1)(k:Nat)(hk:∀x,(enc x).length=k)(d:Array α):(flatK enc k d).toList=d.toList.flatMap enc:=by
 apply Y5;intro t;by_cases h:t<d.size*k
 .have e:0<k:=by
   grind
  have f:=(Nat.div_lt_iff_lt_mul e).2 h;have j:=Nat.mod_lt t e;have q:(flatK enc k d).toList[t]?=σ ((enc d[t / k]!)[t % k]!):=by
   rw[Array.getElem?_toList,Array.getElem?_eq_getElem (by simpa using h)];have:=get_flatK enc k d t h
   grind
  have r:d.toList[t / k]?=σ d[t / k]!:=by
   grind
  grind [pW,Nat.mul_comm,Nat.div_add_mod]
 .rw[V0 (by simpa using h),V0];rw[iO λa _=>hk a]
  grind
theorem DE(enc:α->List x1)(k:Nat)(hk:∀x,(enc x).length=k){g m:Nat}{cs:List x1}{d:Array α}{os:Array Obj}(a:ai w g e cs)(q:d.size*k<=cs.length):
  ai (sortWorldK enc k w g 0 m d os) g e (d.toList.flatMap enc++cs.drop (d.size*k))/\∀r,r<w.heap.size->r≠g->(sortWorldK enc k w g 0 m d os).heap[r]?=w.heap[r]?:=by
 have f:=a.lt;have h:∀r,r<w.heap.size->(sortWorldK enc k w g 0 m d os).heap[r]?=(w.heap.modify g (onCells (putCells id 0 (flatK enc k d))))[r]?:=λr j=>by
  show((w.heap.modify g (onCells (putCells id 0 (flatK enc k d))))++os)[r]?=_
  grind
 refine⟨?_,λr j s=>?_⟩
 .unfold ai at a ⊢;rw[h g f,Array.getElem?_modify,lw rfl,a];show σ (Obj.cells (putCells id 0 (flatK enc k d) cs.toArray) e (0,0))=_;refine congrArg σ (congrArg (λc=>Obj.cells c e (0,0)) ?_)
  grind [Array.size,iO,Sort.putCells,DD]
 grind
end
theorem DF{P:W5}{E:Ren}(H:SlLaysF0.n6 P E){α:Type}{f:α->List x1}{k:Nat}{G:α->Prop}{num:α->Int}{A:α->α->Int}{B:S9}{cap:Array x1}(ah:∀w,(isAgg (E.t 24)).run P w= .ok ms w)(ak:∀w,(Go.sizeOf (E.t 24)).run P w= .ok k w)(h1:∀a,G a->∀u∈f a,u.oneCell'=ms)(hk:∀a,G a->(f a).length=k)(aJ:∀a b,G a->G b->(A a b<0↔num a<num b))(R:Enters P B){w:x4}{g:Nat}{v:x1}{L:List α}(h:bn f k e w g v L)(K:∀a∈L,G a)(al:L.length<65536)(am:∀N a b,aj (λr=>r=g) w N->G a->G b->aq P B ([.agg (f a).toArray,.agg (f b).toArray]++cap.toList) N λu an=>Ext N an/\u=Δ (A a b)):
  aq P (E.f 6) [v,.func (.func B) #[] cap] w λ_ I=>aj (λr=>hp v r) w I/\∃M,M.Perm L/\(∀(p q:Nat)(x y:α),p<q->M[p]?=σ x->M[q]?=σ y->num x<=num y)/\bn f k e I g v M:=by
 have S:=λargs w=>H.f6.enters rfl args w;obtain⟨⟨aK,ac⟩,aL⟩:=id h;have T:∀p c,v= .slice p 0 c->L=[]->aq P (E.f 6) [v,.func (.func B) #[] cap] w λ_ I=>aj (λr=>hp v r) w I/\∃M,M.Perm L/\(∀(p q:Nat)(x y:α),p<q->M[p]?=σ x->M[q]?=σ y->num x<=num y)/\bn f k e I g v M:=λp c ae al=>by
  refine .code S ?_;rw[ae];refine(AnyF.slices_SortFunc_none H p c _ w).Y ?_;rintro aM I ⟨rfl,rfl⟩;refine⟨_,rfl,cR.refl _,aj.refl _ _,L,.refl _,by grind,by grind⟩
 rcases ac with⟨rfl,ao⟩|⟨c,cs,rfl,C,aN,hm,aO,aP⟩
 .exact T _ _ rfl (j6 ao)
 cases U:L with
 |nil=>subst U;exact T _ _ rfl rfl
 |cons a0 aQ=>
 rw[<-U];let β:={a:α // G a};have:Inhabited β:=⟨⟨a0,by grind⟩⟩;let enc:β->List x1:=λx=>f x.1;let d:Array β:=(L.attach.map λx=>(⟨x.1,K x.1 x.2⟩:β)).toArray;have aR:d.toList.map Subtype.val=L:=by
  show(L.attach.map λx=>(⟨x.1,K x.1 x.2⟩:β)).map Subtype.val=L;rw[T7];exact List.attach_map_subtype_val L
 have ap:d.size=L.length:=by simp[d]
 have F:∀x:β,(enc x).length=k:=by grind
 have aS:d.toList.flatMap enc=L.flatMap f:=by
  grind [List.flatMap_map]
 have W:d.size*k<=cs.length:=by grind
 have au:HoldsK enc k w g 0 d:=by
  intro j av;rw[size_flatK]at av;have aT:j<cs.length:=Ω
  have aw:(flatK enc k d)[j]! =cs[j]:=by
   have aU:(flatK enc k d).toList[j]?=σ cs[j]:=by
    grind [DD]
   grind
  refine⟨?_,?_⟩
  .show w.cell? ⟨g,0+j,ν⟩=σ ((flatK enc k d)[j]!);rw[aw];exact C.cell (by grind)
  grind [x4.frozen?,ai]
 have aV:∀x y:β,ltOf (λx y:β=>A x.1 y.1) x y=decide (num x.1<num y.1):=λx y=>by
  unfold ltOf
  grind
 have ax:SWO (ltOf λx y:β=>A x.1 y.1):=
  ⟨by grind,by grind,by grind⟩
 have X:∀m (d2:Array β) os,d2.size=d.size->aj (λr=>r=g) w (sortWorldK enc k w g 0 m d2 os)/\cR w (sortWorldK enc k w g 0 m d2 os):=λm d2 os V=>by
  obtain⟨aW,ay⟩:=DE enc k F C (by rw[V];exact W);have Y:w.heap.size<=(sortWorldK enc k w g 0 m d2 os).heap.size:=by
   show w.heap.size<=((w.heap.modify g _)++os).size;simp
  refine⟨⟨Y,λr o s _ Z=>?_⟩,rfl,⟨rfl,Nat.le_add_right _ _⟩,rfl,Y,λr o s V=>?_⟩
  .rw[ay r (Z6.1 s).1 Z];exact s
  .have Z:r≠g:=λhe=>by subst he;unfold ai at C;rw[C]at s;cases s;cases V
   grind
 have az:CmpLays P B cap enc k (λx y:β=>A x.1 y.1) g 0 d.size w:=λm os aA V x y=>by
  have J:=(am _ x.1 y.1 (X m aA os V).1 x.2 y.2).calls R;have O:([x1.agg (f x.1).toArray,.agg (f y.1).toArray]++cap.toList).toArray= #[.agg (enc x).toArray,.agg (enc y).toArray]++cap:=by
   apply Array.ext';simp[enc]
  rw[O]at J;refine J.Y ?_
  grind [grown_of]
 have aa:=AnyQ.slices_SortFunc H k ah ak enc F (by grind) (λx y:β=>A x.1 y.1) ax B cap g 0 c d w (λargs w=>R args w) az au C.lt Ω;rw[ap]at aa;refine .code S (aa.Y ?_);rintro _ I ⟨rfl,z,n,os,⟨aB,_,ae⟩,aC,rfl⟩;have ab:=aB;obtain⟨aD,aE⟩:=X n z os ab;obtain⟨aF,_⟩:=DE enc k F C (by rw[ab];exact W);have Q:(z.toList.map Subtype.val).Perm L:=by
  grind [Array.extract_size]
 have aG:=Q.length_eq;refine⟨_,rfl,aE,aD.Y λr _ s=>⟨_,_,_,rfl,s.symm⟩,z.toList.map Subtype.val,Q,λp q x y aH J ad=>?_,⟨?_,.inr ⟨c,_,by rw[aG],aF,Ω,hm,?_,?_⟩⟩,by grind⟩
 .rw[v8,Y0]at J ad;obtain⟨aX,af,rfl⟩:=J;obtain⟨aY,ag,rfl⟩:=ad;rw[Array.getElem?_toList]at af ag;have aZ:=(Z6.1 af);have a1:=(Z6.1 ag);have:=aC p q (X9 _) aH (by grind)
  grind
 .rw[iO λa O=>hk a (K a (Q.mem_iff.1 O))]
 .have aI:(z.toList.flatMap enc).length=z.size*k:=by rw[iO λa _=>F a];rfl
  grind [Nat.add_sub_cancel']
 .have aI:(z.toList.flatMap enc).length=z.size*k:=by rw[iO λa _=>F a];rfl
  grind [List.flatMap_map]
end Go.Vc
namespace Go.Proofs
open Go.Shelf
def Tryz.ya:Go.Shelf.Ren:=⟨λ|6=>297|15=>252|14=>312|28=>290|29=>291|20=>327|21=>328|22=>329|23=>330|24=>331|25=>332|26=>333|27=>334|46=>342|47=>304|48=>305|49=>343|50=>344|57=>347|n=>n,λ|22=>358|24=>333|25=>357|3=>3|39=>231|0=>0|53=>379|55=>58|4=>4|46=>373|45=>372|50=>306|5=>5|9=>9|66=>388|70=>392|76=>412|77=>413|n=>n,λ|n=>n⟩
theorem Tryz.N9:Go.Proofs.SlLaysF0.n6 Tryz.prog Tryz.ya:={
 mixed:=Ψ,
 f6:=⟨Tryz.f297.name,Φ,Tryz.func297.F (congrArg σ Ψ)⟩,
 f14:=⟨Tryz.f312.name,Φ,Tryz.func312.F (congrArg σ Ψ)⟩,
 f15:=Tryz.func252.F (congrArg σ Ψ),
 f20:=⟨Tryz.f327.name,Φ,Tryz.func327.F (congrArg σ Ψ)⟩,
 f21:=⟨Tryz.f328.name,Φ,Tryz.func328.F (congrArg σ Ψ)⟩,
 f22:=⟨Tryz.f329.name,Φ,Tryz.func329.F (congrArg σ Ψ)⟩,
 f23:=⟨Tryz.f330.name,Φ,Tryz.func330.F (congrArg σ Ψ)⟩,
 f24:=⟨Tryz.f331.name,Φ,Tryz.func331.F (congrArg σ Ψ)⟩,
 f25:=⟨Tryz.f332.name,Φ,Tryz.func332.F (congrArg σ Ψ)⟩,
 f26:=⟨Tryz.f333.name,Φ,Tryz.func333.F (congrArg σ Ψ)⟩,
 f27:=⟨Tryz.f334.name,Φ,Tryz.func334.F (congrArg σ Ψ)⟩,
 f28:=Tryz.func290.F (congrArg σ Ψ),
 f29:=Tryz.func291.F (congrArg σ Ψ),
 f46:=⟨Tryz.f342.name,Φ,Tryz.func342.F (congrArg σ Ψ)⟩,
 f47:=Tryz.func304.F (congrArg σ Ψ),
 f48:=Tryz.func305.F (congrArg σ Ψ),
 f49:=⟨Tryz.f343.name,Φ,Tryz.func343.F (congrArg σ Ψ)⟩,
 f50:=⟨Tryz.f344.name,Φ,Tryz.func344.F (congrArg σ Ψ)⟩,
 f57:=⟨Tryz.f347.name,Φ,Tryz.func347.F (congrArg σ Ψ)⟩,
 t0:=Tryz.underlying0,
 a0:=Tryz.isAgg0,
 z0:=Tryz.sizeOf0,
 v0:=Tryz.zeroValue0,
 t3:=Tryz.underlying3,
 a3:=Tryz.isAgg3,
 z3:=Tryz.sizeOf3,
 v3:=Tryz.zeroValue3,
 t4:=Tryz.underlying4,
 a4:=Tryz.isAgg4,
 z4:=Tryz.sizeOf4,
 v4:=Tryz.zeroValue4,
 t5:=Tryz.underlying5,
 a5:=Tryz.isAgg5,
 z5:=Tryz.sizeOf5,
 v5:=Tryz.zeroValue5,
 t9:=Tryz.underlying9,
 a9:=Tryz.isAgg9,
 z9:=Tryz.sizeOf9,
 v9:=Tryz.zeroValue9,
 t22:=Tryz.underlying358,
 a22:=Tryz.isAgg358,
 z22:=Tryz.sizeOf358,
 v22:=Tryz.zeroValue358,
 t25:=Tryz.underlying357,
 a25:=Tryz.isAgg357,
 z25:=Tryz.sizeOf357,
 v25:=Tryz.zeroValue357,
 t39:=Tryz.underlying231,
 a39:=Tryz.isAgg231,
 z39:=Tryz.sizeOf231,
 v39:=Tryz.zeroValue231,
 t45:=Tryz.underlying372,
 a45:=Tryz.isAgg372,
 z45:=Tryz.sizeOf372,
 v45:=Tryz.zeroValue372,
 t46:=Tryz.underlying373,
 a46:=Tryz.isAgg373,
 z46:=Tryz.sizeOf373,
 v46:=Tryz.zeroValue373,
 t50:=Tryz.underlying306,
 a50:=Tryz.isAgg306,
 z50:=Tryz.sizeOf306,
 v50:=Tryz.zeroValue306,
 t53:=Tryz.underlying379,
 a53:=Tryz.isAgg379,
 z53:=Tryz.sizeOf379,
 v53:=Tryz.zeroValue379,
 t55:=Tryz.underlying58,
 a55:=Tryz.isAgg58,
 z55:=Tryz.sizeOf58,
 v55:=Tryz.zeroValue58,
 t66:=Tryz.underlying388,
 a66:=Tryz.isAgg388,
 z66:=Tryz.sizeOf388,
 v66:=Tryz.zeroValue388,
 t70:=Tryz.underlying392,
 a70:=Tryz.isAgg392,
 z70:=Tryz.sizeOf392,
 v70:=Tryz.zeroValue392,
 t76:=Tryz.underlying412,
 a76:=Tryz.isAgg412,
 z76:=Tryz.sizeOf412,
 v76:=Tryz.zeroValue412,
 t77:=Tryz.underlying413,
 a77:=Tryz.isAgg413,
 z77:=Tryz.sizeOf413,
 v77:=Tryz.zeroValue413}
def Tryz.yb:Go.Shelf.Ren:=⟨λ|6=>191|15=>252|14=>251|28=>290|29=>291|20=>282|21=>283|22=>284|23=>285|24=>286|25=>287|26=>288|27=>289|46=>303|47=>304|48=>305|49=>306|50=>307|57=>326|n=>n,λ|22=>274|24=>279|25=>289|3=>3|39=>231|0=>0|53=>379|55=>58|4=>4|46=>373|45=>372|50=>306|5=>5|9=>9|66=>388|70=>392|76=>412|77=>413|n=>n,λ|n=>n⟩
theorem Tryz.Oa:Go.Proofs.SlLaysF0.n6 Tryz.prog Tryz.yb:={
 mixed:=Ψ,
 f6:=⟨Tryz.f191.name,Φ,Tryz.func191.F (congrArg σ Ψ)⟩,
 f14:=⟨Tryz.f251.name,Φ,Tryz.func251.F (congrArg σ Ψ)⟩,
 f15:=Tryz.func252.F (congrArg σ Ψ),
 f20:=⟨Tryz.f282.name,Φ,Tryz.func282.F (congrArg σ Ψ)⟩,
 f21:=⟨Tryz.f283.name,Φ,Tryz.func283.F (congrArg σ Ψ)⟩,
 f22:=⟨Tryz.f284.name,Φ,Tryz.func284.F (congrArg σ Ψ)⟩,
 f23:=⟨Tryz.f285.name,Φ,Tryz.func285.F (congrArg σ Ψ)⟩,
 f24:=⟨Tryz.f286.name,Φ,Tryz.func286.F (congrArg σ Ψ)⟩,
 f25:=⟨Tryz.f287.name,Φ,Tryz.func287.F (congrArg σ Ψ)⟩,
 f26:=⟨Tryz.f288.name,Φ,Tryz.func288.F (congrArg σ Ψ)⟩,
 f27:=⟨Tryz.f289.name,Φ,Tryz.func289.F (congrArg σ Ψ)⟩,
 f28:=Tryz.func290.F (congrArg σ Ψ),
 f29:=Tryz.func291.F (congrArg σ Ψ),
 f46:=⟨Tryz.f303.name,Φ,Tryz.func303.F (congrArg σ Ψ)⟩,
 f47:=Tryz.func304.F (congrArg σ Ψ),
 f48:=Tryz.func305.F (congrArg σ Ψ),
 f49:=⟨Tryz.f306.name,Φ,Tryz.func306.F (congrArg σ Ψ)⟩,
 f50:=⟨Tryz.f307.name,Φ,Tryz.func307.F (congrArg σ Ψ)⟩,
 f57:=⟨Tryz.f326.name,Φ,Tryz.func326.F (congrArg σ Ψ)⟩,
 t0:=Tryz.underlying0,
 a0:=Tryz.isAgg0,
 z0:=Tryz.sizeOf0,
 v0:=Tryz.zeroValue0,
 t3:=Tryz.underlying3,
 a3:=Tryz.isAgg3,
 z3:=Tryz.sizeOf3,
 v3:=Tryz.zeroValue3,
 t4:=Tryz.underlying4,
 a4:=Tryz.isAgg4,
 z4:=Tryz.sizeOf4,
 v4:=Tryz.zeroValue4,
 t5:=Tryz.underlying5,
 a5:=Tryz.isAgg5,
 z5:=Tryz.sizeOf5,
 v5:=Tryz.zeroValue5,
 t9:=Tryz.underlying9,
 a9:=Tryz.isAgg9,
 z9:=Tryz.sizeOf9,
 v9:=Tryz.zeroValue9,
 t22:=Tryz.underlying274,
 a22:=Tryz.isAgg274,
 z22:=Tryz.sizeOf274,
 v22:=Tryz.zeroValue274,
 t25:=Tryz.underlying289,
 a25:=Tryz.isAgg289,
 z25:=Tryz.sizeOf289,
 v25:=Tryz.zeroValue289,
 t39:=Tryz.underlying231,
 a39:=Tryz.isAgg231,
 z39:=Tryz.sizeOf231,
 v39:=Tryz.zeroValue231,
 t45:=Tryz.underlying372,
 a45:=Tryz.isAgg372,
 z45:=Tryz.sizeOf372,
 v45:=Tryz.zeroValue372,
 t46:=Tryz.underlying373,
 a46:=Tryz.isAgg373,
 z46:=Tryz.sizeOf373,
 v46:=Tryz.zeroValue373,
 t50:=Tryz.underlying306,
 a50:=Tryz.isAgg306,
 z50:=Tryz.sizeOf306,
 v50:=Tryz.zeroValue306,
 t53:=Tryz.underlying379,
 a53:=Tryz.isAgg379,
 z53:=Tryz.sizeOf379,
 v53:=Tryz.zeroValue379,
 t55:=Tryz.underlying58,
 a55:=Tryz.isAgg58,
 z55:=Tryz.sizeOf58,
 v55:=Tryz.zeroValue58,
 t66:=Tryz.underlying388,
 a66:=Tryz.isAgg388,
 z66:=Tryz.sizeOf388,
 v66:=Tryz.zeroValue388,
 t70:=Tryz.underlying392,
 a70:=Tryz.isAgg392,
 z70:=Tryz.sizeOf392,
 v70:=Tryz.zeroValue392,
 t76:=Tryz.underlying412,
 a76:=Tryz.isAgg412,
 z76:=Tryz.sizeOf412,
 v76:=Tryz.zeroValue412,
 t77:=Tryz.underlying413,
 a77:=Tryz.isAgg413,
 z77:=Tryz.sizeOf413,
 v77:=Tryz.zeroValue413}
theorem Tryz.Ob(w:x4):(isAgg (Tryz.ya.t 24)).run Tryz.prog w= .ok ms w:=Tryz.isAgg333 w
theorem Tryz.Oc(w:x4):(Go.sizeOf (Tryz.ya.t 24)).run Tryz.prog w= .ok 6 w:=Tryz.sizeOf333 w
theorem Tryz.Od:Tryz.prog.funcs[259]?=σ Tryz.f259:=Tryz.func259
theorem Tryz.Oe(w:x4):(isAgg (Tryz.yb.t 24)).run Tryz.prog w= .ok ms w:=Tryz.isAgg279 w
theorem Tryz.Of(w:x4):(Go.sizeOf (Tryz.yb.t 24)).run Tryz.prog w= .ok 2 w:=Tryz.sizeOf279 w
theorem Tryz.Og:Tryz.prog.funcs[192]?=σ Tryz.f192:=Tryz.func192
end Go.Proofs
namespace Go.Proofs.YtlcdcbgoaljiiaaGreatDoor
open Go Go.Vc Go.RowKit Go.Proofs Go.Proofs.Tryz
set_option maxRecDepth 100000
def u2{α:Type}(f:α->Int)(L:List α)(a i:Nat):Prop:=∀(p q:Nat)(x y:α),a<=p->p<q->q<i->L[p]?=σ x->L[q]?=σ y->f x<=f y
def q9(L:List (Λ)):Prop:=∀a∈L,nU a
theorem q9.perm{L M:List (Λ)}(h:q9 L)(ae:M.Perm L):q9 M:=λa hk=>h a (ae.mem_iff.1 hk)
theorem Oh{g:Nat}{L:List (Λ)}{i:Nat}(e:y=(i:Int))(h:pX w g v L)(hi:L[i]?=σ a):
  ad x7 (n9 lg v (Δ y)) w (λp=>ad x7 (u4 cM p) w K)=K (ez a):=by
 have f:a.length=6:=by have:=h.2 a (x6 hi);simpa using this
 rw[cf e lg.u cM.i h (x5.1 hi).1,pV f (h.range hi)]
abbrev DG:x1:=.func (.func BI) #[] #[]
theorem u3{P:W5}{t:r8}{k:o5}{s:ByteArray}{i:Nat}(a:P.underlying t=σ .string)(hi:i<s.size):
  ad P (Instr.index t (.string s) (.int k (i:Int))) w K=K (.int .u8 (s[i].toNat:Int)):=ad.of λI _=>by
 simp[Instr.index,asIntOf,run_underlying a,hi]
def eG(n:Nat):Nat:=if n=0 then 0 else Nat.log2 n+1
theorem DH(h:n<256):eG n<=8:=by
 unfold eG;by_cases a:n=0
 .rw[lw a];omega
 .rw[m1 a];have e:Nat.log2 n<8:=(Nat.log2_lt a).2 Ω;omega
theorem Oi{g:Nat}{L:List (Λ)}(h:pX w g v L)(j:q9 L)(s:L.length<65536):
  aq x7 LO [v,DG] w λ_ I=>aj (λr=>hp v r) w I/\∃M,M.Perm L/\u2 iB M 0 M.length/\pX I g v M:=by
 refine(DF N9 Ob Oc (λa _=>DA) (λa e=>by simp[e.1]) (λa b e f=>(DB a b (by rw[e.1,f.1]) e.2 f.2).1) (Enters.of x7 Od rfl Ψ) h j s λC a b _ e f=>N8 e f).Y ?_;rintro _ I _ ⟨z,M,ae,hu,hm⟩;exact⟨z,M,ae,λp q x y _ A _ J B=>hu p q x y A J B,hm⟩
end Go.Proofs.YtlcdcbgoaljiiaaGreatDoor
namespace Go.Vc
open Go Go.RowKit
set_option maxRecDepth 100000
theorem Keys.str{P:W5}{k:r8}(hk:P.underlying k=σ .string):Keys P k λv=>∃s,v= .string s:=by
 have key:∀s,MapKept.IsKey .string (.string s):=λs=>trivial;refine⟨λw f v ⟨n,h⟩=>?_,λw x ⟨n,h⟩ q r=>?_,λw v ⟨n,h⟩=>?_⟩
 .subst h;exact MapKept.run_checkKey hk (key n) f 9999
 .subst h;rcases MapKept.findNow_spec (key n) q 0 (λe he=>by obtain⟨m,h⟩:=r e he;rw[h];exact key m)with⟨h1,a⟩|⟨j,e,h1,a,y⟩
  .exact .inl ⟨MapKept.run_findKey hk h1,a⟩
  .exact .inr ⟨j,e,by have:=MapKept.run_findKey (P:=P) (w:=w) hk h1;simpa using this,a,y⟩
 .subst h;exact MapKept.run_keyThatStays (d:=.string) (key n)
section
variable{P:W5}{w:x4}
theorem jl{s:Sem x1}(h:∀K:x1->Prop,ad P s w K=K v):cK P s v w:=by
 have h1:ad P s w (λu=>u=v):=(h λu=>u=v).mpr rfl;obtain⟨u,hu,rfl⟩:=h1;exact hu
variable{k e:r8}{G:x1->Prop}
end
end Go.Vc
namespace Go.Proofs.YtlcdcbgoaljiiaaGreatDoor
open Go Go.Vc Go.RowKit Go.Proofs Go.Proofs.Tryz
set_option maxRecDepth 100000
def iC:Nat->Nat->Λ
 |0,_=>[]
 |n+1,u=>iC n (u / 10)++[48+((u % 10:Nat):Int)]
theorem sF:∀(n u:Nat),(iC n u).length=n
 |0,_=>rfl
 |n+1,u=>by rw[iC,o4,sF n];rfl
theorem Oj(n u:Nat):iC (n+2) u=iC n (u / 100)++[48+((u / 10 % 10:Nat):Int),48+((u % 10:Nat):Int)]:=by
 rw[iC,iC,X7];rw[show u / 10 / 10=u / 100 by omega];rfl
theorem DI:∀(n u:Nat),10 ^ n<=u->u<10 ^ (n+1)->iC (n+1) u=gC u
 |0,u,h1,a=>by
  rw[pP,lw (by simpa using a)];simp[iC]
 |n+1,u,h1,a=>by
  have e:(10:Nat) ^ (n+1)=10*10 ^ n:=by rw[Nat.pow_succ,Nat.mul_comm]
  have f:(10:Nat) ^ (n+1+1)=10*10 ^ (n+1):=by rw[Nat.pow_succ,Nat.mul_comm]
  have h:1<=10 ^ n:=Nat.one_le_iff_ne_zero.2 Ξ;rw[pP,m1 Ω,iC,DI n (u / 10) Ω Ω]
def ia(a C:Λ)(e u:Nat):Prop:=e<=a.length/\C.length=a.length/\∃t,C.drop e=t/\a=iC e u++t
theorem ia.two{e:Λ}{a u:Nat}(h:ia e C (a+2) u):ia e ((C.set (a+1) (48+((u % 10:Nat):Int))).set a (48+((u / 10 % 10:Nat):Int))) a (u / 100):=by
 obtain⟨h1,f,t,j,q⟩:=h;refine⟨Ω,by simp[f],_,rfl,?_⟩;rw[q,Oj,X7];congr 1;rw[List.drop_set,m1 Ω,List.drop_set,m1 Ω,<-j];have r:a<C.length:=Ω
 have s:a+1<C.length:=Ω
 rw[Y8 r,Y8 s,V8,Nat.add_sub_cancel_left];rfl
theorem ia.one{u:Nat}(h:ia a C 1 u):C.set 0 (48+((u % 10:Nat):Int))=a:=by
 obtain⟨h1,e,t,f,j⟩:=h;rw[j,iC,iC,List.nil_append,<-f];cases C with
 |nil=>simp at e;omega
 |cons c C=>simp
theorem ia.zero{u:Nat}(h:ia a C 0 u):C=a:=by
 obtain⟨h1,j,t,e,f⟩:=h;rw[f,iC,List.nil_append,<-e,List.drop_zero]
def ly:ByteArray:=⟨#[48,48,48,49,48,50,48,51,48,52,48,53,48,54,48,55,48,56,48,57,49,48,49,49,49,50,49,51,49,52,49,53,49,54,49,55,49,56,49,57,50,48,50,49,50,50,50,51,50,52,50,53,50,54,50,55,50,56,50,57,51,48,51,49,51,50,51,51,51,52,51,53,51,54,51,55,51,56,51,57,52,48,52,49,52,50,52,51,52,52,52,53,52,54,52,55,52,56,52,57,53,48,53,49,53,50,53,51,53,52,53,53,53,54,53,55,53,56,53,57,54,48,54,49,54,50,54,51,54,52,54,53,54,54,54,55,54,56,54,57,55,48,55,49,55,50,55,51,55,52,55,53,55,54,55,55,55,56,55,57,56,48,56,49,56,50,56,51,56,52,56,53,56,54,56,55,56,56,56,57,57,48,57,49,57,50,57,51,57,52,57,53,57,54,57,55,57,56,57,57]⟩
theorem DJ:ly.size=200:=by decide+kernel
theorem Ol:∀q:Fin 100,ly.data.toList[2*q.val]?=σ (UInt8.ofNat (48+q.val / 10))/\ly.data.toList[2*q.val+1]?=σ (UInt8.ofNat (48+q.val % 10)):=by decide+kernel
theorem yc{q:Nat}(e:q<100):(∀h,(ly[2*q]'h).toNat=48+q / 10)/\∀h,(ly[2*q+1]'h).toNat=48+q % 10:=by
 obtain⟨h1,f⟩:=Ol ⟨q,e⟩;refine⟨λh=>?_,λh=>?_⟩
 .have a:=(x5.1 h1).2;have:ly[2*q]=UInt8.ofNat (48+q / 10):=a;rw[this,UInt8.toNat_ofNat'];omega
 .have a:=(x5.1 f).2;have:ly[2*q+1]=UInt8.ofNat (48+q % 10):=a;rw[this,UInt8.toNat_ofNat'];omega
theorem wrap_u32{x:Int}(h1:0<=x)(a:x<4294967296):o5.u32.wrap x=x:=by
 simp[o5.wrap,o5.bits,o5.signed];omega
def lz(w:x4)(g o:Nat)(a C e:Λ):Prop:=ai w g oz (ints .u8 (a++C++e))/\a.length=o
theorem yd{g o c i:Nat}{a:o5}(e:y=(i:Int))(hi:i<n):
  ad x7 (n9 cU (.slice (σ ⟨g,o,ν⟩) n c) (.int a y)) w K=K (.pointer (σ ⟨g,o+i,ν⟩)):=by
 subst e;rw[fq cU.u cS.i hi (λ_=>rfl),T1]
theorem ye{g o i:Nat}{x:Int}{f:Λ}{K:Unit->x4->Prop}(h:lz w g o a C f)(hi:i<C.length)(q:∀I,aj (λr=>r=g) w I->lz I g o a (C.set i x) f->K () I):aM x7 (o7 cS (.pointer (σ ⟨g,o+i,ν⟩)) (.int .u8 x)) w K:=by
 obtain⟨h,rfl⟩:=h;refine bs (g:=g) (o:=a.length+i) cS.i rfl rfl h Θ λI s V j=>q I s ⟨?_,rfl⟩;have e:(ints .u8 (a++C++f)).set (a.length+i) (.int .u8 x)=ints .u8 (a++C.set i x++f):=by
  unfold ints;rw[<-U4,X7,U9 _ _ Ω,Nat.add_sub_cancel_left,List.set_append_left _ _ hi,X7]
 rw[e]at j;exact j
theorem pY{g o c a q i:Nat}{f t:Int}{h j:Λ}{K:x4->Prop}(z:lz w g o h C j)(Y:C.length=n)(Z:n<=1000)(ac:a<=n)(h1:(a:Int)-y=((i+1:Nat):Int))(F:(a:Int)-f=(i:Int))(G:i+1<n)(H:t=((2*q:Nat):Int))(s:q<100)(J:∀I,aj (λr=>r=g) w I->lz I g o h ((C.set (i+1) (48+((q % 10:Nat):Int))).set i (48+((q / 10:Nat):Int))) j->K I):
  eP w λab=>
  ad x7 (aU .sub al ne ms (Δ (a:Int)) (Δ y)) ab λL=>
  ad x7 (aU .sub al ne ms (Δ (a:Int)) (Δ f)) ab λA=>
  ad x7 (aU .add qN ne ms (.int .u32 t) (.int .u32 1)) ab λM=>
  ad x7 (Instr.index de (.string ly) M) ab λt50=>
  ad x7 (Instr.index de (.string ly) (.int .u32 t)) ab λB=>
  ad x7 (n9 cU (.slice (σ ⟨g,o,ν⟩) n c) L) ab λt53=>
  aM x7 (o7 cS t53 t50) ab λ(_:Unit)e=>
   (Ext ab e\/cK x7 (Instr.index de (.string ly) (.int .u32 t)) B e/\cK x7 (aU .sub al ne ms (Δ (a:Int)) (Δ f)) A e/\True)/\
  ad x7 (n9 cU (.slice (σ ⟨g,o,ν⟩) n c) A) e λN=>
   aM x7 (o7 cS N B) e λ(_:Unit)x=>K x:=by
 subst H;intro ab E _ _;have O:aj (λr=>r=g) w ab:=E.aa _;have P:lz ab g o h C j:=⟨z.1.W E,z.2⟩;rw[c5,hx Ω Ω,c5,hx Ω Ω,aR,wrap_u32 Ω Ω];rw[show((2*q:Nat):Int)+1=((2*q+1:Nat):Int) by omega];have V:=DJ;rw[u3 de.u (by rw[V];omega),u3 de.u (by rw[V];omega)];rw[(yc s).1,(yc s).2,yd h1 G];refine ye P Ω λe Q R=>⟨.inr ⟨jl λK=>?_,jl λK=>?_,trivial⟩,?_⟩
 .rw[u3 de.u (by rw[V];omega),(yc s).1]
 .rw[c5,hx Ω Ω]
 .rw[yd F Ω];refine ye R Θ λx S U=>J x ((O.F Q).F S) ?_;have W:48+((q % 10:Nat):Int)=((48+q % 10:Nat):Int):=Ω
  have X:48+((q / 10:Nat):Int)=((48+q / 10:Nat):Int):=Ω
  rw[W,X];exact U
theorem ia.pair{e:Λ}{a u q:Nat}(h:ia e C (a+2) u)(f:q=u % 100):ia e ((C.set (a+1) (48+((q % 10:Nat):Int))).set a (48+((q / 10:Nat):Int))) a (u / 100):=by
 have:=h.two;rw[show u % 10=q % 10 by omega,show u / 10 % 10=q / 10 by omega]at this;exact this
theorem pZ{t:r8}{k:o5}{a b:Nat}(e:b≠0):ad x7 (aU .rem t cx cy (.int k (a:Int)) (.int k (b:Int))) w K=K (.int k ((a % b:Nat):Int)):=by
 rw[uj Ω,Int.tmod_eq_emod_of_nonneg Ω,Int.natCast_emod]
theorem u32_quo{t:r8}{a b:Nat}(e:b≠0)(f:a<4294967296):ad x7 (aU .quo t cx cy (.int .u32 (a:Int)) (.int .u32 (b:Int))) w K=K (.int .u32 ((a / b:Nat):Int)):=by
 have:=Nat.div_le_self a b;rw[pA Ω,Int.tdiv_eq_ediv_of_nonneg Ω,<-Int.natCast_ediv];generalize a / b=m at this ⊢;rw[wrap_u32 Ω Ω]
theorem u64_quo{t:r8}{a b:Nat}(e:b≠0)(f:a<18446744073709551616):ad x7 (aU .quo t cx cy (.int .u64 (a:Int)) (.int .u64 (b:Int))) w K=K (.int .u64 ((a / b:Nat):Int)):=by
 have:=Nat.div_le_self a b;rw[pA Ω,Int.tdiv_eq_ediv_of_nonneg Ω,<-Int.natCast_ediv];generalize a / b=m at this ⊢;rw[lc Ω Ω]
theorem p0{t:r8}{a b:Nat}(f:a*b<4294967296):ad x7 (aU .mul t cx cy (.int .u32 (a:Int)) (.int .u32 (b:Int))) w K=K (.int .u32 ((a*b:Nat):Int)):=by
 have e:(a:Int)*(b:Int)=((a*b:Nat):Int):=Ξ
 rw[iv,e];generalize a*b=m at f ⊢;rw[wrap_u32 Ω Ω]
theorem ia.start{u:Nat}(h:C.length=N):ia (iC N u) C N u:=⟨by rw[sF];omega,by rw[sF,h],[],by rw[List.drop_eq_nil_iff];omega,Ξ⟩
theorem Om{g o c u:Nat}{G H:Λ}(ai:lz w g o G C H)(ak:C.length=N)(ay:N<=19)(hu:u<10 ^ N):
  aq x7 LX [.slice (σ ⟨g,o,ν⟩) N c,.int .u64 (u:Int)] w λv I=>v= .tuple #[]/\aj (λr=>r=g) w I/\lz I g o G (iC N u) H:=by
 have x:=sF N u;refine aF func315 ?_;rw[je cU.u];refine⟨λal R U=>∃fe e:Nat,al= .int .u64 (fe:Int)/\R=Δ (e:Int)/\fe<10 ^ e/\e<=N/\aj (λr=>r=g) w U/\∃J,lz U g o G J H/\ia (iC N u) J e fe,
  λ_ R _=>(bY R).toNat,⟨u,N,rfl,rfl,hu,p9 _,aj.refl _ _,C,ai,ia.start ak⟩,?_⟩
 rintro _ _ U ⟨fe,e,rfl,rfl,K,z,S,J,V,ah⟩;have ad:J.length=N:=by rw[ah.2.1,x]
 have az:(10:Nat) ^ e<=10 ^ 19:=T3 Ω Ω;have am:fe<18446744073709551616:=Ω
 have aB:(8:Int)=((8:Nat):Int):=rfl;rw[cJ,ao];refine⟨λan=>?_,λan=>?_⟩
 .obtain⟨m,rfl⟩:∃m,e=m+8:=⟨e-8,Ω⟩;have aC:fe % 100000000<100000000:=Nat.mod_lt _ Ω;rw[show V6 .u64 100000000=V6 .u64 ((100000000:Nat):Int)from rfl,pZ Ω,fN fL.u qN.u,wrap_u32 Ω Ω,u64_quo Ω am];rw[show V6 .u32 10000=V6 .u32 ((10000:Nat):Int)from rfl,show V6 .u32 100=V6 .u32 ((100:Nat):Int)from rfl,show V6 .u32 2=V6 .u32 ((2:Nat):Int)from rfl];rw[u32_quo Ω Ω,pZ Ω,u32_quo Ω Ω,p0 Ω,pZ Ω,p0 Ω,u32_quo Ω Ω,p0 Ω,pZ Ω,p0 Ω];refine pY (i:=m+6) (q:=fe % 100000000 % 10000 % 100) V ad Ω z Ω Ω Ω Ω Ω λab A B=>?_;have h:=ah.pair (q:=fe % 100000000 % 10000 % 100) Ω;have L:=h.2.1.F x;refine pY (i:=m+4) (q:=fe % 100000000 % 10000 / 100) B L Ω z Ω Ω Ω Ω Ω λE s j=>?_;have f:=ia.pair (q:=fe % 100000000 % 10000 / 100) h Ω;have ae:=f.2.1.F x;refine pY (i:=m+2) (q:=fe % 100000000 / 10000 % 100) j ae Ω z Ω Ω Ω Ω Ω λap W P=>?_;have af:=ia.pair (q:=fe % 100000000 / 10000 % 100) f Ω;have au:=af.2.1.F x;refine pY (i:=m) (q:=fe % 100000000 / 10000 / 100) P au Ω z Ω Ω Ω Ω Ω λaD av aw=>?_;have ag:=ia.pair (q:=fe % 100000000 / 10000 / 100) af Ω;rw[c5,hx Ω Ω];refine⟨⟨fe / 100000000,m,rfl,by congr 1;omega,?_,Ω,(((S.F A).F s).F W).F av,_,aw,?_⟩,by simp only[bY];omega⟩
  .rw[Nat.pow_add]at K;exact Nat.div_lt_of_lt_mul (by rw[Nat.mul_comm];exact K)
  .rw[show fe / 100 / 100 / 100 / 100=fe / 100000000 by omega]at ag;exact ag
 .have aE:e<8:=Ω
  have aG:(10:Nat) ^ e<=10 ^ 7:=T3 Ω Ω;rw[fN fL.u qN.u,wrap_u32 Ω Ω];refine jw (λa b ab=>∃fu m:Nat,a=Δ (m:Int)/\b= .int .u32 (fu:Int)/\fu<10 ^ m/\m<4/\m<=N/\aj (λr=>r=g) w ab/\∃Q,lz ab g o G Q H/\ia (iC N u) Q m fu) ?_ ?_
  rotate_left
  .intro aA M;rw[cJ,ao];refine⟨λX=>?_,λX=>M _ _ _ ⟨fe,e,rfl,rfl,K,Ω,z,S,J,V,ah⟩⟩;obtain⟨m,rfl⟩:∃m,e=m+4:=⟨e-4,Ω⟩;rw[show V6 .u32 10000=V6 .u32 ((10000:Nat):Int)from rfl,show V6 .u32 100=V6 .u32 ((100:Nat):Int)from rfl,show V6 .u32 2=V6 .u32 ((2:Nat):Int)from rfl];rw[pZ Ω,u32_quo Ω Ω,u32_quo Ω Ω,p0 Ω,pZ Ω,p0 Ω];refine pY (i:=m+2) (q:=fe % 10000 % 100) V ad Ω z Ω Ω Ω Ω Ω λab A B=>?_;have h:=ah.pair (q:=fe % 10000 % 100) Ω;have L:=h.2.1.F x;refine pY (i:=m) (q:=fe % 10000 / 100) B L Ω z Ω Ω Ω Ω Ω λE s j=>?_;have f:=ia.pair (q:=fe % 10000 / 100) h Ω;rw[c5,hx Ω Ω];refine M _ _ _ ⟨fe / 10000,m,by congr 1;omega,rfl,?_,Ω,Ω,(S.F A).F s,_,j,?_⟩
   .rw[Nat.pow_add]at K;exact Nat.div_lt_of_lt_mul (by rw[Nat.mul_comm];exact K)
   .rw[show fe / 100 / 100=fe / 10000 by omega]at f;exact f
  rintro _ _ ab ⟨fu,m,rfl,rfl,Y,aH,Z,A,Q,B,h⟩;have L:=h.2.1.F x;have aI:(10:Nat) ^ m<=10 ^ 3:=T3 Ω Ω;refine jw (λa b E=>∃O m:Nat,a=Δ (m:Int)/\b= .int .u32 (O:Int)/\O<10 ^ m/\m<2/\m<=N/\aj (λr=>r=g) w E/\∃aa,lz E g o G aa H/\ia (iC N u) aa m O) ?_ ?_
  rotate_left
  .intro aA M;rw[cJ,ao];refine⟨λX=>?_,λX=>M _ _ _ ⟨fu,m,rfl,rfl,Y,Ω,Z,A,Q,B,h⟩⟩;obtain⟨m,rfl⟩:∃bX,m=bX+2:=⟨m-2,Ω⟩;rw[show V6 .u32 100=V6 .u32 ((100:Nat):Int)from rfl,show V6 .u32 2=V6 .u32 ((2:Nat):Int)from rfl];rw[pZ Ω,p0 Ω,u32_quo Ω Ω];refine pY (i:=m) (q:=fu % 100) B L Ω Z Ω Ω Ω Ω Ω λE s j=>?_;have f:=h.pair rfl;rw[c5,hx Ω Ω];refine M _ _ _ ⟨fu / 100,m,by congr 1;omega,rfl,?_,Ω,Ω,A.F s,_,j,f⟩;rw[Nat.pow_add]at Y;exact Nat.div_lt_of_lt_mul (by rw[Nat.mul_comm];exact Y)
  rintro _ _ E ⟨O,m,rfl,rfl,ac,aJ,Z,s,aa,j,f⟩;have ae:=f.2.1.F x;rw[bU,ao];refine⟨λax=>?_,λax=>?_⟩
  .obtain rfl:m=1:=Ω
   have ac:O<10:=by simpa using ac
   rw[aR,wrap_u32 Ω Ω,fN qN.u cS.u,wrap_u8 Ω Ω,yd (y:=0) (i:=0) rfl Ω];refine ye j Ω λap W P=>?_;have:=f.one;rw[Nat.mod_eq_of_lt ac]at this;rw[this]at P;exact⟨rfl,s.F W,P⟩
  .obtain rfl:m=0:=Ω
   rw[f.zero]at j;exact⟨rfl,s,j⟩
def sG:Λ:=[1,10,100,1000,10000,100000,1000000,10000000,100000000,1000000000,10000000000,100000000000,1000000000000,10000000000000,100000000000000,1000000000000000,10000000000000000,100000000000000000,1000000000000000000,10000000000000000000]
def fD(w:x4):Prop:=w.rangeAt 1 0 (ints .u64 sG)
theorem fD.W(h:fD w)(J:Ext w I):fD I:=pz J h
theorem On:∀k:Nat,k<20->sG[k]?=σ (((10 ^ k:Nat)):Int):=Φ
theorem DK{s:Nat}(h:2 ^ s<=n):eG n=s+eG (n / 2 ^ s):=by
 have V:=Nat.two_pow_pos s;have h1:n / 2 ^ s≠0:=by have:=Nat.div_pos h V;omega
 have f:n≠0:=Ω
 unfold eG;rw[m1 f,m1 h1];have e:Nat.log2 n=Nat.log2 (n / 2 ^ s)+s:=by
  refine(Nat.log2_eq_iff f).2 ⟨?_,?_⟩
  .rw[Nat.pow_add];have:=X6 (2 ^ s) (Nat.log2_self_le h1);have:=Nat.div_mul_le_self n (2 ^ s);omega
  .have j:=Nat.lt_log2_self (n:=n / 2 ^ s);rw[show Nat.log2 (n / 2 ^ s)+s+1=(Nat.log2 (n / 2 ^ s)+1)+s by omega,Nat.pow_add];have:=X6 (2 ^ s) (show n / 2 ^ s+1<=2 ^ (Nat.log2 (n / 2 ^ s)+1) by omega);have q:=Nat.lt_div_mul_add V (a:=n);rw[T4]at this;omega
 omega
def sH:ByteArray:=⟨#[0,1,2,2,3,3,3,3,4,4,4,4,4,4,4,4,5,5,5,5,5,5,5,5,5,5,5,5,5,5,5,5,6,6,6,6,6,6,6,6,6,6,6,6,6,6,6,6,6,6,6,6,6,6,6,6,6,6,6,6,6,6,6,6,7,7,7,7,7,7,7,7,7,7,7,7,7,7,7,7,7,7,7,7,7,7,7,7,7,7,7,7,7,7,7,7,7,7,7,7,7,7,7,7,7,7,7,7,7,7,7,7,7,7,7,7,7,7,7,7,7,7,7,7,7,7,7,7,8,8,8,8,8,8,8,8,8,8,8,8,8,8,8,8,8,8,8,8,8,8,8,8,8,8,8,8,8,8,8,8,8,8,8,8,8,8,8,8,8,8,8,8,8,8,8,8,8,8,8,8,8,8,8,8,8,8,8,8,8,8,8,8,8,8,8,8,8,8,8,8,8,8,8,8,8,8,8,8,8,8,8,8,8,8,8,8,8,8,8,8,8,8,8,8,8,8,8,8,8,8,8,8,8,8,8,8,8,8,8,8,8,8,8,8,8,8,8,8,8,8,8,8,8,8,8,8]⟩
theorem Oo:sH.size=256:=by decide+kernel
theorem Oq:∀q:Fin 256,sH.data.toList[q.val]?=σ (UInt8.ofNat (eG q.val)):=by decide+kernel
theorem Ot{q:Nat}(a:q<256):∀h,(sH[q]'h).toNat=eG q:=λh=>by
 have h1:=Oq ⟨q,a⟩;have e:=(x5.1 h1).2;have:sH[q]=UInt8.ofNat (eG q):=e;have f:=DH a;rw[this,UInt8.toNat_ofNat'];omega
theorem Ou(E:n<18446744073709551616):aq x7 LJ [.int .u64 (n:Int)] w λv I=>v=Δ (eG n:Int)/\Ext w I:=by
 refine aF func291 ?_;have step:∀{s x m:Nat}{aA:x1->x1->x4->Prop}{y c:Int},s<64->x<18446744073709551616->m+eG x=eG n->m<=64->y=(2 ^ s:Nat)->c=(s:Int)->2 ^ s<=18446744073709551615->(∀a bX:Nat,a<2 ^ s\/(a=x / 2 ^ s/\bX=m+s)->a<=x->bX+eG a=eG n->bX<=m+s->aA (.int .u64 (a:Int)) (Δ (bX:Int)) w)->
   ad x7 (aU .geq fL ne ms (.int .u64 (x:Int)) (.int .u64 y)) w λt4=>
    Split t4 (ad x7 (aU .shr fL ne ms (.int .u64 (x:Int)) (.int .u64 c)) w λr=>ad x7 (aU .add al ne ms (Δ (m:Int)) (Δ c)) w λz=>aA r z w) (aA (.int .u64 (x:Int)) (Δ (m:Int)) w):=by
  intro s x m aA y c V J hm G A B j e;subst A B;rw[cJ,ao];refine⟨λh=>?_,λh=>e x m (.inl Ω) (p9 _) hm Ω⟩;rw[mO V,aR,hx Ω Ω];have:=DK (n:=x) (s:=s) Ω;have:=e (x / 2 ^ s) (m+s) (.inr ⟨rfl,rfl⟩) (Nat.div_le_self _ _) Ω Ω;exact this
 refine jw (λx m U=>w=U/\∃a bX:Nat,x= .int .u64 (a:Int)/\m=Δ (bX:Int)/\a<4294967296/\bX+eG a=eG n/\bX<=32) ?_ ?_
 rotate_left
 .intro aA e;rw[cJ,ao];refine⟨λh=>?_,λh=>e _ _ _ ⟨rfl,n,0,rfl,rfl,Ω,Ω,Ω⟩⟩;rw[show V6 .u64 32=V6 .u64 ((32:Nat):Int)from rfl,mO Ω];have:=DK (n:=n) (s:=32) Ω;exact e _ _ _ ⟨rfl,n / 2 ^ 32,32,rfl,rfl,Ω,Ω,Ω⟩
 rintro _ _ _ ⟨rfl,x,m,rfl,rfl,J,hm,q⟩;refine jw (λx m U=>w=U/\∃a bX:Nat,x= .int .u64 (a:Int)/\m=Δ (bX:Int)/\a<65536/\bX+eG a=eG n/\bX<=48) ?_ ?_
 rotate_left
 .intro aA e;refine step (s:=16) Ω Ω hm Ω Ω Ω Ω λa bX h1 j f C=>e _ _ _ ⟨rfl,a,bX,rfl,rfl,?_,f,Ω⟩;rcases h1 with h1|⟨h1,_⟩<;>omega
 rintro _ _ _ ⟨rfl,x,m,rfl,rfl,J,hm,q⟩;refine jw (λx m U=>w=U/\∃a bX:Nat,x= .int .u64 (a:Int)/\m=Δ (bX:Int)/\a<256/\bX+eG a=eG n/\bX<=56) ?_ ?_
 rotate_left
 .intro aA e;refine step (s:=8) Ω Ω hm Ω Ω Ω Ω λa bX h1 j f C=>e _ _ _ ⟨rfl,a,bX,rfl,rfl,?_,f,Ω⟩;rcases h1 with h1|⟨h1,_⟩<;>omega
 rintro _ _ _ ⟨rfl,x,m,rfl,rfl,J,hm,q⟩;have V:=Oo;have H:=DH J;rw[fN fL.u cS.u,wrap_u8 Ω Ω];refine(u3 (s:=sH) de.u (by rw[V];omega)).mpr ?_;rw[Ot J,fN cS.u al.u,hx Ω Ω,aR,hx Ω Ω];exact⟨by congr 1;omega,Ext.refl _⟩
theorem DL{t:r8}{k:o5}{a:Nat}(f:n<64):ad x7 (aU .shr t cx cy (Δ (a:Int)) (.int k (n:Int))) w K=K (Δ ((a / 2 ^ n:Nat):Int)):=ad.of λI _=>by
 have e:(a:Int).fdiv (2 ^ min n X3.bits)=((a / 2 ^ n:Nat):Int):=by
  have:min n X3.bits=n:=Nat.min_eq_left (by show n<=64;omega);rw[this,Int.fdiv_eq_ediv_of_nonneg _ (by exact Int.le_of_lt (Int.pow_pos Ω))];simp
 simp only[aU,eqGuard,binOp,Op.shift,u5,e];rfl
theorem Ov:∀L:Fin 64,7<=L.val->2 ^ L.val<=10 ^ (L.val*78913 / 262144+1)/\10 ^ (L.val*78913 / 262144)<=10*2 ^ (L.val-1)/\1<=L.val*78913 / 262144/\L.val*78913 / 262144<19:=by decide+kernel
theorem Ow{d:Nat}(z:fD w)(h1:100<=d)(E:d<9223372036854775808):aq x7 LW [.int .u64 (d:Int)] w λv I=>Ext w I/\∃n:Nat,v=Δ ((n+1:Nat):Int)/\n<19/\10 ^ n<=d/\d<10 ^ (n+1):=by
 have j:d≠0:=Ω
 have q:eG d=Nat.log2 d+1:=by unfold eG;rw[m1 j]
 have G:2 ^ (eG d-1)<=d:=by rw[q];exact Nat.log2_self_le j
 have H:d<2 ^ eG d:=by rw[q];exact Nat.lt_log2_self
 have A:7<=eG d:=by
  by_cases h:7<=eG d
  .exact h
  .have:2 ^ eG d<=2 ^ 6:=T3 Ω Ω;omega
 have B:eG d<64:=by
  by_cases h:eG d<64
  .exact h
  .have:2 ^ 63<=2 ^ (eG d-1):=T3 Ω Ω;omega
 obtain⟨C,r,t3,t4⟩:=Ov ⟨eG d,B⟩ A;simp only at C r t3 t4;refine aF func314 ?_;refine(Ou Ω).Y ?_;rintro _ U _ ⟨rfl,a⟩;generalize eG d=L at*;refine aq.Y (K:=λv ab=>v=Δ ((L*78913 / 262144:Nat):Int)/\Ext U ab) ?_ ?_
 .refine aF func335 ?_;rw[iv,hx Ω Ω,show V6 .u64 18=V6 .u64 ((18:Nat):Int)from rfl,show(L:Int)*78913=((L*78913:Nat):Int) by omega,DL Ω];exact⟨rfl,Ext.refl _⟩
 rintro _ ab _ ⟨rfl,e⟩;generalize L*78913 / 262144=t at*;have ae:=On t Ω;rw[xo xl.u fL.i Ω,aD Ψ (by rw[T1];exact((z.W a).W e) _ _ (mJ ae)),cJ];refine aq.Y (K:=λv x=>v=Δ ((if 10 ^ t<=d then 1 else 0:Nat):Int)/\Ext ab x) ?_ ?_
 .refine aF func336 ?_;rw[ao];refine⟨λh=>⟨by rw[lw Ω];rfl,Ext.refl _⟩,λh=>⟨by rw[m1 Ω];rfl,Ext.refl _⟩⟩
 rintro _ x _ ⟨rfl,y⟩;rw[aR];by_cases f:10 ^ t<=d
 .rw[lw f,hx Ω Ω];exact⟨(a.F e).F y,t,by congr 1,t4,f,Ω⟩
 .rw[m1 f,hx Ω Ω];obtain⟨s,rfl⟩:∃s,t=s+1:=⟨t-1,Ω⟩;rw[Nat.pow_succ]at r;exact⟨(a.F e).F y,s,by congr 1,Ω,Ω,Ω⟩
theorem DM{t:r8}{k a:o5}{x:Int}{i:Nat}{s:ByteArray}(J:x=(i:Int))(e:y=(j:Int))(f:x7.underlying t=σ .string)(q:i<=j)(r:j<=s.size):
  ad x7 (V5 t (.string s) (σ (.int k x)) (σ (.int a y)) ν) w K=K (.string (s.extract i j)):=ad.of λI _=>by
 subst J e;have z:=uk (P:=x7) I (sl:=ne) (n:=s.size) (c:=s.size) (low:=σ (.int k (i:Int))) (high:=σ (.int a (j:Int))) (mx:=ν) (l:=i) (h:=j) (m:=s.size) ⟨k,rfl⟩ ⟨a,rfl⟩ fc q r (p9 _);simp[V5,Instr.slice,run_underlying f,z]
theorem Ox:∀q:Fin 100,ly.extract (2*q.val) (2*q.val+2)=strOfNums [48+((q.val / 10:Nat):Int),48+((q.val % 10:Nat):Int)]:=by decide+kernel
def DN:ByteArray:=⟨#[48,49,50,51,52,53,54,55,56,57,97,98,99,100,101,102,103,104,105,106,107,108,109,110,111,112,113,114,115,116,117,118,119,120,121,122]⟩
theorem Oy:∀q:Fin 10,DN.extract q.val (q.val+1)=strOfNums [48+(q.val:Int)]:=by decide+kernel
theorem DO(h:n<10):gC n=[48+(n:Int)]:=by rw[pP,lw h,Nat.mod_eq_of_lt h];rfl
theorem Oz(h1:10<=n)(a:n<100):gC n=[48+((n / 10:Nat):Int),48+((n % 10:Nat):Int)]:=by
 rw[pP,m1 Ω,DO Ω];rfl
theorem OA(a:n<100):aq x7 LV [Δ (n:Int)] w λv I=>v=ce (gC n)/\Ext w I:=by
 refine aF func313 ?_;rw[aW,ao];refine⟨λh=>?_,λh=>?_⟩
 .rw[aR,hx Ω Ω];refine(DM (s:=DN) (i:=n) (j:=n+1) rfl Ω de.u Ω (by show n+1<=36;omega)).mpr ?_;rw[Oy ⟨n,Ω⟩,DO Ω];exact⟨rfl,Ext.refl _⟩
 .rw[iv,hx Ω Ω,iv,hx Ω Ω,aR,hx Ω Ω];refine(DM (s:=ly) (i:=2*n) (j:=2*n+2) Ω Ω de.u Ω (by rw[DJ];omega)).mpr ?_;rw[Ox ⟨n,a⟩,Oz Ω a];exact⟨rfl,Ext.refl _⟩
theorem OB{g:Nat}{e f:Λ}(a:lz w g 1 e C f)(h:C.length<=23):aQ .u8 w (.slice (σ ⟨g,1,ν⟩) C.length 23) C:=by
 obtain⟨a,ae⟩:=a;refine⟨Ξ,g,1,_,23,rfl,h,by simp[maxLen],λ_=>rfl,λj v ac=>?_⟩;have q:j<C.length:=by have:=(x5.1 ac).1;simpa using this
 refine a.cell ?_;rw[ints,Z2,Z2,V3 Θ,X1 Θ,u9,ae,Nat.add_sub_cancel_left];exact ac
theorem DP{g m:Nat}(a:y=((m+2:Nat):Int))(hm:m<=22):
  ad x7 (V5 oz (Γ g) (σ (Δ 1)) (σ (Δ y)) ν) w K=K (.slice (σ ⟨g,1,ν⟩) (m+1) 23):=by
 subst a;have:=ul (w:=w) (b:=g) (o:=0) (low:=σ (Δ 1)) (high:=σ (Δ ((m+2:Nat):Int))) (mx:=ν) (l:=1) (h:=m+2) (m:=24) (K:=K) oz.u cS.i ⟨_,rfl⟩ ⟨_,rfl⟩ fc Ω Ω Ω;rw[this,m1 Ω];rfl
theorem OC(s:fD w)(x:n<9223372036854775808):aq x7 LP [Δ (n:Int),Δ 10] w λv I=>v=ce (gC n)/\Ext w I:=by
 refine aF func299 ?_;rw[bl];refine(ao).mpr ⟨λ_=>?_,λh=>m2 rfl h⟩;refine a1 (λv U=>w=U/\v= .bool (decide (n<100))) ?_ ?_
 rotate_left
 .intro aA a;rw[nI,ao];refine⟨λ_=>?_,λh=>Ω⟩;rw[aW];exact a _ _ ⟨rfl,by congr 1;rw[U1,m6,m6];omega⟩
 rintro _ _ ⟨rfl,rfl⟩;rw[ao];refine⟨λh=>?_,λh=>?_⟩
 .exact (OA h).Y λ_ _ _ h=>h
 refine bC oz.i λg U G f y=>?_;rw[fN ax.u fL.u,lc Ω Ω];refine a1 (λv ab=>U=ab/\v= .int .u64 (n:Int)) ?_ ?_
 rotate_left
 .intro aA a;rw[aW,ao];exact⟨λh=>Ω,λ_=>a _ _ ⟨rfl,rfl⟩⟩
 rintro _ _ ⟨rfl,rfl⟩;refine(Ow (s.W f) Ω x).Y ?_;rintro _ ab _ ⟨j,m,rfl,hm,z,q⟩;rw[aR,hx Ω Ω];rw[DP (m:=m) Ω Ω];have A:lz ab g 1 [0] (r9 (m+1) 0) (r9 (22-m) 0):=by
  refine⟨?_,rfl⟩;have e:[0]++r9 (m+1) (0:Int)++r9 (22-m) 0=r9 24 0:=by
   rw[show[(0:Int)]=r9 1 0 from rfl,List.replicate_append_replicate,List.replicate_append_replicate];congr 1;omega
  rw[e];exact y.W j
 refine(Om (N:=m+1) A Ξ Ω q).Y ?_;rintro _ H _ ⟨rfl,B,C⟩;refine cc Ω ?_;rw[aR,hx Ω Ω];rw[DP (m:=m) Ω Ω];have E:=sF (m+1) n;have V:=OB C Ω;rw[E]at V;rw[xA cU.u cS.u de.u V,DI m n z q];refine⟨rfl,(f.F j).then B λr J he=>?_⟩;have he:r=g:=he;omega
theorem OD(a:fD w)(e:n<9223372036854775808):aq x7 xd [Δ (n:Int)] w λv I=>v=ce (gC n)/\Ext w I:=by
 refine aF func229 ?_;refine aq.Y (K:=λv I=>v=ce (gC n)/\Ext w I) ?_ (λ_ _ _ h=>h);refine aF func273 ?_;exact(OC a e).Y λ_ _ _ h=>h
theorem fD.aa(h:fD w)(J:aj S w I)(a:¬S 1):fD I:=iu J a h
def dD(w:x4)(g gs:Nat)(A:ak)(B:ak)(a:Bool)(s:Option aN):Prop:=match s with
 |some s=>ey w g gs A B s a
 |none=>ft w g gs A B
theorem gE.of{g:Nat}{A:ak}{B:ak}{a:Bool}{s:Option aN}(h:gE w g gs A B a s I):aj (bQ g gs A) w I/\dD I g gs A B a s:=h
theorem gE.mk{g:Nat}{A:ak}{B:ak}{a:Bool}{s:Option aN}(h:aj (bQ g gs A) w I)(e:dD I g gs A B a s):gE w g gs A B a s I:=⟨h,e⟩
theorem dD.aa{g:Nat}{A:ak}{B:ak}{a:Bool}{s:Option aN}(h:dD w g gs A B a s)(J:aj S w I)(e:∀r,bQ g gs A r->¬S r)(f:∀r,cV g gs A B r->¬S r):dD I g gs A B a s:=by
 cases s with
 |none=>exact ft.aa h J e f
 |some s=>exact ey.aa h J e f
theorem dD.W{g:Nat}{A:ak}{B:ak}{a:Bool}{s:Option aN}(h:dD w g gs A B a s)(J:Ext w I):dD I g gs A B a s:=h.aa (J.aa λ_=>False) (λ_ _ h=>h) λ_ _ h=>h
theorem dD.side{g:Nat}{A:ak}{B:ak}{a:Bool}{s:Option aN}(h:dD w g gs A B a s):mS w g gs A B:=by
 cases s with
 |none=>exact h.1
 |some s=>exact h.1
def bk(lo hi:Int)(s:Option aN):Option (Int×aN):=s.bind (br lo hi)
theorem nV{g:Nat}{A:ak}{B:ak}{s:Option aN}{a:Bool}(h:dD w g gs A B a s):aq x7 ps [Γ g,Δ lo,Δ hi] w λv I=>gE w g gs A B a ((bk lo hi s).map (·.2)) I/\∃n at_:Int,v= .tuple #[Δ n,Δ at_]/\(∀q,bk lo hi s=σ q->n=q.1)/\(bk lo hi s=ν->n=0):=by
 cases s with
 |none=>
  refine(Ny h).Y ?_;rintro _ U _ ⟨J,rfl⟩;exact⟨⟨J.aa _,ft.W h J⟩,0,0,rfl,λq h=>(by cases h),λ_=>rfl⟩
 |some s=>exact xV h
theorem ra{g:Nat}{A:ak}{B:ak}{s:Option aN}{a:Bool}(h:dD w g gs A B a s):aq x7 mE [Γ g] w λv I=>v= .bool s.isSome/\Ext w I:=by
 cases s with
 |none=>exact pT h
 |some s=>exact q4 h
theorem OE{g:Nat}{A:ak}{B:ak}{s:Option aN}{a:Bool}{e:Int}(h:dD w g gs A B a s)(he:e≠0):aq x7 pt [Γ g,Δ e,Δ at_] w λ_ I=>gE w g gs A B a ν I:=by
 cases s with
 |none=>
  refine(Nw h).Y ?_;rintro _ U _ J;exact⟨J.aa _,ft.W h J⟩
 |some s=>
  refine(uM h he).Y ?_;rintro _ U _ ⟨f,j⟩;exact⟨f.Y λr _ h=>.inl h,j⟩
theorem sI{g:Nat}{A:ak}{B:ak}{s:Option aN}{a b:Bool}(h:dD w g gs A B a s):aq x7 rX [Γ g,.bool b,Δ at_] w λ_ I=>gE w g gs A B a (s.map (bp b)) I:=by
 cases s with
 |none=>
  refine(Dg h).Y ?_;rintro _ U _ J;exact⟨J.aa _,ft.W h J⟩
 |some s=>
  refine(uN h).Y ?_;rintro _ U _ ⟨e,f⟩;exact⟨e.Y λr _ h=>.inl h,f⟩
theorem oM{n:Int}{s:Option aN}{s':aN}(h:bk lo hi s=σ (n,s')):lo<=n/\n<=hi:=by
 cases s with
 |none=>cases h
 |some s=>exact(jD h).1
def gG(a acc:Λ)(s:Option aN):Option (Λ×aN):=s.bind (kR a acc)
theorem DQ{acc:Λ}{s:Option aN}:gG (k::a) acc s=match bk 0 (k-1) s with
  |none=>ν
  |some (v,s)=>kR a (acc++[v]) s:=by
 cases s with
 |none=>rfl
 |some s=>
  show kR (k::a) acc s=_;rw[kR];show _=match br 0 (k-1) s with|none=>ν|some (v,s)=>kR a (acc++[v]) s
  cases br 0 (k-1) s<;>rfl
theorem DR:∀(t:Λ),(∀x∈t,0<=x/\x<=aG)->(eY t).length<=20*t.length
 |[],_=>by simp[eY]
 |x::t,h=>by
  have f:=DR t λy a=>h y (.tail _ a);have J:=h x (.head _);have j:=xD 19 x.toNat (by unfold aG at J;omega) Ω;have e:eY (x::t)=gC x.toNat++[32]++eY t:=by simp[eY]
  rw[e];simp only[o4,X5,List.length_nil];omega
theorem OF{g au:Nat}{A B:ak}{s:Option aN}{S:Bool}{af:x1->x4->Prop}(h:dD w g gs A B S s)(ah:aQ .i64 w sv d6)(aF:∀r,hv sv r->¬bQ g gs A r/\r≠au)(aI:∀z∈d6,1<=z/\z<=aG)(bO:d6.length<=100001)(aJ:fD w)(h1:cV g gs A B 1)(am:ai w au eF [.slice ν 0 0,Δ 0])(an:¬bQ g gs A au)(ao:¬B au)(ap:∀t I aV gt,t.length=d6.length->(∀x∈t,0<=x/\x<=aG)->aj (λr=>bQ g gs A r\/r=au) w I->ai I au eF [aV,Δ 0]->aH .i64 ax I gt aV t->w.heap.size<=gt->
   dD I g gs A B S ((gG d6 [] s).map (·.2))->(∀q,gG d6 [] s=σ q->t=q.1)->af (ce (eY t)) I):
  cb (.string ⟨#[]⟩) (Δ 0) w λkey V y aL=>
   ad x7 (aU .lss al ne ne V (Δ (d6.length:Int))) y λaP=>
   Split aP (ad x7 (n9 aC sv V) y λaS=>
   ad x7 (u4 ax aS) y λaT=>
   ad x7 (aU .sub ax ne ms aT (Δ 1)) y λaW=>
   aq x7 ps [Γ g,(Δ 0),aW] y λav E=>
   ad x7 (Z9 av 0) E λaw=>
   ad x7 (Z9 av 1) E λbP=>
   ad x7 (u6 eF (Γ au) 0) E λaX=>
   ad x7 (u4 aC aX) E λaZ=>
   aM x7 (Y3 aC 1 #[(0,aw)]) E λa1 a2=>
   aM x7 (c9 #[aC,aC] aC #[aZ,a1]) a2 λa6 ay=>
   ad x7 (u6 eF (Γ au) 0) ay λa7=>
   aM x7 (o7 aC a7 a6) ay λ(_:Unit)a8=>
   aq x7 xd [aw] a8 λba K=>
   ad x7 (aU .add de ne ms ba (.string ⟨#[32]⟩)) K λbb=>
   ad x7 (aU .add de ne ne key bb) K λbc=>
   ad x7 (aU .add al ne ms V (Δ 1)) K λbd=>
   aL bc bd K) (af key y):=by
 have bR:=am.lt;have be:=h.side;obtain⟨bS,bT,bU,bf,bg⟩:=be;refine cb.range d6.length (λj key U=>∃t aV gt s1,key=ce (eY t)/\t.length=j/\(∀x∈t,0<=x/\x<=aG)/\aj (λr=>bQ g gs A r\/r=au) w U/\ai U au eF [aV,Δ 0]/\aH .i64 ax U gt aV t/\w.heap.size<=gt/\
  dD U g gs A B S s1/\gG d6 [] s=gG (d6.drop j) t s1) ah.le ⟨[],_,w.heap.size,s,rfl,rfl,λx J=>(by cases J),aj.refl _ _,am,aH.nil _ _ _ _,p9 _,h,rfl⟩ ?_ ?_
 rotate_left
 .rintro _ U bh ⟨t,aV,gt,s1,rfl,L,G,C,M,N,W,O,he⟩;refine cc Ω ?_;rw[List.drop_length]at he;cases s1 with
  |none=>
   have he:=he;exact ap t U aV gt L G C M N W (by rw[he];exact O) (λq e=>by rw[he]at e;cases e)
  |some s1=>
   have he:=he;exact ap t U aV gt L G C M N W (by rw[he];exact O) (λq e=>by rw[he]at e;cases e;rfl)
 rintro j _ U bh az ⟨t,aV,gt,s1,rfl,L,G,C,M,N,W,O,he⟩ bi;obtain⟨z,X⟩:=aK (l:=d6) az;have bj:=aI z (x6 X);have bV:z<=4611686018427387904:=bj.2;have bl:=jC ah C λr f a n c ac bn=>by
  have:=aF r ⟨a,n,c,ac,bn⟩;exact f.elim this.1 this.2
 have ag:∀r,bQ g gs A r->r<w.heap.size:=bf;refine bM Ω ?_;rw[bm aC.u ax.i Ψ bl X,c5,hx Ω Ω];refine(nV O).Y ?_;rintro _ ab _ ⟨bo,n,at_,rfl,aA,bp⟩;obtain⟨P,bq⟩:=bo.of;have aB:0<=n/\n<=aG:=by
  cases e:bk 0 (z-1) s1 with
  |none=>rw[bp e];exact⟨Ω,by unfold aG;omega⟩
  |some q=>
   rw[aA q e];have:=oM e;exact⟨this.1,by unfold aG;omega⟩
 rw[bx,bz];have aD:=M.aa P an;have br:=N.aa P λ_ bt=>by have:=ag _ bt;omega
 rw[aO eF.p 0 aD rfl];refine eI aC.u ax.i rfl λa ga bu bW H bw=>?_;refine kN aC.u ax.i rfl (br.W H) bw.ls Θ Θ λbA bB bC bX Y Q=>?_;have bY:=C.size;have bZ:=P.size;have z3:=H.size;have z4:=Q.size;rw[aY eF.p rfl];have bD:=(aD.W H).aa Q (λhe=>by have he:=he;omega);refine bs (g:=au) (o:=0) aC.i Y.ls.cells.1 Y.ls.cells.2 bD Ξ λbE Z b0 ae=>?_;have ae:=ae;have bF:aj (λr=>bQ g gs A r\/r=au) w bu:=(C.F (P.Y λr _ h=>.inl h)).F (H.aa _);have bG:aj (λr=>bQ g gs A r\/r=au) w bC:=ji bF Q λr f he=>by have he:r=gt:=he;omega
 have aE:aj (λr=>bQ g gs A r\/r=au) w bE:=bG.F (Z.Y λr _ h=>.inr h);have bH:¬(λr=>bQ g gs A r\/r=au) 1:=λh=>h.elim h1.1 λh=>ao (h▸h1.2);obtain⟨m,rfl⟩:∃m:Nat,n=(m:Int):=⟨n.toNat,Ω⟩;unfold aG at aB;refine(OD (aJ.aa aE bH) Ω).Y ?_;rintro _ b1 _ ⟨rfl,R⟩;have b2:=xD 19 m Ω Ω;have b3:=DR t G;rw[show(ByteArray.mk #[32])=strOfNums [32]from rfl,xz Θ,xz Θ,aR];refine bi _ _ ⟨t++[(m:Int)],bA,bB,(bk 0 (z-1) s1).map (·.2),?_,by simp[L],λx J=>?_,aE.F (R.aa _),ae.W R,(Y.aa Z (λ_ he=>by have he:=he;omega)).W R,Ω,?_,?_⟩
 .rw[MQ,u5]
 .rcases j5.1 J with J|J
  .exact G x J
  .rw[Z7.1 J];exact aB
 .refine dD.W ?_ R;have bI:=bq.W H;have bJ:∀r,bQ g gs A r->¬(λr=>r=gt) r:=λr f he=>by have:=ag r f;have he:r=gt:=he;omega
  have bK:∀r,cV g gs A B r->¬(λr=>r=gt) r:=λr f he=>by have:=bg r f.2;have he:r=gt:=he;omega
  have bL:∀r,bQ g gs A r->¬(λr=>r=au) r:=λr f he=>by have he:r=au:=he;exact an (he▸f)
  have bN:∀r,cV g gs A B r->¬(λr=>r=au) r:=λr f he=>by have he:r=au:=he;exact ao (he▸f.2)
  exact(bI.aa Q bJ bK).aa Z bL bN
 .rw[he,Y8 az,show d6[j]=z from(x5.1 X).2,DQ];cases e:bk 0 (z-1) s1 with
  |none=>rfl
  |some q=>
   rw[aA q e];rfl
def ei(s:aN):Prop:=s.big=ne->s.li<=16384
def lA(n:Int)(s:aN):aN:=bp (decide (16384<min (s.li+n) aG)) {s with li:=min (s.li+n) aG}
theorem OG(n:Int)(s:aN):ei (lA n s):=λh=>by
 have h:(s.big||decide (16384<min (s.li+n) aG))=ne:=h;have:=of_decide_eq_false (T5.1 h).2;show min (s.li+n) aG<=16384;omega
theorem OH{g:Nat}{A B:ak}{s:Option aN}{z:Bool}{n:Int}{K:x4->Prop}(h:dD w g gs A B z s)(O:∀t,s=σ t->0<=n/\n<=aG/\ei t)(J:∀I,aj (bQ g gs A) w I->dD I g gs A B z (s.map (lA n))->K I):
  ad x7 (b0 (Γ g)) w λP=>
  ad x7 (u6 cH P 2) w λQ=>
  ad x7 (u4 ax Q) w λR=>
  ad x7 (aU .add ax ne ne R (Δ n)) w λS=>
  ad x7 (Z0.min_ #[ax,ax] ax #[S,(Δ 4611686018427387904)]) w λW=>
  ad x7 (b0 (Γ g)) w λX=>
  ad x7 (u6 cH X 2) w λY=>
  aM x7 (o7 ax Y W) w λ(_:Unit)q=>
  ad x7 (b0 (Γ g)) q λt77=>
  ad x7 (u6 cH t77 2) q λZ=>
  ad x7 (u4 ax Z) q λac=>
  ad x7 (aU .gtr ax ne ms ac (Δ 16384)) q λae=>
  aq x7 rX [Γ g,ae,Δ at_] q λ_ af=>K af:=by
 cases s with
 |none=>
  obtain⟨V,e,big,C,E,li,sv,l,x,y,G⟩:=id h;rw[aL cH.p 2 x rfl,aR,nK,bR,aY cH.p rfl];refine bs (g:=g) (o:=5) ax.i rfl rfl x (by simp[jF]) λU a ag f=>?_;rw[aL cH.p 2 f rfl,bU];have L:ft U g gs A B:=⟨V.aa a,e,big,C,E,_,sv,l,f,y,ay.aa G a λr _ h H=>uK h V.2.1 H⟩;refine(Dg L).Y ?_;rintro _ ab _ M;exact J _ ((a.Y λr _ h=>.inl h).F (M.aa _)) (L.W M)
 |some s=>
  obtain⟨ap,ah,hi⟩:=O s rfl;obtain⟨V,ai,al,big,C,E,li,sv,x,y,G⟩:=id h;rw[aL cH.p 2 x rfl,aR,nK,bR,aY cH.p rfl];refine bs (g:=g) (o:=5) ax.i rfl rfl x (by simp[jF]) λU a ag f=>?_;have f:=f;rw[aL cH.p 2 f rfl,bU];have key:s.big=ne->min (X3.wrap (li+n)) 4611686018427387904=min (s.li+n) aG:=λj=>by
   rw[y.2 j];have:=hi j;unfold aG at ah ⊢;rw[hx Ω Ω]
  have am:ey U g gs A B {s with li:=min (s.li+n) aG} z:=⟨V.aa a,ai.aa a (λhe=>V.1 he.symm) (λr an he=>an.1 (.inl he)),⟨by show 0<=min _ _;unfold aG;omega,by show min _ _<=_;omega,al.2.2⟩,big,C,E,_,sv,f,⟨y.1,key⟩,ay.aa G a λr _ h H=>uK h V.2.1 H⟩;refine(uN am).Y ?_;rintro _ ab _ ⟨ao,N⟩;refine J _ ((a.F ao).Y λr _ h=>.inl h) ?_;have e:bp (decide (16384<min (X3.wrap (li+n)) 4611686018427387904)) {s with li:=min (s.li+n) aG}=lA n s:=by
   cases j:s.big with
   |false=>rw[key j,<-j];rfl
   |true=>simp[lA,bp,j]
  rw[e]at N;exact N
def kv(d6:Λ)(s:Option aN):Option (List (Λ×Int)×aN):=s.bind (eh d6)
def mV(w:x4)(m:Nat)(acc:List (Λ×Int)):Prop:=c8 w m (acc.map λp=>(ce (eY p.1),Δ 1))
def ma(w:x4)(m:Nat):Prop:=∃d,c8 w m d/\∀p∈d,∃(k:ByteArray)(c:Int),p=(.string k,Δ c)
theorem mV.any{m:Nat}{acc:List (Λ×Int)}(h:mV w m acc):ma w m:=⟨_,h,λp ae=>by
 obtain⟨q,_,rfl⟩:=o9.1 ae;exact⟨_,_,rfl⟩⟩
theorem OI{m:Nat}{k:ByteArray}(h:ma w m)(e:∀c:Int,K (Δ c)):ad x7 (Instr.lookup iL (.map (σ m)) (.string k) ne) w K:=by
 obtain⟨d,hm,f⟩:=h;have hk:=Keys.str de.u;have q:∀p∈d,∃s,p.1=x1.string s:=λp ae=>by obtain⟨s,c,rfl⟩:=f p ae;exact⟨s,rfl⟩
 by_cases he:∃p∈d,p.1=x1.string k
 .obtain⟨p,ae,a⟩:=he;obtain⟨j,r⟩:=Y4.1 ae;obtain⟨s,c,rfl⟩:=f p ae;have a:x1.string s=x1.string k:=a;rw[a]at r;rw[sy iL.u hk hm q ⟨k,rfl⟩ r];exact e c
 .have x:∀p∈d,p.1≠x1.string k:=λp ae h=>he ⟨p,ae,h⟩;rw[uT iL.u hk ⟨_,_,al.i⟩ hm q ⟨k,rfl⟩ x];exact e 0
theorem OJ{m:Nat}{k:ByteArray}{K:Unit->x4->Prop}(h:ma w m)(q:∀I,aj (λr=>r=m) w I->ma I m->K () I):aM x7 (Instr.mapUpdate iL (.map (σ m)) (.string k) (Δ c)) w K:=by
 obtain⟨d,hm,a⟩:=h;have x:∀p∈d,∃s,p.1=x1.string s:=λp ae=>by obtain⟨s,c,rfl⟩:=a p ae;exact⟨s,rfl⟩
 refine q7 iL.u (Keys.str de.u) hm x ⟨k,rfl⟩ (λj v0 I y e f=>q I f ⟨_,e,λp ae=>?_⟩) (λI z e f=>q I f ⟨_,e,λp ae=>?_⟩)
 .rcases U7 ae with ae|rfl
  .exact a p ae
  .exact⟨_,_,rfl⟩
 .rcases j5.1 ae with ae|ae
  .exact a p ae
  .rw[Z7.1 ae];exact⟨_,_,rfl⟩
theorem DS{b:Λ}(e:∀x∈a,0<=x)(f:∀x∈b,0<=x)(h:ce (eY a)=ce (eY b)):a=b:=by
 have h:=x1.string.inj h;exact Cy e f (str_inj (Cz a) (Cz b) h)
theorem yf{acc:List (Λ×Int)}:∀p∈acc.map λp=>(ce (eY p.1),V6 .i64 1),∃s,p.1=x1.string s:=λp ae=>by
 obtain⟨q,_,rfl⟩:=o9.1 ae;exact⟨_,rfl⟩
theorem DT{m:Nat}{acc:List (Λ×Int)}(h:mV w m acc)(e:∀p∈acc,∀x∈p.1,0<=x)(f:∀x∈t,0<=x):
  ad x7 (Instr.lookup iL (.map (σ m)) (ce (eY t)) ne) w K=K (Δ (if t∈acc.map (·.1)then 1 else 0)):=by
 have hk:=Keys.str de.u;by_cases he:t∈acc.map (·.1)
 .rw[lw he];obtain⟨p,ae,rfl⟩:=o9.1 he;obtain⟨j,r⟩:=Y4.1 ae;rw[sy iL.u hk h yf ⟨_,rfl⟩ (by rw[v8,r];rfl)];simp
 .rw[m1 he];rw[uT iL.u hk ⟨_,_,al.i⟩ h yf ⟨_,rfl⟩ (λp ae s=>?_)]
  .simp
  .obtain⟨q,a,rfl⟩:=o9.1 ae;have:=DS (e q a) f s;exact he (o9.2 ⟨q,a,this⟩)
theorem OK{m:Nat}{acc:List (Λ×Int)}{K:Unit->x4->Prop}(h:mV w m acc)(z:∀p∈acc,∀x∈p.1,0<=x)(A:∀x∈t,0<=x)(B:t∉acc.map (·.1))(C:∀I,aj (λr=>r=m) w I->mV I m (acc++[(t,c)])->K () I):aM x7 (Instr.mapUpdate iL (.map (σ m)) (ce (eY t)) (Δ 1)) w K:=by
 refine q7 iL.u (Keys.str de.u) h yf ⟨_,rfl⟩ (λj v0 I e f s=>?_) (λI _ f s=>C I s ?_)
 .rw[v8]at e;obtain⟨q,y,a⟩:=Y0.1 e;have a:=congrArg Prod.fst a;have:=DS (z q (x6 y)) A a;exact m2 (o9.2 ⟨q,x6 y,this⟩) B
 .unfold mV;rw[Z2];exact f
theorem OL{m:Nat}{acc:List (Λ×Int)}{ok:Prop}{K:Unit->x4->Prop}(e:ma w m)(z:ok->mV w m acc/\(∀p∈acc,∀x∈p.1,0<=x)/\(∀x∈t,0<=x)/\t∉acc.map (·.1))(f:∀I,aj (λr=>r=m) w I->ma I m->(ok->mV I m (acc++[(t,c)]))->K () I):
  ad x7 (Instr.lookup iL (.map (σ m)) (ce (eY t)) ne) w λA=>
  ad x7 (aU .add al ne ms A (Δ 1)) w λB=>
  aM x7 (Instr.mapUpdate iL (.map (σ m)) (ce (eY t)) B) w K:=by
 by_cases j:ok
 .obtain⟨h1,q,s,y⟩:=z j;rw[DT h1 q s,m1 y,aR,hx Ω Ω];exact OK h1 q s y λI a V=>f I a V.any λ_=>V
 .refine OI e λgB=>?_;rw[aR];exact OJ e λI a V=>f I a V λh=>m2 h j
def fV{α:Type}(f:List α->aN->Option (α×aN))(n:Nat)(acc:List α)(o:Option aN):Option (List α×aN):=o.bind (c6 f n acc)
theorem ma.aa{m:Nat}(h:ma w m)(J:aj S w I)(a:¬S m):ma I m:=by
 obtain⟨d,h1,e⟩:=h;exact⟨d,h1.aa J a,e⟩
theorem dD.words{g:Nat}{A:ak}{B:ak}{a:Bool}{s:aN}(h:dD w g gs A B a (σ s)):s.d9.length<=100000:=by
 have h:=h;exact h.2.1.words.1
theorem DU{acc:List (Λ×Int)}{st:aN}(j:∀q,gG d6 [] (σ st)=σ q->t=q.1)(a:∀q,bk 0 aG ((gG d6 [] (σ st)).map (·.2))=σ q->c=q.1):
  (bk 0 aG ((gG d6 [] (σ st)).map (·.2))=ν->eX d6 acc st=ν)/\∀q,bk 0 aG ((gG d6 [] (σ st)).map (·.2))=σ q->eX d6 acc st=if t∈acc.map (·.1)then ν else σ ((t,c),q.2):=by
 have e:gG d6 [] (σ st)=kR d6 [] st:=rfl;rw[e]at j a ⊢;unfold eX;cases h1:kR d6 [] st with
 |none=>exact⟨λ_=>rfl,λq f=>(by cases f)⟩
 |some q=>
  obtain⟨bu,s1⟩:=q;rw[h1]at j a;have:=j _ rfl;subst this;have r:bk 0 aG ((σ (t,s1)).map (·.2))=br 0 aG s1:=rfl;rw[r]at a ⊢;simp only;cases s:br 0 aG s1 with
  |none=>exact⟨λ_=>rfl,λq f=>(by cases f)⟩
  |some q=>
   obtain⟨w,x⟩:=q;rw[s]at a;have:=a _ rfl;subst this;exact⟨λh=>(by cases h),λq f=>(by cases f;rfl)⟩
theorem OM{g:Nat}{A B:ak}{s:Option aN}{Z:Bool}{Q:x1->x4->Prop}(h:dD w g gs A B Z s)(b0:aQ .i64 w sv d6)(aX:∀r,hv sv r->¬bQ g gs A r/\r<w.heap.size)(b1:∀z∈d6,1<=z/\z<=aG)(b2:d6.length<=100001)(b4:fD w)(h1:cV g gs A B 1)(b5:(N:Int)<=aG)(bt:∀v I l,gE w g gs A B Z ((fV (eX d6) N [] s).map (·.2)) I->bS (fU w.heap.size) b3 I [v] (show List (Λ×Int)from l)->(∀q,fV (eX d6) N [] s=σ q->l=q.1)->Q v I):
  aM x7 (Instr.makeMap iL ν) w λaZ y=>
 cb (.slice ν 0 0) (Δ 0) y λout i H k=>
  cC (α:=x1->x4->Prop) (λ(b6:x1)(U:x4)=>
   Split b6 (aM x7 (R4 eF ms (.tuple #[])) U λx j=>
  ad x7 (W7 #[aC] al #[sv]) j λb7=>
  cb (.string ⟨#[]⟩) (Δ 0) j λkey a2 V b8=>
   ad x7 (aU .lss al ne ne a2 b7) V λb9=>
   Split b9 (ad x7 (n9 aC sv a2) V λca=>
   ad x7 (u4 ax ca) V λcc=>
   ad x7 (aU .sub ax ne ms cc (Δ 1)) V λcd=>
   aq x7 ps [Γ g,(Δ 0),cd] V λbu ab=>
   ad x7 (Z9 bu 0) ab λbw=>
   ad x7 (Z9 bu 1) ab λdu=>
   ad x7 (u6 eF x 0) ab λce=>
   ad x7 (u4 aC ce) ab λcf=>
   aM x7 (Y3 aC 1 #[(0,bw)]) ab λcg K=>
   aM x7 (c9 #[aC,aC] aC #[cf,cg]) K λch bA=>
   ad x7 (u6 eF x 0) bA λci=>
   aM x7 (o7 aC ci ch) bA λ(_:Unit)cj=>
   aq x7 xd [bw] cj λck aD=>
   ad x7 (aU .add de ne ms ck (.string ⟨#[32]⟩)) aD λcl=>
   ad x7 (aU .add de ne ne key cl) aD λcm=>
   ad x7 (aU .add al ne ms a2 (Δ 1)) aD λcn=>
   b8 cm cn aD)
    (aq x7 ps [Γ g,(Δ 0),(Δ 4611686018427387904)] V λbB aF=>
  ad x7 (Z9 bB 0) aF λcp=>
  ad x7 (Z9 bB 1) aF λcq=>
  ad x7 (u6 eF x 1) aF λcr=>
  aM x7 (o7 ax cr cp) aF λ(_:Unit)ct=>
  cC (α:=x4->Prop) (λ(W:x4)=>
   ad x7 (Instr.lookup iL aZ key ne) W λcu=>
   ad x7 (aU .add al ne ms cu (Δ 1)) W λcw=>
   aM x7 (Instr.mapUpdate iL aZ key cw) W λ(_:Unit)af=>
   ad x7 (u4 eF x) af λcz=>
   aM x7 (Y3 kk 1 #[(0,cz)]) af λcA av=>
   aM x7 (c9 #[kk,kk] kk #[out,cA]) av λcB aI=>
   ad x7 (aU .add ax ne ms i (Δ 1)) aI λcD=>
  k cB cD aI) λbD=>
  cC (α:=x1->x4->Prop) (λ(cE:x1)(O:x4)=>
   Split cE (aq x7 pt [Γ g,(Δ 4),cq] O λdv bE=>
    bD bE)
    (bD O)) λbG=>
  aq x7 mE [Γ g] ct λcF ah=>
  Split cF (ad x7 (Instr.lookup iL aZ key ne) ah λcG=>
  ad x7 (aU .gtr al ne ms cG (Δ 0)) ah λcH=>
  bG cH ah)
   (bG (.bool ne) ah)))
    (Q out U)) λbH=>
  ad x7 (aU .lss ax ne ne i (Δ (N:Int))) H λcI=>
  Split cI (aq x7 mE [Γ g] H λcJ cK=>
  bH cJ cK)
   (bH (.bool ne) H):=by
 obtain⟨dw,dx,dy,cL,aJ⟩:=h.side;have ag:∀r,bQ g gs A r->r<w.heap.size:=cL;unfold aG at b5;refine sx λC y dz a8 ba=>?_;have dA:=a8.size;have dC:=ba.lt;generalize E:fV (eX d6) N [] s=bI at bt;refine⟨λout bb H=>∃(i:Nat)(acc:List (Λ×Int))(so:Option aN),bb=Δ (i:Int)/\i<=N/\aj (bQ g gs A) w H/\y.heap.size<=H.heap.size/\bS (fU y.heap.size) b3 H [out] acc/\dD H g gs A B Z so/\
   bI=fV (eX d6) (N-i) acc so/\ma H C/\acc.length<=100001/\∀st,so=σ st->mV H C acc/\(∀p∈acc,∀x∈p.1,0<=x)/\acc.length+st.d9.length<=100000,
  λ_ bb _=>N-(bY bb).toNat,⟨0,[],s,rfl,X9 _,a8.aa _,p9 _,jf,h.W a8,E.symm,⟨[],ba,λp ae=>(by cases ae)⟩,Ξ,λst cM=>⟨ba,λp ae=>(by cases ae),?_⟩⟩,?_⟩
 .subst cM;have:=h.words;simpa using this
 rintro out _ H ⟨i,acc,so,rfl,dE,bJ,z9,aE,bc,aK,cN,dF,bd⟩;refine a1 (λv U=>Ext H U/\((v= .bool ms/\i<N/\∃st,so=σ st)\/(v= .bool ne/\(so=ν\/i=N)))) ?_ ?_
 rotate_left
 .intro aA be;rw[aW,ao];refine⟨λcO=>?_,λdG=>be _ _ ⟨Ext.refl _,.inr ⟨rfl,.inr Ω⟩⟩⟩;refine(ra bc).Y ?_;rintro _ U _ ⟨rfl,P⟩;cases so with
  |none=>exact be _ _ ⟨P,.inr ⟨rfl,.inl rfl⟩⟩
  |some st=>exact be _ _ ⟨P,.inl ⟨rfl,Ω,st,rfl⟩⟩
 rintro _ U ⟨P,cP⟩;rcases cP with⟨rfl,cO,st,rfl⟩|⟨rfl,cQ⟩
 rotate_left
 .rw[a6];have bL:bI=so.map λst=>(acc,st):=by
   rcases cQ with rfl|rfl
   .exact aK
   .rw[V8]at aK;rw[aK];cases so<;>rfl
  refine bt out U acc (gE.mk (bJ.F (P.aa _)) ?_) (bP (ay.Y aE (λr _ h=>by have h:y.heap.size<=r:=h;show w.heap.size<=r;omega) λ_ _ h=>h) P) (λq L=>?_)
  .rw[bL,Option.map_map];have e:V9 ((λx=>x.2)∘λst=>(acc,st)) so=so:=by cases so<;>rfl
   rw[e];exact bc.W P
  .rw[bL]at L;cases so with
   |none=>cases L
   |some st=>cases L;rfl
 rw[bK];obtain⟨bd,bf,dH⟩:=bd st rfl;have dI:=P.size;refine bC eF.i λau j dJ bM bN=>?_;have aw:=P.F bM;have bh:aj (bQ g gs A) w j:=bJ.F (aw.aa _);have bO:aQ .i64 j sv d6:=jC b0 bh λr f a n c ac cR=>(aX r ⟨a,n,c,ac,cR⟩).1 f;rw[a7 aC.u bO];have aL:¬bQ g gs A au:=λE=>by have:=ag _ E;omega
 refine OF (s:=σ st) (bc.W aw) bO (λr f=>⟨(aX r f).1,by have:=(aX r f).2;omega⟩) b1 b2 (b4.aa bh h1.1) h1 bN aL (λcS=>by have:=aJ _ cS;omega) λt V aV gt dK cT bR cU cW cX cY c0=>?_;have dL:=bM.size;have z12:=bR.size;have dM:=bN.lt;have bi:∀x∈t,0<=x:=λx J=>(cT x J).1;refine(nV cY).Y ?_;rintro _ ab _ ⟨bj,c,dN,rfl,c1,dO⟩;obtain⟨aO,c2⟩:=bj.of;have dP:=aO.size;rw[bx,bz,aY eF.p rfl];refine bs (g:=au) (o:=1) ax.i rfl rfl (cU.aa aO aL) Ξ λK aP dQ bl=>?_;have bl:ai K au eF [aV,Δ c]:=bl;have c3:aH .i64 ax K gt aV t:=(cW.aa aO (λ_ E=>by have:=ag _ E;omega)).aa aP (λ_ he=>by have he:gt=au:=he;omega);have bm:aj (λr=>bQ g gs A r\/r=au) j K:=(bR.F (aO.Y λr _ h=>.inl h)).F (aP.Y λr _ h=>.inr h);have X:dD K g gs A B Z ((bk 0 aG ((gG d6 [] (σ st)).map (·.2))).map (·.2)):=c2.aa aP (λr f he=>by have he:r=au:=he;exact aL (he▸f)) (λr f he=>by have:=aJ r f.2;have he:r=au:=he;omega);have bT:¬(λr=>bQ g gs A r\/r=au) C:=λh=>h.elim (λh=>by have:=ag _ h;omega) (λh=>Ω);have c4:ma K C:=(cN.aa (aw.aa (λ_=>False)) (λh=>h)).aa bm bT;have bV:mV K C acc:=(c8.W bd aw).aa bm bT;obtain⟨bn,bo⟩:=DU (acc:=acc) c0 c1;refine cZ (λW=>aj (bQ g gs A) K W/\dD W g gs A B Z ((eX d6 acc st).map (·.2))) ?_ ?_
 .rintro W ⟨am,c5⟩;have bp:¬bQ g gs A C:=λh=>by have:=ag _ h;omega
  have dR:=aP.size;have dS:=am.size;refine OL (acc:=acc) (t:=t) (c:=c) (ok:=∃q,eX d6 acc st=σ q) (c4.aa am bp) (λ⟨q,L⟩=>⟨c8.aa bV am bp,bf,bi,λS=>?_⟩) λaf az c6 c7=>?_
  .cases M:bk 0 aG ((gG d6 [] (σ st)).map (·.2))with
   |none=>rw[bn M]at L;cases L
   |some an=>rw[bo an M,lw S]at L;cases L
  have dT:=az.size;have da:ai af au eF [aV,Δ c]:=(bl.aa am aL).aa az (λhe=>by have he:au=C:=he;omega);have db:aH .i64 ax af gt aV t:=(c3.aa am (λ_ E=>by have:=ag _ E;omega)).aa az (λ_ he=>by have he:gt=C:=he;omega);rw[bF eF.p eF.i rfl da.range];have bW:bS (fU j.heap.size) b3 af [aV,Δ c] (t,c):=⟨[aV],[Δ c],fU j.heap.size,b3,rfl,λ_ h=>h,λ_ h=>h.elim,λ_ _ _ h=>h,ay.Y (pJ db) (λr _ h=>by subst h;exact cX) (λ_ _ h=>h),rfl⟩;refine lZ (α:=Λ×Int) (a:=(t,c)) (cs:=[aV,Δ c]) (A:=fU j.heap.size) (R:=b3) kk.u eF.i Φ rfl bW λu av ap _ dc=>?_;have z22:=ap.size;have dd:bS (λr=>fU y.heap.size r/\r<j.heap.size/\r≠au) b3 j [out] acc:=bP (ay.Y (oB aE) (λr _ h=>⟨h.1,by have:=h.2;omega,by have:=h.2;omega⟩) λ_ _ h=>h) aw;have bX:aj (λr=>bQ g gs A r\/r=au\/r=C) j av:=(((bm.Y λr _ h=>h.elim .inl λh=>.inr (.inl h)).F (am.Y λr _ h=>.inl h)).F (az.Y λr _ h=>.inr (.inr h))).F (ap.aa _);have df:=ay.aa dd bX λr f h E=>by
   rcases h with h|h
   .have aS:y.heap.size<=r:=h.1;rcases E with E|E|E
    .have:=ag _ E;omega
    .exact h.2.2 E
    .omega
   .exact h
  refine pI (α:=Λ×Int) (a:=(t,c)) (A:=fU j.heap.size) kk.u eF.i rfl df dc (bP bW ap) (λr _ h bg=>?_) Ω Ω λdU aI dg aB=>?_
  .rcases bg with bg|bg
   .have:=h.2;have:j.heap.size<=r:=bg;omega
   .exact bg
  have dV:=aB.size;rw[aR,hx Ω Ω];have dh:aj (bQ g gs A) w av:=ji bh bX λr f h=>by
   rcases h with h|h|h
   .exact h
   .omega
   .omega
  have di:aj (bQ g gs A) w aI:=ji dh aB λr f h=>by have aS:y.heap.size<=r:=h.1;omega
  have dj:dD av g gs A B Z ((eX d6 acc st).map (·.2)):=(c5.aa az (λr f he=>by have he:r=C:=he;exact bp (he▸f)) (λr f he=>by have:=aJ r f.2;have he:r=C:=he;omega)).W ap;have dk:∀r,bQ g gs A r->¬(fU y.heap.size r/\r<j.heap.size/\r≠au):=λr f he=>by have:=ag _ f;have aS:y.heap.size<=r:=he.1;omega
  have dl:∀r,cV g gs A B r->¬(fU y.heap.size r/\r<j.heap.size/\r≠au):=λr f he=>by have:=aJ r f.2;have aS:y.heap.size<=r:=he.1;omega
  have bZ:¬(fU y.heap.size C/\C<j.heap.size/\C≠au):=λhe=>by have aS:y.heap.size<=C:=he.1;omega
  refine⟨⟨i+1,acc++[(t,c)],(eX d6 acc st).map (·.2),rfl,Ω,di,Ω,?_,dj.aa aB dk dl,?_,(c6.aa (ap.aa (λ_=>False)) (λh=>h)).aa aB bZ,Θ,λdm dn=>?_⟩,by simp only[bY];omega⟩
  .refine ay.Y dg (λr _ h=>?_) λ_ _ h=>h;show y.heap.size<=r;rcases h with h|h|h
   .exact h.1
   .have h:j.heap.size<=r:=h;omega
   .omega
  .rw[aK,show N-i=(N-(i+1))+1 by omega];cases G:eX d6 acc st with
   |none=>exact q5 G
   |some q=>
    obtain⟨a,dm⟩:=q;have dp:a=(t,c):=by
     cases M:bk 0 aG ((gG d6 [] (σ st)).map (·.2))with
     |none=>rw[bn M]at G;cases G
     |some an=>
      rw[bo an M]at G;split at G
      .cases G
      .cases G;rfl
    subst dp;exact uP G
  .obtain⟨q,L,rfl⟩:=Y0.1 dn;have dW:=(q2 L).2.2.2.1;refine⟨c8.aa ((c8.W (c7 ⟨q,L⟩) ap)) aB bZ,λp ae=>?_,by simp only[o4,S1];omega⟩;rcases j5.1 ae with ae|ae
   .exact bf p ae
   .rw[Z7.1 ae];exact bi
 .intro dX bq;cases M:bk 0 aG ((gG d6 [] (σ st)).map (·.2))with
  |none=>
   rw[M]at X;have G:=bn M;refine a1 (λv O=>Ext K O/\v= .bool ne) ?_ ?_
   .rintro _ O ⟨Y,rfl⟩;rw[a6];exact bq _ ⟨Y.aa _,by rw[G];exact X.W Y⟩
   .intro dq br;refine(ra X).Y ?_;rintro _ ah _ ⟨rfl,aT⟩;rw[show((ν:Option (Int×aN)).map (·.2)).isSome=ne from rfl,a6];exact br _ _ ⟨aT,rfl⟩
  |some an=>
   rw[M]at X;have G:=bo an M;refine a1 (λv O=>Ext K O/\v= .bool (decide (t∈acc.map (·.1)))) ?_ ?_
   .rintro _ O ⟨Y,rfl⟩;rw[ao];refine⟨λS=>?_,λdr=>?_⟩
    .refine (OE (X.W Y) Ω).Y ?_;rintro _ bE _ bj;obtain⟨ds,dt⟩:=bj.of;exact bq _ ⟨(Y.aa _).F ds,by rw[G,lw S];exact dt⟩
    .exact bq _ ⟨Y.aa _,by rw[G,m1 dr];exact X.W Y⟩
   .intro dq br;refine(ra X).Y ?_;rintro _ ah _ ⟨rfl,aT⟩;rw[show((σ an:Option (Int×aN)).map (·.2)).isSome=ms from rfl,bK,DT (c8.W bV aT) bf bi,bU];refine br _ _ ⟨aT,?_⟩;congr 1;by_cases S:t∈acc.map (·.1)
    .rw[lw S,m3 S];rfl
    .rw[m1 S,m5 S];rfl
theorem DV(d6:Λ)(s:Option aN):kv d6 s=match bk (-aG) aG s with
 |none=>ν
 |some (n,s)=>
  if n<0 then match s.lm[(-n-1).toNat]? with
   |none=>ν
   |some (z,l)=>if z=d6 then σ (l,s)else ν
  else c6 (eX d6) n.toNat [] (lA n s):=by
 cases s with
 |none=>rfl
 |some s=>
  show eh d6 s=_;unfold eh;show _=match br (-aG) aG s with
   |none=>ν
   |some (n,s)=>
    if n<0 then match s.lm[(-n-1).toNat]? with
     |none=>ν
     |some (z,l)=>if z=d6 then σ (l,s)else ν
    else c6 (eX d6) n.toNat [] (lA n s)
  cases br (-aG) aG s<;>rfl
theorem DW{m:Bool}{S R:ak}{cs:List x1}{a:l6}(h:ay.rep (α:=l6) m S R w cs a):∃u v,cs=[u,v]/\ay.rep (α:=Λ) ne b3 R w [u] a.1/\ay.rep (α:=List (Λ×Int)) ne b3 R w [v] a.2:=by
 obtain⟨c,d,f,j,rfl,_,_,_,h1,e⟩:=h;have h1:=h1;have e:=e;obtain⟨u,rfl⟩:=W6.1 (show c.length=1 from ay.len h1);obtain⟨v,rfl⟩:=W6.1 (show d.length=1 from ay.len e);exact⟨u,v,rfl,h1,e⟩
theorem ON{g:Nat}{A B:ak}{s:Option aN}{L:Bool}(h:dD w g gs A B L s)(hi:∀t,s=σ t->ei t)(ap:aQ .i64 w sv d6)(ad:∀r,hv sv r->¬bQ g gs A r/\r<w.heap.size)(au:∀z∈d6,1<=z/\z<=aG)(av:d6.length<=100001)(aw:fD w)(h1:cV g gs A B 1):
  aq x7 Kw [Γ g,sv] w λv I=>gE w g gs A B L ((kv d6 s).map (·.2)) I/\∃l,Seen (λr=>cV g gs A B r\/w.heap.size<=r) I [v] (show List (Λ×Int)from l)/\∀q,kv d6 s=σ q->l=q.1:=by
 have ax:=h.side;obtain⟨a7,a8,ba,ay,bb⟩:=id ax;have ag:∀r,bQ g gs A r->r<w.heap.size:=ay;refine aF func173 ?_;refine(nV (lo:=-aG) (hi:=aG) h).Y ?_;rintro _ U _ ⟨az,n,at_,rfl,M,bc⟩;obtain⟨H,ae⟩:=az.of;have bd:=H.size;have j:=DV d6 s;rw[bx,bz];have af:=jC ap H λr O a n c ac P=>(ad r ⟨a,n,c,ac,P⟩).1 O;have be:∀r,hv sv r->¬bQ g gs A r/\r<U.heap.size:=by grind
 have rest:∀ab,Ext U ab->(∀q,bk (-aG) aG s=σ q->¬n<0)->∀N:Nat,n=(N:Int)->(N:Int)<=aG->∀x,aj (bQ g gs A) ab x->dD x g gs A B L (((bk (-aG) aG s).map (·.2)).map (lA n))->
   ∀v I l,gE x g gs A B L ((fV (eX d6) N [] (((bk (-aG) aG s).map (·.2)).map (lA n))).map (·.2)) I->bS (fU x.heap.size) b3 I [v] (show List (Λ×Int)from l)->(∀q,fV (eX d6) N [] (((bk (-aG) aG s).map (·.2)).map (lA n))=σ q->l=q.1)->
   gE w g gs A B L ((kv d6 s).map (·.2)) I/\∃l,Seen (λr=>cV g gs A B r\/w.heap.size<=r) I [v] (show List (Λ×Int)from l)/\∀q,kv d6 s=σ q->l=q.1:=by
  intro ab y J N Q R x E S v I l aB aC aE;obtain⟨aH,aI⟩:=aB.of;have aJ:=y.size;have z3:=E.size;have e:kv d6 s=fV (eX d6) N [] (((bk (-aG) aG s).map (·.2)).map (lA n)):=by
   rw[j];cases f:bk (-aG) aG s with
   |none=>rfl
   |some q=>
    obtain⟨aK,s1⟩:=q;have:=M _ f;subst this;simp only;rw[m1 (J _ f),Q,u5];rfl
  rw[e];refine⟨gE.mk (((H.F (y.aa _)).F E).F aH) aI,l,r3 aC λr _ h=>?_,aE⟩
  grind
 refine a1 (λv ab=>Ext U ab/\v= .bool (decide (n<0/\(bk (-aG) aG s).isSome=ms))) ?_ ?_
 rotate_left
 .intro aA V;refine(ra ae).Y ?_;rintro _ ab _ ⟨rfl,y⟩;cases f:bk (-aG) aG s with
  |none=>
   rw[show((ν:Option (Int×aN)).map (·.2)).isSome=ne from rfl,a6]
   grind
  |some q=>
   rw[show((σ q:Option (Int×aN)).map (·.2)).isSome=ms from rfl,bK,aW]
   grind
 rintro _ ab ⟨y,rfl⟩;have G:=ae.W y;have aJ:=y.size;rw[ao];refine⟨λJ=>?_,λbf=>?_⟩
 rotate_left
 .have J:∀q,bk (-aG) aG s=σ q->¬n<0:=by grind
  obtain⟨N,Q,R⟩:∃N:Nat,n=(N:Int)/\(N:Int)<=aG:=by
   cases f:bk (-aG) aG s with
   |none=>grind [aG]
   |some q=>
    have h1:=J q f;have aM:=oM f
    grind
  refine OH G (λt aO=>?_) λx E S=>?_
  .obtain⟨q,f,rfl⟩:=Y0.1 aO;have aM:=oM f;have bg:=M q f;refine⟨Ω,Ω,?_⟩;cases s with
   |none=>cases f
   |some s0=>
    have ah:=(dS f).eqs;have ai:=hi s0 rfl;intro al;rw[ah.1];rw[ah.2.1]at al;exact ai al
  .have z3:=E.size;have aP:aj (bQ g gs A) w x:=(H.F (y.aa _)).F E;subst Q;refine OM S ((jC (af.W y) E λr O a n c ac P=>(ad r ⟨a,n,c,ac,P⟩).1 O)) (by grind) au av (aw.aa aP h1.1) h1 R λv I l a b c=>?_;exact rest ab y J N rfl R x E S v I l a b c
 .obtain⟨aR,aS⟩:=J;obtain⟨⟨aK,s1⟩,f⟩:=Option.isSome_iff_exists.1 aS;have:=M _ f;subst this;have bh:=oM f;rw[f]at j G;simp only at j;rw[lw aR]at j;have G:=G;obtain⟨_,ai,bi,big,bj,bl,li,bm,W,bn,X⟩:=id G;have bo:aG=4611686018427387904:=rfl;refine a1 (λv x=>Ext ab x/\v= .bool (decide (kv d6 s=ν))) ?_ ?_
  .rintro _ x ⟨C,rfl⟩;rw[ao];refine⟨λaT=>?_,λaU=>?_⟩
   .refine (uM (G.W C) Ω).Y ?_;rintro _ bp _ ⟨aV,aX⟩;rw[aT];refine⟨gE.mk (((H.F (y.aa _)).F (C.aa _)).F (aV.Y λr _ h=>.inl h)) aX,[],jf,by grind⟩
   .cases K:s1.lm[(-n-1).toNat]? with
    |none=>rw[K]at j;exact m2 j aU
    |some q=>
     obtain⟨z,l⟩:=q;rw[K]at j;simp only at j;have aZ:z=d6:=by
      grind
     rw[lw aZ]at j;rw[aL cH.p 3 (W.W C) rfl,nJ,hx Ω Ω,c5,hx Ω Ω];refine lY (i:=(-n-1).toNat) Ω jc.u lf.i (bP X C) K λb o cs Y Z=>?_;obtain⟨u,v,rfl,hu,ac⟩:=DW Z;rw[aY lf.p rfl,aD Ψ (Y 1 v rfl)];rw[j];refine⟨gE.mk ((H.F (y.aa _)).F (C.aa _)) (G.W C),l,r3 ac λr _ h=>?_,by grind⟩
     grind
  .intro aA V;rw[nJ,hx Ω Ω,aL cH.p 3 W rfl,jB jc.u X,bU,ao];refine⟨λam=>V _ _ ⟨Ext.refl _,?_⟩,λan=>?_⟩
   .have am:(s1.lm.length:Int)<0-n:=am;rw[V0 Ω]at j;rw[m3 j]
   .have an:¬(s1.lm.length:Int)<0-n:=an;have a2:(-n-1).toNat<s1.lm.length:=Ω
    obtain⟨⟨z,l⟩,K⟩:∃q,s1.lm[(-n-1).toNat]?=σ q:=⟨_,x8 a2⟩;rw[aL cH.p 3 W rfl,nJ,hx Ω Ω,c5,hx Ω Ω];refine lY (i:=(-n-1).toNat) Ω jc.u lf.i X K λb o cs Y Z=>?_;obtain⟨u,v,rfl,hu,ac⟩:=DW Z;rw[aY lf.p rfl,aD Ψ (Y 0 u rfl)];refine(uu (dy hu) (af.W y)).Y ?_;rintro _ x _ ⟨rfl,C⟩;rw[bE];refine V _ _ ⟨C,?_⟩;rw[K]at j;simp only at j;by_cases bq:z=d6
    all_goals grind
abbrev rb(n:Nat):ak:=λr=>r<n
def sJ(n:Int)(k:Nat)(s:Option aN):Option (Λ×aN):=s.bind (fs n k)
theorem OO{g k:Nat}{A B:ak}{s:Option aN}{m:Int}(h:dD w g gs A B f s)(hk:k<=4611686018427387904)(hm:0<=m/\m<=1000000):
  aq x7 Bu [Γ g,Δ (k:Int),Δ m] w λv I=>gE w g gs A B f ((sJ m k s).map (·.2)) I/\
   ∃gr l,aH .i64 ax I gr v l/\(∀r,hv v r->w.heap.size<=r)/\l.length<=100001/\∀q,sJ m k s=σ q->l=q.1:=by
 cases s with
 |some s=>exact NB h hk hm
 |none=>
  have h:=h;refine aF func171 ?_;refine⟨λout x U=>w=U/\out= .slice ν 0 0/\x=Δ 0,λ_ _ _=>0,⟨rfl,rfl,rfl⟩,?_⟩;rintro _ _ _ ⟨rfl,rfl,rfl⟩;refine a1 (λv ab=>Ext w ab/\v= .bool ne) ?_ ?_
  .rintro _ ab ⟨e,rfl⟩;rw[a6];exact⟨gE.mk (e.aa _) (h.W e),0,[],aH.nil _ _ _ _,λr y=>m2 y (λh=>by obtain⟨a,n,c,h,_⟩:=h;cases h),Ξ,λq z=>by cases z⟩
  .intro aA j;rw[aW,ao];refine⟨λ_=>?_,λ_=>j _ _ ⟨Ext.refl _,rfl⟩⟩;refine(pT h).Y ?_;rintro _ ab _ ⟨rfl,e⟩;exact j _ _ ⟨e,rfl⟩
def va(z:Λ)(l:List (Λ×Int))(s:aN):aN:={s with lm:=s.lm++[(z,l)]}
def DX(w:x4)(g gs:Nat):Prop:=∃(e big a f li:Int)(sv:x1),ai w g cH (jF gs e big a f li sv)/\e≠0
def jm(w:x4)(g gs:Nat)(A:ak)(B:ak)(a:Bool)(s:Option aN):Prop:=match s with
 |some s=>ey w g gs A B s a
 |none=>DX w g gs
theorem dD.q{g:Nat}{A:ak}{B:ak}{a:Bool}{s:Option aN}(h:dD w g gs A B a s):jm w g gs A B a s:=by
 cases s with
 |some s=>exact h
 |none=>
  obtain⟨_,e,big,f,j,li,sv,l,r,x,_⟩:=h;exact⟨e,big,f,j,li,sv,r,x.1⟩
theorem jm.aa{g:Nat}{A:ak}{B:ak}{a:Bool}{s:Option aN}(h:jm w g gs A B a s)(J:aj S w I)(j:¬S g)(q:∀r,bQ g gs A r->r<w.heap.size->¬S r)(x:∀r,cV g gs A B r->¬S r):jm I g gs A B a s:=by
 cases s with
 |some s=>
  have h:=h;exact ey.aa h J (λr f=>q r f (h.1.2.2.2.1 r f)) x
 |none=>
  obtain⟨e,big,y,z,li,sv,C,E⟩:=h;exact⟨e,big,y,z,li,sv,C.aa J j,E⟩
theorem jm.W{g:Nat}{A:ak}{B:ak}{a:Bool}{s:Option aN}(h:jm w g gs A B a s)(J:Ext w I):jm I g gs A B a s:=h.aa (J.aa λ_=>False) (λh=>h) (λ_ _ _ h=>h) (λ_ _ h=>h)
theorem DY{g:Nat}{A:ak}{B:ak}{s:Option aN}{a:Bool}(h:jm w g gs A B a s):aq x7 mE [Γ g] w λv I=>v= .bool s.isSome/\Ext w I:=by
 cases s with
 |none=>
  obtain⟨e,big,q,r,li,sv,f,j⟩:=h;refine(xU f).Y ?_;rintro _ U _ ⟨rfl,J⟩;exact⟨by rw[m5 j];rfl,J⟩
 |some s=>exact q4 h
theorem jj.bb{g:Nat}{R':Nat->Prop}(h:jj w g R d9 f)(J:aj S w I)(q:¬S g)(s:∀r,R r->¬S r)(x:∀r,R r->R' r):jj I g R' d9 f:=by
 obtain⟨y,p,a,⟨h1,z,A,B,bf,C⟩,j,E⟩:=h;exact⟨y,p,a,⟨h1,z,A,B.aa J q,bf,bB C J λr e=>s r (j r e)⟩,λr e=>x r (j r e),E⟩
theorem nW{α:Type}[ay α]{m:Bool}{S R:ak}{l:List α}(h:ay.rep m S R w [v] l):∃a n c,v= .slice a n c:=by
 obtain⟨vs,e,F,ae,he,V,hm⟩:=kP h;obtain⟨f,b,o,base,cap,rfl,_⟩:=V;exact⟨_,_,_,rfl⟩
def nX(w:x4)(g gs:Nat)(A:ak)(B:ak)(R:ak)(a:Bool)(s:Option aN):Prop:=match s with
 |some s=>mS w g gs A B/\jj w gs R s.d9 a/\(0<=s.li/\s.li<=aG/\s.lm.length+s.d9.length<=100000)/\
  ∃big e f li sv,ai w g cH (jF gs 0 big e f li sv)/\((s.big=ms↔big≠0)/\(s.big=ne->li=s.li))/\bS A R w [sv] (show List l6 from s.lm)
 |none=>DX w g gs
theorem nX.aa{g:Nat}{A R:ak}{B:ak}{x:Bool}{s:Option aN}(h:nX w g gs A B R x s)(J:aj S w I)(y:¬S g)(z:∀r,bQ g gs A r->r<w.heap.size->¬S r)(C:∀r,R r->¬S r):nX I g gs A B R x s:=by
 cases s with
 |some s=>
  obtain⟨h1,E,F,big,a,f,li,sv,j,q,G⟩:=h;have H:=h1.2.2.2.1;exact⟨h1.aa J,E.aa J (z gs (.inr (.inl rfl)) (H _ (.inr (.inl rfl)))) C,F,big,a,f,li,sv,j.aa J y,q,ay.aa G J λr K h=>h.elim (λh=>z r (.inr (.inr h)) K) (C r)⟩
 |none=>
  obtain⟨e,big,a,f,li,sv,j,q⟩:=h;exact⟨e,big,a,f,li,sv,j.aa J y,q⟩
theorem nX.out{g:Nat}{A R B e:ak}{s:Option aN}(h:nX w g gs A B R f s)(j:∀r,R r->cV g gs A e r)(q:∀r,e r->r<w.heap.size):jm w g gs A e f s:=by
 cases s with
 |some s=>
  obtain⟨⟨x,y,z,C,P⟩,⟨E,p,a,F,G,H⟩,I,big,J,K,li,sv,L,M,N⟩:=h;exact⟨⟨x,y,z,C,q⟩,⟨E,p,a,F,λr O=>j r (G r O),H⟩,I,big,J,K,li,sv,L,M,ay.Y N (λ_ _ h=>h) λr _ h=>j r h⟩
 |none=>exact h
theorem dD.qr{g:Nat}{A R:ak}{B:ak}{y:Bool}{s:Option aN}(h:dD w g gs A B y s)(z:∀r,cV g gs A B r->R r):nX w g gs A B R y s:=by
 cases s with
 |some s=>
  obtain⟨h1,⟨C,p,a,E,F,G⟩,H,big,f,j,li,sv,q,x,I⟩:=h;exact⟨h1,⟨C,p,a,E,λr J=>z r (F r J),G⟩,H,big,f,j,li,sv,q,x,ay.Y I (λ_ _ h=>h) λr _ h=>z r h⟩
 |none=>
  obtain⟨_,e,big,f,j,li,sv,l,q,x,_⟩:=h;exact⟨e,big,f,j,li,sv,q,x.1⟩
theorem OP{g M:Nat}{A B R:ak}{s:Option aN}{N:Bool}{aZ ax u:x1}{z:Λ}{l:List (Λ×Int)}{K:x4->Prop}(h:dD w g gs A B N s)(O:∀r,cV g gs A B r->R r)(ah:∀r,R r->cV g gs A (rb w.heap.size) r)(al:∀t,s=σ t->t.lm.length+1+t.d9.length<=100000)(am:ai w M cq [aZ,u,ax,v])(hu:ay.rep (α:=Λ) ne b3 R w [u] z)(ac:ay.rep (α:=List (Λ×Int)) ne b3 R w [v] l)(az:∀I aP,aj (bQ g gs A) w I->(∀r,aP r->A r\/w.heap.size<=r)->nX I g gs aP (rb w.heap.size) R N (s.map (va z l))->K I):
  ad x7 (b0 (Γ g)) w λP=>
  ad x7 (u6 cH P 3) w λQ=>
  ad x7 (u4 jc Q) w λan=>
  ad x7 (u6 cq (Γ M) 1) w λt76=>
  ad x7 (u4 aC t76) w λt77=>
  ad x7 (u6 cq (Γ M) 3) w λaA=>
  ad x7 (u4 kk aA) w λaB=>
  ad x7 (Instr.build lf #[(0,t77),(1,aB)]) w λaD=>
  aM x7 (Y3 jc 1 #[(0,aD)]) w λaF F=>
   (Ext w F\/cK x7 (u4 jc Q) an F/\cK x7 (u6 cH P 3) Q F/\cK x7 (b0 (Γ g)) P F/\True)/\
   aM x7 (c9 #[jc,jc] jc #[an,aF]) F λaG S=>
    ad x7 (b0 (Γ g)) S λaH=>
    ad x7 (u6 cH aH 3) S λaI=>
    aM x7 (o7 jc aI aG) S λ(_:Unit)aJ=>K aJ:=by
 obtain⟨aK,e,big,j,q,li,sv,H,y,aE,a2,aQ⟩:mS w g gs A B/\∃e big j q li sv,∃H:List l6,ai w g cH (jF gs e big j q li sv)/\bS A R w [sv] H/\H.length<=100000/\
   ∀I aP C,mS I g gs aP (rb w.heap.size)->aj (λr=>A r\/r=g) w I->ai I g cH (jF gs e big j q li C)->bS aP R I [C] (H++[((z,l):l6)])->nX I g gs aP (rb w.heap.size) R N (s.map (va z l)):=by
  cases s with
  |none=>
   obtain⟨h1,e,big,j,q,li,sv,fS,W,L,X⟩:=h;exact⟨h1,e,big,j,q,li,sv,fS,W,ay.Y X (λ_ _ h=>h) λr _ h=>O r h,L.2,λI aP C V _ y aE=>⟨e,big,j,q,li,C,y,L.1⟩⟩
  |some s=>
   obtain⟨h1,aR,ao,big,j,q,li,sv,W,L,X⟩:=h;have al:=al s rfl;refine⟨h1,0,big,j,q,li,sv,s.lm,W,ay.Y X (λ_ _ h=>h) λr _ h=>O r h,(show s.lm.length<=100000 by omega),λI aP C V aS y aE=>⟨V,?_,⟨ao.1,ao.2.1,?_⟩,big,j,q,li,C,y,L,aE⟩⟩
   .exact jj.bb aR aS (λhe=>he.elim h1.2.2.1 λh=>h1.1 h.symm) (λr f he=>he.elim (λh=>f.1 (.inr (.inr h))) λh=>f.1 (.inl h)) O
   .show (s.lm++[(z,l)]).length+s.d9.length<=100000;simp;omega
 obtain⟨aT,Y,aU,ap,a6⟩:=id aK;rw[aL cH.p 3 y rfl,aO cq.p 1 am rfl,aO cq.p 3 am rfl];rw[dk (cs:=#[u,v]) (by obtain⟨_,_,_,rfl⟩:=nW hu;obtain⟨_,_,_,rfl⟩:=nW ac;kernel_rfl)];have aq:bS (λ_=>False) R w [u,v] ((z,l):l6):=⟨[u],[v],b3,b3,rfl,λ_ h=>h,λ_ h=>h,λ_ _ h _=>h,hu,ac⟩;refine lZ (α:=l6) (a:=(z,l)) (R:=R) jc.u lf.i Φ rfl aq λx U E _ J=>?_;have a7:=E.size;refine⟨.inl E,?_⟩;refine pI jc.u lf.i rfl (bP aE E) J (bP aq E) (λr _ aV G=>?_) Ω Ω λaW ab Z ae=>?_
 .rcases G with G|G
  .exact G
  .exact (ah r G).1 (.inr (.inr aV))
 have a8:=ae.size;have aX:=(y.W E).aa ae Y;rw[bR,aY cH.p rfl];refine bs (g:=g) (o:=6) jc.i (r4 Z) (jS Z) aX (by simp[jF]) λaf au ba ag=>?_;have ag:=ag;have av:aj (λr=>A r\/r=g) w af:=((E.aa _).F (ae.Y λr _ h=>.inl h)).F (au.Y λr _ h=>.inr h);let aP:ak:=λr=>(A r\/w.heap.size<=r)/\r<ab.heap.size;have bc:g<w.heap.size:=ap g (.inl rfl);have bd:=ap gs (.inr (.inl rfl));have a1:=ay.Y (S':=aP) (R':=R) Z (λr f h=>⟨h.elim .inl λh=>h.elim False.elim λh=>.inr Ω,f⟩) (λr f h=>h);refine az af aP (av.Y λr _ h=>h.elim (λh=>.inr (.inr h)) .inl) (λr f=>f.1) (aQ af aP aW ⟨aT,λh=>h.1.elim Y λh=>Ω,λh=>h.1.elim aU λh=>Ω,λr f=>?_,?_⟩ av ag (ay.aa a1 au λr f aw he=>?_))
 .rcases f with rfl|rfl|f
  .omega
  .omega
  .have:=f.2;omega
 .intro r f;have f:r<w.heap.size:=f;omega
 .have he:r=g:=he;subst he;rcases aw with aw|aw
  .exact aw.1.elim Y λh=>Ω
  .exact (ah _ aw).1 (.inl rfl)
theorem OQ{e:Nat}{aZ E:x1}{M:x4->Prop}(N:ai w e cq [aZ,.slice ν 0 0,Δ 0,.slice ν 0 0])(O:aQ .i64 w aZ scope)(X:∀r,hv aZ r->r≠e)(Y:aQ .i64 w E all)(Z:∀r,hv E r->r≠e)(ac:∀v∈scope,0<=v/\v<all.length)(aE:scope.length<=100001)(ae:∀I ho gz,aj (λr=>r=e) w I->ai I e cq [aZ,ho,Δ 0,.slice ν 0 0]->aH .i64 ax I gz ho (scope.map λv=>all.getD v.toNat 0)->w.heap.size<=gz->M I):
 b6 (Δ 0) w λF s k=>
  ad x7 (aU .lss al ne ne F (Δ (scope.length:Int))) s λaf=>
  Split af (ad x7 (n9 aC aZ F) s λag=>
  ad x7 (u4 ax ag) s λah=>
  eP s λf=>
  ad x7 (u6 cq (Γ e) 1) f λt39=>
  ad x7 (u4 aC t39) f λP=>
  ad x7 (n9 aC E ah) f λak=>
  ad x7 (u4 ax ak) f λam=>
  aM x7 (Y3 aC 1 #[(0,am)]) f λt45 z=>
   (Ext f z\/cK x7 (u4 aC t39) P z/\cK x7 (u6 cq (Γ e) 1) t39 z/\True)/\
  aM x7 (c9 #[aC,aC] aC #[P,t45]) z λt46 Q=>
   ad x7 (u6 cq (Γ e) 1) Q λan=>
   aM x7 (o7 aC an t46) Q λ(_:Unit)R=>
    ad x7 (aU .add al ne ms F (Δ 1)) R λap=>
  k ap R) (M s):=by
 have aF:=N.lt;refine b6.range scope.length (λi U=>aj (λr=>r=e) w U/\∃ho gz,ai U e cq [aZ,ho,Δ 0,.slice ν 0 0]/\aH .i64 ax U gz ho ((scope.take i).map λv=>all.getD v.toNat 0)/\w.heap.size<=gz) O.le ⟨aj.refl _ _,_,w.heap.size,N,aH.nil _ _ _ _,p9 _⟩ ?_ ?_
 rotate_left
 .rintro U aq ⟨j,ho,gz,A,B,S⟩;rw[o6]at B;rw[aW,ao];exact⟨λh=>Ω,λ_=>ae U ho gz j A B S⟩
 rintro i U aq hi ⟨j,ho,gz,A,B,S⟩ au;obtain⟨v,G⟩:=aK (l:=scope) hi;have aG:=ac v (x6 G);have av:all[v.toNat]?=σ (all.getD v.toNat 0):=by
  rw[p8,x8 Ω];rfl
 have aw:=jC O j λr C a n c H J=>X r ⟨a,n,c,H,J⟩ C;have ay:=jC Y j λr C a n c H J=>Z r ⟨a,n,c,H,J⟩ C;refine bM Ω ?_;rw[bm aC.u ax.i Ψ aw G];intro ab q _ _;have aI:=j.size;have aJ:=q.size;rw[aO cq.p 1 (A.W q) rfl];rw[fO (y:=v) (i:=v.toNat) Ω aC.u ax.i Ψ (ay.W q) av];refine eI aC.u ax.i rfl λa ga aL aN x az=>?_;refine⟨.inl x,?_⟩;have z3:=x.size;refine kN aC.u ax.i rfl ((B.W q).W x) az.ls Θ Θ λaA aB aP aS K V=>?_;rw[aY cq.p rfl];have aD:=((A.W q).W x).aa V (λhe=>by have he:=he;omega);refine bs (g:=e) (o:=1) aC.i K.ls.cells.1 K.ls.cells.2 aD Ξ λaT W aV L=>?_;have L:=L;rw[aR];refine au _ ⟨(ji (j.F ((q.F x).aa _)) V λr C he=>by have he:r=gz:=he;omega).F W,aA,aB,L,?_,Ω⟩;rw[u7,G,o8,Z2];exact K.aa W (λ_ he=>by have he:=he;omega)
abbrev j1:Type:=Rd (Λ)×Rd (Λ)×Int×Rd (List (Λ×Int))
def jn(f:cE):j1:=(f.scope,f.d6,f.other,f.lines)
theorem DZ{R:ak}{aZ ho cu:x1}{o:Int}{sc:Λ}{l:List (Λ×Int)}(h1:ay.rep (α:=Λ) ne b3 R w [aZ] sc)(e:ay.rep (α:=Λ) ne b3 R w [ho] a)(f:ay.rep (α:=List (Λ×Int)) ne b3 R w [cu] l):
  Seen R w [aZ,ho,Δ o,cu] ((sc,a,o,l):j1):=
 ⟨[aZ],[ho,Δ o,cu],b3,b3,rfl,λ_ h=>h,λ_ h=>h,λ_ _ h _=>h,h1,[ho],[Δ o,cu],b3,b3,rfl,λ_ h=>h,λ_ h=>h,λ_ _ h _=>h,e,[Δ o],[cu],b3,b3,rfl,λ_ h=>h,λ_ h=>h,λ_ _ h _=>h,rfl,f⟩
theorem sK{R:ak}{g:Nat}(h:aH .i64 e w g v l)(s:∀r,hv v r->R r):ay.rep (α:=Λ) ne b3 R w [v] l:=by
 have h1:bS (λr=>r=g) b3 w [v] l:=pJ h;obtain⟨vs,x,F,ae,he,V,hm⟩:=kP h1;refine⟨v,rfl,vs,x,λ_ _=>False,⟨λ_ _ h=>h,λh=>(by cases h),λh=>by cases h⟩,⟨he.1,λi c a y z=>?_⟩,?_,λh=>by cases h⟩
 .exact he.2 i c a y z
 .obtain⟨f,b,o,base,cap,rfl,A,B,j,G,C⟩:=V;refine⟨f,b,o,base,cap,rfl,A,B,j,λq=>.inr (s b ?_),C⟩;have E:0<l.length:=by
   rw[f]at q;rcases Nat.eq_zero_or_pos l.length with h|h
   .rw[h,Nat.zero_mul]at q;omega
   .exact h
  exact⟨⟨b,o,ν⟩,l.length,cap,by rw[j E],rfl⟩
theorem D0{α:Type}[ay α]{R R':ak}{cs:List x1}{a:α}(h:Seen R w cs a)(e:∀r,r<w.heap.size->R r->R' r):Seen R' w cs a:=ay.Y h (λ_ _ h=>h) e
theorem D1{f a:Nat}{cs:List x1}{K:x1->x4->Prop}(e:cs.length=4)(h1:∀v∈cs,v.oneCell'=ms)(q:ai w f cq cs){h:List x1}(s:h.length=4)(x:ai w a cq h)(y:∀I,aj (λr=>r=a) w I->K (.agg cs.toArray) I):
  ad x7 (u4 cq (Γ f)) w λz=>
  aM x7 (o7 cq (Γ a) z) w λ(_:Unit)j=>
  ad x7 (do loadVar cq (<-asAddr (Γ a))) j λA=>K A j:=by
 rw[bF cq.p cq.i e q.range];refine b8 cq.i e s h1 x λI B _ C=>?_;rw[gk cq.p cq.i e C.range];exact y I B
theorem D2{s s':aN}{l:List (Λ×Int)}(h:eh d6 s=σ (l,s')):s'.lm=s.lm/\s'.d9.length<=s.d9.length:=by
 unfold eh at h;cases e:br (-aG) aG s with
 |none=>rw[e]at h;cases h
 |some q=>
  obtain⟨n,s1⟩:=q;rw[e]at h;simp only at h;have h1:=dS e;obtain⟨w,x,f⟩:=h1.eqs;split at h
  .cases V:s1.lm[(-n-1).toNat]? with
   |none=>rw[V]at h;cases h
   |some q=>
    obtain⟨z,fS⟩:=q;rw[V]at h;simp only at h;split at h
    .simp only[W9,R5]at h;obtain⟨rfl,rfl⟩:=h;exact⟨f,by have:=h1.1;omega⟩
    .cases h
  .have:=mQ (λacc t=>t.lm=s.lm/\t.d9.length<=s.d9.length) (λacc t a bu ⟨r,y⟩ g=>by
    obtain⟨A,B,C,j⟩:=q2 g;obtain⟨f1,f2,f3⟩:=j.eqs;exact⟨by rw[f3,r],by have:=j.1;omega⟩) n.toNat [] (bp (decide (16384<min (s1.li+n) aG)) {s1 with li:=min (s1.li+n) aG}) l s' ⟨f,by have:=h1.1;show s1.d9.length<=_;omega⟩ h
   exact this.1
theorem OR{g:Nat}{A B:ak}{s:aN}{S:Bool}{bb:x1}(h:ey w g gs A B s S)(hi:ei s)(bJ:aQ .i64 w bb all)(bc:∀r,hv bb r->¬bQ g gs A r/\r<w.heap.size)(cj:∀z∈all,1<=z/\z<=aG)(di:all.length<=100001)(ck:fD w)(h1:cV g gs A B 1):
  aq x7 Bn [Γ g,bb] w λv I=>∃aP V cs,∃bK:j1,v= .agg cs.toArray/\cs.length=4/\aj (bQ g gs A) w I/\(∀r,aP r->A r\/w.heap.size<=r)/\(∀r,V r->(B r\/w.heap.size<=r)/\r<I.heap.size)/\(∀r,B r->V r)/\jm I g gs aP V S ((dz all s).map (·.2))/\
   Seen (cV g gs aP V) I cs bK/\∀q,dz all s=σ q->bK=jn q.1:=by
 have cl:=h.1;obtain⟨dj,dl,bd,cm,Q⟩:=id cl;have ag:∀r,bQ g gs A r->r<w.heap.size:=cm;have dm:aG=4611686018427387904:=rfl;have dn:=h.2.2.1.2.2;refine aF func111 ?_;refine bC cq.i λE U dp be aL=>?_;have aL:=aL;have dq:=be.size;have dr:=aL.lt;have K:¬bQ g gs A E:=λj=>by have:=ag _ j;omega
 refine(xV (h.W be)).Y ?_;rintro _ ab _ ⟨W,a,at_,rfl,bL,cn⟩;obtain⟨bf,bh⟩:=W.of;have ds:=bf.size;rw[bx,bz,aW,nJ];have dt: -aG<=a/\a<=aG:=by
  cases C:br (-aG) aG s with
  |none=>rw[cn C];unfold aG;omega
  |some q=>rw[bL q C];exact(jD C).1
 rw[hx Ω Ω,r1,show max a (0-a)=((a.natAbs:Nat):Int) by omega];have bM:=(be.aa _).F bf;have cp:=jC bJ bM λr f a n c ac bi=>(bc r ⟨a,n,c,ac,bi⟩).1 f;rw[a7 aC.u cp];refine(OO bh Ω Ω).Y ?_;rintro aZ du _ ⟨W,gr,scope,aw,cr,dv,ct⟩;obtain⟨bj,cw⟩:=W.of;have z3:=bj.size;rw[dk (cs:=#[aZ,.slice ν 0 0,Δ 0,.slice ν 0 0]) (by obtain⟨_,_,_,_,_,rfl,_⟩:=aw.ls;kernel_rfl)];refine bC cq.i λy dw dx az aM=>?_;have aM:=aM;have z4:=az.size;have dy:=aM.lt;have bl:=aw.ls.cells;refine b8 (vs:=[aZ,.slice ν 0 0,Δ 0,.slice ν 0 0]) cq.i rfl rfl (by intro v ac;simp at ac;rcases ac with rfl|rfl|rfl|rfl<;>first|exact bl.2|rfl) aM λaR aB dA cz=>?_;have ah:¬bQ g gs A y:=λj=>by have:=ag _ j;omega
 have bN:dD aR g gs A B S ((sJ all.length a.natAbs ((br (-aG) aG s).map (·.2))).map (·.2)):=(cw.W az).aa aB (λr f he=>by have he:r=y:=he;exact ah (he▸f)) (λr f he=>by have:=Q r f.2;have he:r=y:=he;omega);have bO:aj (bQ g gs A) w aR:=ji ((bM.F bj).F (az.aa _)) aB λr f he=>by have he:r=y:=he;omega
 have cA:ai aR E cq [.slice ν 0 0,.slice ν 0 0,Δ 0,.slice ν 0 0]:=(((aL.aa bf K).aa bj K).W az).aa aB (λhe=>by have he:E=y:=he;omega);have cB:aH .i64 ax aR gr aZ scope:=bB (aw.W az) aB λr f he=>by
  obtain⟨cC,bh⟩:=b5 aw f;have he:r=y:=he;omega
 refine(ra bN).Y ?_;rintro _ bR _ ⟨rfl,X⟩;have al:=bN.W X;have aD:=cB.W X;have bm:=cz.W X;have bS:=cA.W X;have dC:=X.size;have z5:=aB.size;have N:∀r,hv aZ r->ab.heap.size<=r/\r≠y/\r≠E:=λr f=>by
  obtain⟨cC,bh⟩:=b5 aw f;have:=cr r f;exact⟨this,Ω,Ω⟩
 have J:dz all s=match sJ all.length a.natAbs ((br (-aG) aG s).map (·.2))with
   |none=>ν
   |some (sc,H)=>(kv (sc.map λv=>all.getD v.toNat 0) ((bk 0 aG (σ (bp (decide (6<a.natAbs)||dM (sc.map λv=>all.getD v.toNat 0)) H))).map (·.2))).map λq=>((⟨sc,sc.map λv=>all.getD v.toNat 0,((br 0 aG (bp (decide (6<a.natAbs)||dM (sc.map λv=>all.getD v.toNat 0)) H)).map (·.1)).getD 0,q.1⟩:cE),if a<0 then va (sc.map λv=>all.getD v.toNat 0) q.1 q.2 else q.2):=by
  unfold dz;cases C:br (-aG) aG s with
  |none=>rfl
  |some q=>
   obtain⟨a',s1⟩:=q;have:=bL _ C;subst this;simp only;show _=match fs all.length a.natAbs s1 with
    |none=>ν
    |some (sc,H)=>_
   cases fs all.length a.natAbs s1 with
   |none=>rfl
   |some q=>
    obtain⟨sc,H⟩:=q;simp only;show _=V9 _ (kv _ ((br 0 aG _).map (·.2)));cases br 0 aG (bp (decide (6<a.natAbs)||dM (sc.map λv=>all.getD v.toNat 0)) H)with
    |none=>rfl
    |some q=>
     obtain⟨o,G⟩:=q;simp only;show _=V9 _ (eh _ G);cases eh (sc.map λv=>all.getD v.toNat 0) G with
     |none=>rfl
     |some q=>rfl
 rw[bE,b1];cases Y:sJ all.length a.natAbs ((br (-aG) aG s).map (·.2))with
 |none=>
  rw[Y]at al J;simp only at J;refine⟨λ_=>?_,λh=>by simp at h⟩;refine D1 rfl (by intro v ac;simp at ac;rcases ac with rfl|rfl|rfl|rfl<;>first|exact bl.2|rfl) bm rfl bS λZ L=>?_;have cD:=L.size;refine⟨A,λr=>(B r\/w.heap.size<=r)/\r<Z.heap.size,_,(scope,[],0,[]),rfl,rfl,ji (bO.F (X.aa _)) L λr f he=>by have he:r=E:=he;omega,λr f=>.inl f,λr f=>f,λr f=>⟨.inl f,by have:=Q r f;omega⟩,?_,?_,λq C=>by rw[J]at C;cases C⟩
  .rw[J];have cF:jm Z g gs A B S (V9 (λx=>x.2) (ν:Option (Λ×aN))):=al.q.aa L (λhe=>by have:=ag g (.inl rfl);have he:g=E:=he;omega) (λr f _ he=>by have he:r=E:=he;exact K (he▸f)) (λr f he=>by have:=Q r f.2;have he:r=E:=he;omega);exact cF
  .refine DZ (sK (bB aD L λr f he=>(N r f).2.2 he) λr f=>?_) jf jf;have M:=N r f;have am:=(b5 aD f);exact⟨λj=>by have:=ag _ j;omega,.inr Ω,Ω⟩
 |some q=>
  obtain⟨sc,H⟩:=q;have:=ct _ Y;subst this;rw[Y]at al J;simp only at J;refine⟨λh=>by simp at h,λ_=>?_⟩;have al:=al;obtain⟨s1,cG,cH⟩:∃s1,(br (-aG) aG s).map (·.2)=σ s1/\fs all.length a.natAbs s1=σ (scope,H):=by
   cases C:(br (-aG) aG s).map (·.2)with
   |none=>rw[C]at Y;cases Y
   |some s1=>rw[C]at Y;exact⟨s1,rfl,Y⟩
  obtain⟨dE,cI,rfl⟩:=Y0.1 cG;have bT:=dS cI;obtain⟨bV,dF,dG,bW⟩:=xR cH;have bn:=bT.eqs;have bo:=bV.eqs;have cJ:ei H:=λO=>by rw[bo.1,bn.1];rw[bo.2.1,bn.2.1]at O;exact hi O
  have cK:H.lm.length+1+H.d9.length<=100000:=by rw[bo.2.2,bn.2.2];have:=bT.1;have:=bV.1;omega
  generalize bq:(scope.map λv=>all.getD v.toNat 0)=d6 at J;have bX:∀z∈d6,1<=z/\z<=aG:=λz aS=>by
   rw[<-bq]at aS;obtain⟨v,ac,rfl⟩:=o9.1 aS;have:=bW v ac;refine cj _ ?_;rw[p8,x8 Ω];exact T9 _
  have dH:d6.length=scope.length:=by rw[<-bq,u9]
  have bY:aj (bQ g gs A) w bR:=bO.F (X.aa _);have cL:=jC bJ bY λr f a n c ac bi=>(bc r ⟨a,n,c,ac,bi⟩).1 f;rw[aO cq.p 0 bm rfl,a7 aC.u aD.ls];refine OQ bm aD.ls (λr f=>(N r f).2.1) cL (λr f=>by have:=(bc r f).2;omega) bW Ω λZ ho gz L bZ aT dI=>?_;rw[bq]at aT;have cD:=L.size;have bt:∀r,cV g gs A B r->¬(λr=>r=y) r:=λr f he=>by have:=Q r f.2;have he:r=y:=he;omega
  have bu:∀r,bQ g gs A r->¬(λr=>r=y) r:=λr f he=>by have he:r=y:=he;exact ah (he▸f)
  have b0:=al.aa L bu bt;have cM:aj (bQ g gs A) w Z:=ji bY L λr f he=>by have he:r=y:=he;omega
  refine cZ (λaU=>aj (bQ g gs A) Z aU/\ey aU g gs A B (bp (decide (6<a.natAbs)||dM d6) H) S) ?_ ?_
  rotate_left
  .intro aA aI;rw[bU,ao];refine⟨λdJ=>?_,λdK=>?_⟩
   .refine (uN b0).Y ?_;rintro _ cN _ ⟨cO,cP⟩;refine aI _ ⟨cO.Y λr _ h=>.inl h,?_⟩;rw[m3 Ω,Bool.true_or];exact cP
   .rw[aO cq.p 1 bZ rfl];refine(Dj aT.ls λz aS=>(bX z aS).1).Y ?_;rintro _ cN _ ⟨rfl,b2⟩;refine(uN (b0.W b2)).Y ?_;rintro _ dL _ ⟨cQ,cR⟩;refine aI _ ⟨(b2.aa _).F (cQ.Y λr _ h=>.inl h),?_⟩;rw[m5 Ω,Bool.false_or];exact cR
  rintro aU ⟨aV,aX⟩;have dN:=aV.size;generalize bd:bp (decide (6<a.natAbs)||dM d6) H=G at J aX;have cS:ei G:=λO=>by
   subst bd;have O:(H.big||_)=ne:=O;exact cJ (T5.1 O).1
  have dO:G.lm.length+1+G.d9.length<=100000:=by subst bd;exact cK
  have aX:dD aU g gs A B S (σ G):=aX;refine(nV (lo:=0) (hi:=aG) aX).Y ?_;rintro _ b4 _ ⟨W,o,dP,rfl,aE,dQ⟩;obtain⟨a1,cT⟩:=W.of;have dR:=a1.size;rw[bx,bz,aY cq.p rfl];have cU:=(bZ.aa aV ah).aa a1 ah;refine bs (g:=y) (o:=2) ax.i rfl rfl cU Ξ λcW an dT a2=>?_;have a2:=a2;rw[aO cq.p 1 a2 rfl];have cX:=cT.aa an bu bt;have bw:aj (bQ g gs A) Z b4:=aV.F a1;have cY:aj (bQ g gs A) w b4:=cM.F bw;have b6:aj (bQ g gs A) w cW:=ji cY an λr f he=>by have he:r=y:=he;omega
  have ad:∀r,hv ho r->bR.heap.size<=r/\r<Z.heap.size:=λr f=>by have:=b5 aT f;omega
  have b7:=bB (bB aT bw λr f j=>by have:=ag _ j;have:=ad r f;omega) an λr f he=>by have he:r=y:=he;have:=ad r f;omega
  have c0:=bB (bB (bB aD L λr f he=>(N r f).2.1 he) bw λr f j=>by have:=ag _ j;have:=N r f;omega) an λr f he=>(N r f).2.1 he;have dU:=an.size;refine(ON cX (λt bA=>?_) b7.ls (λr f=>⟨λj=>by have:=ag _ j;have:=ad r f;omega,by have:=ad r f;omega⟩) bX Ω (ck.aa b6 h1.1) h1).Y ?_
  .obtain⟨q,C,rfl⟩:=Y0.1 bA;have b9:=(dS C).eqs;intro O;rw[b9.1];rw[b9.2.1]at O;exact cS O
  rintro cu c1 _ ⟨W,l,bD,ca⟩;obtain⟨ap,c2⟩:=W.of;have dV:=ap.size;have bF:cu.cells= #[cu]/\cu.oneCell'=ms:=⟨r4 bD,jS bD⟩;rw[aY cq.p rfl];have c3:=a2.aa ap ah;refine bs (g:=y) (o:=3) kk.i bF.1 bF.2 c3 Ξ λP ae dW a6=>?_;have a6:=a6;have dX:=ae.size;have cb:=c2.aa ae bu bt;have c4:aj (bQ g gs A) w c1:=b6.F ap;have c5:aj (bQ g gs A) w P:=ji c4 ae λr f he=>by have he:r=y:=he;omega
  have cc:=bB (bB c0 ap λr f j=>by have:=ag _ j;have:=N r f;omega) ae λr f he=>(N r f).2.1 he;have a8:=bB (bB b7 ap λr f j=>by have:=ag _ j;have:=ad r f;omega) ae λr f he=>by have he:r=y:=he;have:=ad r f;omega
  have c6:ai P E cq [.slice ν 0 0,.slice ν 0 0,Δ 0,.slice ν 0 0]:=((((((bS.aa L (λhe=>by have he:=he;omega)).aa aV K).aa a1 K).aa an (λhe=>by have he:=he;omega)).aa ap K).aa ae (λhe=>by have he:=he;omega));let R:ak:=λr=>(B r\/w.heap.size<=r)/\r<P.heap.size;have cd:ay.rep ne b3 (λr=>cV g gs A R r/\r≠y/\r≠E) P [cu] l:=by
   refine D0 (ay.aa bD ae λr f h he=>?_) λr f h=>?_
   .have he:r=y:=he;rcases h with h|h
    .exact h
    .rcases h with h|h
     .have:=Q r h.2;omega
     .omega
   .rcases h with h|h
    .have:=Q r h.2;exact⟨⟨h.1,.inl h.2,f⟩,Ω,Ω⟩
    .exact⟨⟨λj=>by have:=ag _ j;omega,.inr Ω,f⟩,Ω,Ω⟩
  have c7:∀r,hv aZ r->cV g gs A R r/\r≠y/\r≠E:=λr f=>by
   have M:=N r f;have am:=(b5 cc f);exact⟨⟨λj=>by have:=ag _ j;omega,.inr Ω,Ω⟩,M.2⟩
  have ce:∀r,hv ho r->cV g gs A R r/\r≠y/\r≠E:=λr f=>by
   have M:=ad r f;have am:=(b5 a8 f);exact⟨⟨λj=>by have:=ag _ j;omega,.inr Ω,Ω⟩,Ω,Ω⟩
  have c8:Seen (λr=>cV g gs A R r/\r≠y/\r≠E) P [aZ,ho,Δ o,cu] ((scope,d6,o,l):j1):=DZ (sK cc c7) (sK a8 ce) cd;have c9:∀q,dz all s=σ q->((scope,d6,o,l):j1)=jn q.1:=λq C=>by
   rw[J]at C;obtain⟨dY,bG,rfl⟩:=Y0.1 C;have M:=ca _ bG;cases au:br 0 aG G with
   |none=>have e:bk 0 aG (σ G)=ν:=au;rw[e]at bG;cases bG
   |some af=>
    have am:=aE af au;rw[M,am];rfl
  have da:∀v∈[aZ,ho,V6 .i64 o,cu],v.oneCell'=ms:=by
   intro v ac;simp at ac;rcases ac with rfl|rfl|rfl|rfl
   .exact bl.2
   .exact a8.ls.cells.2
   .rfl
   .exact bF.2
  have cf:∀r,cV g gs A B r->cV g gs A R r/\r≠y/\r≠E:=λr f=>by
   have:=Q r f.2;exact⟨⟨f.1,.inl f.2,Ω⟩,Ω,Ω⟩
  refine cZ (λbH=>∃aP,aj (bQ g gs A) P bH/\(∀r,aP r->A r\/P.heap.size<=r)/\∃V,nX bH g gs aP V (λr=>cV g gs A R r/\r≠y/\r≠E) S ((dz all s).map (·.2))) ?_ ?_
  .rintro bH ⟨aP,aJ,aK,V,db⟩;have dZ:=aJ.size;refine D1 rfl da (a6.aa aJ ah) rfl (c6.aa aJ K) λcg ba=>?_;have ea:=ba.size;have ch:∀r,bQ g gs aP r->¬(λr=>r=E) r:=λr f he=>by
    have he:r=E:=he;subst he;rcases f with f|f|f
    .exact K (.inl f)
    .exact K (.inr (.inl f))
    .rcases aK _ f with f|f
     .exact K (.inr (.inr f))
     .omega
   have ci:∀r,(cV g gs A R r/\r≠y/\r≠E)->cV g gs aP (λr=>(B r\/w.heap.size<=r)/\r<cg.heap.size/\(r<P.heap.size\/B r)) r:=λr h=>⟨λj=>h.1.1 (j.imp id (Or.imp id λj=>(aK r j).elim id λbg=>by have:=h.1.2.2;omega)),h.1.2.1,by have:=h.1.2.2;omega,.inl h.1.2.2⟩;have dc:=db.aa ba (ch g (.inl rfl)) (λr f _=>ch r f) (λr f=>f.2.2);refine⟨aP,λr=>(B r\/w.heap.size<=r)/\r<cg.heap.size/\(r<P.heap.size\/B r),_,(scope,d6,o,l),rfl,rfl,ji (c5.F aJ) ba λr f he=>by have he:r=E:=he;omega,λr f=>(aK r f).imp id λh=>Ω,λr f=>⟨f.1,f.2.1⟩,λr f=>⟨.inl f,by have:=Q r f;omega,.inr f⟩,dc.out ci λr f=>f.2.1,?_,c9⟩;refine D0 (ay.aa (ay.aa c8 aJ λr _ h j=>?_) ba λr _ h he=>?_) λr _ h=>ci r h
   .rcases h with h|h
    .exact h
    .exact h.1.1 j
   .rcases h with h|h
    .exact h
    .exact h.2.2 he
  .intro aA aI;rw[ao];refine⟨λdd=>?_,λde=>?_⟩
   .intro bI av _ _;have eb:=av.size;have df:∀r,(cV g gs A R r/\r≠y/\r≠E)->cV g gs A (rb bI.heap.size) r:=λr h=>⟨h.1.1,by have:=h.1.2.2;show r<bI.heap.size;omega⟩;refine OP (cb.W av) cf df (λt bA=>?_) (a6.W av) (sK (a8.W av) ce) (bP cd av) λec aP dg aK dh=>?_
    .obtain⟨q,C,rfl⟩:=Y0.1 bA;cases au:br 0 aG G with
     |none=>have e:bk 0 aG (σ G)=ν:=au;rw[e]at C;cases C
     |some af=>
      have e:bk 0 aG (σ G)=σ af:=au;rw[e]at C;have h1:q.2.lm=af.2.lm/\q.2.d9.length<=af.2.d9.length:=D2 (l:=q.1) (s':=q.2) C;have M:=dS (n:=af.1) (s':=af.2) au;have am:=M.eqs.2.2;have ed:=M.1;rw[h1.1,am];have:=h1.2;omega
    .refine aI _ ⟨aP,(av.aa _).F dg,λr f=>(aK r f).imp id λh=>Ω,rb bI.heap.size,?_⟩;have e:(dz all s).map (·.2)=((kv d6 ((bk 0 aG (σ G)).map (·.2))).map (·.2)).map (va d6 l):=by
      rw[J];cases C:kv d6 ((bk 0 aG (σ G)).map (·.2))with
      |none=>rfl
      |some q=>
       have M:=ca _ C;simp only[Y9,lw dd,M]
     rw[e];exact dh
   .refine aI _ ⟨A,aj.refl _ _,λr f=>.inl f,B,?_⟩;have e:(dz all s).map (·.2)=(kv d6 ((bk 0 aG (σ G)).map (·.2))).map (·.2):=by
     rw[J];cases C:kv d6 ((bk 0 aG (σ G)).map (·.2))with
     |none=>rfl
     |some q=>simp only[Y9,m1 de]
    rw[e];exact cb.qr cf
def nY(l:Λ):Prop:=∀v∈l,0<=v/\v<64
theorem D3(h:nY l){v:Int}:v∈bH l↔v∈l:=by
 unfold bH;rw[T6,m6];refine⟨λh=>h.2,λac=>⟨?_,ac⟩⟩;obtain⟨h1,a⟩:=h v ac;exact o9.2 ⟨v.toNat,by grind,Ω⟩
theorem OS(l:Λ):nY (bH l):=λv ac=>by
 obtain⟨n,a,rfl⟩:=o9.1 (T6.1 ac).1
 grind
theorem yg(l:Λ):(bH l).Pairwise (·< ·):=by
 grind [bH,List.pairwise_lt_range]
theorem D4(l:Λ):(bH l).Nodup:=(yg l).imp Ω
where
 nodup_le' {a b:Λ} (h:a.Nodup) (V:∀x∈a,x∈b):a.length<=b.length:=by
  induction a generalizing b with
  |nil=>grind
  |cons x a ih=>
   have bg:=List.nodup_cons.1 h;have J:=V x (.head _);have:=ih bg.2 λy hy=>(List.mem_erase_of_ne (λ(he:y=x)=>bg.1 (by rw[<-he];exact hy))).2 (V y (.tail _ hy))
   grind
theorem D5(n:Nat):(0:Int)<64 ^ n:=Int.pow_pos Ω
theorem vb:∀(l:Λ),nY l->0<=kU l/\kU l<64 ^ l.length
 |[],_=>by simp[kU]
 |x::l,h=>by
  have f:=vb l λy a=>h y (.tail _ a);have J:=h x (.head _);have ae:=D5 l.length;simp only[kU,X5];have e:(64:Int) ^ (l.length+1)=64*64 ^ l.length:=Ω
  have h1:x*64 ^ l.length<=63*64 ^ l.length:=Int.mul_le_mul_of_nonneg_right Ω Ω;have j:0<=x*64 ^ l.length:=Int.mul_nonneg J.1 Ω;omega
def j2:Λ->Λ->Int
 |x::a,y::b=>if x<y then-1 else if y<x then 1 else j2 a b
 |[],[]=>0
 |[],_::_=>-1
 |_::_,[]=>1
theorem D6:∀(a b:Λ),a.length=b.length->nY a->nY b->(j2 a b<0↔kU a<kU b)/\(j2 a b=0↔a=b)/\(kU a=kU b->a=b)
 |[],[],_,_,_=>by simp[j2]
 |[],_::_,h,_,_=>by simp at h
 |_::_,[],h,_,_=>by simp at h
 |x::a,y::b,h,s,w=>by
  have f:a.length=b.length:=by grind
  have j:=λz e=>s z (.tail _ e);have q:=λz e=>w z (.tail _ e);have B:=D6 a b f j q;have A:=vb a j;have C:=vb b q;have ae:=D5 b.length;simp only[j2,kU];rw[f]at A ⊢;have step:∀u v:Int,u<v->u*64 ^ b.length+64 ^ b.length<=v*64 ^ b.length:=λu v E=>by
   have:=Int.mul_le_mul_of_nonneg_right (show u+1<=v by omega) (show(0:Int)<=64 ^ b.length by omega)
   grind
  by_cases h1:x<y
  .grind
  .rw[m1 h1];by_cases r:y<x
   .rw[lw r];have:=step y x r
    grind
   grind
def mb(l:Λ):Prop:=nY l/\l.length<=6
theorem D7(h:mb l):0<=kU l/\kU l<64 ^ 6:=by
 have:=vb l h.1;have e:(64:Int) ^ l.length<=64 ^ 6:=by
  have a:=h.2
  match l.length,a with
  |0,_=>decide
  |1,_=>decide
  |2,_=>decide
  |3,_=>decide
  |4,_=>decide
  |5,_=>decide
  |6,_=>decide
  |n+7,h=>omega
 omega
theorem yh{b:Λ}(f:mb a)(h:mb b):(dt a<dt b↔a.length<b.length\/(a.length=b.length/\j2 a b<0))/\(dt a=dt b->a=b):=by
 have h1:=D7 f;have j:=D7 h;have e:(64:Int) ^ 6=68719476736:=Φ
 rw[e]at h1 j;unfold dt;rw[e];by_cases q:a.length=b.length
 .have:=D6 a b q f.1 h.1
  grind
 omega
theorem yi(g:cX):∀l:List cX,(jE g l).Perm (g::l)
 :=by
 intro a;induction a<;>grind [jE]
theorem OT{g:cX}:∀{l:List cX},l.Pairwise (λa b=>dt a.1<dt b.1)->(∀h∈l,dt h.1≠dt g.1)->(jE g l).Pairwise (λa b=>dt a.1<dt b.1)
 :=by
 intro a;induction a<;>grind [jE,List.pairwise_cons,yi]
theorem D8:∀(l acc:List cX),acc.Pairwise (λa b=>dt a.1<dt b.1)->l.Pairwise (λa b=>dt a.1≠dt b.1)->(∀a∈acc,∀b∈l,dt a.1≠dt b.1)->
  (l.foldl (λl g=>jE g l) acc).Pairwise (λa b=>dt a.1<dt b.1)/\(l.foldl (λl g=>jE g l) acc).Perm (acc++l)
 |[],acc,h,_,_=>by grind
 |g::l,acc,h,e,j=>by
  have f:=List.pairwise_cons.1 e;have:=D8 l (jE g acc) (by grind [OT]) f.2 (by grind [yi])
  grind [yi]
theorem yj{α:Type}{f:α->Int}:∀{L M:List α},L.Pairwise (λa b=>f a<f b)->M.Pairwise (λa b=>f a<f b)->(∀x,x∈L↔x∈M)->L=M
 |[],M,_,_,h=>by
  cases M with
  |nil=>rfl
  |cons y M=>exact m2 ((h y).2 (.head _)) Ξ
 |x::L,[],_,_,h=>m2 ((h x).1 (.head _)) Ξ
 |x::L,y::M,h1,e,h=>by
  have j:=List.pairwise_cons.1 h1;have q:=List.pairwise_cons.1 e;have r:x=y:=by
   grind
  subst r;rw[yj j.2 q.2 λz=>⟨λs=>?_,λs=>?_⟩]
  all_goals grind
structure gH(d6:Λ)(k:Int)(g:cX):Prop where
 scope:mb g.1
 up:g.1.Pairwise (·< ·)
 d7:∀v∈g.1,v<d6.length
 len:g.2.length=(aX (ci d6 g.1)).toNat
 small:aX (ci d6 g.1)<=4096
 jI:∀c∈g.2,0<=c/\c<=k
theorem oN{sc:Λ}(a:∀z∈d6,1<=z/\z<=32)(ac:∀v∈sc,0<=v/\v<d6.length):∀z∈ci d6 sc,1<=z/\z<=32:=λz h=>by
 obtain⟨v,e,rfl⟩:=o9.1 h
 grind [T9]
theorem OU{b:Λ}(h:a.Perm b):aX a=aX b:=by
 induction h<;>grind [aX]
theorem OV{b:Λ}(h:a.length=b.length):(eS k a b).length=b.length:=by simp[eS,h]
theorem OW{b:Λ}(hk:0<=k)(f:∀c∈a,0<=c/\c<=k)(h:∀c∈b,0<=c/\c<=k):∀c∈eS k a b,0<=c/\c<=k:=by
 induction a generalizing b with
 |nil=>intro c e;simp[eS]at e
 |cons x a j=>
  cases b with
  |nil=>intro c e;simp[eS]at e
  |cons y b=>
   intro c e;have J:=f x (.head _);have q:=h y (.head _);rcases List.mem_cons.1 (show c∈min (x+y) k::eS k a b from e)with rfl|e
   .omega
   .exact j (by grind) (by grind) c e
def kW(l:List cX):Prop:=(l.map (·.1)).Nodup
theorem OX{acc:List cX}{g:cX}(hk:0<=k)(f:∀h∈acc,gH d6 k h)(j:kW acc)(a:gH d6 k g):(∀h∈jZ k acc g,gH d6 k h)/\kW (jZ k acc g)/\(jZ k acc g).length<=acc.length+1:=by
 unfold jZ;split
 .refine⟨λh aw=>?_,?_,Ξ⟩
  .obtain⟨e,hm,rfl⟩:=o9.1 aw;have h1:=f e hm;split
   .rename_i he;have q:e.2.length=g.2.length:=by rw[h1.len,a.len,he]
    exact⟨h1.scope,h1.up,h1.d7,by grind [OV,gH.len],h1.small,OW hk h1.jI a.jI⟩
   .exact h1
  grind [kW]
 grind [kW]
theorem yk{d6:Λ}{k:Int}(hk:0<=k):∀{l acc:List cX},(∀h∈acc,gH d6 k h)->kW acc->(∀g∈l,gH d6 k g)->(∀h∈l.foldl (jZ k) acc,gH d6 k h)/\kW (l.foldl (jZ k) acc)/\(l.foldl (jZ k) acc).length<=acc.length+l.length
 |[],acc,a,e,_=>by grind
 |g::l,acc,a,e,f=>by
  obtain⟨h1,j,q⟩:=OX hk a e (f g (.head _));obtain⟨r,s,w⟩:=yk hk h1 j λx J=>f x (.tail _ J)
  grind
theorem vc(h:nY l)(a:l.Nodup):(bH l).Perm l:=by grind [D4,D3]
theorem yl:∀{l:Λ},(∀z∈l,1<=z/\z<=32)->l.map (λz=>min z 4097)=l
 |[],_=>rfl
 |z::l,h=>by
  have a:=h z (.head _);rw[List.map_cons,yl (by grind)]
  grind
theorem OY{x:cE}(hk:0<=k)(aE:0<=x.other)(a:∀p∈x.lines,0<=p.2):0<=lr x k t/\lr x k t<=k:=by
 grind [lr]
theorem vd{x:cE}(h:uJ all N x)(a:all.length<=64):nY x.scope:=λv ac=>by
 have:=h.scope.2 v ac;omega
theorem re{f:cd}{x:cE}(ah:fC N f)(J:x∈f.d8):gH f.d6 f.k (jY f.d6 f.k x):=by
 obtain⟨h1,h,s⟩:=ah.d8 x J;have j:=ah.d6.2.1;have ac:=vd h1 j;have ae:=vc ac h1.scope.1;have a:∀v∈bH x.scope,0<=v/\v<f.d6.length:=λv hm=>h1.scope.2 v (by grind);have q:=oN ah.d6.2.2 a;have w:aX (ci f.d6 (bH x.scope))=aX x.d6:=by rw[h1.d6];exact OU (ae.map _)
 refine⟨⟨OS _,?_⟩,yg _,λv hm=>(a v hm).2,?_,?_,λc r=>?_⟩
 .show (bH x.scope).length<=6;rw[ae.length_eq];exact h
 .show ((bq _).map _).length=_;rw[u9,jg q];rfl
 .show aX (ci f.d6 (bH x.scope))<=4096;have y:∀z∈x.d6,1<=z/\z<=32:=λz e=>by
   rw[h1.d6]at e;exact oN ah.d6.2.2 (by grind) z e
  grind [dM,yl]
 .obtain⟨t,_,rfl⟩:=o9.1 r;exact OY (by have:=ah.k.1;omega) h1.other λp ae=>(h1.lines.2 p ae).2
theorem mW{f:cd}(ah:fC N f):(∀g∈gm f,gH f.d6 f.k g)/\kW (gm f)/\(gm f).length<=f.d8.length:=by
 have:=yk (k:=f.k) (by have:=ah.k.1;omega) (acc:=[]) (by grind) List.nodup_nil λg e=>by
  obtain⟨x,J,rfl⟩:=o9.1 e;exact re ah J
 refine⟨this.1,this.2.1,?_⟩;have a:=this.2.2;rw[List.length_nil,u9,V7]at a;exact a
theorem D9{l:List cX}(e:∀g∈l,gH d6 k g)(q:kW l):l.Pairwise λa b=>dt a.1≠dt b.1:=by
 have h1:l.Pairwise λa b=>a.1≠b.1:=by
  grind [kW]
 exact h1.imp_of_mem λ{a b}f h j he=>j ((yh (e a f).scope (e b h).scope).2 he)
theorem sL{f:cd}(ah:fC N f):(gn f).Pairwise (λa b=>dt a.1<dt b.1)/\(gn f).Perm ((gm f).filter gl):=by
 obtain⟨h1,h,_⟩:=mW ah;have j:∀g∈(gm f).filter gl,gH f.d6 f.k g:=by grind
 have q:kW ((gm f).filter gl):=(List.Sublist.map _ List.filter_sublist).nodup h;have:=D8 ((gm f).filter gl) [] List.Pairwise.nil (D9 j q) (by grind);refine⟨this.1,?_⟩;have e:=this.2;rw[List.nil_append]at e;exact e
theorem ve{f:cd}(ah:fC N f):∀g∈gn f,gH f.d6 f.k g:=by grind [mW,sL]
theorem OZ{f:cd}(ah:fC N f){M:List cX}(ae:M.Perm ((gm f).filter gl))(V:M.Pairwise λa b=>dt a.1<=dt b.1):M=gn f:=by
 obtain⟨h1,r⟩:=sL ah;have e:kW ((gm f).filter gl):=(List.Sublist.map _ List.filter_sublist).nodup (mW ah).2.1;have h:=(ae.map (λg:cX=>g.1)).nodup_iff.2 e;have j:∀g∈M,gH f.d6 f.k g:=by grind [mW]
 have q:=D9 j h;refine yj ?_ h1 (by grind);exact V.imp₂ Ω q
structure kX(n:aI):Prop where
 k:1<=n.k/\n.k<=2147483648
 d6:1<=n.d6.length/\n.d6.length<=64/\∀z∈n.d6,1<=z/\z<=32
 zero:0<=n.zero/\n.zero<=n.k
 mc:n.unary.length=n.d6.length
 unary:∀(i:Nat)(z:Int)(u:Λ),n.d6[i]?=σ z->n.unary[i]?=σ u->u.length=z.toNat/\∀c∈u,0<=c/\c<=n.k
 d8:∀g∈n.d8,gH n.d6 n.k g/\2<=g.1.length
theorem O0(z:Int):aX [z]=z:=by simp[aX]
theorem vf:∀{l:List cX}{n:aI},kX n->(∀g∈l,gH n.d6 n.k g)->kX (l.foldl (λn g=>match g.1 with
 |[]=>{n with zero:=g.2.getD 0 0}
 |[v]=>{n with unary:=n.unary.set v.toNat g.2}
 |_=>{n with d8:=n.d8++[g]}) n)/\(l.foldl (λn g=>match g.1 with
 |[]=>{n with zero:=g.2.getD 0 0}
 |[v]=>{n with unary:=n.unary.set v.toNat g.2}
 |_=>{n with d8:=n.d8++[g]}) n).d6=n.d6
 |[],n,h,_=>⟨h,rfl⟩
 |g::l,n,h,j=>by
  have e:=j g (.head _);have f:∀x∈l,gH n.d6 n.k x:=by grind
  rw[List.foldl_cons];obtain⟨sc,cs⟩:=g
  match sc,e with
  |[],e=>
   have w:=e.len;refine vf ⟨h.k,h.d6,?_,h.mc,h.unary,h.d8⟩ f;have h1:cs.length=1:=by grind [ci,aX]
   have q:cs[0]?=σ (cs.getD 0 0):=by grind
   exact e.jI _ (x6 q)
  |[v],e=>
   have ac:=e.scope.1 v (.head _);have y:=e.d7 v (.head _);refine vf ⟨h.k,h.d6,h.zero,by grind [kX.mc],λi z u s hu=>?_,h.d8⟩ f;by_cases hi:v.toNat=i
   .subst hi;have A:=h.mc;rw[Y2 Ω]at hu;cases hu;have B:ci n.d6 [v]=[z]:=by
     grind [ci]
    refine⟨?_,e.jI⟩;have:=e.len
    grind [O0]
   .rw[W0 hi]at hu;exact h.unary i z u s hu
  |a::b::r,e=>
   refine vf ⟨h.k,h.d6,h.zero,h.mc,h.unary,λx J=>?_⟩ f;rcases j5.1 J with J|J
   .exact h.d8 x J
   grind
theorem Ea{f:cd}(ah:fC N f):kX (c7 f)/\(c7 f).d6=f.d6:=by
 unfold c7;have e:=ah.d6;refine vf ⟨ah.k,e,⟨by grind,by show(0:Int)<=f.k;have:=ah.k.1;omega⟩,Ξ,λi z u h1 a=>?_,by grind⟩ (ve ah);have a:(f.d6.map λz=>r9 z.toNat (0:Int))[i]?=σ u:=a;have h1:=h1;rw[v8,h1]at a;cases a;refine⟨Ξ,λc h=>?_⟩;rw[(List.mem_replicate.1 h).2];have:=ah.k.1
 grind
def mX(x:cE)(k:Int)(i:Nat)(t:Λ):Int:=match(x.lines.take i).find? (λp=>decide (p.1=t))with
 |some p=>min p.2 k
 |none=>min x.other k
theorem Eb(x:cE)(k:Int)(t:Λ):mX x k 0 t=min x.other k:=by simp[mX]
theorem Ec(x:cE)(k:Int)(t:Λ):mX x k x.lines.length t=lr x k t:=by
 unfold mX lr;rw[o6]<;>cases x.lines.find? (λp=>decide (p.1=t))<;>rfl
theorem Ed{x:cE}{i:Nat}{p:Λ×Int}(a:(x.lines.map (·.1)).Nodup)(hi:x.lines[i]?=σ p)(t:Λ):mX x k (i+1) t=if t=p.1 then min p.2 k else mX x k i t:=by
 unfold mX;rw[u7,hi,o8,List.find?_append];by_cases e:t=p.1
 all_goals grind [Y4,U3]
theorem vg{v:Int}(h:v∈l):l[l.idxOf v]?=σ v:=by
 grind
theorem O1{i:Nat}{v:Int}(a:l.Nodup)(h:l[i]?=σ v):l.idxOf v=i:=by
 grind
def gI(scope a:Λ):Λ:=a.map λv=>((scope.idxOf v:Nat):Int)
theorem vh{h:Λ}(q:scope.Nodup)(a:h.Perm scope):Good (gI scope h) scope.length:=by
 have r:=a.nodup_iff.2 q;refine⟨by simp[gI,a.length_eq],λi p ae=>?_⟩;unfold gI at ae;rw[v8]at ae;obtain⟨v,ac,rfl⟩:=Y0.1 ae;have hm:v∈scope:=a.mem_iff.1 (x6 ac);have x:=List.idxOf_lt_length_iff.2 hm;refine⟨Ω,λj y f=>?_⟩;unfold gI at f;rw[v8]at f;obtain⟨u,hu,he⟩:=Y0.1 f;have s:=a.mem_iff.1 (x6 hu);have e:scope.idxOf u=scope.idxOf v:=Ω
 have h1:=vg s;rw[e,vg hm]at h1;have w:v=u:=Z4 h1;subst w;have z:=O1 r hu
 grind
theorem O2{v:Int}(ac:a[j]?=σ v):(gI scope a)[j]?=σ ((scope.idxOf v:Nat):Int):=by
 grind [gI]
theorem O3(e:scope.Nodup)(f:a.Perm scope):fd (ci d6 scope) (gI scope a)=ci d6 a:=by
 refine Y5 λj=>?_
 grind [uH,gI,ci,vh,C3,u5,vg]
theorem Ee(f:scope.Nodup)(h:a.Perm scope)(q:t.length=scope.length):oH (gI scope a) t=q3 scope a t:=by
 have r:=vh f h;refine(C2 r q (by simp[q3]) λj p e=>?_).symm;unfold gI at e;rw[v8]at e
 grind [Y0,S2.length_eq,q3,u5]
theorem O4{f:cd}{x:cE}(ah:fC N f)(J:x∈f.d8)(C:cs.length=(aX x.d6).toNat)(r:∀t,dE x.d6 t->bt x.d6 cs t=lr x f.k t):
  fd x.d6 (gI x.scope (bH x.scope))=ci f.d6 (bH x.scope)/\pS x.d6 cs (gI x.scope (bH x.scope))=(jY f.d6 f.k x).2:=by
 obtain⟨h1,E,F⟩:=ah.d8 x J;have ac:=vd h1 ah.d6.2.1;have ae:=vc ac h1.scope.1;have s:=h1.d6;have a:fd x.d6 (gI x.scope (bH x.scope))=ci f.d6 (bH x.scope):=by rw[s];exact O3 h1.scope.1 ae
 have w:=vh h1.scope.1 ae;have y:∀v∈bH x.scope,0<=v/\v<f.d6.length:=λv hm=>h1.scope.2 v (by grind);have e:dN (ci f.d6 (bH x.scope)):=oN ah.d6.2.2 y;refine⟨a,?_⟩;have z:x.d6.length=x.scope.length:=by grind
 unfold pS;rw[a];show _=(bq (ci f.d6 (bH x.scope))).map λt=>lr x f.k (q3 x.scope (bH x.scope) t);refine Y5 λq=>?_;rw[v8,v8];have G:=nT e;by_cases h:q<(aX (ci f.d6 (bH x.scope))).toNat
 .have A:=qZ e (i:=q) Ω;rw[A,List.getElem?_range h];simp only[Y9];have B:=xM e h;have j:(dl (ci f.d6 (bH x.scope)) q).length=x.scope.length:=by rw[kQ];simp[ci,ae.length_eq]
  rw[Ee h1.scope.1 ae j,r];have:=Nq w z (by rw[a];exact B);rw[Ee h1.scope.1 ae j]at this;exact this
 grind [jg]
theorem O5{e:Λ}(V:dN am)(h1:a.length=(aX am).toNat)(f:e.length=(aX am).toNat):
  eS k a e=(X2 (aX am).toNat).map λ(q:Nat)=>min (bt am a (dl am q)+bt am e (dl am q)) k:=by
 grind [xL,eS,List.zipWith_self]
theorem O6{m:Nat}{d:List (x1×x1)}{a:List (Λ)}(f:ai w da kl [.map (σ m)])(hm:c8 w m d)(j:d.map (·.1)=a.map ez)(e:q9 a)(B:a.length<65536):
  aq x7 Lu [.func (.func nG) #[] #[Γ da],DG] w λv I=>Ext w I/\∃g M,M.Perm a/\u2 iB M 0 M.length/\pX I g v M:=by
 refine aF func261 ?_;refine(N5 f hm j (λq h=>(e q h).1) Ω).Y ?_;rintro v U _ ⟨s,g,L,cQ,ae,x⟩;refine(Oi x (e.perm ae) (by rw[ae.length_eq];omega)).Y ?_;rintro _ ab _ ⟨y,M,z,hu,A⟩;exact⟨s.then y (λr C h=>by have:=cQ r h;omega),g,M,z.F ae,hu,A⟩
theorem Ef{α β:Type}{f:α->β}:∀{M:List β}{D:List α},M.Perm (D.map f)->∃L:List α,L.Perm D/\L.map f=M
 |[],D,h=>by
  have h1:=h.length_eq;simp at h1;have:D=[]:=j6 h1.symm;exact⟨[],by rw[this],rfl⟩
 |x::M,D,h=>by
  have J:x∈D.map f:=h.mem_iff.1 (.head _);obtain⟨p,ae,rfl⟩:=o9.1 J;obtain⟨A,B,rfl⟩:=List.append_of_mem ae;have a:(f p::M).Perm (f p::(A++B).map f):=h.F (by
   rw[Z2,List.map_cons,Z2];exact List.perm_middle)
  obtain⟨L,e,j⟩:=Ef (S2.cons_inv a);exact⟨p::L,(e.cons p).F List.perm_middle.symm,by rw[List.map_cons,j]⟩
theorem Eg{g:Nat}{cs:List x1}(r:a.length=6)(s:n<=6)(e:cs=ints .i8 a)(f:ai w g cM cs):aQ .i8 w (.slice (σ (if 6=0 then⟨g,0,ν⟩else⟨g,0+0*1,ν⟩)) (n-0) (6-0)) (a.take n):=by
 subst e;rw[m1 Ω];unfold aQ;have h:(a.take n).length=n:=by rw[j9];omega
 rw[h];refine⟨Θ,g,0,_,6,rfl,Ω,by simp[maxLen],λ_=>rfl,λj v ac=>?_⟩;have q:=(x5.1 ac).1;refine f.range j v ?_;rw[ints,List.map_take,W3 (by simp[ints]at q;omega)]at ac;exact ac
def O7(D L:Told):Prop:=L.Perm D/\u2 (λp=>iB (pad p.1)) L 0 L.length
theorem O8{g m:Nat}{o:Int}{D:Told}(h:e4 w g m am k o D)(bb:D.length<65536):aq x7 KN [Γ g] w λv I=>Ext w I/\∃L:Told,O7 D L/\bS (fU w.heap.size) b3 I [v] L:=by
 obtain⟨⟨sv,gs,X,hm⟩,bc,V,bQ,az⟩:=id h;have bd:q9 (D.map λp=>pad p.1):=λbR hk=>by
  obtain⟨p,ae,rfl⟩:=o9.1 hk;exact sA V (az p ae).1
 refine aF func198 ?_;rw[cT fb.u];simp only[l9,a6];rw[aL gi.p 3 X rfl];refine N3.Y ?_;rintro _ U _ ⟨Y,da,rfl,bT,be⟩;refine(O6 be (bc.W Y) (by rw[T7,T7];rfl) bd (by simpa using bb)).Y ?_;rintro bU ab _ ⟨aA,bV,M,bf,bh,aB⟩;obtain⟨L,Z,K⟩:=Ef bf;have aC:M.length=L.length:=by rw[<-K];simp
 have bW:=Z.length_eq;have s1:=Y.size;have bX:=aA.size;have aD:=Y.F aA;rw[dO lg.u aB];refine cb.range L.length (λi out e=>Ext ab e/\bS (fU ab.heap.size) b3 e [out] (L.take i)) Ω ⟨Ext.refl _,by rw[List.take_zero];exact jf⟩ ?_ ?_
 rotate_left
 .rintro out e bi ⟨B,aE⟩;rw[aC];simp only[aW,ao];refine⟨λh=>Ω,λ_=>⟨aD.F B,L,⟨Z,λp q x y h1 bj bY J bk=>?_⟩,?_⟩⟩
  .exact bh p q (pad x.1) (pad y.1) h1 bj Ω (by rw[<-K,v8,J];rfl) (by rw[<-K,v8,bk];rfl)
  .rw[o6]at aE;exact ay.Y aE (λr _ h=>by have h:=h;show w.heap.size<=r;omega) λ_ _ h=>h
 rintro i out e bi hi ⟨B,aE⟩ bl;obtain⟨⟨t,c⟩,ad⟩:∃p,L[i]?=σ p:=⟨_,x8 hi⟩;have af:(t,c)∈D:=Z.mem_iff.1 (x6 ad);have ag:=(az _ af).1;have aG:=xY V ag;have ah:t.length=am.length:=aG.1;have aI:=V.1;have bn:nU (pad t):=sA V ag;have N:=bn.1;have bo:M[i]?=σ (pad t):=by rw[<-K,v8,ad];rfl
 rw[aC];simp only[aW,ao];refine⟨λ_=>?_,λh=>Ω⟩;rw[Oh rfl (aB.W B) bo];refine bC cM.i λau bZ b0 aJ aM=>?_;refine sz N rfl aM λbp bq b1 O=>?_;have b2:=aJ.size;have b4:=aM.lt;have br:Ext e bp:=aJ.put bq Ω;intro aN E _ _;have ak:=br.F E;have an:=(aD.F B).F ak;have aP:=h.W an;obtain⟨⟨b5,b7,b9,ca⟩,cc,_⟩:=id aP;have cd:=ak.size;rw[aL gi.p 3 (X.W an) rfl,pV N (O.W E).range];refine NX aP ag (λf bt=>?_) (λbu=>m2 rfl (bu _ af));have bw:f=c:=by
  have:=Dv h.nodup bt af rfl;exact congrArg Prod.snd this
 subst bw;simp only[Bool.false_eq_true,if_false];rw[dk (cs:=#[.slice ν 0 0,Δ f]) Ψ];refine bC gV.i λP ce cf ap aQ=>?_;refine⟨.inl ap,?_⟩;refine b8 (vs:=[.slice ν 0 0,Δ f]) gV.i rfl rfl (by intro v ac;simp at ac;rcases ac with rfl|rfl<;>rfl) aQ λC bx cg aS=>?_;have ch:=ap.size;have ci:=aQ.lt;have Q:Ext aN C:=ap.put bx Ω;have aT:=ak.F Q;have aU:=an.F Q;rw[aL gi.p 0 (X.W aU) rfl,a7 av.u (hm.ls.W aU)];rw[ul cM.u gA.i (l:=0) (h:=am.length) (m:=6) ko (pD _ _ rfl) fc Ω Ω Ω];have aX:=Eg N aI rfl ((O.W E).W Q);rw[<-ah,Dq]at aX;rw[<-ah,a7 mI.u aX];have bz:=(O.W E).W Q;have cj:au<aN.heap.size:=(O.W E).lt;have ck:P<C.heap.size:=aS.lt;refine b6.range t.length (λj s=>aj (λr=>r=P\/C.heap.size<=r) C s/\∃aV gt,C.heap.size<=gt/\ai s P gV [aV,Δ f]/\aH .i64 al s gt aV (t.take j)) Ω ⟨aj.refl _ _,_,C.heap.size,p9 _,aS,aH.nil _ _ _ _⟩ ?_ ?_
 .rintro j s bA bB ⟨z,aV,gt,bD,S,W⟩ bE;obtain⟨x,aw⟩:=aK (l:=t) bB;have cl:=aG.2 x (x6 aw);have cm:Ext e s:=aT.then z (λr aZ he=>by rcases he with rfl|he<;>omega);have a1:=Eg N aI rfl (bz.aa z (λhe=>by rcases he with he|he<;>omega));rw[<-ah,Dq]at a1;simp only[aW,ao];refine⟨λ_=>?_,λh=>Ω⟩;rw[bm mI.u gA.i Ψ a1 aw,aO gV.p 0 S rfl,fN gA.u al.u,hx Ω Ω];refine eI av.u al.i rfl λa ga bG cn A bH=>?_;refine kN av.u al.i rfl (W.W A) bH.ls Θ Θ λa2 bI bJ cp G H=>?_;have bK:=z.size;have bL:=A.size;have cq:=H.size;rw[aY gV.p rfl];refine bs (g:=P) (o:=0) av.i G.ls.cells.1 G.ls.cells.2 ((S.W A).aa H (λhe=>by have he:=he;omega)) Ξ λcr a8 ct bM=>?_;simp only[aR];refine bE _ ⟨((z.F (A.aa _)).F (H.Y λr _ he=>.inr (by have he:r=gt:=he;omega))).F (a8.Y λr _ he=>.inl he),a2,bI,Ω,bM,?_⟩;rw[u7,aw];exact G.aa a8 (λ_ he=>by have he:=he;omega)
 .rintro s bA ⟨z,aV,gt,bD,S,W⟩;simp only[aW,ao];refine⟨λh=>Ω,λ_=>?_⟩;rw[o6]at W;rw[bF gV.p gV.i rfl S.range];have bK:=z.size;have bN:=aT.then z (λr aZ he=>by rcases he with rfl|he<;>omega);have ba:bS (fU e.heap.size) b3 s [aV,Δ f] (t,f):=⟨[aV],[Δ f],fU e.heap.size,b3,rfl,λ_ h=>h,λ_ h=>h.elim,λ_ _ _ h=>h,ay.Y (pJ W) (λr _ h=>by subst h;show e.heap.size<=r;omega) (λ_ _ h=>h),rfl⟩;refine lZ (α:=Λ×Int) (R:=b3) qM.u gV.i Φ rfl ba λu bG A _ bO=>?_;have ax:=bN.F A;have bL:=ax.size;refine pI qM.u gV.i rfl (bP (oB aE) ax) bO (bP ba A) (λr _ h bg=>?_) Θ Θ λa2 bJ G H=>?_
  .rcases bg with bg|bg
   .have:=h.2;have:e.heap.size<=r:=bg;omega
   .exact bg
  simp only[aR];have cu:=B.size;refine bl _ _ ⟨(B.F ax).then H (λr aZ h=>by have h:=h.1;have h:=h;omega),?_⟩;rw[u7,ad];refine ay.Y G (λr _ h=>?_) λ_ _ h=>h;show ab.heap.size<=r;rcases h with h|h|h
  .exact h.1
  .have h:=h;omega
  .omega
theorem Eh{s:Λ}(V:dN s):t∈bq s↔dE s t:=by
 refine⟨λh=>?_,λ⟨n,h⟩=>x6 (l4 V h)⟩;obtain⟨i,hi⟩:=Y4.1 h;exact⟨_,kt V hi⟩
theorem Ei:∀{s:Λ},dN s->(bq s).Pairwise λa b=>iB a<iB b
 |[],_=>by simp[bq]
 |k::s,V=>by
  have z:=Ei V.tail;have f:∀t∈bq s,0<=iB t/\iB t<32 ^ s.length:=λt q=>by
   have ac:=(Eh V.tail).1 q;have h1:=pR.1 ac;have r:=u1 t λx J=>by
    obtain⟨i,hi,rfl⟩:=List.getElem_of_mem J;obtain⟨a,e⟩:=aK (l:=s) (i:=i) Ω;have B:=h1.2 i a _ e (x8 hi);have C:=(V.tail a (x6 e)).2;omega
   rw[h1.1];exact r
  have j:∀t∈bq s,t.length=s.length:=λt q=>ur q;show((X2 k.toNat).flatMap λ(v:Nat)=>(bq s).map λt=>(v:Int)::t).Pairwise _;rw[List.pairwise_flatMap];refine⟨λv _=>?_,?_⟩
  .rw[List.pairwise_map];refine z.imp_of_mem λ{a b}e f h=>?_;simp only[iB,j a e,j b f];omega
  .refine List.pairwise_lt_range.imp λ{u v}E x J y A=>?_;obtain⟨a,e,rfl⟩:=o9.1 J;obtain⟨b,w,rfl⟩:=o9.1 A;simp only[iB,j a e,j b w];have h1:=f a e;have r:=f b w;have:=Int.mul_le_mul_of_nonneg_right (show(u:Int)+1<=v by omega) (show(0:Int)<=32 ^ s.length by have:=x3 s.length;omega);rw[Int.add_mul,Int.one_mul]at this;omega
theorem O9{D L:Told}{o:Int}(e:(D.map (·.1)).Nodup)(ae:L.Perm D)(t:Λ):j0 L o t=j0 D o t:=by
 have h:=(ae.map (·.1)).nodup_iff.2 e;by_cases he:∃p∈D,p.1=t
 .obtain⟨p,f,rfl⟩:=he;rw[sB e f,sB h (ae.mem_iff.2 f)]
 .rw[sC λp h1 a=>he ⟨p,h1,a⟩,sC λp h1 a=>he ⟨p,ae.mem_iff.1 h1,a⟩]
def j3(am:Λ)(f:Λ->Int)(cs:Λ):Prop:=cs.length=(aX am).toNat/\∀t,dE am t->bt am cs t=f t
theorem j3.eq{f:Λ->Int}(V:dN am)(h1:j3 am f cs)(e:j3 am f a):cs=a:=Nf V h1.1 e.1 λt h=>by rw[h1.2 t h,e.2 t h]
theorem j3.congr{f a:Λ->Int}(h:j3 am f cs)(he:∀t,dE am t->f t=a t):j3 am a cs:=⟨h.1,λt e=>by rw[h.2 t e,he t e]⟩
theorem ym(V:dN am)(h:dE am t):∃n:Nat,ct am t 0=σ (n:Int)/\n<(aX am).toNat:=by
 obtain⟨n,a⟩:=h;have:=pK V a;simp only[Int.zero_mul,Int.zero_add,Int.one_mul]at this;exact⟨n.toNat,by rw[a];congr 1;omega,Ω⟩
theorem Pa(V:dN am)(c:Int):j3 am (λ_=>c) (r9 (aX am).toNat c):=⟨Ξ,λt a=>by
 obtain⟨n,e,f⟩:=ym V a;unfold bt;rw[e];simp only[u5,p8,List.getElem?_replicate,f,if_true,Option.getD_some]⟩
theorem j3.put{f:Λ->Int}(V:dN am)(h:j3 am f cs)(ac:dE am t)(r:cA c k):j3 am (λs=>if s=t then c else f s) (uw am t k c cs):=by
 obtain⟨n,e,w⟩:=ym V ac;unfold uw;rw[e];simp only[r,if_true,u5];refine⟨by simp[h.1],λs q=>?_⟩;obtain⟨m,hm,x⟩:=ym V q;have a:=h.2 s q;unfold bt at a ⊢;rw[hm]at a ⊢;simp only[u5]at a ⊢;by_cases he:s=t
 .subst he;rw[e]at hm;have j:n=m:=by have:=Z4 hm;omega
  subst j;rw[lw rfl,p8,Y2 (by rw[h.1];exact w)];rfl
 .rw[m1 he,p8,W0 (λj=>he ?_),<-p8,a];subst j;rw[<-CW V hm,<-CW V e]
def Pb(w:x4)(am:Λ)(k o:Int)(D:Told)(v:x1)(I:x4):Prop:=Ext w I/\(4096<aX am->v= .tuple #[.pointer ν,Δ 5])/\
 (aX am<=4096->∃g a sv cs,v= .tuple #[Γ g,Δ 0]/\w.heap.size<=g/\(w.heap.size<=a/\∀r,hv sv r->w.heap.size<=r)/\ds I g a sv am k cs/\j3 am (j0 D o) cs)
theorem Ej{g m:Nat}{o:Int}{D:Told}(h:e4 w g m am k o D)(W:D.length<65536):aq x7 JR [Γ g] w (Pb w am k o D):=by
 obtain⟨⟨sv,gs,X,hm⟩,aT,V,Y,Z⟩:=id h;have N:=h.nodup;refine aF func123 ?_;rw[cT fb.u];simp only[l9,a6];intro U a _ _;have G:=X.W a;rw[aL gi.p 0 G rfl,aL gi.p 1 G rfl,aL gi.p 2 G rfl];refine(xv (hm.ls.W a)).Y ?_;rintro _ ab _ ⟨x,_,ad,_,af⟩;by_cases ae:aX am<=4096
 rotate_left
 .have:=ad V Ω;subst this;rw[bx,bz];simp only[bG,ao];exact⟨λ_=>⟨a.F x,λ_=>rfl,λh=>m2 h ae⟩,λh=>by simp at h⟩
 obtain⟨gt,f,aV,rfl,aU,aY,ag,O⟩:=af V ae Y;rw[bx,bz];simp only[bG,ao];refine⟨λh=>m2 rfl h,λ_=>?_⟩;have s1:=a.size;have aZ:=x.size;refine(O8 ((h.W a).W x) W).Y ?_;rintro cQ ah _ ⟨H,L,y,P⟩;have a1:=H.size;have a2:f<ab.heap.size:=by
  obtain⟨⟨bd,a7,_,_,ai⟩,⟨_,_,a8⟩,ak,al⟩:=id O;have ba:=nT ak.2;obtain⟨_,⟨_,an⟩|⟨cap,cs,_,ap,_⟩⟩:=ai
  .rw[al]at an;omega
  .exact ap.lt
 have bb:=y.1.length_eq;rw[jB qM.u P];refine b6.range L.length (λi z=>aj (λr=>r=f) ah z/\∃cs,ds z gt f aV am k cs/\j3 am (j0 (L.take i) o) cs) Ω ⟨aj.refl _ _,_,O.W H,by rw[List.take_zero];exact Pa V.2 o⟩ ?_ ?_
 .rintro i z au hi ⟨C,cs,I,E⟩ av;simp only[aW,ao];refine⟨λ_=>?_,λh=>Ω⟩;obtain⟨⟨t,c⟩,q⟩:∃p,L[i]?=σ p:=⟨_,x8 hi⟩;have aw:(t,c)∈D:=y.1.mem_iff.1 (x6 q);obtain⟨ax,az,aA⟩:=Z _ aw;have aB:=ay.aa P C λr Q aC he=>by
   have he:r=f:=he;rcases aC with h|h
   .have h:=h;omega
   .exact h
  refine nQ gV.p rfl qM.u gV.i aB q λus aD=>?_;obtain⟨bc,be,A,B,rfl,bf,bg,_,h1,aE⟩:=aD;have aG:=aE;subst aG;obtain⟨aH,rfl,_⟩:=id h1;have hu:=dy h1;refine bC gV.i λbh bi bj aI R=>?_;refine b8 (vs:=[aH,Δ c]) gV.i rfl rfl (by intro v ac;simp at ac;rcases ac with rfl|rfl;exact hu.cells.2;rfl) R λbk aJ bl S=>?_;have bm:=R.lt;have J:=aI.put aJ Ω;rw[aO gV.p 0 S rfl,aO gV.p 1 S rfl];refine(Mo (I.W J) (hu.W J)).Y ?_;rintro _ bn _ ⟨rfl,aK,aM⟩;simp only[aR];refine av _ ⟨(C.F (J.aa _)).F aK,_,aM,(E.put V.2 ax az).congr λs bo=>?_⟩;rw[u7,q];have K:=(y.1.map (·.1)).nodup_iff.2 N;have aN:∀p∈L.take i,p.1≠t:=λp ae he=>by
   obtain⟨j,M⟩:=Y4.1 ae;have aP:j<i:=by have:=(x5.1 M).1;rw[j9]at this;omega
   rw[W3 aP]at M;have:=l8 K (by rw[v8,M,Y9,he]) (by rw[v8,q];rfl);omega
  have aQ:((L.take i).map (·.1)).Nodup:=by rw[List.map_take];exact(List.take_sublist _ _).nodup K
  have aS:((L.take i++[(t,c)]).map (·.1)).Nodup:=by
   have e:L.take i++[(t,c)]=L.take (i+1):=by rw[u7,q];rfl
   rw[e,List.map_take];exact(List.take_sublist _ _).nodup K
  exact((Dw aN aA).cost aQ aS s).symm
 .rintro z au ⟨C,cs,I,E⟩;simp only[aW,ao];refine⟨λh=>Ω,λ_=>?_⟩;rw[o6]at E;exact⟨((a.F x).F H).put C Ω,λh=>Ω,λ_=>⟨gt,f,aV,cs,rfl,Ω,⟨Ω,λr Q=>by have:=ag r Q;omega⟩,I,E.congr λs _=>O9 N y.1 s⟩⟩
theorem Pc{s:Λ}(V:dN s)(a:cs.length=(aX s).toNat){i:Nat}(h:(bq s)[i]?=σ t):cs[i]?=σ (bt s cs t):=by
 have hi:=(x5.1 h).1;rw[jg V,<-a]at hi;unfold bt;rw[kt V h];simp only[u5,p8,x8 hi,Option.getD_some]
theorem sM{k:o5}{g:Nat}(h:aH k e w g v l)(f:0<l.length):g<w.heap.size:=by
 obtain⟨_,⟨_,h1⟩|⟨_,_,_,a,_⟩⟩:=h
 .omega
 .exact a.lt
def gJ(w:x4)(g m:Nat)(sv:x1)(gs:Nat)(am:Λ)(k o:Int)(D:Told):Prop:=
 ai w g gi [sv,Δ k,Δ o,.map (σ m)]/\aH .i64 al w gs sv am/\c8 w m (D.map lu)/\cg am/\cA o k/\∀p∈D,dE am p.1/\cA p.2 k/\p.2≠o
theorem gJ.is{g m:Nat}{o:Int}{D:Told}(h:gJ w g m sv gs am k o D):e4 w g m am k o D:=⟨⟨sv,gs,h.1,h.2.1⟩,h.2.2⟩
theorem e4.at{g m:Nat}{o:Int}{D:Told}(h:e4 w g m am k o D):∃sv gs,gJ w g m sv gs am k o D:=by
 obtain⟨⟨sv,gs,h1,a⟩,e⟩:=h;exact⟨sv,gs,h1,a,e⟩
theorem gJ.W{g m:Nat}{o:Int}{D:Told}(h:gJ w g m sv gs am k o D)(J:Ext w I):gJ I g m sv gs am k o D:=by
 obtain⟨h1,a,e,f⟩:=h;exact⟨h1.W J,a.W J,e.W J,f⟩
theorem gJ.aa{g m:Nat}{o:Int}{D:Told}(h:gJ w g m sv gs am k o D)(J:aj S w I)(a:¬S g)(hm:¬S m)(V:∀r,hv sv r->¬S r):gJ I g m sv gs am k o D:=by
 obtain⟨h1,e,f,j⟩:=h;exact⟨h1.aa J a,bB e J V,f.aa J hm,j⟩
theorem vi{g m:Nat}{cs:List x1}{d:List (x1×x1)}(h:ai w g e cs)(hm:c8 w m d):g≠m:=by
 rintro rfl;obtain⟨a,c,h1,_⟩:=hm;unfold ai at h;rw[h1]at h;cases h
theorem Ek{g m:Nat}{k:o5}{d:List (x1×x1)}(h:aH k e w g v l)(hm:c8 w m d)(f:hv v r):r≠m:=by
 obtain⟨rfl,_⟩:=b5 h f;obtain⟨_,⟨rfl,_⟩|⟨_,_,_,j,_⟩⟩:=h
 .obtain⟨a,n,c,h,_⟩:=f;cases h
 .exact vi j hm
theorem gJ.put{g m:Nat}{o:Int}{D D':Told}(h:gJ w g m sv gs am k o D)(a:aj (λr=>r=m) w I)(bg:e4 I g m am k o D'):gJ I g m sv gs am k o D':=
 ⟨h.1.aa a (λhe=>vi h.1 h.2.2.1 he),bB h.2.1 a (λr e he=>Ek h.2.1 h.2.2.1 e he),bg.2⟩
theorem gJ.su{g m:Nat}{o:Int}{D:Told}(h:gJ w g m sv gs am k o D):g<w.heap.size/\m<w.heap.size/\∀r,hv sv r->r<w.heap.size:=
 ⟨h.1.lt,h.2.2.1.lt,λr a=>by obtain⟨rfl,e⟩:=b5 h.2.1 a;exact e⟩
instance (s t:Λ):Decidable (dE s t):=decidable_of_iff ((ct s t 0).isSome=ms) ⟨λh=>by
 cases a:ct s t 0 with
 |none=>rw[a]at h;cases h
 |some n=>exact⟨n,a⟩,λ⟨n,h⟩=>by rw[h];rfl⟩
end Go.Proofs.YtlcdcbgoaljiiaaGreatDoor
