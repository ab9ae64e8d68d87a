/- own texts, made small by a tool (wip/ holds them as they were written): no statement of the seat. -/
import Derived.Test.YtlcdcbgoaljiiaaGreatDoorWa
set_option linter.unusedVariables false
set_option linter.unusedSimpArgs false
set_option linter.unnecessarySimpa false
open Array renaming getElem?_eq_some_iff→Y2
open BitVec renaming ofInt→U6
open Bool renaming false→sp,true→s2,not_true→Y5,not_false→X6,eq_iff_iff→V9,or_eq_false_iff→T3,and_eq_true→T8
open Decidable renaming not_not→X1
open Go renaming Value→x4,World→x5,TypeId→o4,IntKind→o8,Builtin→Z0,Program→W0,FuncId→S8
open Go.Builtin renaming append_→b9,len_→X8
open Go.Instr renaming loadAt→u5,fieldAt→u6,storeAt→o7,indexAt→n9,extract→Z7,buildSlice→Y4,sliceAt→V5,alloc→R3
open Go.IntKind renaming i64→X5,u64→U4
open Go.Proofs.Tryz renaming prog→x8
open Go.Result renaming andThen→W9
open Go.Sem renaming run_bind→W6,run_pure→V2
open Go.Value renaming int→V3
open Int renaming toNat_natCast→u7,le_refl→S5
open List renaming getElem?_eq_some_iff→x6,mem_of_getElem?→x7,getElem?_eq_getElem→v8,getElem?_map→u4,take_add_one→u9,getD_eq_getElem?_getD→r8,length_map→r9,replicate→o5,take_length→o9,mem_map→l9,mem_append→j5,eq_nil_of_length_eq_zero→j6,take_of_length_le→j9,length_append→c9,map_append→Z2,length_take→Z3,getElem?_set_self→Z6,mem_singleton→Y1,ext_getElem?→Y3,mem_iff_getElem?→Y8,getElem?_set_ne→Y9,range→X0,getElem?_append_right→X2,drop_eq_getElem_cons→X4,getElem?_set→X7,length_eq_one_iff→W3,length_cons→W5,getElem?_eq_none→W8,getElem?_take_of_lt→V1,getElem?_append_left→V6,pairwise_iff_getElem→U1,map_set→U2,mem_or_eq_of_mem_set→U5,set_append_right→U7,flatMap_cons→T0,append_assoc→T1,append_nil→T4,map_map→T5,Perm→T9,getElem_mem→S2,mem_filter→S6
open Nat renaming le_refl→o6,le_trans→X3,zero_le→X9,zero_add→V0,mul_le_mul_right→V4,sub_self→V7,mul_one→U3,pow_le_pow_right→T2,add_mul→T6
open Option renaming toList_some→j4,isNone_some→b8,map_eq_some_iff→Y0,map_some→Y7,map→V8
open Option.some renaming inj→Z5,injEq→W7
open Prod.mk renaming injEq→R4
set_option maxHeartbeats 16000000
open Option renaming some→σ,none→ν
variable{I w:x5}{sv v z:x4}{C a all an cs l scope d6 t:Λ}{R S:Nat->Prop}{N dB gs j n r:Nat}{at_ c hi k lo y:Int}{e:o4}{K:x4->Prop}{hp:List (Λ)}{cx cy f:Bool}
namespace Go.Proofs.YtlcdcbgoaljiiaaGreatDoor
open Go Go.Vc Go.RowKit Go.Proofs Go.Proofs.Tryz
set_option maxRecDepth 100000
theorem Cp{b:Int}:aq x8 Kt [.int .u8 b] w λv I=>v= .bool (c4 b)/\Ext w I:=by
 refine aE func176 ?_;refine a6 (λv U=>v= .bool (c4 b)/\Ext w U) (λ_ _ h=>h) λaA a=>?_;rw[bm,ao];refine⟨λh=>a _ _ ⟨by unfold c4;rw[ms (.inl h)],Ext.refl _⟩,λh1=>?_⟩;rw[bm,ao];refine⟨λh=>a _ _ ⟨by unfold c4;rw[ms (.inr (.inl h))],Ext.refl _⟩,λe=>?_⟩;rw[bm,ao];refine⟨λh=>a _ _ ⟨by unfold c4;rw[ms (.inr (.inr (.inl h)))],Ext.refl _⟩,λf=>?_⟩;rw[bm];refine a _ _ ⟨?_,Ext.refl _⟩;congr 1;unfold c4;rw[V9,ro,ro];omega
theorem MM{b:Int}:aq x8 Ks [.int .u8 b] w λv I=>v= .bool (ck b)/\Ext w I:=by
 refine aE func175 ?_;refine a6 (λv U=>v= .bool (ck b)/\Ext w U) (λ_ _ h=>h) λaA a=>?_;rw[cT,ao];refine⟨λh=>?_,λh=>a _ _ ⟨by unfold ck;rw[rc Ω],Ext.refl _⟩⟩;rw[mB];refine a _ _ ⟨?_,Ext.refl _⟩;congr 1;unfold ck;rw[V9,ro,ro];omega
def nS(w:x5)(g:Nat)(a:x4)(p:Λ)(at_:Nat)(bad:Int):Prop:=Bytes p/\p.length<=100000/\at_<=p.length/\aj w g jp [a,Δ (at_:Int),Δ bad]/\∃bg,aH .u8 cV w bg a p
theorem nS.W{g:Nat}{a:x4}{p:Λ}{at_:Nat}{bad:Int}(h:nS w g a p at_ bad)(J:Ext w I):nS I g a p at_ bad:=by
 obtain⟨h1,e,f,j,bg,q⟩:=h;exact⟨h1,e,f,j.W J,bg,q.W J⟩
theorem MN(h:aQ .u8 w v l)(B:l.length<=100000):aq x8 Kn [v] w λf I=>Ext w I/\∃g,aH .u8 cV I g f l:=by
 have e:=h;obtain⟨C,b,o,base,cap,rfl,E,hm,q,G⟩:=h;refine aE func169 ?_;rw[qG cW.u,cb];refine⟨λr=>⟨Ext.refl _,0,?_⟩,λ_=>?_⟩
 .have:l=[]:=by
   cases base with
   |none=>
        by_cases e:0<l.length
        .have:=q e;cases this
        .exact j6 Ω
   |some a=>cases r
  subst this;exact aH.nil _ _ _ _
 .refine lb (k:=1) (cs:=#[]) cW.u cV.i Ω Ψ λg U H j s=>?_;have x:aH .u8 cV U g (.slice (σ ⟨g,0,ν⟩) 0 0) []:=aH.of (n:=0) (cf.full (by simpa using s) rfl Ξ);refine kL cW.u cV.i rfl x (e.W j) Θ Θ λf y aa J z A=>?_;exact⟨j.put A Ω,y,by simpa using z⟩
theorem Cq(h:aQ .u8 w v l)(q:Bytes l)(e:l.length<=100000):aq x8 Ba [v] w λr I=>Ext w I/\∃g,r=Γ g/\w.heap.size<=g/\∃a,nS I g a l 0 (-1):=by
 refine aE func106 ?_;refine(MN h e).Y ?_;rintro a U _ ⟨f,bg,ae⟩;rw[ds (cs:=#[a,Δ 0,Δ (-1)]) (by obtain⟨_,_,_,_,_,rfl,_⟩:=ae.ls;kernel_rfl)];refine bn λg aa x j s=>?_;have s1:=f.size;exact⟨f.F j,g,rfl,Ω,a,q,e,X9 _,s,bg,ae.W j⟩
def runN(f:Int->Bool)(p:Λ):Nat:=(p.takeWhile f).length
theorem MO(f:Int->Bool)(p:Λ):runN f p<=p.length:=(List.takeWhile_sublist f).length_le
theorem Cr{f:Int->Bool}{p:Λ}{i:Nat}{b:Int}(hi:p[i]?=σ b)(ah:f b=s2):i+runN f (p.drop i)=(i+1)+runN f (p.drop (i+1)):=by
 have a:=x6.1 hi;unfold runN;rw[X4 a.1,a.2,List.takeWhile_cons,m3 ah,W5];omega
theorem Cs{f:Int->Bool}{p:Λ}{i:Nat}(h:∀b,p[i]?=σ b->f b=sp):runN f (p.drop i)=0:=by
 unfold runN;cases ae:p[i]? with
 |none=>
  rw[List.drop_of_length_le (List.getElem?_eq_none_iff.1 ae)];rfl
 |some b=>
  have a:=x6.1 ae;rw[X4 a.1,a.2,List.takeWhile_cons,m5 (by simp[h b ae])];rfl
theorem MP{g at_:Nat}{y:x4}{p:Λ}{bad:Int}(h:nS w g y p at_ bad):aq x8 Kr [Γ g] w λv I=>v=Δ ((at_+runN c4 (p.drop at_):Nat):Int)/\Ext w I:=by
 obtain⟨J,K,z,a,bg,ae⟩:=h;refine aE func174 ?_;rw[aP jp.p 1 a rfl];refine⟨λv U=>Ext w U/\∃i:Nat,v=Δ (i:Int)/\i<=p.length/\i+runN c4 (p.drop i)=at_+runN c4 (p.drop at_),λv _=>p.length-(b2 v).toNat,⟨Ext.refl _,at_,rfl,z,rfl⟩,?_⟩;rintro _ U ⟨j,i,rfl,hi,he⟩;refine a6 (λv aa=>Ext w aa/\∃c:Bool,v= .bool c/\(c=s2↔ ∃b,p[i]?=σ b/\c4 b=s2)) ?_ ?_
 .rintro _ aa ⟨q,c,rfl,r⟩;rw[cb];refine⟨λA=>?_,λah=>?_⟩
  .obtain⟨b,e,B⟩:=r.1 A;have C:=(x6.1 e).1;rw[aR,lm Ω Ω];exact⟨⟨q,i+1,rfl,C,by rw[<-he,Cr e B]⟩,by simp only[b2];omega⟩
  .have E:=Cs (f:=c4) (p:=p) (i:=i) λb a=>by
    cases V:c4 b with
    |false=>rfl
    |true=>rw[r.2 ⟨b,a,V⟩]at ah;cases ah
   exact⟨by rw[<-he,E,Nat.add_zero],q⟩
 .intro aA s;have x:=a.W j;rw[aP jp.p 0 x rfl,a8 cW.u (ae.W j).ls,aW,ao];refine⟨λL=>?_,λM=>s _ _ ⟨j,sp,rfl,⟨λh=>(by cases h),λ⟨b,a,_⟩=>by have:=(x6.1 a).1;omega⟩⟩⟩;have G:i<p.length:=Ω
  have e:=v8 G;rw[aP jp.p 0 x rfl,bk cW.u cV.i Ψ (ae.W j).ls e];refine Cp.Y ?_;rintro _ N _ ⟨rfl,H⟩;exact s _ _ ⟨j.F H,_,rfl,⟨λh=>⟨_,e,h⟩,λ⟨b,a,h⟩=>by rw[e]at a;cases a;exact h⟩⟩
inductive MQ where
 |word (from_ to:Nat)
 |none
 |text (at_:Nat)
def ib(p:Λ)(at_:Nat):Nat:=at_+runN c4 (p.drop at_)
def kp(p:Λ)(a:Nat):Nat:=a+runN ck (p.drop a)
open Classical in
noncomputable def qN(p:Λ)(at_:Nat):MQ:=
 if kp p (ib p at_)<p.length/\(∀c,p[kp p (ib p at_)]?=σ c->c4 c=sp)then .text (kp p (ib p at_))else if ib p at_=kp p (ib p at_)then .none else .word (ib p at_) (kp p (ib p at_))
def r7(w:x5)(g:Nat)(e:x4)(p:Λ)(at_:Nat)(v:x4)(I:x5):Prop:=
 match qN p at_ with
 | .word a b=>v= .tuple #[cp ((p.take b).drop a),Δ (a:Int),Δ 0]/\ai (λr=>r=g) w I/\nS I g e p b (-1)
 | .none=>∃n:Nat,v= .tuple #[cp [],Δ (n:Int),Δ 2]/\Ext w I
 | .text b=>v= .tuple #[cp [],Δ (b:Int),Δ 11]/\ai (λr=>r=g) w I/\nS I g e p at_ (b:Int)
theorem ja{bb:Nat->Prop}{a b c:x5}(h:ai S a b)(k:ai bb b c)(j:∀r,r<a.heap.size->bb r->S r):ai S a c:=
 ⟨X3 h.size k.size,λr o e V f=>k.a7 r o (h.a7 r o e V f) V λhu=>f (j r (Y2.1 e).1 hu)⟩
theorem cB{g:Nat}{k:o8}{q:o4}{cs:List x4}(h:aH k e w g v l)(s:aj w j q cs)(y:e≠q)(x:lc v r):r≠j:=by
 obtain⟨rfl,_⟩:=cd h x;obtain⟨_,⟨rfl,_⟩|⟨_,_,_,f,_⟩⟩:=h
 .obtain⟨a,n,c,h,_⟩:=x;cases h
 .rintro rfl;unfold aj at s f;rw[s]at f;injection f with h1;injection h1 with A z;exact y z.symm
theorem MR{s t:o4}{e f:o8}{b i:Nat}(q:x8.underlying s=σ (.slice t))(hi:aV x8 t 1 b z)(h:aQ .u8 w v l)(r:i<=j)(x:j<=l.length)(y:∀a,aQ .u8 w a ((l.take j).drop i)->K a):ad x8 (V5 s v (σ (.int e (i:Int))) (σ (.int f (j:Int))) ν) w K:=by
 refine uq q hi h (pw i _ rfl) (px j _ rfl) r x λa be=>y a (aQ.of (n:=j-i) ?_);have A:((ints .u8 l).drop (i*1)).take ((j-i)*1)=ints .u8 ((l.take j).drop i):=by
  rw[U3,U3,ints,ints,List.map_drop,List.map_take,List.drop_take]
 rw[A]at be;exact be
theorem MS{g at_:Nat}{E:x4}{p:Λ}(h:nS w g E p at_ (-1)):aq x8 wZ [Γ g] w (r7 w g E p at_):=by
 obtain⟨O,P,ak,e,bg,ae⟩:=id h;refine aE func112 ?_;rw[dl ud.u,b8,bc,aP jp.p 2 e rfl,cT,ao];refine⟨λh=>Ω,λ_=>?_⟩;refine(MP h).Y ?_;rintro _ aa _ ⟨rfl,am⟩;obtain⟨a,Q⟩:∃a,a=at_+runN c4 (p.drop at_):=⟨_,rfl⟩;rw[<-Q];have an:a<=p.length:=by have:=MO c4 (p.drop at_);rw[List.length_drop]at this;omega
 refine⟨λv G=>Ext aa G/\∃i:Nat,v=Δ (i:Int)/\a<=i/\i<=p.length/\i+runN ck (p.drop i)=a+runN ck (p.drop a),λv _=>p.length-(b2 v).toNat,⟨Ext.refl _,a,rfl,o6 _,an,rfl⟩,?_⟩;rintro _ G ⟨R,i,rfl,ap,hi,he⟩;have H:=am.F R;have S:=e.W H;have U:=ae.W H;refine a6 (λv y=>Ext G y/\∃c:Bool,v= .bool c/\(c=s2↔ ∃b,p[i]?=σ b/\ck b=s2)) ?_ ?_
 rotate_left
 .intro aA q;rw[aP jp.p 0 S rfl,a8 cW.u U.ls,aW,ao];refine⟨λau=>?_,λav=>q _ _ ⟨Ext.refl _,sp,rfl,⟨λh=>(by cases h),λ⟨b,e,_⟩=>by have:=(x6.1 e).1;omega⟩⟩⟩;have z:i<p.length:=Ω
  have j:=v8 z;rw[aP jp.p 0 S rfl,bk cW.u cV.i Ψ U.ls j];refine MM.Y ?_;rintro _ y _ ⟨rfl,A⟩;exact q _ _ ⟨A,_,rfl,⟨λh=>⟨_,j,h⟩,λ⟨b,e,h⟩=>by rw[j]at e;cases e;exact h⟩⟩
 rintro _ y ⟨A,c,rfl,s⟩;have I:=H.F A;have W:=e.W I;have X:=ae.W I;rw[cb];refine⟨λJ=>?_,λah=>?_⟩
 .obtain⟨b,j,aw⟩:=s.1 J;have ax:=(x6.1 j).1;rw[aR,lm Ω Ω];exact⟨⟨R.F A,i+1,rfl,Ω,ax,by rw[<-he,Cr j aw]⟩,by simp only[b2];omega⟩
 have aD:=Cs (f:=ck) (p:=p) (i:=i) λb e=>by
  cases V:ck b with
  |false=>rfl
  |true=>rw[s.2 ⟨b,e,V⟩]at ah;cases ah
 have ay:i=a+runN ck (p.drop a):=Ω
 refine a6 (λv K=>Ext y K/\∃c:Bool,v= .bool c/\(c=s2↔i<p.length/\∀c,p[i]?=σ c->c4 c=sp)) ?_ ?_
 rotate_left
 .intro aA q;rw[aP jp.p 0 W rfl,a8 cW.u X.ls,aW,ao];refine⟨λau=>?_,λav=>q _ _ ⟨Ext.refl _,sp,rfl,⟨λh=>(by cases h),λh=>Ω⟩⟩⟩;have z:i<p.length:=Ω
  have j:=v8 z;rw[aP jp.p 0 W rfl,bk cW.u cV.i Ψ X.ls j];refine Cp.Y ?_;rintro _ K _ ⟨rfl,L⟩;rw[bN];refine q _ _ ⟨L,_,rfl,⟨λh=>⟨z,λc s=>?_⟩,λh=>by rw[h.2 _ j];rfl⟩⟩;rw[j]at s;cases s;cases V:c4 p[i]with
  |false=>rfl
  |true=>rw[V]at h;cases h
 rintro _ K ⟨L,aF,rfl,Y⟩;have x:=I.F L;have B:=e.W x;have C:=ae.W x;have Z:∀r,lc E r->r≠g:=λr az=>cB C B Φ az;have M:qN p at_=open Classical in if i<p.length/\(∀c,p[i]?=σ c->c4 c=sp)then .text i else if a=i then .none else .word a i:=by
  unfold qN;rw[show ib p at_=a from Q.symm,show kp p a=i from ay.symm]
 rw[cb];refine⟨λJ=>?_,λac=>?_⟩
 .rw[cc,a1 jp.p rfl];refine bw (g:=g) (o:=2) al.i rfl rfl B Ξ λaG ad aH aB=>?_;unfold r7;rw[M,m3 (Y.1 J)];exact⟨rfl,(x.ab _).F ad,O,P,ak,aB,bg,bG C ad Z⟩
 .have af:¬(i<p.length/\∀c,p[i]?=σ c->c4 c=sp):=λh=>by rw[Y.2 h]at ac;cases ac
  rw[bm,ao];refine⟨λaI=>?_,λaJ=>?_⟩
  .intro aK N _ _;rw[aP jp.p 0 (B.W N) rfl,a8 cW.u (C.W N).ls];unfold r7;rw[M,m5 af,m3 Ω];exact⟨p.length,rfl,x.F N⟩
  .rw[cc,a1 jp.p rfl];refine bw (g:=g) (o:=1) al.i rfl rfl B Ξ λaL ag aM ai=>?_;have aj:=bG C ag Z;rw[aP jp.p 0 ai rfl];refine MR cW.u cV.i aj.ls ap hi λaN aC=>?_;rw[xq cW.u cV.u dj.u aC];unfold r7;rw[M,m5 af,m5 Ω];exact⟨rfl,(x.ab _).F ag,O,P,hi,ai,bg,aj⟩
abbrev bX:ak:=λ_=>False
abbrev e7(n:Nat):ak:=λr=>n<=r
theorem Ct{b:Λ}{bC bv:x4}(e:aQ .i64 w bC a)(s:aQ .i64 w bv b):
  aq x8 KN [bC,bv] w λv I=>v= .bool (decide (a=b))/\Ext w I:=by
 refine aE func205 ?_;rw[a8 au.u e,a8 au.u s];simp only[bM,ao];refine⟨λj=>⟨?_,Ext.refl _⟩,λz=>?_⟩
 .rw[rc];rintro rfl;exact j rfl
 .have z:a.length=b.length:=Ω
  rw[a8 au.u e];refine ce.range a.length (λi _ U=>Ext w U/\a.take i=b.take i) e.le ⟨Ext.refl _,rfl⟩ ?_ ?_
  .rintro i t4 U k A ⟨J,q⟩ hk;simp only[aW,ao,ey];refine⟨λ_ aa B _ _=>?_,λh=>Ω⟩;have J:=J.F B;obtain⟨x,r⟩:=aI A;obtain⟨y,f⟩:=aI (l:=b) (i:=i) Ω;rw[bk au.u al.i Ψ (e.W J) r,bk au.u al.i Ψ (s.W J) f];simp only[bM,ao,aR];refine⟨λj=>⟨?_,J⟩,λC=>hk _ _ ⟨J,xg q r f Ω⟩⟩;rw[rc];rintro rfl;rw[r]at f;cases f;exact j rfl
  .rintro _ U k ⟨J,q⟩;simp only[aW,ao];refine⟨λh=>Ω,λ_=>⟨?_,J⟩⟩;rw[ms];rwa [o9,z,o9]at q
def kQ(rest:List (Λ))(i:Nat):List (Λ):=(X0 i).flatMap λ(v:Nat)=>rest.map λt=>(v:Int)::t
theorem MT(rest:List (Λ))(i:Nat):kQ rest (i+1)=kQ rest i++rest.map λt=>(i:Int)::t:=by
 simp[kQ,List.range_succ]
theorem Cu(rest:List (Λ))(i:Nat):(kQ rest i).length=i*rest.length:=by
 simp only[kQ,List.length_flatMap,r9];rw[List.map_const',List.length_range,List.sum_replicate_nat]
def sa(l:Λ):Prop:=l.length<=90/\(∀x∈l,1<=x/\x<=32)/\aX l<=1073741824
theorem ct.p(h:ct l):sa l:=⟨by have:=h.1;omega,h.2,(prod_bound h).2⟩
theorem sa.tail{s:Λ}(h:sa (k::s)):sa s:=by
 have h1:=h.2.1 k (.head _);have a:=(mE s λx J=>h.2.1 x (.tail _ J)).1;have e:k*aX s<=1073741824:=h.2.2;have f:=Int.mul_le_mul_of_nonneg_right h1.1 (show 0<=aX s by omega);refine⟨?_,λx J=>h.2.1 x (.tail _ J),Ω⟩;have:=h.1;rw[W5]at this;omega
theorem xv:∀(s:Λ){sv:x4}{w:x5},aQ .i64 w sv s->sa s->
  aq x8 wV [sv] w λv I=>Ext w I/\bB (e7 w.heap.size) bX I [v] (bs s)
 |[],sv,w,h,V=>by
  refine aE func29 ?_;rw[a8 au.u h];simp only[bm,List.length_nil,Int.natCast_zero,decide_true,bS];refine jU (α:=Λ) (cs:=[.slice ν 0 0]) (A:=bX) ca.u au.i Φ rfl gH λv I J aC _=>⟨J,aw.Y aC (λr _ h=>?_) λ_ _ h=>h⟩;exact h.elim False.elim id
 |k::s,sv,w,h,V=>by
  have ae:1<=aX (k::s)/\aX (k::s)<=1073741824:=⟨(mE _ V.2.1).1,V.2.2⟩;have q:=V.tail;have hk:=V.2.1 k (.head _);have P:=jt q.2.1;have am:1<=aX s/\aX s<=1073741824:=⟨(mE _ q.2.1).1,q.2.2⟩;obtain⟨kn,rfl⟩:∃kn:Nat,k=kn:=⟨k.toNat,Ω⟩;have an:kn*(bs s).length<=1073741824:=by
   have e:((kn*(bs s).length:Nat):Int)=aX ((kn:Int)::s):=by
    rw[Int.natCast_mul,P,aX,Int.toNat_of_nonneg Ω]
   omega
  refine aE func29 ?_;rw[a8 au.u h];simp only[bm,ao];refine⟨λQ=>by simp at Q;omega,λ_=>?_⟩;refine Ms rfl au.u al.i h Ξ λS be=>?_;refine(xv s be q).Y ?_;rintro ap aa _ ⟨E,z⟩;have av:=nO z;refine ce.range kn (λi out U=>Ext aa U/\bB (e7 aa.heap.size) bX U [out] (kQ (bs s) i)) Ω ⟨Ext.refl _,gH⟩ ?_ ?_
  .rintro i out W X M ⟨f,aC⟩ Y;have Z:=bq z f;rw[ft (y:=0) (i:=0) rfl au.u al.i Ψ (h.W (E.F f)) (by rfl)];simp only[aW,ao];refine⟨λ_=>?_,λh=>Ω⟩;rw[fE ca.u Z];refine ce.range (bs s).length (λj out U=>Ext aa U/\bB (e7 aa.heap.size) bX U [out] (kQ (bs s) i++((bs s).take j).map λt=>(i:Int)::t)) Ω ⟨f,by simpa using aC⟩ ?_ ?_
   .rintro j out B ab ac ⟨C,aC⟩ ad;simp only[aW,ao];refine⟨λ_=>?_,λh=>Ω⟩;obtain⟨x,G⟩:=aI ac;have ax:x.length<=100:=by
     have:=xj G;have:=q.1;omega
    refine fF rfl rfl ca.u au.i Ψ (bq z C) G λu hu=>?_;refine e6 au.u al.i rfl λa ga ay az H af=>?_;refine kL au.u al.i rfl af (c3 (bq hu H)) Θ Θ λb aA aB aD K ag=>?_;have aF:=H.size;have N:=H.then ag (by rintro r z rfl;omega);have aG:=N.size;refine jU (α:=Λ) (a:=(i:Int)::x) (R:=bX) ca.u au.i Φ (lU (mD K (R:=bX))) (aw.Y (mD K) (λr _ h=>by subst h;show B.heap.size<=r;omega) λ_ _ h=>h) λc aH L _ ah=>?_;have O:=N.F L;have aJ:=L.size;refine oz ca.u au.i rfl (bq (nO aC) O) ah (bq (aw.Y (mD K) (λr _ h=>by subst h;show B.heap.size<=r;omega) λ_ _ h=>h) L) (λr _ h be=>?_) ?_ ?_ λS aK ai aj=>?_
    .rcases be with be|be
     .have:=h.2;have:B.heap.size<=r:=be;omega
     .exact be
    .have ak:(kQ (bs s) i++((bs s).take j).map λt=>(i:Int)::t).length+1<=kn*(bs s).length:=by
      simp only[c9,Cu,r9,Z3];have:(i+1)*(bs s).length<=kn*(bs s).length:=V4 _ M;rw[T6]at this;omega
     omega
    .have ak:(kQ (bs s) i++((bs s).take j).map λt=>(i:Int)::t).length+1<=kn*(bs s).length:=by
      simp only[c9,Cu,r9,Z3];have:(i+1)*(bs s).length<=kn*(bs s).length:=V4 _ M;rw[T6]at this;omega
     omega
    .simp only[aR];have aL:=C.size;refine ad _ _ ⟨(C.F O).then aj (λr z h=>?_),?_⟩
     .have:=h.1;have:aa.heap.size<=r:=this;omega
     .have e:kQ (bs s) i++((bs s).take (j+1)).map (λt=>(i:Int)::t)=(kQ (bs s) i++((bs s).take j).map λt=>(i:Int)::t)++[(i:Int)::x]:=by
       rw[u9,G];simp
      rw[e];refine aw.Y ai (λr _ h=>?_) λ_ _ h=>h;show aa.heap.size<=r;rcases h with h|h|h
      .exact h.1
      .have:B.heap.size<=r:=h;omega
      .omega
   .rintro out B ab ⟨C,aC⟩;simp only[aW,ao,aR];refine⟨λh=>Ω,λ_=>Y _ _ ⟨C,?_⟩⟩;rw[MT];simpa using aC
  .rintro out W X ⟨f,aC⟩;rw[ft (y:=0) (i:=0) rfl au.u al.i Ψ (h.W (E.F f)) (by rfl)];simp only[aW,ao];refine⟨λh=>Ω,λ_=>⟨E.F f,?_⟩⟩;have aM:=E.size;have e:bs ((kn:Int)::s)=kQ (bs s) kn:=by simp[bs,kQ]
   rw[e];exact aw.Y aC (λr _ h=>by have:aa.heap.size<=r:=h;show w.heap.size<=r;omega) λ_ _ h=>h
theorem sb(s:Λ)(h:aQ .i64 w sv s)(V:ct s):aq x8 wV [sv] w λv I=>Ext w I/\bB (e7 w.heap.size) bX I [v] (bs s):=xv s h V.p
def sd(l:List (Λ))(t:Λ):Int:=match l.findIdx? (·=t)with
 |some i=>i
 |none=>-1
theorem MU{s:Λ}{aY:x4}(h:aQ .i64 w sv s)(V:ct s)(A:aQ .i64 w aY t):
  aq x8 Kd [sv,aY] w λv I=>v=Δ (sd (bs s) t)/\Ext w I:=by
 have E:=jt V.2;have ae:=prod_bound V;refine aE func156 ?_;refine(sb s h V).Y ?_;rintro dd U _ ⟨q,y⟩;rw[fE ca.u y];refine ce.range (bs s).length (λi _ aa=>Ext U aa/\∀j,j<i->(bs s)[j]? ≠σ t) Ω ⟨Ext.refl _,λj a=>Ω⟩ ?_ ?_
 .rintro i _ aa k hi ⟨e,f⟩ hk;simp only[aW,ao];refine⟨λ_=>?_,λh=>Ω⟩;obtain⟨x,r⟩:=aI hi;refine fF rfl rfl ca.u au.i Ψ (bq y e) r λu hu=>?_;refine(Ct (c3 hu) (A.W (q.F e))).Y ?_;rintro _ G _ ⟨rfl,z⟩;simp only[ao,aR];refine⟨λhe=>⟨?_,(q.F e).F z⟩,λB=>hk _ _ ⟨e.F z,λj a=>?_⟩⟩
  .subst he;have:(bs s).findIdx? (·=x)=σ i:=by
    rw[List.findIdx?_eq_some_iff_getElem];refine⟨hi,by simpa using(x6.1 r).2,λj a=>?_⟩;have:=f j a;rw[v8 Ω]at this;simpa using this
   unfold sd;rw[this]
  .by_cases C:j=i
   .subst C;rw[r];intro h;exact B (by simpa using h)
   .exact f j Ω
 .rintro _ aa k ⟨e,f⟩;simp only[aW,ao];refine⟨λh=>Ω,λ_=>⟨?_,q.F e⟩⟩;have:(bs s).findIdx? (·=t)=ν:=by
   rw[List.findIdx?_eq_none_iff];intro x J;obtain⟨j,a,rfl⟩:=List.mem_iff_getElem.1 J;have:=f j a;rw[v8 a]at this;simpa using this
  unfold sd;rw[this]
theorem MV:∀(x:Nat),0<x->∃k m,x=2 ^ k*(2*m+1):=by
 intro x;induction x using Nat.strongRecOn with
 |_ x a=>
  intro h;by_cases e:x % 2=1
  .exact⟨0,x / 2,Ω⟩
  .obtain⟨k,m,hk⟩:=a (x / 2) Ω Ω;refine⟨k+1,m,?_⟩;rw[Nat.pow_succ,Nat.mul_assoc,Nat.mul_comm 2,<-Nat.mul_assoc,<-hk];omega
theorem xw{k m i:Nat}:(2 ^ k*(2*m+1)).testBit i=(decide (i=k)||decide (k<i)&&m.testBit (i-k-1)):=by
 rw[Nat.testBit_two_pow_mul];by_cases h:k<=i
 .obtain⟨d,rfl⟩:=Nat.exists_eq_add_of_le h;cases d with
  |zero=>simp
  |succ d=>
   have e:(2*m+1).testBit (d+1)=m.testBit d:=by rw[Nat.testBit_succ];congr 1;omega
   simp[e,show k+(d+1)-k=d+1 by omega]
 .simp[h,show i≠k by omega,show¬k<i by omega]
theorem MW{k m:Nat}(J:2 ^ k*(2*m+1)<2 ^ 64):(2 ^ k*(2*m+1)) &&& (2 ^ 64-2 ^ k*(2*m+1))=2 ^ k:=by
 have q:=Nat.two_pow_pos k;have hk:k<64:=by
  rcases Nat.lt_or_ge k 64 with h|h
  .exact h
  .have:2 ^ 64<=2 ^ k:=T2 Ω h;have:2 ^ k*1<=2 ^ k*(2*m+1):=Nat.mul_le_mul_left _ Ω;omega
 have e:2 ^ k*(2*m+1)=(2 ^ k*(2*m)+(2 ^ k-1))+1:=by rw[Nat.mul_add];omega
 apply Nat.eq_of_testBit_eq;intro i;rw[Nat.testBit_and,xw]
 conv=>lhs;rhs;rw[e]
 rw[Nat.testBit_two_pow_sub_succ Ω,Nat.testBit_two_pow_mul_add _ Ω,Nat.testBit_two_pow];by_cases h1:i=k
 .subst h1;simp[hk]
 .by_cases a:k<i
  .have f:(2*m).testBit (i-k)=m.testBit (i-k-1):=by
    obtain⟨d,j⟩:∃d,i-k=d+1:=⟨i-k-1,Ω⟩;rw[j,Nat.testBit_succ];congr 1;omega
   simp[h1,a,show¬i<k by omega,f,show k≠i by omega];intro h;simp[h]
  .simp[h1,a,show k≠i by omega]
def lg(a c:Nat):Nat:=(BitVec.ofNat 64 a &&& ~~~BitVec.ofNat 64 c).toNat
theorem Cv(a c i:Nat):(lg a c).testBit i=(decide (i<64)&&(a.testBit i&& !c.testBit i)):=by
 unfold lg;rw[BitVec.testBit_toNat,BitVec.getLsbD_and,BitVec.getLsbD_not,BitVec.getLsbD_ofNat,BitVec.getLsbD_ofNat];by_cases h:i<64<;>simp[h]
theorem MX(a c:Nat):lg a c<2 ^ 64:=BitVec.isLt _
theorem MY{a:Nat}(h:∀i,n<=i->a.testBit i=sp):a<2 ^ n:=Nat.lt_pow_two_of_testBit a h
theorem Cw{a i:Nat}(h:a<2 ^ n)(hi:n<=i):a.testBit i=sp:=Nat.testBit_lt_two_pow (Nat.lt_of_lt_of_le h (T2 Ω hi))
def ic(b n:Nat):List Nat:=(X0 n).filter λi=>b.testBit i
theorem Cx(b n:Nat):(ic b n).Pairwise (·< ·):=List.Pairwise.filter _ List.pairwise_lt_range
theorem xx{b i:Nat}:i∈ic b n↔i<n/\b.testBit i=s2:=by simp[ic]
def pI:Option Nat->Int
 |some i=>(i:Int)
 |none=>-1
def lh(b n:Nat)(v:Int):Int:=pI ((X0 n).find? (λi:Nat=>decide (v<(i:Int))&&b.testBit i))
theorem Cy:∀{l:List Nat}{k x:Nat},l.Pairwise (·< ·)->l[k]?=σ x->l.filter (λi=>decide (x<i))=l.drop (k+1)
 |y::l,0,x,h,hk=>by
  simp at hk;subst hk;rw[List.pairwise_cons]at h;simp only[List.drop_succ_cons,List.drop_zero];rw[List.filter_cons_of_neg Ξ,List.filter_eq_self.2 λa e=>by simpa using h.1 a e]
 |y::l,k+1,x,h,hk=>by
  simp only[List.getElem?_cons_succ]at hk;rw[List.pairwise_cons]at h;have:y<x:=h.1 x (x7 hk);rw[List.filter_cons_of_neg Θ,List.drop_succ_cons];exact Cy h.2 hk
theorem Cz(b n:Nat)(v:Int):lh b n v=pI (((ic b n).filter (λi:Nat=>decide (v<i))).head?):=by
 unfold lh ic;rw[<-List.head?_filter,List.filter_filter]
theorem MZ(b n:Nat):lh b n (-1)=pI ((ic b n)[0]?):=by
 rw[Cz,List.filter_eq_self.2 (λa _=>Θ),List.head?_eq_getElem?]
theorem CA{b k x:Nat}(h:(ic b n)[k]?=σ x):lh b n x=pI ((ic b n)[k+1]?):=by
 have e:(λi:Nat=>decide ((x:Int)<i))=λi=>decide (x<i):=by funext i;simp
 rw[Cz,e,Cy (Cx b n) h,List.head?_eq_getElem?,List.getElem?_drop]
theorem M0{b:Nat}{v:Int}(h:(n:Int)-1<=v):lh b n v= -1:=by
 unfold lh;rw[List.find?_eq_none.2 λi hi=>by simp at hi ⊢;omega];rfl
theorem M1{b k m s:Nat}(z:n<=64)(f:b<2 ^ n)(e:∀i,r.testBit i=(decide (s<=i)&&b.testBit i))(hk:r=2 ^ k*(2*m+1)){v:Int}(ac:v+1=s):lh b n v=k:=by
 have q:r.testBit k=s2:=by rw[hk,xw];simp
 have w:∀i,i<k->r.testBit i=sp:=λi hi=>by rw[hk,xw];simp[show i≠k by omega,show¬k<i by omega]
 have a:=q;rw[e]at a;simp at a;have x:k<n:=by
  rcases Nat.lt_or_ge k n with h|h
  .exact h
  .rw[Cw f h]at a;cases a.2
 unfold lh;have:(X0 n).find? (λi:Nat=>decide (v<(i:Int))&&b.testBit i)=σ k:=by
  rw[List.find?_range_eq_some];refine⟨by simp[a.2];omega,by simpa using x,λj y=>?_⟩;have:=w j y;rw[e]at this;simp only[Bool.not_eq_true',Bool.and_eq_false_iff,decide_eq_false_iff_not]at this ⊢;rcases this with h|h
  .exact .inl Ω
  .exact .inr h
 rw[this];rfl
theorem M2{b s:Nat}(a:∀i,r.testBit i=(decide (s<=i)&&b.testBit i))(hk:r=0){v:Int}(ac:v+1=s):lh b n v= -1:=by
 unfold lh;rw[List.find?_eq_none.2]
 .rfl
 .intro i hi;have:=a i;rw[hk,Nat.zero_testBit]at this;simp at hi this ⊢;intro h;exact this Ω
section
variable{P:W0}{w:x5}{t:o4}{cx cy:Bool}{a b:Nat}{K:x4->Prop}
theorem oE(a:Nat):U6 64 (a:Int)=BitVec.ofNat 64 a:=BitVec.ofInt_natCast _ _
theorem CB(x:BitVec 64):U4.wrap (x.toNat:Int)=(x.toNat:Int):=by
 have:=x.isLt;rw[lw Ω Ω]
theorem u64_and(f:a<2 ^ 64)(h:b<2 ^ 64):ad P (aT .and t cx cy (.int .u64 a) (.int .u64 b)) w K=K (.int .u64 ((a &&& b:Nat):Int)):=ad.of λI _=>by
 have e:(U6 64 (a:Int) &&& U6 64 (b:Int)).toNat=a &&& b:=by
  rw[oE,oE,BitVec.toNat_and,BitVec.toNat_ofNat,BitVec.toNat_ofNat,Nat.mod_eq_of_lt f,Nat.mod_eq_of_lt h]
 have hw:U4.wrap ((a &&& b:Nat):Int)=((a &&& b:Nat):Int):=by rw[<-e];exact CB _
 have j:(U6 U4.bits (a:Int) &&& U6 U4.bits (b:Int)).toNat=a &&& b:=e;simp only[aT,eqGuard,binOp,Op.intBits,j,hw];rfl
theorem CC:ad P (aT .andNot t cx cy (.int .u64 a) (.int .u64 b)) w K=K (.int .u64 (lg a b:Int)):=ad.of λI _=>by
 have e:(U6 64 (a:Int) &&& ~~~U6 64 (b:Int)).toNat=lg a b:=by rw[oE,oE];rfl
 have hw:U4.wrap (lg a b:Int)=(lg a b:Int):=CB _;have f:(U6 U4.bits (a:Int) &&& ~~~U6 U4.bits (b:Int)).toNat=lg a b:=e;simp only[aT,eqGuard,binOp,Op.intBits,f,hw];rfl
theorem mJ{k:o8}(f:n<64):ad P (aT .shr t cx cy (.int .u64 (a:Int)) (.int k (n:Int))) w K=K (.int .u64 ((a / 2 ^ n:Nat):Int)):=ad.of λI _=>by
 have e:(a:Int).fdiv (2 ^ min n U4.bits)=((a / 2 ^ n:Nat):Int):=by
  have:min n U4.bits=n:=Nat.min_eq_left (by show n<=64;omega);rw[this,Int.fdiv_eq_ediv_of_nonneg _ (by exact Int.le_of_lt (Int.pow_pos Ω))];simp
 simp only[aT,eqGuard,binOp,Op.shift,u7,e];simp[show¬(n:Int)<0 by omega]
theorem xy{k:o8}(a:n<64):ad P (aT .shl t cx cy (.int .u64 1) (.int k (n:Int))) w K=K (.int .u64 ((2 ^ n:Nat):Int)):=by
 rw[BD Ω];have e:min ((n:Int).toNat) U4.bits=n:=Nat.min_eq_left (by show n<=64;omega);have f:2 ^ n<2 ^ 64:=Nat.pow_lt_pow_right Ω a;rw[e,Int.one_mul,show((2:Int) ^ n)=((2 ^ n:Nat):Int) by simp];generalize 2 ^ n=q at f ⊢;rw[lw Ω Ω]
end
def uw:Λ:=[0,1,56,2,57,49,28,3,61,58,42,50,38,29,17,4,62,47,59,36,45,43,51,22,53,39,33,30,24,18,12,5,63,55,48,27,60,41,37,16,46,35,44,21,52,32,23,11,54,26,40,15,34,20,31,10,25,14,19,9,13,8,7,6]
def Laid(w:x5):Prop:=w.rangeAt 0 0 (ints .u8 uw)
theorem Laid.W(h:Laid w)(J:Ext w I):Laid I:=pv J h
theorem M3:∀k:Nat,k<64->uw[(2 ^ k*285870213051353865 % 2 ^ 64) / 2 ^ 58]?=σ (k:Int):=Φ
theorem M4{x k m:Nat}(f:Laid w)(J:x=2 ^ k*(2*m+1))(j:x<2 ^ 64):
  aq x8 Ka [.int .u64 (x:Int)] w λv I=>v=Δ (k:Int)/\Ext w I:=by
 have z:=Nat.two_pow_pos k;have A:2 ^ k<=x:=by
  have:2 ^ k*1<=2 ^ k*(2*m+1):=Nat.mul_le_mul_left _ Ω;omega
 have hk:k<64:=by
  rcases Nat.lt_or_ge k 64 with h|h
  .exact h
  .have:2 ^ 64<=2 ^ k:=T2 Ω h;omega
 refine aE func153 ?_;simp only[bm,ao];refine⟨λh=>Ω,λ_=>?_⟩;rw[nJ];have q:U4.wrap (0-(x:Int))=((2 ^ 64-x:Nat):Int):=by
  simp only[o8.wrap,o8.bits,o8.signed];simp;omega
 rw[q,u64_and j Ω,J,MW Ω];simp only[fQ];have r:U4.wrap (((2 ^ k:Nat):Int)*285870213051353865)=((2 ^ k*285870213051353865 % 2 ^ 64:Nat):Int):=by
  have e:((2 ^ k:Nat):Int)*285870213051353865=((2 ^ k*285870213051353865:Nat):Int):=Ξ
  rw[e];simp only[o8.wrap,o8.bits,o8.signed];simp
 have s:(58:Int)=((58:Nat):Int):=rfl;rw[r,s,mJ Ω];have a:=M3 k hk;have y:=(x6.1 a).1;rw[xf xb.u cV.i y,aG Ψ (by rw[U3];exact f _ _ (mC a)),fR cV.u al.u,lm Ω Ω];exact⟨rfl,Ext.refl _⟩
def kq(b n:Nat):x4:=.agg #[.int .u64 (b:Int),Δ (n:Int)]
def mK(b n:Nat):Prop:=n<=32/\b<2 ^ n
theorem CD(s i:Nat):(2 ^ s-1).testBit i=decide (i<s):=Nat.testBit_two_pow_sub_one s i
theorem CE{b:Nat}{v:Int}:aq x8 JV [kq b n,Δ v] w λr I=>r= .bool (decide (0<=v/\v<n))/\Ext w I:=by
 refine aE func135 ?_;refine bn λg U f a e=>?_;simp only[cG,cT,ao];refine⟨λh=>?_,λh=>⟨?_,a⟩⟩
 .rw[aN ci.p 1 e rfl];simp only[aW];exact⟨by simp[h],a⟩
 .rw[rc];omega
theorem xz{b:Nat}:aq x8 Jf [kq b n] w λr I=>r=Δ n/\Ext w I:=by
 refine aE func67 ?_;refine bn λg U f a e=>?_;rw[aN ci.p 1 e rfl];exact⟨rfl,a⟩
theorem M5{n:Int}:aq x8 Jd [Δ n] w λr I=>Ext w I/\r=(if 1<=n/\n<=32 then .tuple #[kq (2 ^ n.toNat-1) n.toNat,Δ 0]else .tuple #[kq 0 0,Δ 1]):=by
 refine aE func65 ?_;refine bE ci.i λg U z f j=>?_;refine a6 (λv aa=>v= .bool (decide (¬(1<=n/\n<=32)))/\U=aa) ?_ ?_
 .rintro _ _ ⟨rfl,rfl⟩;simp only[ao];refine⟨λh=>?_,λh=>?_⟩
  .rw[ds (cs:=#[.int .u64 0,Δ 0]) Ψ];refine b3 (vs:=[.int .u64 0,Δ 0]) ci.i rfl rfl (by intro u hu;simp at hu;rcases hu with rfl|rfl<;>rfl) j λs a x e=>?_;rw[fu ci.p ci.i rfl e.range,m5 h];exact⟨f.then a (by rintro r y rfl;omega),rfl⟩
  .have h:1<=n/\n<=32:=X1.1 h;obtain⟨m,rfl⟩:∃m:Nat,n=m:=⟨n.toNat,Ω⟩;rw[xy Ω];have ae:=Nat.two_pow_pos m;have A:2 ^ m<=2 ^ 32:=T2 Ω Ω;simp only[dr];rw[lw Ω Ω,show(((2 ^ m:Nat):Int)-1)=((2 ^ m-1:Nat):Int) by omega];rw[ds (cs:=#[.int .u64 ((2 ^ m-1:Nat):Int),Δ m]) Ψ];refine b3 (vs:=[.int .u64 ((2 ^ m-1:Nat):Int),Δ m]) ci.i rfl rfl (by intro u hu;simp at hu;rcases hu with rfl|rfl<;>rfl) j λs a x e=>?_;rw[fu ci.p ci.i rfl e.range,m3 h];exact⟨f.then a (by rintro r y rfl;omega),rfl⟩
 .intro aA q;simp only[aW,bU,ao];refine⟨λh=>q _ _ ⟨?_,rfl⟩,λh=>q _ _ ⟨?_,rfl⟩⟩
  .rw[ms];omega
  .congr 1;simp;omega
theorem CF{b:Nat}{v:Int}(y:mK b n)(z:Laid w)(ac: -1<=v):aq x8 Js [kq b n,Δ v] w λr I=>r=Δ (lh b n v)/\Ext w I:=by
 obtain⟨G,e⟩:=y;have f:b<2 ^ 64:=Nat.lt_of_lt_of_le e (T2 Ω Ω);refine aE func83 ?_;refine bn λg U H a j=>?_;rw[aN ci.p 1 j rfl];simp only[dr,cT,ao];rw[lm Ω Ω];refine⟨λh=>⟨by rw[M0 h],a⟩,λJ=>?_⟩;rw[aN ci.p 0 j rfl];refine a6 (λu aa=>U=aa/\∃r s:Nat,u= .int .u64 (r:Int)/\r<2 ^ 64/\v+1=s/\∀i,r.testBit i=(decide (s<=i)&&b.testBit i)) ?_ ?_
 .rintro _ _ ⟨rfl,r,s,rfl,A,V,q⟩;simp only[bm,ao];refine⟨λB=>⟨by rw[M2 q Ω V],a⟩,λB=>?_⟩;obtain⟨k,m,hk⟩:=MV r Ω;refine(M4 (z.W a) hk A).Y ?_;rintro _ K _ ⟨rfl,C⟩;exact⟨by rw[M1 Ω e q hk V],a.F C⟩
 .intro aA x;refine⟨λh=>?_,λh=>?_⟩
  .obtain⟨s,rfl⟩:∃s:Nat,v=s:=⟨v.toNat,Ω⟩;have ae:0<2 ^ (s+1):=Nat.two_pow_pos _;have L:2 ^ (s+1)<=2 ^ 32:=T2 Ω Ω;simp only[aR];rw[lm Ω Ω,show((s:Int)+1)=((s+1:Nat):Int) by omega,xy Ω];simp only[dr];rw[lw Ω Ω,show(((2 ^ (s+1):Nat):Int)-1)=((2 ^ (s+1)-1:Nat):Int) by omega,CC];refine x _ _ ⟨rfl,_,s+1,rfl,MX _ _,Ω,λi=>?_⟩;rw[Cv,CD];by_cases E:i<64
   .by_cases hi:s+1<=i
    .simp[E,hi,show¬i<s+1 by omega]
    .simp[hi,show i<s+1 by omega]
   .rw[Cw f Ω];simp
  .exact x _ _ ⟨rfl,b,0,rfl,f,Ω,λi=>Ξ⟩
theorem M6{b:Nat}(e:mK b n)(f:Laid w):aq x8 Jr [kq b n] w λr I=>r=Δ (lh b n (-1))/\Ext w I:=by
 refine aE func82 ?_;refine bn λg U q a h=>?_;rw[bH ci.p ci.i rfl h.range];refine(CF e (f.W a) Ω).Y ?_;rintro _ aa _ ⟨rfl,j⟩;exact⟨rfl,a.F j⟩
theorem M7{b:Nat}{v:Int}(H:mK b n):aq x8 Jg [kq b n,Δ v] w λr I=>r=kq (if 0<=v/\v<n then lg b (2 ^ v.toNat)else b) n/\Ext w I:=by
 refine aE func68 ?_;refine bn λg U R x y=>?_;refine bE ci.i λJ aa S z A=>?_;have s1:=x.size;have V:=y.lt;refine dh (λe=>∃f,aj e g ci [.int .u64 ((f:Nat):Int),Δ (n:Int)]/\aj e J ci [.int .u64 0,Δ 0]/\Ext w e/\f=(if 0<=v/\v<n then lg b (2 ^ v.toNat)else b)) ?_ ?_
 .rintro e ⟨f,K,L,M,rfl⟩;rw[bH ci.p ci.i rfl K.range];refine b3 (vs:=[_,_]) ci.i rfl rfl (by intro u hu;simp at hu;rcases hu with rfl|rfl<;>rfl) L λW N X O=>?_;rw[fu ci.p ci.i rfl O.range];exact⟨rfl,M.then N (by rintro r P rfl;omega)⟩
 .intro aA B;have j:=y.W z;rw[bH ci.p ci.i rfl j.range];refine CE.Y ?_;rintro _ Y _ ⟨rfl,a⟩;have C:=(x.F z).F a;simp only[ao,ey];refine⟨λh Z q _ _=>?_,λh=>B _ ⟨b,j.W a,A.W a,C,by rw[m5 h]⟩⟩;have E:=(j.W a).W q;rw[aN ci.p 0 E rfl];obtain⟨s,rfl⟩:∃s:Nat,v=s:=⟨v.toNat,Ω⟩;have ac:=H.1;rw[xy Ω,CC,a1 ci.p rfl];refine bw gi.i rfl rfl E (by simp[kq,x4.cells]) λad G ae Q=>?_;refine B _ ⟨_,Q,((A.W a).W q).ab G Ω,(C.F q).then G (by rintro r P rfl;omega),?_⟩;rw[m3 h,u7]
def qO(v:Int):Nat:=if v<0 then 0 else 40-v.toNat
theorem xA(x:Nat):qO x=40-x:=by unfold qO;rw[m5 Ω];omega
theorem mL{b g:Nat}(a:mK b n):
  qu x8 jQ [Γ g] (ic b n).length (λk vs _=>∃v:Nat,(ic b n)[k]?=σ v/\vs=[Δ (v:Int)])
   (λw=>aj w g ci [.int .u64 (b:Int),Δ (n:Int)]/\Laid w):=by
 refine⟨jQ.enters,λl aA O w j _ B ⟨q,r⟩ C=>?_⟩;have P:=a.1;refine rW func81 ?_;rw[bH ci.p ci.i rfl q.range];refine(M6 a r).free.Y ?_;rintro _ U ⟨E,rfl,J⟩;refine⟨λv aa=>∃k,k<=(ic b n).length/\v=Δ (pI (ic b n)[k]?)/\aA k aa/\aj aa g ci [.int .u64 (b:Int),Δ (n:Int)]/\Laid aa,
  λv _=>qO (b2 v),⟨0,X9 _,by rw[MZ],j 0 _ _ J E.b C,q.W J,r.W J⟩,?_⟩
 rintro _ aa ⟨k,hk,rfl,s,G,H⟩;cases ac:(ic b n)[k]? with
 |none=>
  have:k=(ic b n).length:=by
   have:=List.getElem?_eq_none_iff.1 ac;omega
  subst this;simp only[pI,cT,ao];exact⟨λh=>Ω,λ_=>.inl s⟩
 |some x=>
  have e:=(x6.1 ac).1;have Q:=(xx.1 (x7 ac)).1;simp only[pI,cT,ao];refine⟨λ_=>?_,λh=>Ω⟩;refine⟨rfl,(B k _ aa e ⟨G,H⟩ ⟨x,ac,rfl⟩ s).Y ?_⟩;rintro _ R (⟨rfl,⟨z,A⟩,I⟩|⟨rfl,K⟩)
  .simp only[bN,Y5,bc];rw[bH ci.p ci.i rfl z.range];refine(CF a A Ω).free.Y ?_;rintro _ S ⟨L,rfl,f⟩;refine⟨⟨k+1,e,congrArg (V3 .i64) (CA ac),j _ _ _ f L.b I.1,z.W f,A.W f⟩,?_⟩;rw[CA ac];cases M:(ic b n)[k+1]? with
   |none=>show 0<qO x;rw[xA];omega
   |some y=>
    have V:x<y:=by
     have h1:=(x6.1 ac).2;have N:=(x6.1 M).2;rw[<-h1,<-N];exact U1.1 (Cx b n) k (k+1) _ _ Ω
    show qO y<qO x;rw[xA,xA];omega
  .simp only[bN,X6,bS];exact .inr ⟨k,e,K⟩
theorem mM{b:Nat}:aq x8 A4 [kq b n] w λr I=>Ext w I/\∃g,r= .func (.func jQ) #[] #[Γ g]/\w.heap.size<=g/\aj I g ci [.int .u64 (b:Int),Δ (n:Int)]:=by
 refine aE func35 ?_;refine bn λg U f a e=>?_;rw[lS];exact⟨a,g,rfl,Ω,e⟩
abbrev dS(s:Λ):Prop:=∀x∈s,1<=x/\x<=32
theorem dS.tail{s:Λ}(h:dS (k::s)):dS s:=λx J=>h x (.tail _ J)
theorem nT{s:Λ}(h:dS s):1<=aX s:=(mE s h).1
theorem qP:∀(s t:Λ)(m:Int),cj s t m=(cj s t 0).map λn=>n+m*aX s
 |[],[],m=>by simp[cj,aX]
 |k::s,v::t,m=>by
  unfold cj;split
  .rw[qP s t (m*k+v),qP s t (0*k+v)];simp only[Option.map_map,aX];congr 1;funext n;simp only[Function.comp];rw[Int.add_mul,Int.add_mul,<-Int.mul_assoc];simp;omega
  .rfl
 |[],_::_,_=>rfl
 |_::_,[],_=>rfl
theorem xB{L j:Nat}{rest:List (Λ)}(e:rest.length=L):∀{kn v:Nat},v<kn->∀{x:Λ},rest[j]?=σ x->
  ((X0 kn).flatMap λ(v:Nat)=>rest.map λt=>(v:Int)::t)[v*L+j]?=σ ((v:Int)::x)
 |0,v,h,_,_=>Ω
 |kn+1,v,h,x,J=>by
  have f:=(x6.1 J).1;have a:((X0 kn).flatMap λ(v:Nat)=>rest.map λt=>(v:Int)::t).length=kn*L:=by
   simp only[List.length_flatMap,r9,e];rw[List.map_const',List.length_range,List.sum_replicate_nat]
  rw[List.range_succ,List.flatMap_append];by_cases ac:v<kn
  .have:(v+1)*L<=kn*L:=V4 _ ac;rw[T6]at this;rw[V6 (by rw[a];omega)];exact xB e ac J
  .have ac:v=kn:=Ω
   subst ac;rw[X2 (by rw[a];omega),a,show v*L+j-v*L=j by omega];simp[J]
theorem kr:∀{s:Λ},dS s->∀{i:Nat}{t:Λ},(bs s)[i]?=σ t->cj s t 0=σ (i:Int)
 |[],_,i,t,h=>by
  cases i with
  |zero=>simp[bs]at h;subst h;rfl
  |succ i=>simp[bs]at h
 |k::s,V,i,t,h=>by
  have hk:=V k (.head _);have a:=jt V.tail;have ae:=nT V.tail;obtain⟨kn,rfl⟩:∃kn:Nat,k=kn:=⟨k.toNat,Ω⟩;have hi:=(x6.1 h).1;rw[jt V,aX,Int.toNat_mul Ω Ω,<-a,u7]at hi;have f:0<(bs s).length:=Ω
  have ac:i / (bs s).length<kn:=Nat.div_lt_of_lt_mul (by rw[Nat.mul_comm];exact hi);have j:i % (bs s).length<(bs s).length:=Nat.mod_lt _ f;obtain⟨x,J⟩:∃x,(bs s)[i % (bs s).length]?=σ x:=⟨_,v8 j⟩;have e:=xB rfl ac J;rw[Nat.mul_comm,Nat.div_add_mod]at e;have be:((X0 ((kn:Int).toNat)).flatMap λ(v:Nat)=>(bs s).map λt=>(v:Int)::t)[i]?=σ t:=h;rw[u7,e]at be;cases be;unfold cj;rw[m3 ⟨Int.natCast_nonneg _,Int.ofNat_lt.2 ac⟩,qP,kr V.tail J];simp only[Y7,W7,Int.zero_mul,Int.zero_add];have q:aX s=((bs s).length:Int):=by rw[a];omega
  rw[q,<-Int.natCast_mul,<-Int.natCast_add];congr 1;rw[Nat.mul_comm,Nat.add_comm,Nat.div_add_mod]
theorem lX:∀{s:Λ},dS s->∀{t:Λ}{n:Int},cj s t 0=σ n->(bs s)[n.toNat]?=σ t
 |[],_,[],n,h=>by simp[cj]at h;subst h;rfl
 |k::s,V,v::t,n,h=>by
  have hk:=V k (.head _);have j:=jt V.tail;have ae:=nT V.tail;obtain⟨kn,rfl⟩:∃kn:Nat,k=kn:=⟨k.toNat,Ω⟩;unfold cj at h;split at h
  .rename_i ac;rw[qP]at h;cases f:cj s t 0 with
   |none=>rw[f]at h;cases h
   |some q=>
    rw[f]at h;simp only[Y7,W7,Int.zero_mul,Int.zero_add]at h;have r:=mF V.tail f;simp only[Int.zero_mul,Int.zero_add,Int.one_mul]at r;obtain⟨a,rfl⟩:∃a:Nat,v=a:=⟨v.toNat,Ω⟩;have w:=xB (kn:=kn) (v:=a) rfl Ω (lX V.tail f);have e:n.toNat=a*(bs s).length+q.toNat:=by
     rw[<-h,j];have:((a*(aX s).toNat:Nat):Int)=(a:Int)*aX s:=by rw[Int.natCast_mul,Int.toNat_of_nonneg Ω]
     omega
    rw[e];show((X0 ((kn:Int).toNat)).flatMap λ(v:Nat)=>(bs s).map λt=>(v:Int)::t)[_]?=_;rw[u7];exact w
  .cases h
 |[],_,_::_,_,h=>by cases h
 |_::_,_,[],_,h=>by cases h
theorem CG:∀(s:Λ),dS s->∀(n c:Int),dz s (n+c*aX s)=dz s n
 |[],_,_,_=>rfl
 |k::s,V,n,c=>by
  have ae:=nT V.tail;simp only[dz,aX];rw[<-Int.mul_assoc,CG s V.tail,Int.add_mul_ediv_right _ _ Ω,Int.add_mul_emod_self_right]
theorem ux:∀{s:Λ},dS s->∀{n:Int},0<=n->n<aX s->cj s (dz s n) 0=σ n
 |[],_,n,a,h1=>by simp[aX]at h1;simp[dz,cj];omega
 |k::s,V,n,a,h1=>by
  have hk:=V k (.head _);have ae:=nT V.tail;simp only[dz,aX]at h1 ⊢;have f:=Int.ediv_lt_of_lt_mul Ω h1;have h:0<=n / aX s:=Int.ediv_nonneg a Ω;have hm:n / aX s % k=n / aX s:=Int.emod_eq_of_lt h f;rw[hm];unfold cj;rw[m3 ⟨h,f⟩,qP];have e:dz s n=dz s (n % aX s):=by
   have:=CG s V.tail (n % aX s) (n / aX s);rw[<-this];congr 1;have:=Int.emod_add_mul_ediv n (aX s);rw[Int.mul_comm (n / aX s)];omega
  rw[e,ux V.tail (Int.emod_nonneg _ Ω) (Int.emod_lt_of_pos _ Ω)];simp only[Y7,W7,Int.zero_mul,Int.zero_add];have:=Int.emod_add_mul_ediv n (aX s);rw[Int.mul_comm (n / aX s)];omega
theorem se{s:Λ}(V:dS s){i:Nat}(h:(i:Int)<aX s):(bs s)[i]?=σ (dz s i):=by
 have:=lX V (ux V Ω h);simpa using this
def bu(s cs t:Λ):Int:=match cj s t 0 with
 |some n=>cs.getD n.toNat 0
 |none=>0
def upto{α:Type}(l:List α)(d:α)(i:Nat):List α:=l.take i++o5 (l.length-i) d
theorem pJ{α:Type}(l:List α)(d:α)(i:Nat):(upto l d i).length=l.length:=by simp[upto];omega
theorem qQ{α:Type}(l:List α)(d:α):upto l d 0=o5 l.length d:=by simp[upto]
theorem qR{α:Type}(l:List α)(d:α):upto l d l.length=l:=by simp[upto]
theorem qS{α:Type}{l:List α}{d x:α}{i:Nat}(h:l[i]?=σ x):(upto l d i).set i x=upto l d (i+1):=by
 have hi:=(x6.1 h).1;unfold upto;rw[U7 _ _ Θ,u9,h];have e:i-(l.take i).length=0:=Θ
 obtain⟨m,hm⟩:∃m,l.length-i=m+1:=⟨l.length-i-1,Ω⟩;rw[e,hm,show l.length-(i+1)=m by omega];simp[List.replicate_succ]
theorem sf{α:Type}{l:List α}{i:Nat}{x:α}(h:l[i]?=σ x):l.set i x=l:=by
 apply Y3;intro j;rw[X7];split
 .rename_i a;subst a;rw[m3 (x6.1 h).1,h]
 .rfl
def xC:Λ->Int
 |[]=>0
 |x::l=>l.foldl min x
def CH(P:Int->Prop)(m:Int):Prop:=P m/\∀x,P x->m<=x
def dF(s t:Λ):Prop:=∃n,cj s t 0=σ n
theorem M8(k v:Int)(s t:Λ):cj (k::s) (v::t) 0=if 0<=v/\v<k then(cj s t 0).map (λn=>n+(0*k+v)*aX s)else ν:=by
 conv=>lhs;unfold cj
 rw[qP]
theorem CI{v:Int}{s:Λ}:dF (k::s) (v::t)↔(0<=v/\v<k)/\dF s t:=by
 unfold dF;rw[M8];constructor
 .rintro⟨n,h⟩;split at h
  .rename_i ac;cases a:cj s t 0 with
   |none=>rw[a]at h;cases h
   |some q=>exact⟨ac,q,rfl⟩
  .cases h
 .rintro⟨ac,q,a⟩;rw[m3 ac,a];exact⟨_,rfl⟩
theorem CJ:dF [] t↔t=[]:=by
 cases t with
 |nil=>exact⟨λ_=>rfl,λ_=>⟨0,rfl⟩⟩
 |cons v t=>
  constructor
  .rintro⟨_,h⟩;cases h
  .intro h;cases h
theorem uy{s:Λ}(h:dF s t):s.length=t.length:=by
 obtain⟨n,h⟩:=h;rcases Nat.decEq s.length t.length with a|a
 .rw[xi s t 0 a]at h;cases h
 .exact a
theorem CK{s:Λ}(V:dS s){n:Int}(h:cj s t 0=σ n):dz s n=t:=by
 have f:=mF V h;have h1:=lX V h;simp only[Int.zero_mul,Int.zero_add,Int.one_mul]at f;have a:=se V (i:=n.toNat) Ω;rw[h1]at a;have e:((n.toNat:Nat):Int)=n:=Ω
 rw[e]at a;exact(Z5 a).symm
theorem xD{s:Λ}(V:dS s)(a:cs.length=(aX s).toNat):cs=(X0 (aX s).toNat).map λ(q:Nat)=>bu s cs (dz s q):=by
 apply List.ext_getElem
 .simp[a]
 .intro i h1 e;rw[List.getElem_map,List.getElem_range];have ae:=nT V;have hi:(i:Int)<aX s:=Ω
  unfold bu;rw[ux V Ω hi];simp only[u7];rw[r8,v8 h1];rfl
theorem xE{s:Λ}(V:dS s){q:Nat}(a:q<(aX s).toNat):dF s (dz s q):=⟨_,ux V Ω (by have:=nT V;omega)⟩
theorem M9{s:Λ}(V:dS s)(e:cs.length=(aX s).toNat)(f:a.length=(aX s).toNat)(h:∀t,dF s t->bu s cs t=bu s a t):cs=a:=by
 rw[xD V e,xD V f];apply List.map_congr_left;intro q j;exact h _ (xE V (by simpa using j))
theorem Na(h:l≠[]):CH (λc=>c∈l) (xC l):=by
 obtain⟨x,r,rfl⟩:∃v r,l=v::r:=by cases l with
  |nil=>exact m6 rfl h
  |cons v r=>exact⟨v,r,rfl⟩
 clear h;show CH (λc=>c∈x::r) (r.foldl min x);induction r generalizing x with
 |nil=>exact⟨.head _,λy f=>by simp at f;simp[f]⟩
 |cons y r j=>
  rw[List.foldl_cons];obtain⟨h1,e⟩:=j (min x y);refine⟨?_,λz a=>?_⟩
  .rcases List.mem_cons.1 h1 with h1|h1
   .rw[h1];rcases Int.le_total x y with h|h
    .rw[Int.min_eq_left h];exact .head _
    .rw[Int.min_eq_right h];exact .tail _ (.head _)
   .exact .tail _ (.tail _ h1)
  .rcases List.mem_cons.1 a with rfl|a
   .have:=e _ (.head _);omega
   .rcases List.mem_cons.1 a with rfl|a
    .have:=e _ (.head _);omega
    .exact e _ (.tail _ a)
def qT(m:Λ)(i j:Nat):Prop:=∀(p q:Nat)(x y:Int),p<q->q<=i->q≠j->m[p]?=σ x->m[q]?=σ y->x<=y
def sg(m:Λ)(i:Nat):Prop:=∀(p q:Nat)(x y:Int),p<q->q<i->m[p]?=σ x->m[q]?=σ y->x<=y
theorem Nb{m:Λ}{i:Nat}(h:sg m i):qT m i i:=λp q x y h1 f j a e=>h p q x y h1 Ω a e
theorem Nc{m:Λ}{i:Nat}(h:qT m i 0):sg m (i+1):=λp q x y h1 f a e=>h p q x y h1 Ω Ω a e
theorem Nd{m:Λ}{i:Nat}{a b:Int}(h:qT m i j)(A:0<j)(r:m[j-1]?=σ a)(w:m[j]?=σ b)(z:a<=b):sg m (i+1):=by
 intro p q x y h1 B e f;by_cases s:q=j
 .subst s;rw[w]at f;cases f;by_cases ae:p=q-1
  .subst ae;rw[r]at e;cases e;exact z
  .have:=h p (q-1) x a Ω Ω Ω e r;omega
 .exact h p q x y h1 Ω s e f
theorem Nf{m:Λ}{i:Nat}{a b:Int}(h:qT m i j)(H:0<j)(hi:j<=i)(z:m[j-1]?=σ a)(A:m[j]?=σ b)(I:b<a):qT ((m.set j a).set (j-1) b) i (j-1):=by
 intro p q x y h1 w B e f;have C:=(x6.1 A).1;have E:∀(r:Nat),((m.set j a).set (j-1) b)[r]?=if r=j-1 then σ b else if r=j then σ a else m[r]?:=λr=>by
  by_cases h:r=j-1
  .subst h;rw[Z6 Θ,m3 rfl]
  .rw[Y9 (Ne.symm h),m5 h];by_cases be:r=j
   .subst be;rw[Z6 C,m3 rfl]
   .rw[Y9 (Ne.symm be),m5 be]
 rw[E]at e f;rw[m5 B]at f;by_cases s:q=j
 .rw[m3 s]at f;cases f;split at e
  .cases e;omega
  .split at e
   .omega
   .exact h p (j-1) x a Ω Ω Ω e z
 .rw[m5 s]at f;split at e
  .cases e;have:=h j q b y;by_cases F:j<q
   .exact this F w s A f
   .omega
  .split at e
   .rename_i G;subst G;cases e;exact h (p-1) q a y Ω w s z f
   .exact h p q x y h1 w s e f
theorem swap_perm{m:Λ}{i:Nat}{a b:Int}(r:i<j)(h:m[i]?=σ a)(f:m[j]?=σ b):((m.set j a).set i b).Perm m:=by
 induction m generalizing i j with
 |nil=>simp at h
 |cons x m q=>
  cases j with
  |zero=>omega
  |succ j=>
   cases i with
   |zero=>
    simp at h f ⊢;subst h;obtain⟨s,f⟩:=x6.1 f;rw[show m=m.take j++m[j]::m.drop (j+1) by simp];rw[U7 _ _ Θ];have e:j-(m.take j).length=0:=Θ
    rw[e,f];simp only[List.set_cons_zero];refine(T9.cons b (List.perm_middle)).F ?_;refine(T9.swap x b _).F ?_;exact T9.cons x List.perm_middle.symm
   |succ i=>
    simp at h f ⊢;exact q Ω h f
theorem Ng{m:Λ}(h:sg m m.length):m.Pairwise (·<= ·):=by
 rw[U1];intro i j hi a e;exact h i j _ _ e a (v8 hi) (v8 a)
def Good(o:Λ)(n:Nat):Prop:=o.length=n/\∀(i:Nat)(p:Int),o[i]?=σ p->(0<=p/\p<n)/\∀j,j<i->o[j]? ≠σ p
theorem Good.inj{o:Λ}{i:Nat}{p:Int}(h:Good o n)(hi:o[i]?=σ p)(a:o[j]?=σ p):i=j:=by
 rcases Nat.lt_trichotomy i j with h1|h1|h1
 .exact m6 hi ((h.2 j p a).2 i h1)
 .exact h1
 .exact m6 a ((h.2 i p hi).2 j h1)
def CL(m:Λ):Prop:=∀i:Nat,i<m.length->m[i]?=σ (i:Int)
theorem CM{o m:Λ}(h:Good o n)(ae:m.Perm o)(V:m.Pairwise (·<= ·)):CL m:=by
 have r:o.Nodup:=U1.2 λi j hi s A he=>by
  have:=h.inj (i:=i) (j:=j) (p:=o[j]) (by rw[v8 hi,he]) (v8 s);omega
 have w:=ae.nodup_iff.2 r;have B:m.length=n:=by rw[ae.length_eq,h.1]
 have f:∀x∈m,0<=x/\x<(n:Int):=λx J=>by
  obtain⟨i,hi,he⟩:=List.getElem_of_mem (ae.mem_iff.1 J);exact(h.2 i x (by rw[v8 hi,he])).1
 have q:∀(i:Nat)(hi:i+1<m.length),m[i]<m[i+1]:=λi hi=>by
  have h1:=U1.1 V i (i+1) Ω hi Ω;have a:=U1.1 w i (i+1) Ω hi Ω;omega
 have y:∀(i:Nat)(hi:i<m.length),(i:Int)<=m[i]:=by
  intro i;induction i with
  |zero=>intro hi;exact(f _ (S2 hi)).1
  |succ i e=>
   intro hi;have h1:=e Ω;have a:=q i hi;omega
 have z:∀(d i:Nat)(hi:i<m.length),i+d+1=m.length->m[i]<=(i:Int):=by
  intro d;induction d with
  |zero=>
   intro i hi he;have:=(f _ (S2 hi)).2;omega
  |succ d e=>
   intro i hi he;have h1:=e (i+1) Ω Ω;have a:=q i Ω;omega
 intro i hi;rw[v8 hi];have h1:=y i hi;have a:=z (m.length-i-1) i hi Ω;congr 1;omega
theorem Nh{o m:Λ}(h:CL m)(ae:m.Perm o):Good o m.length:=by
 have r:m.Nodup:=U1.2 λi j hi a w he=>by
  have h1:=h i hi;have e:=h j a;rw[v8 hi]at h1;rw[v8 a]at e;have h1:=Z5 h1;have e:=Z5 e;omega
 have s:=ae.nodup_iff.1 r;refine⟨ae.length_eq.symm,λi p hi=>⟨?_,λj a f=>?_⟩⟩
 .obtain⟨k,hk,he⟩:=List.getElem_of_mem (ae.mem_iff.2 (x7 hi));have h1:=h k hk;rw[v8 hk,he]at h1;cases h1;omega
 .have q:=(x6.1 hi).1;have:=U1.1 s j i Ω q a;rw[v8 q]at hi;rw[v8 (show j<o.length by omega)]at f;exact this ((Z5 f).F (Z5 hi).symm)
theorem Good.CN{o:Λ}{p:Nat}(h:Good o n)(ae:p<n):∃j:Nat,o[j]?=σ (p:Int):=by
 let le:Int->Int->Bool:=λa b=>decide (a<=b);have h1:(o.mergeSort le).Perm o:=List.mergeSort_perm o le;have e:(o.mergeSort le).Pairwise (·<= ·):=by
  refine(List.pairwise_mergeSort (λa b c h1 e=>?_) (λa b=>?_) o).imp λh=>by simpa[le]using h
  .simp[le]at*;omega
  .simp[le];omega
 have f:=CM h h1 e p (by rw[h1.length_eq,h.1];exact ae);obtain⟨j,q,he⟩:=List.getElem_of_mem (h1.mem_iff.1 (x7 f));exact⟨j,by rw[v8 q,he]⟩
def oF(o x:Λ):Λ:=(X0 o.length).map λ(p:Nat)=>x.getD (o.idxOf (p:Int)) 0
theorem CO(o x:Λ):(oF o x).length=o.length:=by simp[oF]
theorem CP{o x:Λ}{p:Int}(h:Good o n)(J:x.length=n)(a:o[j]?=σ p):(oF o x)[p.toNat]?=x[j]?:=by
 have h1:=(h.2 j p a).1;have q:=(x6.1 a).1;have hm:=x7 a;have e:=List.idxOf_lt_length_of_mem hm;have f:=h.inj (by rw[v8 e,List.getElem_idxOf e]) a;have ae:((p.toNat:Nat):Int)=p:=Ω
 have r:=h.1;unfold oF;rw[u4,List.getElem?_range Ω];simp only[Y7,ae,f];rw[r8,v8 (show j<x.length by omega)];rfl
theorem CQ{o x y:Λ}(h:Good o n)(J:x.length=n)(q:y.length=n)(f:∀(j:Nat)(p:Int),o[j]?=σ p->y[p.toNat]?=x[j]?):y=oF o x:=by
 refine Y3 λp=>?_;have r:=h.1;by_cases ae:p<n
 .obtain⟨j,a⟩:=h.CN ae;have h1:=f j p a;have e:=CP h J a;rw[u7]at h1 e;rw[h1,e]
 .rw[W8 Ω,W8 (by rw[CO];omega)]
theorem pK:∀{s t:Λ},dF s t↔s.length=t.length/\∀(i:Nat)(a v:Int),s[i]?=σ a->t[i]?=σ v->0<=v/\v<a
 |[],t=>by
  rw[CJ];exact⟨λh=>⟨by rw[h],λi a v h _=>by simp at h⟩,λh=>j6 h.1.symm⟩
 |k::s,[]=>⟨λh=>m6 (uy h) Ξ,λh=>m6 h.1 Ξ⟩
 |k::s,v::t=>by
  rw[CI,pK];refine⟨λ⟨h1,f,j⟩=>⟨by simp[f],λi a u e hu=>?_⟩,λ⟨h1,f⟩=>⟨f 0 k v rfl rfl,by simpa using h1,λi a u e hu=>f (i+1) a u (by simpa using e) (by simpa using hu)⟩⟩;cases i with
  |zero=>simp at e hu;subst e;subst hu;exact h1
  |succ i=>exact j i a u (by simpa using e) (by simpa using hu)
def fh(s o:Λ):Λ:=o.map λp=>s.getD p.toNat 0
theorem uz(s o:Λ):(fh s o).length=o.length:=by simp[fh]
theorem CR{s o:Λ}{p:Int}(h:Good o n)(V:s.length=n)(a:o[j]?=σ p):(fh s o)[j]?=s[p.toNat]?:=by
 have h1:=(h.2 j p a).1;unfold fh;rw[u4,a,Y7,r8,v8 (show p.toNat<s.length by omega)];rfl
theorem Ni{s o:Λ}(h:Good o n)(V:s.length=n){x:Int}(J:x∈fh s o):x∈s:=by
 obtain⟨p,ae,rfl⟩:=l9.1 J;obtain⟨j,a,he⟩:=List.getElem_of_mem ae;have h1:=(h.2 j p (by rw[v8 a,he])).1;rw[r8,v8 (show p.toNat<s.length by omega)];exact S2 _
theorem ct.Nj{s o:Λ}(a:ct s)(h:Good o n)(V:s.length=n):ct (fh s o):=
 ⟨by rw[uz,h.1,<-V];exact a.1,λx J=>a.2 x (Ni h V J)⟩
theorem Nk{s o x:Λ}(h:Good o n)(V:s.length=n)(J:dF (fh s o) x):dF s (oF o x):=by
 obtain⟨h1,w⟩:=pK.1 J;rw[uz,h.1]at h1;refine pK.2 ⟨by rw[CO,h.1,V],λp a v e ac=>?_⟩;have ae:p<n:=by have:=(x6.1 e).1;omega
 obtain⟨j,f⟩:=h.CN ae;have q:=CR h V f;have r:=CP h h1.symm f;rw[u7]at q r;exact w j a v (by rw[q,e]) (by rw[<-r,ac])
def pL(s cs o:Λ):Λ:=(X0 (aX (fh s o)).toNat).map λ(q:Nat)=>bu s cs (oF o (dz (fh s o) q))
theorem CS(s cs o:Λ):(pL s cs o).length=(aX (fh s o)).toNat:=by simp[pL]
theorem xF{f:Int->Bool}{x:Int}:runN f (x::l)=if f x=s2 then runN f l+1 else 0:=by
 grind [runN,List.takeWhile_cons]
theorem xG(f:Int->Bool):∀l:Λ,l.dropWhile f=l.drop (runN f l)
 |[]=>rfl
 |x::l=>by
  rw[List.dropWhile_cons,xF];by_cases h:f x=s2
  .rw[m3 h,m3 h,xG f l];rfl
  grind
theorem CT(f:Int->Bool):∀l:Λ,l.takeWhile f=l.take (runN f l)
 |[]=>rfl
 |x::l=>by
  rw[List.takeWhile_cons,xF];by_cases h:f x=s2
  .rw[m3 h,m3 h,List.take_succ_cons,CT f l]
  grind
theorem CU{f:Int->Bool}:∀{l:Λ}{b:Int}{q:Λ},l.dropWhile f=b::q->f b=sp
 |x::l,b,q,h=>by
  rw[List.dropWhile_cons]at h;by_cases J:f x=s2
  .rw[m3 J]at h;exact CU h
  grind
theorem xH{p:Λ}{a:Nat}{b:Int}{q:Λ}(h:p.drop a=b::q):p[a]?=σ b:=by
 have:=List.getElem?_drop (xs:=p) (i:=a) (j:=0)
 grind
theorem Nl(p:Λ)(at_:Nat):match qN p at_ with
  | .word a b=>lex (p.drop at_)=(((p.take b).drop a)::(lex (p.drop b)).1,(lex (p.drop b)).2)
  | .none=>lex (p.drop at_)=([],s2)
  | .text _=>lex (p.drop at_)=([],sp):=by
 have h:(p.drop at_).dropWhile c4=p.drop (ib p at_):=by rw[xG,List.drop_drop];rfl
 have j:(p.drop (ib p at_)).dropWhile ck=p.drop (kp p (ib p at_)):=by rw[xG,List.drop_drop];rfl
 have s:(p.drop (ib p at_)).takeWhile ck=(p.take (kp p (ib p at_))).drop (ib p at_):=by
  grind [CT,List.drop_take,kp]
 have w:runN ck (p.drop (ib p at_))=kp p (ib p at_)-ib p at_:=by grind [kp]
 have z:ib p at_<=kp p (ib p at_):=by grind [kp]
 unfold qN;generalize ib p at_=a at*;generalize kp p a=b at*;by_cases h1:b<p.length/\(∀c,p[b]?=σ c->c4 c=sp)
 .grind [mH,List.drop_eq_nil_iff,xH]
 .rw[m5 h1];by_cases f:a=b
  .rw[m3 f];simp only;subst f;rw[mH,h];cases e:p.drop a with
   |nil=>rfl
   |cons x q=>
    exfalso;have A:=xH e
    grind [CU]
  .rw[m5 f];simp only;rw[mH (p.drop at_),h];cases e:p.drop a with
   |nil=>
    rw[e]at w;have:runN ck []=0:=rfl;omega
   |cons x q=>
    simp only;rw[e]at j s w;have J:ck x=s2:=by
     grind [xF]
    rw[m3 J,j,s];cases y:p.drop b with
    |nil=>simp only;rw[mH []];rfl
    |cons c r=>
     simp only;have B:=xH y
     grind
def jb(w:x5)(g:Nat)(R:Nat->Prop)(hp:List (Λ))(e:Bool):Prop:=∃a p at_,nS w g a p at_ (-1)/\(∀r,lc a r->R r)/\lex (p.drop at_)=(hp,e)
theorem jb.ab{g:Nat}{e:Bool}(h:jb w g R hp e)(J:ai S w I)(f:¬S g)(A:∀r,R r->¬S r):jb I g R hp e:=by
 obtain⟨j,p,a,⟨h1,q,s,x,bg,B⟩,y,z⟩:=h;exact⟨j,p,a,⟨h1,q,s,x.ab J f,bg,by grind [bG]⟩,y,z⟩
theorem jb.words{g:Nat}(h:jb w g R hp f):hp.length<=100000/\∀t∈hp,Bytes t/\t≠[]/\t.length<=100000:=by
 obtain⟨s,p,a,⟨x,y,z,_⟩,_,j⟩:=h;have A:(p.drop a).length<=100000:=by grind
 have q:=r2 _ (p.drop a) (o6 _);rw[j]at q;refine⟨by grind,λt B=>?_⟩;have e:=um _ (p.drop a) (o6 _) t (by grind);refine⟨λb r=>?_,e.1,Ω⟩;have:=rs (e.2.1 b r);omega
def Nn(w:x5)(g:Nat)(R:Nat->Prop)(hp:List (Λ))(a:Bool)(v:x4)(I:x5):Prop:=ai (λr=>r=g) w I/\match hp with
 |t::l=>jb I g R l a/\∃n:Int,v= .tuple #[cp t,Δ n,Δ 0]
 |[]=>∃n:Int,v= .tuple #[cp [],Δ n,Δ (if a then 2 else 11)]
theorem sh{g:Nat}{z:Bool}(h:jb w g R hp z):aq x8 wZ [Γ g] w (Nn w g R hp z):=by
 obtain⟨A,p,a,h1,B,q⟩:=h;refine(MS h1).Y ?_;intro v I _ hw;have e:=Nl p a;unfold r7 at hw;cases r:qN p a with
 |word x y=>
  rw[r]at hw e;simp only at hw e;rw[q]at e;obtain⟨rfl,s,V⟩:=hw;obtain⟨f,j⟩:=Prod.mk.inj e;subst f j;exact⟨s,⟨A,p,y,V,B,rfl⟩,_,rfl⟩
 |none=>
  rw[r]at hw e;simp only at hw e;rw[q]at e;obtain⟨f,j⟩:=Prod.mk.inj e;subst f j;obtain⟨n,rfl,J⟩:=hw;exact⟨J.ab _,_,rfl⟩
 |text b=>
  rw[r]at hw e;simp only at hw e;rw[q]at e;obtain⟨f,j⟩:=Prod.mk.inj e;subst f j;obtain⟨rfl,s,_⟩:=hw;exact⟨s,_,rfl⟩
def lY(w:Λ):x4:=match iw w with
 |some n=>.tuple #[Δ n,Δ 0]
 |none=>.tuple #[Δ 0,Δ 4]
theorem CV{i:Nat}{b:Int}(hi:l[i]?=σ b):(l.take (i+1)).all gZ=((l.take i).all gZ&&gZ b):=by
 grind [u9]
theorem CW{i:Nat}{b:Int}(hi:l[i]?=σ b):(l.take (i+1)).foldl fV 0=fV ((l.take i).foldl fV 0) b:=by
 grind [u9]
theorem CX(a:l≠[])(h:l.all gZ=s2):lW l=σ (l.foldl fV 0):=by
 grind [lW]
theorem CY{i:Nat}{b:Int}(hi:l[i]?=σ b)(a:gZ b=sp):lW l=ν:=by
 grind [lW]
def qU(w l:Λ)(s:Int):Prop:=(s=1\/s= -1)/\iw w=(lW l).map λn=>s*n
theorem CZ:qU (45::l) l (-1):=⟨.inr rfl,by simp only[iw];congr 1;funext n;omega⟩
theorem C0{w:Λ}(h:∀b,w[0]?=σ b->b≠45):qU w w 1:=⟨.inl rfl,by
 have e:iw w=lW w:=by
  unfold iw
  grind
 rw[e];cases lW w<;>grind⟩
theorem uA{w:Λ}{s:Int}(h:qU w l s)(a:lW l=ν):lY w= .tuple #[Δ 0,Δ 4]:=by
 unfold lY;rw[h.2,a];rfl
theorem C1{w:Λ}{s n:Int}(h:qU w l s)(a:lW l=σ n):lY w= .tuple #[Δ (s*n),Δ 0]:=by
 unfold lY;rw[h.2,a];rfl
theorem No(E:Bytes l)(ac:l.length<=100000):aq x8 Ko [cp l] w λv I=>v=lY l/\Ext w I:=by
 refine aE func170 ?_;rw[MC];refine iX (λN O U=>Ext w U/\∃(m:Λ)(s:Int),N=cp m/\O=Δ s/\Bytes m/\m.length<=100000/\qU l m s) ?_ ?_
 .rintro _ _ U ⟨G,m,s,rfl,rfl,H,ad,J⟩;rw[Ce H (λb a=>by cases a),ao];refine⟨λq=>⟨by rw[uA J (by rw[q];rfl)],G⟩,λq=>?_⟩;refine xr dj.u cW.u cV.u H Ω λbv aa K L _=>?_;rw[a8 cW.u L];refine rG.range m.length (λi _ _ c z=>Ext aa z/\c=Δ ((m.take i).foldl fV 0)/\(m.take i).all gZ=s2) Ω (by grind [Ext.refl]) ?_ ?_
  .rintro i P t3 _ z Q hi ⟨e,rfl,f⟩ ae;obtain⟨b,A⟩:=aI (l:=m) hi;have af:=H b (x7 A);refine bF Ω ?_;refine Ca (λ_ _ c B=>Ext aa B/\c=Δ ((m.take (i+1)).foldl fV 0)/\(m.take (i+1)).all gZ=s2) ?_ ?_
   .rintro ag ai c B aj;rw[aR]
    grind
   intro aA C;rw[bk cW.u cV.i Ψ (L.W e) A];refine a6 (λv B=>z=B/\v= .bool (!gZ b)) ?_ ?_
   rotate_left
   .intro R S;rw[aW,ao];refine⟨by grind [gZ],λh=>?_⟩;rw[bU]
    grind [gZ]
   rintro _ _ ⟨rfl,rfl⟩;cases M:gZ b with
   |false=>
    rw[X6,bS];exact⟨by grind [uA,CY],(G.F K).F e⟩
   |true=>
    rw[Y5,bc];have ak:=rs M;have j:=xo f ⟨S5 _,Φ⟩;rw[CW A,CV A,f,M]at C;generalize (m.take i).foldl fV 0=n at*;have j:=j;rw[dr,wrap_u8 Ω Ω,fR cV.u ay.u,lm Ω Ω,dr,lm Ω Ω,ow Φ,Int.tdiv_eq_ediv_of_nonneg Ω];rw[lm Ω Ω,bU,ao];refine⟨λV=>C _ _ _ _ ⟨e,?_,rfl⟩,λV=>?_⟩
    .grind [fV,aF]
    .rw[fQ,lm Ω Ω,aR,lm Ω Ω]
     grind [fV,aF]
  .rintro P t3 _ z Q ⟨e,rfl,f⟩;rw[o9]at f ⊢;refine b4 Ω ?_;have j:=xo f ⟨S5 _,Φ⟩;have j:0<=m.foldl fV 0/\m.foldl fV 0<=4611686018427387904:=j;rw[fQ];have hw:X5.wrap (s*m.foldl fV 0)=s*m.foldl fV 0:=by
    rcases J.1 with rfl|rfl<;>exact(by grind [lm])
   rw[hw];exact⟨by grind [C1,CX],(G.F K).F e⟩
 .intro aA C;refine a6 (λv aa=>w=aa/\∃c:Bool,v= .bool c/\(c=s2↔l[0]?=σ 45)) ?_ ?_
  .rintro _ _ ⟨rfl,c,rfl,W⟩;rw[cb];refine⟨λX=>?_,λah=>?_⟩
   .intro al Y _ _;have Z:=W.1 X;cases l with
    |nil=>simp at Z
    |cons x r=>
     have ab:x=45:=by grind
     subst ab;rw[Cf (y:=1) (i:=1) rfl dj.u Ξ];exact C _ _ _ ⟨Y,r,-1,rfl,rfl,λb a=>E b (.tail _ a),by grind,CZ⟩
   grind [Ext.refl,C0]
  .intro R S;rw[MG E (λb a=>by cases a),ao];refine⟨λq=>?_,by grind⟩;cases l with
   |nil=>exact m6 rfl q
   |cons x r=>
    rw[r4 (y:=0) (b:=x) rfl dj.u E rfl,bm]
    grind
theorem xI{s s':aO}{w:Λ}(h:eh s=σ (w,s')):s.hp=w::s'.hp/\s'={s with hp:=s'.hp}:=by
 grind [eh]
theorem jx{n:Int}{s s':aO}(h:bt lo hi s=σ (n,s')):(lo<=n/\n<=hi)/\(∃w,s.hp=w::s'.hp/\iw w=σ n)/\s'={s with hp:=s'.hp}:=by
 grind [bt,eh]
def jX(k:Nat)(s s':aO):Prop:=s.hp.length=s'.hp.length+k/\s'={s with hp:=s'.hp}
theorem jX.refl(s:aO):jX 0 s s:=⟨rfl,rfl⟩
theorem jX.F{a b:Nat}{r s t:aO}(h:jX a r s)(k:jX b s t):jX (a+b) r t:=⟨by have:=h.1;have:=k.1;omega,by rw[k.2,h.2]⟩
theorem dT{n:Int}{s s':aO}(h:bt lo hi s=σ (n,s')):jX 1 s s':=by
 obtain⟨_,⟨w,h1,_⟩,a⟩:=jx h;exact⟨by rw[h1];simp,a⟩
theorem jX.eqs{k:Nat}{s s':aO}(h:jX k s s'):s'.m1=s.m1/\s'.big=s.big/\s'.m2=s.m2:=by rw[h.2];grind
theorem mN{α:Type}{f:List α->aO->Option (α×aO)}(e:List α->aO->Prop)(ah:∀acc s a s',e acc s->f acc s=σ (a,s')->e (acc++[a]) s'):
  ∀(n:Nat)(acc:List α)(s:aO)(l:List α)(s':aO),e acc s->dc f n acc s=σ (l,s')->e l s'/\l.length=acc.length+n
 :=by
 intro a;induction a<;>grind [dc]
theorem xJ{n:Int}{k:Nat}{s s':aO}(h:fv n k s=σ (l,s')):jX l.length s s'/\l.length=k/\l.Nodup/\∀v∈l,0<=v/\v<n:=by
 have:=mN (λacc t=>jX acc.length s t/\acc.Nodup/\∀v∈acc,0<=v/\v<n) (λacc t a bx ⟨h1,f,j⟩ h=>by
  cases e:bt 0 (n-1) t with
  |none=>grind
  |some q=>
   obtain⟨v,r⟩:=q;rw[e]at h;simp only at h;split at h
   .cases h
   .rename_i w;simp only[W7,R4]at h;obtain⟨rfl,rfl⟩:=h;have z:=(jx e).1;refine⟨by rw[c9];exact h1.F (dT e),List.nodup_append.2 ⟨f,Ξ,λx J y A he=>?_⟩,λx J=>?_⟩
    all_goals grind) k [] s l s' (by grind [jX.refl]) h
 grind
theorem xK:∀{a acc:Λ}{s s':aO}{t:Λ},kO a acc s=σ (t,s')->∃u,t=acc++u/\dF a u/\jX u.length s s'
 |[],acc,s,s',t,h=>by
  simp only[kO,W7,R4]at h;obtain⟨rfl,rfl⟩:=h;exact⟨[],Ξ,CJ.2 rfl,jX.refl s⟩
 |k::a,acc,s,s',t,h=>by
  simp only[kO]at h;cases e:bt 0 (k-1) s with
  |none=>grind
  |some q=>
   obtain⟨v,s1⟩:=q;rw[e]at h;obtain⟨u,rfl,hu,f⟩:=xK h;have j:=(jx e).1;exact⟨v::u,Ξ,by grind [CI],by rw[W5,Nat.add_comm];exact(dT e).F f⟩
def oG(d6:Λ)(l:List (Λ×Int)):Prop:=(l.map (·.1)).Nodup/\∀p∈l,dF d6 p.1/\0<=p.2
theorem qV{acc:List (Λ×Int)}{s s':aO}{a:Λ×Int}(h:eX d6 acc s=σ (a,s')):a.1∉acc.map (·.1)/\dF d6 a.1/\0<=a.2/\jX (a.1.length+1) s s':=by
 unfold eX at h;cases f:kO d6 [] s with
 |none=>grind
 |some q=>
  obtain⟨t,s1⟩:=q;rw[f]at h;simp only at h;obtain⟨u,hu,ac,j⟩:=xK f;rw[List.nil_append]at hu;subst hu;cases e:bt 0 aF s1 with
  |none=>grind
  |some q=>
   obtain⟨c,w⟩:=q;rw[e]at h;simp only at h;split at h
   .cases h
   .rename_i r;simp only[W7,R4]at h;obtain⟨rfl,rfl⟩:=h;exact⟨r,ac,(jx e).1.1,j.F (dT e)⟩
structure xL(s s':aO):Prop where
 hp:s'.hp.length<s.hp.length
 big:s.big=s2->s'.big=s2
theorem Np{s s':aO}{l:List (Λ×Int)}(j:∀q∈s.m2,oG q.1 q.2/\q.2.length<=N)(B:s.hp.length<=N)(h:ei d6 s=σ (l,s')):
  oG d6 l/\l.length<=N/\s'.m2=s.m2/\xL s s':=by
 unfold ei at h;cases r:bt (-aF) aF s with
 |none=>grind
 |some q=>
  obtain⟨n,s1⟩:=q;rw[r]at h;simp only at h;have h1:=dT r;obtain⟨C,E,e⟩:=h1.eqs;split at h
  .cases V:s1.m2[(-n-1).toNat]? with
   |none=>grind
   |some q=>
    obtain⟨z,l'⟩:=q;rw[V]at h;simp only at h;split at h
    .rename_i y;simp only[W7,R4]at h;obtain⟨rfl,rfl⟩:=h;subst y;have hm:=x7 V;rw[e]at hm;exact⟨(j _ hm).1,(j _ hm).2,e,by have:=h1.1;omega,by grind⟩
    .cases h
  .have:=mN (λacc t=>oG d6 acc/\t.m2=s.m2/\t.hp.length+acc.length<=s1.hp.length/\(s.big=s2->t.big=s2)) (λacc t a bx ⟨g1,f,A,w⟩ g=>by
    obtain⟨F,G,H,x⟩:=qV g;obtain⟨f1,f2,f3⟩:=x.eqs;refine⟨⟨?_,λp ae=>?_⟩,by rw[f3,f],by have:=x.1;grind,by grind⟩
    .rw[Z2];exact List.nodup_append.2 ⟨g1.1,Ξ,by grind⟩
    .rcases j5.1 ae with ae|ae
     .exact g1.2 p ae
     grind) n.toNat [] (br (decide (16384<min (s1.m1+n) aF)) {s1 with m1:=min (s1.m1+n) aF}) l s' ⟨⟨Ξ,λp ae=>by cases ae⟩,e,by simp[br],by grind [br]⟩ h
   obtain⟨⟨g1,f,A,w⟩,_⟩:=this;have:=h1.1;exact⟨g1,Ω,f,⟨Ω,w⟩⟩
structure uB(all:Λ)(N:Nat)(f:cI):Prop where
 scope:f.scope.Nodup/\∀v∈f.scope,0<=v/\v<all.length
 d6:f.d6=f.scope.map λv=>all.getD v.toNat 0
 other:0<=f.other
 lines:oG f.d6 f.lines
 len:f.lines.length<=N
theorem Nq{s s':aO}{f:cI}(G:∀q∈s.m2,oG q.1 q.2/\q.2.length<=N)(Q:s.hp.length<=N)(h:dA all s=σ (f,s')):
  uB all N f/\(∀q∈s'.m2,oG q.1 q.2/\q.2.length<=N)/\xL s s'/\(s'.big=sp->f.scope.length<=6/\dO f.d6=sp):=by
 unfold dA at h;cases z:bt (-aF) aF s with
 |none=>grind
 |some q=>
 obtain⟨a,s1⟩:=q;rw[z]at h;simp only at h;have t0:=dT z;obtain⟨R,H,I⟩:=t0.eqs;cases h1:fv all.length a.natAbs s1 with
 |none=>grind
 |some q=>
 obtain⟨sc,j⟩:=q;rw[h1]at h;simp only at h;obtain⟨A,S,J,K⟩:=xJ h1;obtain⟨T,L,M⟩:=A.eqs;generalize O:sc.map (λv=>all.getD v.toNat 0)=d6 at h;cases r:bt 0 aF (br (decide (6<a.natAbs)||dO d6) j)with
 |none=>grind
 |some q=>
 obtain⟨other,e⟩:=q;rw[r]at h;simp only at h;have B:=dT r;obtain⟨U,C,w⟩:=B.eqs;have w:e.m2=s.m2:=by rw[w];show j.m2=_;rw[M,I]
 have V:e.hp.length<s.hp.length:=by
  have:=t0.1;have:=A.1;have x:=B.1
  grind [br]
 cases x:ei d6 e with
 |none=>grind
 |some q=>
 obtain⟨lines,y⟩:=q;rw[x]at h;simp only[W7,R4]at h;obtain⟨rfl,rfl⟩:=h;obtain⟨g1,P,W,E⟩:=Np (by rw[w];exact G) Ω x;have X:=E.big;have gt:=E.hp;have Y:e.big=s2->∀F:aO,F=(if a<0 then{y with m2:=y.m2++[(d6,lines)]}else y)->F.big=s2:=by grind
 have C:e.big=(s.big||(decide (6<a.natAbs)||dO d6)):=by
  rw[C];show(j.big||_)=_;rw[L,H]
 refine⟨⟨⟨J,K⟩,O.symm,(jx r).1.1,g1,P⟩,λq Z=>?_,⟨?_,by grind⟩,λaa=>?_⟩
 all_goals grind
structure fG(N:Nat)(f:cn):Prop where
 name:f.name.length<=64
 k:1<=f.k/\f.k<=2147483648
 d6:1<=f.d6.length/\f.d6.length<=64/\∀z∈f.d6,1<=z/\z<=32
 mO:f.ho.length<=256
 ho:∀x∈f.ho,uB f.d6 N x/\x.scope.length<=6/\dO x.d6=sp
theorem si{b:Bool}{s:aO}(h:(br b s).big=sp):s.big=sp/\b=sp:=by
 have h:(s.big||b)=sp:=h
 grind
theorem C2{s s':aO}{f:cn}(V:s.m2=[])(h:jW s=σ (f,s'))(w:s'.big=sp):fG s.hp.length f/\f.name∈s.hp:=by
 unfold jW at h;cases E:eh s with
 |none=>grind
 |some q=>
 obtain⟨name,s0⟩:=q;rw[E]at h;simp only at h;obtain⟨U,aa⟩:=xI E;cases h1:bt 1 aF (br (decide (64<name.length)) s0)with
 |none=>grind
 |some q=>
 obtain⟨n,s1⟩:=q;rw[h1]at h;simp only at h;have e:=dT h1;cases F:bt 1 aF (br (decide (64<n)) s1)with
 |none=>grind
 |some q=>
 obtain⟨most,P⟩:=q;rw[F]at h;simp only at h;have y:=dT F;cases G:bt 0 aF P with
 |none=>grind
 |some q=>
 obtain⟨A,H⟩:=q;rw[G]at h;simp only at h;have t3:=dT G;cases B:bt 1 aF (br (decide (256<A)) H)with
 |none=>grind
 |some q=>
 obtain⟨k,j⟩:=q;rw[B]at h;simp only at h;have t4:=dT B;cases I:dc (ia most) n.toNat [] (br (decide (2147483648<k)) j)with
 |none=>grind
 |some q=>
 obtain⟨d6,r⟩:=q;rw[I]at h;simp only at h;cases J:dc (λ_ s=>dA d6 s) A.toNat [] r with
 |none=>grind
 |some q=>
 obtain⟨ho,Q⟩:=q;rw[J]at h;simp only[W7,R4]at h;obtain⟨rfl,rfl⟩:=h;have R:=mN (λ(acc:Λ)t=>t.m2=[]/\t.hp.length<=s.hp.length/\(t.big=sp->j.big=sp/\k<=2147483648/\∀z∈acc,1<=z/\z<=32)) (λacc t a bx ⟨g1,K,S⟩ g=>by
  unfold ia at g;cases C:bt 1 most t with
  |none=>grind
  |some q=>
   obtain⟨z,e⟩:=q;rw[C]at g;simp only[W7,R4]at g;obtain⟨rfl,rfl⟩:=g;have L:=dT C;obtain⟨ah,ai,T⟩:=L.eqs;have aj:=(jx C).1;refine⟨by show e.m2=[];rw[T,g1],by show e.hp.length<=_;have:=L.1;omega,λw=>?_⟩
   grind [si]) n.toNat [] (br (decide (2147483648<k)) j) d6 r ⟨by
     show j.m2=[];rw[t4.eqs.2.2];show H.m2=[];rw[t3.eqs.2.2,y.eqs.2.2];show s1.m2=[];rw[e.eqs.2.2];show s0.m2=[]
     grind,by
     show j.hp.length<=_;have ak:=e.1;have al:=y.1;have a3:=t3.1;have a4:=t4.1
     grind [br],by grind [si]⟩ I
 obtain⟨⟨am,an,W⟩,X⟩:=R;have Y:=mN (λ(acc:List cI)t=>(∀q∈t.m2,oG q.1 q.2/\q.2.length<=s.hp.length)/\t.hp.length<=s.hp.length/\(t.big=sp->r.big=sp/\∀x∈acc,uB d6 s.hp.length x/\x.scope.length<=6/\dO x.d6=sp)) (λacc t a bx ⟨g1,K,S⟩ g=>by
  obtain⟨ao,Z,ab,ap⟩:=Nq g1 K g;refine⟨Z,by have:=ab.hp;omega,λw=>?_⟩
  grind [xL.big]) A.toNat [] r ho Q (by grind) J
 obtain⟨⟨_,_,d3⟩,d4⟩:=Y;obtain⟨ac,d5⟩:=d3 w;obtain⟨M,ad,aq⟩:=W ac;rw[t4.eqs.2.1]at M;obtain⟨N,ae⟩:=si M;rw[t3.eqs.2.1,y.eqs.2.1]at N;obtain⟨O,af⟩:=si N;rw[e.eqs.2.1]at O;obtain⟨_,ag⟩:=si O;have:=of_decide_eq_false ae;have:=of_decide_eq_false af;have:=of_decide_eq_false ag;have au:=(jx h1).1;have hk:=(jx B).1;simp only[List.length_nil,V0]at X d4;exact⟨⟨by grind,⟨hk.1,ad⟩,by grind,by grind,d5⟩,by grind⟩
def li(x:cI)(k:Int)(t:Λ):Int:=min (match x.lines.find? (λp=>decide (p.1=t))with
 |some p=>p.2
 |none=>x.other) k
def bJ(l:Λ):Λ:=((X0 64).map λ(v:Nat)=>(v:Int)).filter λv=>decide (v∈l)
def b5(d6 scope:Λ):Λ:=scope.map λv=>d6.getD v.toNat 0
def qW(scope a t:Λ):Λ:=scope.map λv=>t.getD (a.idxOf v) 0
abbrev c5:Type:=Λ×Λ
def jY(d6:Λ)(k:Int)(x:cI):c5:=(bJ x.scope,(bs (b5 d6 (bJ x.scope))).map λt=>li x k (qW x.scope (bJ x.scope) t))
def eP(k:Int)(a b:Λ):Λ:=List.zipWith (λx y=>min (x+y) k) a b
def jZ(k:Int)(acc:List c5)(g:c5):List c5:=if g.1∈acc.map (·.1)then acc.map λh=>if h.1=g.1 then(h.1,eP k h.2 g.2)else h else acc++[g]
def kR:Λ->Int
 |[]=>0
 |x::l=>x*64 ^ l.length+kR l
def dv(l:Λ):Int:=l.length*64 ^ 6+kR l
def jy(g:c5):List c5->List c5
 |[]=>[g]
 |h::l=>if dv h.1<dv g.1 then h::jy g l else g::h::l
def gl(g:c5):Bool:=g.2.any λc=>decide (0<c)
def gm(f:cn):List c5:=(f.ho.map (jY f.d6 f.k)).foldl (jZ f.k) []
def gn(f:cn):List c5:=((gm f).filter gl).foldl (λl g=>jy g l) []
structure aJ where
 k:Int
 d6:Λ
 zero:Int
 unary:List (Λ)
 ho:List c5
deriving DecidableEq
def cY(f:cn):aJ:=(gn f).foldl (λn g=>match g.1 with
 |[]=>{n with zero:=g.2.getD 0 0}
 |[v]=>{n with unary:=n.unary.set v.toNat g.2}
 |_=>{n with ho:=n.ho++[g]}) ⟨f.k,f.d6,0,f.d6.map λz=>o5 z.toNat 0,[]⟩
abbrev lZ:Type:=Rd (Λ)×Rd (List (Λ×Int))
def bT(g gs:Nat)(A:ak):ak:=λr=>r=g\/r=gs\/A r
def jz(gs:Nat)(e big a f m1:Int)(sv:x4):List x4:=[Γ gs,Δ e,Δ big,Δ a,Δ f,Δ m1,sv]
def cZ(g gs:Nat)(A:ak)(B:ak):ak:=λr=>¬bT g gs A r/\B r
def mP(w:x5)(g gs:Nat)(A:ak)(B:ak):Prop:=g≠gs/\¬A g/\¬A gs/\(∀r,bT g gs A r->r<w.heap.size)/\∀r,B r->r<w.heap.size
def eC(w:x5)(g gs:Nat)(A:ak)(B:ak)(s:aO)(a:Bool):Prop:=mP w g gs A B/\jb w gs (cZ g gs A B) s.hp a/\(0<=s.m1/\s.m1<=aF/\s.m2.length+s.hp.length<=100000)/\
 ∃big e f m1 sv,aj w g cL (jz gs 0 big e f m1 sv)/\((s.big=s2↔big≠0)/\(s.big=sp->m1=s.m1))/\bB A (cZ g gs A B) w [sv] (show List lZ from s.m2)
def fw(w:x5)(g gs:Nat)(A:ak)(B:ak):Prop:=mP w g gs A B/\∃(e big a f m1:Int)(sv:x4)(l:List lZ),aj w g cL (jz gs e big a f m1 sv)/\(e≠0/\l.length<=100000)/\bB A (cZ g gs A B) w [sv] l
theorem mP.ab{g:Nat}{A:ak}{B:ak}(h:mP w g gs A B)(J:ai S w I):mP I g gs A B:=by
 obtain⟨h1,e,f,j,q⟩:=h;exact⟨h1,e,f,λr a=>Nat.lt_of_lt_of_le (j r a) J.size,λr a=>Nat.lt_of_lt_of_le (q r a) J.size⟩
theorem C3{g:Nat}{A:ak}{B:ak}(a:∀r,A r->¬S r)(e:∀r,cZ g gs A B r->¬S r):∀r,A r\/cZ g gs A B r->¬S r:=λr h=>h.elim (a r) (e r)
theorem eC.ab{g:Nat}{A:ak}{B:ak}{s:aO}{e:Bool}(h:eC w g gs A B s e)(J:ai S w I)(a:∀r,bT g gs A r->¬S r)(f:∀r,cZ g gs A B r->¬S r):eC I g gs A B s e:=by
 obtain⟨h1,j,q,big,x,y,m1,sv,z,C,E⟩:=h;exact⟨h1.ab J,j.ab J (a gs (.inr (.inl rfl))) f,q,big,x,y,m1,sv,z.ab J (a g (.inl rfl)),C,aw.ab E J λr _ h=>C3 (λr F=>a r (.inr (.inr F))) f r h⟩
theorem fw.ab{g:Nat}{A:ak}{B:ak}(h:fw w g gs A B)(J:ai S w I)(a:∀r,bT g gs A r->¬S r)(f:∀r,cZ g gs A B r->¬S r):fw I g gs A B:=by
 obtain⟨h1,e,big,j,q,m1,sv,l,s,x,y⟩:=h;exact⟨h1.ab J,e,big,j,q,m1,sv,l,s.ab J (a g (.inl rfl)),x,aw.ab y J λr _ h=>C3 (λr z=>a r (.inr (.inr z))) f r h⟩
theorem eC.W{g:Nat}{A:ak}{B:ak}{s:aO}{a:Bool}(h:eC w g gs A B s a)(J:Ext w I):eC I g gs A B s a:=h.ab (J.ab λ_=>False) (λ_ _ h=>h) (λ_ _ h=>h)
theorem fw.W{g:Nat}{A:ak}{B:ak}(h:fw w g gs A B)(J:Ext w I):fw I g gs A B:=h.ab (J.ab λ_=>False) (λ_ _ h=>h) (λ_ _ h=>h)
def gJ(w:x5)(g gs:Nat)(A:ak)(B:ak)(a:Bool)(s':Option aO)(I:x5):Prop:=ai (bT g gs A) w I/\match s' with
 |some s'=>eC I g gs A B s' a
 |none=>fw I g gs A B
theorem xM{g:Nat}{e big a f m1:Int}(h:aj w g cL (jz gs e big a f m1 sv)):aq x8 mw [Γ g] w λv I=>v= .bool (decide (e=0))/\Ext w I:=by
 refine aE func110 ?_;rw[cc,a1 cL.p rfl,a1 fq.p rfl,aG Ψ (h.cell rfl),bm];exact⟨rfl,Ext.refl _⟩
theorem qX{g:Nat}{A:ak}{B:ak}{s:aO}{a:Bool}(h:eC w g gs A B s a):aq x8 mw [Γ g] w λv I=>v= .bool s2/\Ext w I:=by
 obtain⟨_,_,_,big,f,j,m1,sv,e,_⟩:=h;exact(xM e).Y λ_ _ _ h=>h
theorem pM{g:Nat}{A:ak}{B:ak}(h:fw w g gs A B):aq x8 mw [Γ g] w λv I=>v= .bool sp/\Ext w I:=by
 obtain⟨_,e,big,j,q,m1,sv,l,a,f,_⟩:=h;refine(xM a).Y ?_;rintro _ U _ ⟨rfl,J⟩;exact⟨by rw[rc f.1],J⟩
theorem uC{g:Nat}{A B:ak}(h:A r\/cZ g gs A B r)(a:¬A g):r≠g:=by
 rintro rfl;rcases h with h|h
 .exact a h
 .exact h.1 (.inl rfl)
theorem uD{g:Nat}{A:ak}{B:ak}{big x q m1 e:Int}{l:List lZ}(V:mP w g gs A B)(s:aj w g cL (jz gs 0 big x q m1 sv))(y:bB A (cZ g gs A B) w [sv] l)(he:e≠0)(z:l.length<=100000):
  aq x8 pm [Γ g,Δ e,Δ at_] w λ_ I=>ai (λr=>r=g) w I/\fw I g gs A B:=by
 refine aE func113 ?_;rw[cc,a1 cL.p rfl,a1 fq.p rfl,aG Ψ (s.cell rfl),bm,ao];refine⟨λ_=>?_,λh=>m6 rfl h⟩;rw[cc,a1 cL.p rfl,a1 fq.p rfl];refine bw (g:=g) (o:=1) k6.i rfl rfl s (by simp[jz]) λU C H a=>?_;have a:=a;rw[cc,a1 cL.p rfl,a1 fq.p rfl];refine bw (g:=g) (o:=3) al.i rfl rfl a (by simp[jz]) λaa E J f=>?_;have f:=f;have j:=C.F E;exact⟨j,V.ab j,e,big,at_,q,m1,sv,l,f,⟨he,z⟩,aw.ab y j λr _ h G=>uC h V.2.1 G⟩
theorem uE{g:Nat}{A:ak}{B:ak}{s:aO}{a:Bool}{e:Int}(h:eC w g gs A B s a)(he:e≠0):aq x8 pm [Γ g,Δ e,Δ at_] w λ_ I=>ai (λr=>r=g) w I/\fw I g gs A B:=by
 obtain⟨V,_,f,big,x,y,m1,sv,j,_,q⟩:=h;exact uD V j q he (by have:=f.2.2;show s.m2.length<=_;omega)
theorem Nr{g:Nat}{A:ak}{B:ak}{e:Int}(h:fw w g gs A B):aq x8 pm [Γ g,Δ e,Δ at_] w λ_ I=>Ext w I:=by
 obtain⟨_,f,big,j,q,m1,sv,l,h1,a,_⟩:=h;refine aE func113 ?_;rw[cc,a1 cL.p rfl,a1 fq.p rfl,aG Ψ (h1.cell rfl),bm,ao];exact⟨λh=>m6 h a.1,λ_=>Ext.refl _⟩
theorem uF{g:Nat}{A:ak}{B:ak}{s:aO}{y b:Bool}(h:eC w g gs A B s y):aq x8 rQ [Γ g,.bool b,Δ at_] w λ_ I=>ai (λr=>r=g) w I/\eC I g gs A B (br b s) y:=by
 obtain⟨V,z,C,big,E,J,m1,sv,e,G,H⟩:=id h;refine aE func108 ?_;refine a6 (λv U=>w=U/\v= .bool (b&&decide (big=0))) ?_ ?_
 rotate_left
 .intro aA j;cases b with
  |false=>rw[bc];exact j _ _ ⟨rfl,rfl⟩
  |true=>
   rw[bS,cc,a1 cL.p rfl,a1 fq.p rfl,aG Ψ (e.cell rfl),bm,ao];refine⟨λa=>?_,λa=>j _ _ ⟨rfl,by rw[rc a];rfl⟩⟩;rw[cc,a1 cL.p rfl,a1 fq.p rfl,aG Ψ (e.cell rfl),bm];exact j _ _ ⟨rfl,by rw[ms a];rfl⟩
 rintro _ _ ⟨rfl,rfl⟩;rw[cb];refine⟨λK=>?_,λah=>?_⟩
 .obtain⟨rfl,a⟩:=Bool.and_eq_true_iff.1 K;rw[cc,a1 cL.p rfl,a1 fq.p rfl];refine bw (g:=g) (o:=2) k6.i rfl rfl e (by simp[jz]) λU L P q=>?_;have q:=q;rw[cc,a1 cL.p rfl,a1 fq.p rfl];refine bw (g:=g) (o:=4) al.i rfl rfl q (by simp[jz]) λaa M Q x=>?_;have x:=x;have f:=L.F M;exact⟨f,V.ab f,z.ab f (λhe=>V.1 he.symm) (λr N he=>N.1 (.inl he)),C,5,E,at_,m1,sv,x,⟨⟨λ_=>Ω,λ_=>by simp[br]⟩,λh=>by simp[br]at h⟩,aw.ab H f λr _ h O=>uC h V.2.1 O⟩
 .refine⟨ai.refl _ _,V,z,C,big,E,J,m1,sv,e,⟨?_,λh=>G.2 (by
   have h:(s.big||b)=sp:=h;exact(T3.1 h).1)⟩,H⟩
  show(s.big||b)=s2↔big≠0;cases b with
  |false=>rw[Bool.or_false];exact G.1
  |true=>
   have a:=of_decide_eq_false (by simpa using ah);simp[a]
theorem C4{g:Nat}{A:ak}{B:ak}{b:Bool}(h:fw w g gs A B):aq x8 rQ [Γ g,.bool b,Δ at_] w λ_ I=>Ext w I:=by
 obtain⟨_,j,big,q,r,m1,sv,l,h1,e,_⟩:=h;refine aE func108 ?_;refine a6 (λv U=>w=U/\v= .bool sp) ?_ ?_
 .rintro _ _ ⟨rfl,rfl⟩;rw[bc];exact Ext.refl _
 intro aA a;cases b with
 |false=>rw[bc];exact a _ _ ⟨rfl,rfl⟩
 |true=>
  rw[bS,cc,a1 cL.p rfl,a1 fq.p rfl,aG Ψ (h1.cell rfl),bm,ao];refine⟨λf=>?_,λf=>a _ _ ⟨rfl,rfl⟩⟩;rw[cc,a1 cL.p rfl,a1 fq.p rfl,aG Ψ (h1.cell rfl),bm];exact a _ _ ⟨rfl,by rw[rc e.1]⟩
theorem eC.scan{g:Nat}{A:ak}{B:ak}{s:aO}{a:Bool}{l:List (Λ)}(h:eC w g gs A B s a)(e:ai (λr=>r=gs) w I)(V:jb I gs (cZ g gs A B) l a)(E:l.length<=s.hp.length):eC I g gs A B {s with hp:=l} a:=by
 obtain⟨h1,_,f,big,q,x,m1,sv,y,z,C⟩:=h;refine⟨h1.ab e,V,⟨f.1,f.2.1,by have:=f.2.2;show s.m2.length+l.length<=100000;omega⟩,big,q,x,m1,sv,y.ab e h1.1,z,aw.ab C e λr _ h j=>?_⟩;have j:r=gs:=j;subst j;rcases h with h|h
 .exact h1.2.2.1 h
 .exact h.1 (.inr (.inl rfl))
theorem C5{g:Nat}{A:ak}{B:ak}{s:aO}{y:Bool}(h:eC w g gs A B s y):aq x8 Bb [Γ g] w λv I=>gJ w g gs A B y ((eh s).map (·.2)) I/\∃(t:Λ)(n:Int),v= .tuple #[cp t,Δ n]/\Bytes t/\t.length<=100000/\∀q,eh s=σ q->t=q.1:=by
 refine aE func107 ?_;refine(qX h).Y ?_;rintro _ U _ ⟨rfl,K⟩;rw[bN,Y5,bc];have h1:=h.W K;obtain⟨_,L,_,big,O,P,m1,sv,z,_⟩:=id h1;have Q:=L.words.2;rw[aP cL.p 0 z rfl];refine(sh L).Y ?_;rintro v aa _ ⟨j,ac⟩;have M:ai (bT g gs A) w aa:=(K.ab _).F (j.Y λr _ h=>.inr (.inl h));cases f:s.hp with
 |cons t l=>
  rw[f]at ac;obtain⟨R,n,rfl⟩:=ac;have S:=h1.scan j R (by rw[f];simp);have C:eh s=σ (t,{s with hp:=l}):=by unfold eh;rw[f]
  have N:=Q t (by rw[f];exact .head _);rw[fS,fT,fU];refine a6 (λv E=>aa=E/\v=Δ 0) ?_ ?_
  .rintro _ _ ⟨rfl,rfl⟩;refine dh (λx=>aa=x) ?_ ?_
   .rintro _ rfl;rw[C];exact⟨⟨M,S⟩,t,n,rfl,N.1,N.2.2,λq G=>by cases G;rfl⟩
   .intro aA a;rw[bM,ao];exact⟨λh=>m6 rfl h,λ_=>a _ rfl⟩
  .intro aA a;rw[bm,ao];exact⟨λh=>Ω,λ_=>a _ _ ⟨rfl,rfl⟩⟩
 |nil=>
  rw[f]at ac;obtain⟨n,rfl⟩:=ac;have C:eh s=ν:=by unfold eh;rw[f]
  obtain⟨H,_,V,big,O,P,m1,sv,z,af,W⟩:=id h1;have X:=z.ab j H.1;have Y:=aw.ab W j λr _ h J=>by
   have J:r=gs:=J;subst J;rcases h with h|h
   .exact H.2.2.1 h
   .exact h.1 (.inr (.inl rfl))
  rw[fS,fT,fU];refine a6 (λv E=>aa=E/\∃e:Int,v=Δ e/\e≠0) ?_ ?_
  .rintro _ _ ⟨rfl,e,rfl,he⟩;refine dh (λx=>ai (λr=>r=g) aa x/\fw x g gs A B) ?_ ?_
   .rintro x ⟨Z,ad⟩;rw[C];exact⟨⟨M.F (Z.Y λr _ h=>.inl h),ad⟩,[],n,rfl,λb ae=>(by cases ae),Ξ,λq G=>by cases G⟩
   .intro aA a;rw[bM,ao];refine⟨λ_=>?_,λh=>m6 he h⟩;exact(uD (H.ab j) X Y he (by have:=V.2.2;show s.m2.length<=_;omega)).Y λ_ I _ h=>a _ h
  .intro aA a;rw[bm,ao];cases y with
   |true=>exact⟨λ_=>a _ _ ⟨rfl,4,rfl,Ω⟩,λh=>m6 rfl h⟩
   |false=>exact⟨λh=>by simp at h,λ_=>a _ _ ⟨rfl,11,rfl,Ω⟩⟩
theorem Ns{g:Nat}{A:ak}{B:ak}(h:fw w g gs A B):aq x8 Bb [Γ g] w λv I=>Ext w I/\v= .tuple #[cp [],Δ 0]:=by
 refine aE func107 ?_;refine(pM h).Y ?_;rintro _ U _ ⟨rfl,a⟩;rw[bN,X6,bS];exact⟨a,rfl⟩
theorem xN{g:Nat}{A:ak}{B:ak}{s:aO}{z:Bool}(h:eC w g gs A B s z):aq x8 pk [Γ g,Δ lo,Δ hi] w λv I=>gJ w g gs A B z ((bt lo hi s).map (·.2)) I/\∃n at_:Int,v= .tuple #[Δ n,Δ at_]/\(∀q,bt lo hi s=σ q->n=q.1)/\(bt lo hi s=ν->n=0):=by
 refine aE func109 ?_;refine(C5 h).Y ?_;rintro _ U _ ⟨⟨C,f⟩,t,n,rfl,J,K,hw⟩;rw[bz,bA];cases j:eh s with
 |none=>
  have a:bt lo hi s=ν:=by unfold bt;rw[j]
  rw[j]at f;have f:=f;refine(pM f).Y ?_;rintro _ aa _ ⟨rfl,x⟩;rw[bN,X6,bS,a];exact⟨⟨C.F (x.ab _),f.W x⟩,0,n,rfl,λq h=>(by cases h),λ_=>rfl⟩
 |some q=>
  obtain⟨bx,s1⟩:=q;have:=hw _ j;subst this;rw[j]at f;have f:=f;refine(qX f).Y ?_;rintro _ aa _ ⟨rfl,x⟩;rw[bN,Y5,bc];refine(No J K).Y ?_;rintro _ L _ ⟨rfl,E⟩;have G:=(f.W x).W E;have H:=(C.F (x.ab _)).F (E.ab _);obtain⟨m,e,ac,hm⟩:∃m e:Int,lY t= .tuple #[Δ m,Δ e]/\((iw t=σ m/\e=0)\/(iw t=ν/\e=4)):=by
   unfold lY;cases P:iw t with
   |none=>exact⟨0,4,rfl,.inr ⟨rfl,rfl⟩⟩
   |some m=>exact⟨m,0,rfl,.inl ⟨rfl,rfl⟩⟩
  rw[ac,bz,bA];refine a6 (λv M=>L=M/\v= .bool (bt lo hi s).isNone) ?_ ?_
  .rintro _ _ ⟨rfl,rfl⟩;cases a:bt lo hi s with
   |none=>
    rw[Option.isNone_none,bS];refine(uE G Ω).Y ?_;rintro _ Q _ ⟨N,O⟩;exact⟨⟨H.F (N.Y λr _ h=>.inl h),O⟩,0,n,rfl,λq h=>(by cases h),λ_=>rfl⟩
   |some q=>
    rw[b8,bc];unfold bt at a;rw[j]at a;simp only at a;rcases hm with⟨hm,_⟩|⟨hm,_⟩
    .rw[hm]at a;simp only at a;split at a
     .cases a;exact⟨⟨H,G⟩,m,n,rfl,λq h=>(by cases h;rfl),λh=>(by cases h)⟩
     .cases a
    .rw[hm]at a;cases a
  .intro aA y;have a:bt lo hi s=match iw t with
     |none=>ν
     |some n=>if lo<=n/\n<=hi then σ (n,s1)else ν:=by
    unfold bt;rw[j];simp only;cases iw t<;>rfl
   rw[bM,ao];rcases hm with⟨hm,rfl⟩|⟨hm,rfl⟩
   .rw[hm]at a;simp only at a;refine⟨λh=>m6 rfl h,λ_=>?_⟩;rw[aW,ao];refine⟨λh=>y _ _ ⟨rfl,by rw[a,m5 Ω];rfl⟩,λh=>?_⟩;rw[bU];refine y _ _ ⟨rfl,?_⟩;rw[a];by_cases ax:hi<m
    .rw[ms ax,m5 Ω];rfl
    .rw[rc ax,m3 Ω];rfl
   .rw[hm]at a;exact⟨λ_=>y _ _ ⟨rfl,by rw[a];rfl⟩,λh=>m6 (by omega:(4:Int)≠0) h⟩
theorem Nt{g:Nat}{A:ak}{B:ak}(h:fw w g gs A B):aq x8 pk [Γ g,Δ lo,Δ hi] w λv I=>Ext w I/\v= .tuple #[Δ 0,Δ 0]:=by
 refine aE func109 ?_;refine(Ns h).Y ?_;rintro _ U _ ⟨a,rfl⟩;rw[bz,bA];refine(pM (h.W a)).Y ?_;rintro _ aa _ ⟨rfl,e⟩;rw[bN,X6,bS];exact⟨a.F e,rfl⟩
theorem Nu{x:Int}(h:aQ .i64 w sv l):aq x8 Lv [sv,Δ x] w λv I=>Ext w I/\∃r:Int,v=Δ r/\(0<=r↔x∈l):=by
 refine aE func272 ?_;rw[a8 aB.u h];refine ce.range l.length (λi _ U=>Ext w U/\x∉l.take i) h.le ⟨Ext.refl _,Ξ⟩ ?_ ?_
 .rintro i _ U k hi ⟨a,e⟩ hk;refine bF Ω ?_;obtain⟨y,f⟩:=aI (l:=l) hi;rw[bk aB.u ay.i Ψ (h.W a) f,bm,ao];refine⟨λhe=>⟨a,i,rfl,⟨λ_=>he▸x7 f,λ_=>Ω⟩⟩,λhe=>?_⟩;rw[aR];refine hk _ _ ⟨a,λhm=>?_⟩;rw[u9,f]at hm;rcases j5.1 hm with hm|hm
  .exact e hm
  .simp at hm;exact he hm
 .rintro _ U k ⟨a,e⟩;rw[o9]at e;rw[aW,ao];exact⟨λh=>Ω,λ_=>⟨a,-1,rfl,⟨λh=>Ω,λh=>m6 h e⟩⟩⟩
theorem Nv{x:Int}(h:aQ .i64 w sv l):aq x8 K6 [sv,Δ x] w λv I=>v= .bool (decide (x∈l))/\Ext w I:=by
 refine aE func228 ?_;refine(Nu h).Y ?_;rintro _ U _ ⟨J,r,rfl,a⟩;rw[cT];exact⟨by congr 1;rw[V9,ro,ro];exact a,J⟩
theorem uG:∀{l:Λ},(∀z∈l,1<=z)->∀i,aX ((l.take i).map λk=>min k 4097)<=aX (l.map λk=>min k 4097)/\1<=aX ((l.take i).map λk=>min k 4097)
 |[],_,i=>by simp[aX]
 |z::l,h,0=>by
  have a:=uG (λx J=>h x (.tail _ J)) l.length;rw[o9]at a;have e:=h z (.head _);simp only[List.take_zero,List.map_nil,List.map_cons,aX];have:=Int.mul_le_mul_of_nonneg_left a.2 (show 0<=min z 4097 by omega);omega
 |z::l,h,i+1=>by
  have a:=uG (λx J=>h x (.tail _ J)) i;have e:=h z (.head _);simp only[List.take_succ_cons,List.map_cons,aX];have h1:=Int.mul_le_mul_of_nonneg_left a.1 (show 0<=min z 4097 by omega);have f:=Int.mul_le_mul_of_nonneg_left a.2 (show 0<=min z 4097 by omega);exact⟨h1,Ω⟩
theorem C6(l:Λ)(x:Int):aX (l++[x])=aX l*x:=by
 induction l with
 |nil=>simp[aX]
 |cons a l e=>rw[List.cons_append,aX,e,aX,Int.mul_assoc]
theorem C7(h:aQ .i64 w sv l)(h1:∀z∈l,1<=z):aq x8 Kp [sv] w λv I=>v= .bool (dO l)/\Ext w I:=by
 refine aE func172 ?_;rw[a8 aB.u h];refine kE.range l.length (λi _ n U=>Ext w U/\n=Δ (aX ((l.take i).map λk=>min k 4097))/\aX ((l.take i).map λk=>min k 4097)<=4096) h.le ⟨Ext.refl _,by simp[aX],by simp[aX]⟩ ?_ ?_
 .rintro i _ _ U q hi ⟨a,rfl,f⟩ r;refine bF Ω ?_;obtain⟨z,j⟩:=aI (l:=l) hi;have x:=h1 z (x7 j);have y:=uG h1 i;have A:=uG h1 (i+1);have e:aX ((l.take (i+1)).map λk=>min k 4097)=aX ((l.take i).map λk=>min k 4097)*min z 4097:=by
   rw[u9,j,j4,Z2,List.map_cons,List.map_nil,C6]
  rw[bk aB.u ay.i Ψ (h.W a) j,nK,fQ,<-e];have B:aX ((l.take (i+1)).map λk=>min k 4097)<=4096*4097:=by
   rw[e];have C:=Int.mul_le_mul_of_nonneg_right f (show 0<=min z 4097 by omega);have E:=Int.mul_le_mul_of_nonneg_left (show min z 4097<=4097 by omega) (show(0:Int)<=4096 by omega);omega
  rw[lm Ω Ω,bU,ao];refine⟨λs=>⟨?_,a⟩,λs=>?_⟩
  .unfold dO;rw[ms];omega
  .rw[aR];exact r _ _ _ ⟨a,rfl,Ω⟩
 .rintro _ _ U q ⟨a,rfl,f⟩;rw[o9]at f;rw[aW,ao];refine⟨λh=>Ω,λ_=>⟨?_,a⟩⟩;unfold dO;rw[rc];omega
def l0(n:Int)(acc:Λ)(s:aO):Option (Int×aO):=match bt 0 (n-1) s with
 |none=>ν
 |some (v,s)=>if v∈acc then ν else σ (v,s)
theorem qY{α:Type}{f:List α->aO->Option (α×aO)}{acc:List α}{s:aO}(h:f acc s=ν):dc f (n+1) acc s=ν:=by
 simp only[dc,h]
theorem uH{α:Type}{f:List α->aO->Option (α×aO)}{acc:List α}{s s':aO}{a:α}(h:f acc s=σ (a,s')):dc f (n+1) acc s=dc f n (acc++[a]) s':=by
 simp only[dc,h]
theorem eC.sj{g:Nat}{A:ak}{B:ak}{s:aO}{a:Bool}(h:eC w g gs A B s a):(∀r,bT g gs A r->r<w.heap.size)/\(∀r,B r->r<w.heap.size):=⟨h.1.2.2.2.1,h.1.2.2.2.2⟩
theorem Nw{g k:Nat}{A B:ak}{s:aO}{J:Bool}{m:Int}(h:eC w g gs A B s J)(hk:k<=4611686018427387904)(hm:0<=m/\m<=1000000):
  aq x8 Bj [Γ g,Δ (k:Int),Δ m] w λv I=>gJ w g gs A B J ((fv m k s).map (·.2)) I/\
   ∃gr l,aH .i64 ay I gr v l/\(∀r,lc v r->w.heap.size<=r)/\l.length<=100001/\∀q,fv m k s=σ q->l=q.1:=by
 obtain⟨ad,ax⟩:=h.sj;have az:=h.2.1.words.1;refine aE func171 ?_;refine⟨λout R U=>∃i:Nat,R=Δ (i:Int)/\i<=k/\ai (bT g gs A) w U/\∃gr l,aH .i64 ay U gr out l/\w.heap.size<=gr/\l.length<=100001/\
  ((∃st,eC U g gs A B st J/\dc (l0 m) (k-i) l st=fv m k s/\l.length+st.hp.length<=100000)\/(fw U g gs A B/\fv m k s=ν)),λ_ R _=>k-(b2 R).toNat,
  ⟨0,rfl,X9 _,ai.refl _ _,w.heap.size,[],aH.nil _ _ _ _,o6 _,Ξ,.inl ⟨s,h,rfl,by simpa using az⟩⟩,?_⟩
 rintro out _ U ⟨i,rfl,aC,ae,gr,l,af,bd,be,ag⟩;have s1:=ae.size;have S:∀r,lc out r->w.heap.size<=r:=λr z=>by have:=cd af z;omega
 refine a6 (λv aa=>Ext U aa/\((v= .bool s2/\i<k/\∃st,eC aa g gs A B st J/\dc (l0 m) (k-i) l st=fv m k s/\l.length+st.hp.length<=100000)\/
  (v= .bool sp/\((∃st,eC aa g gs A B st J/\fv m k s=σ (l,st))\/(fw aa g gs A B/\fv m k s=ν))))) ?_ ?_
 rotate_left
 .intro aA M;rw[aW,ao];refine⟨λbf=>?_,λbg=>?_⟩
  .rcases ag with⟨st,C,x,V⟩|⟨G,W⟩
   .refine (qX C).Y ?_;rintro _ aa _ ⟨rfl,E⟩;exact M _ _ ⟨E,.inl ⟨rfl,Ω,st,C.W E,x,V⟩⟩
   .refine (pM G).Y ?_;rintro _ aa _ ⟨rfl,E⟩;exact M _ _ ⟨E,.inr ⟨rfl,.inr ⟨G.W E,W⟩⟩⟩
  .have aD:k-i=0:=Ω
   rcases ag with⟨st,C,x,V⟩|aF
   .rw[aD]at x;exact M _ _ ⟨Ext.refl _,.inr ⟨rfl,.inl ⟨st,C,x.symm⟩⟩⟩
   .exact M _ _ ⟨Ext.refl _,.inr ⟨rfl,.inr aF⟩⟩
 rintro _ aa ⟨E,aG⟩;have X:ai (bT g gs A) w aa:=ae.F (E.ab _);have N:=af.W E;rcases aG with⟨rfl,aC,st,C,x,V⟩|⟨rfl,aI⟩
 rotate_left
 .rw[bc];rcases aI with⟨st,C,K⟩|⟨G,K⟩
  .rw[K];exact⟨⟨X,C⟩,gr,l,N,S,Ω,λq f=>by cases f;rfl⟩
  .rw[K];exact⟨⟨X,G⟩,gr,l,N,S,Ω,λq f=>by cases f⟩
 rw[bS,dr,lm Ω Ω];have aJ:k-i=(k-(i+1))+1:=Ω
 rw[aJ]at x;refine(xN C).Y ?_;rintro _ ah _ ⟨⟨O,P⟩,n,at_,rfl,aK,bh⟩;rw[bz,bA];have aj:∀r,lc out r->¬bT g gs A r:=λr z aL=>by have:=ad r aL;have:=S r z;omega
 have bi:∀r,g=r->bT g gs A r:=λr h=>.inl h.symm;refine dh (λe=>ai (bT g gs A) aa e/\((∃y,eC e g gs A B y J/\dc (l0 m) (k-(i+1)) (l++[n]) y=fv m k s/\l.length+1+y.hp.length<=100000)\/(fw e g gs A B/\fv m k s=ν))/\l.length+1<=100001) ?_ ?_
 .rintro e ⟨al,aM,am⟩;have aN:=bG N al aj;have an:=X.F al;have bj:=an.size;refine e6 aB.u ay.i rfl λa ga ap bk H aP=>?_;refine kL aB.u ay.i rfl (aN.W H) aP.ls Θ Θ λaQ aS aT bl aU Y=>?_;have bm:=H.size;rw[aR,lm Ω Ω];have aV:ai (bT g gs A) w aT:=ja (an.F (H.ab _)) Y λr z he=>by have he:r=gr:=he;omega
  have au:∀r,bT g gs A r->¬(λr=>r=gr) r:=λr z he=>by have:=ad r z;have he:r=gr:=he;omega
  have av:∀r,cZ g gs A B r->¬(λr=>r=gr) r:=λr z he=>by have:=ax r z.2;have he:r=gr:=he;omega
  refine⟨⟨i+1,rfl,Ω,aV,aS,l++[n],aU,Ω,Θ,?_⟩,by simp only[b2];omega⟩;rcases aM with⟨y,Q,aX,bn⟩|⟨aY,W⟩
  .exact .inl ⟨y,(Q.W H).ab Y au av,aX,Θ⟩
  .exact .inr ⟨(aY.W H).ab Y au av,W⟩
 .intro bo Z;cases f:bt 0 (m-1) st with
  |none=>
   rw[f]at P;have G:=P;have L:l0 m l st=ν:=by unfold l0;rw[f]
   have K:fv m k s=ν:=by rw[<-x];exact qY L
   refine a6 (λv e=>Ext ah e/\v= .bool sp) ?_ ?_
   rotate_left
   .intro aZ ac;refine(pM G).Y ?_;rintro _ e _ ⟨rfl,j⟩;rw[bc];exact ac _ _ ⟨j,rfl⟩
   rintro _ e ⟨j,rfl⟩;rw[bc];exact Z _ ⟨O.F (j.ab _),.inr ⟨G.W j,K⟩,Ω⟩
  |some q=>
   obtain⟨aQ,y⟩:=q;have a1:=aK _ f;subst a1;rw[f]at P;have aw:=P;have a2:=dT f;have am:l.length+1+y.hp.length<=100000:=by have:=a2.1;omega
   refine a6 (λv e=>Ext ah e/\v= .bool (decide (n∈l))) ?_ ?_
   rotate_left
   .intro aZ ac;refine(qX aw).Y ?_;rintro _ e _ ⟨rfl,j⟩;rw[bS];refine(Nv ((bG N O aj).W j).ls).Y ?_;rintro _ ap _ ⟨rfl,H⟩;exact ac _ _ ⟨j.F H,rfl⟩
   rintro _ e ⟨j,rfl⟩;have Q:=aw.W j;rw[ao];refine⟨λa7=>?_,λa8=>?_⟩
   .have L:l0 m l st=ν:=by unfold l0;rw[f];simp only;rw[m3 a7]
    refine(uE Q Ω).Y ?_;rintro _ ap _ ⟨ba,bb⟩;exact Z _ ⟨(O.F (j.ab _)).F (ba.Y λr _ h=>.inl h),.inr ⟨bb,by rw[<-x];exact qY L⟩,Ω⟩
   .have L:l0 m l st=σ (n,y):=by unfold l0;rw[f];simp only;rw[m5 a8]
    exact Z _ ⟨O.F (j.ab _),.inl ⟨y,Q,by rw[<-x];exact(uH L).symm,am⟩,Ω⟩
theorem Nx{s:Λ}(V:dS s):sd (bs s) t=match cj s t 0 with
  |some n=>n
  |none=>-1:=by
 unfold sd;cases ah:(bs s).findIdx? (λx=>decide (x=t))with
 |none=>
  cases hi:cj s t 0 with
  |none=>rfl
  |some n=>
   have:=lX V hi;rw[List.findIdx?_eq_none_iff]at ah;have:=ah t (x7 this);simp at this
 |some i=>
  rw[List.findIdx?_eq_some_iff_getElem]at ah;obtain⟨hi,h1,_⟩:=ah;have h1:(bs s)[i]=t:=by simpa using h1
  have:=kr V (i:=i) (t:=t) (by rw[v8 hi,h1]);rw[this]
theorem mQ{a b:Int}(e:0<=a/\a<=4294967296)(f:0<=b/\b<=4294967296):aq x8 IS [Δ a,Δ b,Δ k] w λv I=>v=Δ (min (a+b) k)/\Ext w I:=by
 refine aE func31 ?_;simp only[aR,bU,ao];rw[lm Ω Ω];exact⟨λh=>⟨by rw[Int.min_eq_right Ω],Ext.refl _⟩,λh=>⟨by rw[Int.min_eq_left Ω],Ext.refl _⟩⟩
def pN(a b k:Int):x4:=if cE a k/\cE b k then .tuple #[Δ (min (a+b) k),Δ 0]else .tuple #[Δ 0,Δ 3]
theorem xO{a b:Int}:aq x8 Br [Δ a,Δ b,Δ k] w λv I=>v=pN a b k/\Ext w I:=by
 refine aE func214 ?_;refine a6 (λv U=>Ext w U/\v= .bool (decide (¬(cE a k/\cE b k)))) ?_ ?_
 .rintro _ U ⟨J,rfl⟩;simp only[ao,aR,nK];refine⟨λh=>⟨by unfold pN;rw[m5 h],J⟩,λh=>?_⟩;have h:=X1.1 h;obtain⟨⟨h1,r⟩,s,x⟩:=id h;have:=h1.2;rw[lm Ω Ω];exact⟨by unfold pN;rw[m3 h],J⟩
 .intro aA e;refine ld.Y ?_;rintro _ aa _ ⟨rfl,f⟩;simp only[bN,cb];refine⟨λh=>e _ _ ⟨f,?_⟩,λh=>?_⟩
  .have:¬cE a k:=by simpa using h
   rw[ms];exact λh=>this h.1
  .have j:cE a k:=by simpa using h
   refine ld.Y ?_;rintro _ y _ ⟨rfl,q⟩;simp only[bN];exact e _ _ ⟨f.F q,by simp[j]⟩
theorem Ny(h:aQ .i64 w sv l)(f:l≠[]):
  aq x8 LD [sv] w λv I=>v=Δ (xC l)/\Ext w I:=by
 obtain⟨x,l,rfl⟩:∃x r,l=x::r:=by cases l with
  |nil=>exact m6 rfl f
  |cons x r=>exact⟨x,r,rfl⟩
 have j:=h.le;refine aE func292 ?_;refine dh (λU=>w=U) ?_ ?_
 .rintro _ rfl;rw[ft (y:=0) (i:=0) rfl aB.u ay.i Ψ h (by rfl)];refine⟨λm i aa=>Ext w aa/\∃k:Nat,i=Δ (k+1:Nat)/\k<=l.length/\m=Δ ((l.take k).foldl min x),λ_ i _=>l.length+1-(b2 i).toNat,⟨Ext.refl _,0,rfl,X9 _,rfl⟩,?_⟩;rintro _ _ aa ⟨a,k,rfl,hk,rfl⟩;rw[a8 aB.u (h.W a)];simp only[W5,aW,ao]at j ⊢;refine⟨λs=>?_,λz=>⟨?_,a⟩⟩
  .obtain⟨y,e⟩:=aI (l:=l) (i:=k) Ω;rw[bk aB.u ay.i Ψ (h.W a) (show(x::l)[k+1]?=σ y from e),nK];simp only[aR];rw[lm Ω Ω];refine⟨⟨a,k+1,by congr 1,Ω,?_⟩,?_⟩
   .rw[u9,e,List.foldl_append];rfl
   .simp only[b2];omega
  .have:k=l.length:=Ω
   subst this;rw[o9];rfl
 .intro aA q;rw[a8 aB.u h];simp only[aW,ao];exact⟨λh=>by simp at h;omega,λ_=>q _ rfl⟩
theorem C8{g a:Nat}(h:du w g a sv an k cs):aq x8 w8 [Γ g] w λv I=>v=Δ k/\Ext w I:=by
 obtain⟨⟨bf,gs,e,hm,f⟩,_⟩:=h;refine aE func255 ?_;rw[dl fs.u];simp only[b8,bc];rw[aP db.p 1 e rfl];exact⟨rfl,Ext.refl _⟩
theorem oH{g e:Nat}(h:du w g e sv an k cs):
  aq x8 JN [Γ g] w λv I=>Ext w I/\∃a,w.heap.size<=a/\aH .i64 ay I a v cs:=by
 obtain⟨⟨bf,gs,f,hm,j⟩,⟨_,_,ae⟩,V,q⟩:=h;refine aE func124 ?_;rw[dl fs.u];simp only[b8,bc];rw[aP db.p 2 f rfl];exact xk j.ls Ω
theorem qZ{g e:Nat}(h:du w g e sv an k cs):
  aq x8 KK [Γ g] w λv I=>v= .agg #[sv]/\Ext w I:=by
 obtain⟨⟨bf,gs,f,hm,z⟩,_⟩:=h;have q:=hm.ls.cells;refine aE func202 ?_;refine bE bO.i λA U B a s=>?_;rw[dl fs.u];simp only[b8,bc];rw[cc,a1 db.p rfl,bH (cs:=[sv]) bO.p bO.i rfl (pE (f.W a) (by
  intro j v ac
  match j,ac with
  |0,ac=>exact ac))]
 refine b3 (vs:=[sv]) bO.i rfl rfl (by intro u hu;simp at hu;subst hu;exact q.2) s λC x E y=>?_;rw[fu bO.p bO.i rfl y.range];exact⟨rfl,a.then x (by rintro r G rfl;omega)⟩
theorem C9(h:aQ .i64 w sv an)(q:an.length<=1000):aq x8 Bw [.agg #[sv]] w λv I=>Ext w I/\∃a,w.heap.size<=a/\aH .i64 al I a v an:=by
 refine aE func254 ?_;refine bn λg U r e f=>?_;rw[aN bO.p 0 f rfl];refine(lf (h.W e) Ω).Y ?_;rintro v aa _ ⟨j,a,s,hm⟩;have s1:=e.size;exact⟨e.F j,a,Ω,hm⟩
theorem Da(h:aQ .i64 w sv an):aq x8 Lz [.agg #[sv]] w λv I=>v=Δ an.length/\Ext w I:=by
 refine aE func279 ?_;refine bn λg U f a e=>?_;rw[aN bO.p 0 e rfl,a8 au.u (h.W a)];exact⟨rfl,a⟩
def jA(an:Λ)(i:Int):Int:=if 0<=i then an.getD i.toNat 0 else 0
theorem sk{i:Int}(h:aQ .i64 w sv an):aq x8 LA [.agg #[sv],Δ i] w λv I=>v=Δ (jA an i)/\Ext w I:=by
 refine aE func280 ?_;refine bn λg U r a e=>?_;refine a6 (λv aa=>v= .bool (decide (i<0\/(an.length:Int)<=i))/\U=aa) ?_ ?_
 .rintro _ _ ⟨rfl,rfl⟩;simp only[ao];refine⟨λh=>⟨?_,a⟩,λq=>?_⟩
  .unfold jA;split
   .rw[r8,W8 Ω];rfl
   .rfl
  .rw[aN bO.p 0 e rfl];obtain⟨n,rfl⟩:∃n:Nat,i=n:=⟨i.toNat,Ω⟩;have f:n<an.length:=Ω
   rw[bk au.u al.i Ψ (h.W a) (v8 f)];refine⟨?_,a⟩;unfold jA;rw[m3 Ω,r8,u7,v8 f];rfl
 .intro aA j;simp only[aW,ao];refine⟨λh=>j _ _ ⟨by rw[ms];omega,rfl⟩,λq=>?_⟩;rw[aN bO.p 0 e rfl,a8 au.u (h.W a)];simp only[cT];exact j _ _ ⟨by congr 1;simp;omega,rfl⟩
theorem xP{g B0:Nat}(V:ct an):
  qu x8 nD [Γ g] (aX an).toNat (λk vs w=>∃aY gt,vs=[Δ (k:Int),aY]/\B0<=gt/\aH .i64 al w gt aY (dz an k))
   (λw=>aj w g bO [sv]/\aQ .i64 w sv an/\B0<=w.heap.size):=by
 refine⟨nD.enters,λl aA O w q _ y ⟨r,s,z⟩ A=>?_⟩;have ae:=prod_bound V;refine rW func94 ?_;rw[bH bO.p bO.i rfl r.range];refine(qK s V).free.Y ?_;rintro _ U ⟨B,rfl,J⟩;refine b7.range (aX an).toNat (λi aa=>aA i aa/\aj aa g bO [sv]/\aQ .i64 aa sv an/\B0<=aa.heap.size) Ω ⟨q 0 _ _ J B.b A,r.W J,s.W J,X3 z J.size⟩ ?_ ?_
 .rintro i aa k hi ⟨e,f,j,x⟩ hk;simp only[aW,ao];refine⟨λ_=>?_,λh=>Ω⟩;rw[bH bO.p bO.i rfl f.range];refine(Mb j V Ω Ω).free.Y ?_;rintro _ C ⟨E,a,aY,gt,rfl,G,H⟩;rw[bz,bA];refine⟨rfl,(y i _ C hi ⟨f.W a,j.W a,X3 x a.size⟩ ⟨aY,gt,rfl,X3 x G,H⟩ (q _ _ _ a E.b e)).Y ?_⟩;rintro _ P (⟨rfl,⟨I,K,L⟩,M⟩|⟨rfl,N⟩)
  .simp only[bN,Y5,bc,aR];exact hk _ ⟨M.1,I,K,L⟩
  .simp only[bN,X6,bS];exact .inr ⟨i,hi,N⟩
 .rintro aa k ⟨e,f,j,_⟩;simp only[aW,ao];exact⟨λh=>Ω,λ_=>.inl e⟩
theorem xQ:aq x8 I3 [.agg #[sv]] w λr I=>Ext w I/\∃g,r= .func (.func nD) #[] #[Γ g]/\w.heap.size<=g/\aj I g bO [sv]:=by
 refine aE func50 ?_;refine bn λg U f a e=>?_;rw[lS];exact⟨a,g,rfl,Ω,e⟩
end Go.Proofs.YtlcdcbgoaljiiaaGreatDoor
namespace Go.Vc
open Go Go.RowKit
set_option maxRecDepth 100000
section
variable{P:W0}{w:x5}
theorem aM.cR{α:Type}{s:Sem α}{K:α->x5->Prop}(h:aM P s w λv I=>cU w I->K v I):aM P s w K:=by
 obtain⟨v,I,h1,a,e⟩:=h;exact⟨v,I,h1,a,e a⟩
structure Keys(P:W0)(k:o4)(G:x4->Prop):Prop where
 check:∀(w:x5)(em:Bool){v:x4},G v->(Instr.checkKey em 10000 k v).run P w= .ok () w
 find:∀(w:x5){x:x4},G x->∀es:List MapEntry,(∀e∈es,G e.key)->
  ((Instr.findKey k x es).run P w= .ok ν w/\∀e∈es,e.key≠x)\/∃j e,(Instr.findKey k x es).run P w= .ok (σ (j,e.val)) w/\es[j]?=σ e/\e.key=x
 stays:∀(w:x5){v:x4},G v->(Instr.keyThatStays v v).run P w= .ok v w
theorem Keys.law{k:o4}(K:WideMaps.KeyLaw P k):Keys P k λv=>∃l,keyOf P k v=σ l:=
 ⟨λw a _ ⟨_,h⟩=>K.check w a h,λw _ ⟨_,h⟩ e f=>K.find w h e f,λw _ ⟨_,h⟩=>K.stays w h⟩
theorem Keys.int{k:o4}{a:o8}(hk:P.underlying k=σ (.int a)):Keys P k λv=>∃n,v= .int a n:=by
 have key:∀n,MapKept.IsKey (.int a) (.int a n):=λn=>rfl;refine⟨λw e v ⟨n,h⟩=>?_,λw x ⟨n,h⟩ f j=>?_,λw v ⟨n,h⟩=>?_⟩
 all_goals grind [MapKept.run_checkKey,MapKept.findNow_spec,MapKept.run_findKey,MapKept.run_keyThatStays]
def iy(e:MapEntry):x4×x4:=(e.key,e.val)
def de(w:x5)(m:Nat)(d:List (x4×x4)):Prop:=∃a e,w.heap[m]?=σ (.map a e)/\MapKept.Stamped a e/\a.toList.map iy=d
theorem de.W{m:Nat}{d:List (x4×x4)}(h:de w m d)(J:Ext w I):de I m d:=by
 obtain⟨a,c,h1,e⟩:=h;exact⟨a,c,J.a7 m _ h1 rfl,e⟩
theorem de.ab{m:Nat}{d:List (x4×x4)}(h:de w m d)(J:ai S w I)(a:¬S m):de I m d:=by
 obtain⟨e,c,h1,f⟩:=h;exact⟨e,c,J.a7 m _ h1 rfl a,f⟩
theorem de.lt{m:Nat}{d:List (x4×x4)}(h:de w m d):m<w.heap.size:=by
 obtain⟨a,c,h1,e⟩:=h
 grind
theorem de.nodup{m:Nat}{d:List (x4×x4)}(h:de w m d):(d.map (·.1)).Nodup:=by
 obtain⟨e,c,_,⟨_,_,a⟩,rfl⟩:=h;rw[T5];exact a
theorem l1{α:Type}{l:List α}(h:l.Nodup){i:Nat}{x:α}(hi:l[i]?=σ x)(a:l[j]?=σ x):i=j:=by
 grind [U1]
theorem mR{α β:Type}(f:α->β):∀(l:List α)(i:Nat),(l.map f).eraseIdx i=(l.eraseIdx i).map f
 |[],_=>Ξ
 |_::_,0=>rfl
 |x::l,i+1=>by simp[mR f l i]
theorem de.uniq{m:Nat}{d:List (x4×x4)}(h:de w m d){i:Nat}{p q:x4×x4}(hi:d[i]?=σ p)(a:d[j]?=σ q)(he:p.1=q.1):i=j:=by
 have e:=h.nodup;have h1:(d.map (·.1))[i]?=σ p.1:=by grind
 have f:(d.map (·.1))[j]?=σ p.1:=by grind
 grind [l1]
theorem uI{m:Nat}{q:Array MapEntry}{c:Nat}(h:w.heap[m]?=σ (.map q c))(a:Array MapEntry)(e:Nat):
  ai (λr=>r=m) w {w with heap:=w.heap.setIfInBounds m (.map a e)}/\cU w {w with heap:=w.heap.setIfInBounds m (.map a e)}/\({w with heap:=w.heap.setIfInBounds m (.map a e)}:x5).heap[m]?=σ (.map a e):=by
 have V:=MapKept.heap_set (o':=.map a e) h;refine⟨⟨Ξ,λr o f j x=>?_⟩,⟨rfl,.lK,rfl,Ξ,λr o f j=>?_⟩,V.1⟩
 .grind
 .show (w.heap.setIfInBounds m _)[r]?=σ o;by_cases s:r=m
  .subst s;rw[h]at f;cases f;cases j
  grind
theorem sm{t:o4}{K:x4->x5->Prop}(h:∀m I,m=w.heap.size->Ext w I->de I m []->K (.map (σ m)) I):aM P (Instr.makeMap t ν) w K:=by
 refine .of (run_makeMap t w) (qx w _) (h _ _ rfl (qw w _) ⟨#[],0,?_,MapKept.stamped_empty 0,rfl⟩);exact heap_alloc_new w _
variable{k e:o4}{G:x4->Prop}
theorem sn{t:o4}{c:Bool}{m:Nat}{d:List (x4×x4)}{x:x4}(s:P.underlying t=σ (.map k e))(hk:Keys P k G)(hm:de w m d)(y:∀p∈d,G p.1)(J:G x)(a:d[j]?=σ (x,v)):
  ad P (Instr.lookup t (.map (σ m)) x c) w K=K (if c then .tuple #[v,.bool s2]else v):=ad.of λI z=>by
 obtain⟨f,A,h,B,rfl⟩:=hm.W z;have C:∀e∈f.toList,G e.key:=λe he=>y (iy e) (l9.2 ⟨e,he,rfl⟩);rcases hk.find I J f.toList C with⟨_,q⟩|⟨i,r,h1,q,E⟩
 .rw[u4]at a;obtain⟨F,H,L⟩:=Y0.1 a;exact m6 (congrArg Prod.fst L) (q F (x7 H))
 .have ac:r.val=v:=by
   have hi:(f.toList.map iy)[i]?=σ (iy r):=by grind
   have M:de I m (f.toList.map iy):=⟨f,A,h,B,rfl⟩;have:=M.uniq hi a E;subst this;rw[hi]at a;exact congrArg Prod.snd (Z5 a)
  simp only[Instr.lookup,W6,run_underlying s,W9,MapKept.run_getObj_map h,V2,hk.check I _ J,h1,ac]
theorem uJ{t:o4}{c:Bool}{m:Nat}{d:List (x4×x4)}{x:x4}(q:P.underlying t=σ (.map k e))(hk:Keys P k G)(a:∃s b,aV P e s b z)(hm:de w m d)(r:∀p∈d,G p.1)(J:G x)(y:∀p∈d,p.1≠x):
  ad P (Instr.lookup t (.map (σ m)) x c) w K=K (if c then .tuple #[z,.bool sp]else z):=ad.of λI A=>by
 obtain⟨f,H,B,L,rfl⟩:=hm.W A;have C:∀e∈f.toList,G e.key:=λe he=>r (iy e) (l9.2 ⟨e,he,rfl⟩);have E:(zeroValue e).run P I= .ok z I:=by
  obtain⟨s,b,i,hi,_,_,a⟩:=a;simp[zeroValue,typeInfo,hi,a]
 rcases hk.find I J f.toList C with⟨h1,h⟩|⟨i,j,h1,h,F⟩
 .simp only[Instr.lookup,W6,run_underlying q,W9,MapKept.run_getObj_map B,V2,hk.check I _ J,h1,E]
 .exact m6 F (y (iy j) (l9.2 ⟨j,x7 h,rfl⟩))
theorem Nz{a:Array MapEntry}{e:MapEntry}{f:MapEntry->MapEntry}(h:a[j]?=σ e):(a.modify j f).toList.map iy=(a.toList.map iy).set j (iy (f e)):=by
 refine Y3 λi=>?_
 grind
theorem q0{t:o4}{m:Nat}{d:List (x4×x4)}{x:x4}{K:Unit->x5->Prop}(z:P.underlying t=σ (.map k e))(hk:Keys P k G)(hm:de w m d)(F:∀p∈d,G p.1)(J:G x)(h1:∀j v0 I,d[j]?=σ (x,v0)->de I m (d.set j (x,v))->ai (λr=>r=m) w I->K () I)(H:∀I,(∀p∈d,p.1≠x)->de I m (d++[(x,v)])->ai (λr=>r=m) w I->K () I):aM P (Instr.mapUpdate t (.map (σ m)) x v) w K:=by
 obtain⟨f,h,a,A,rfl⟩:=hm;have L:∀e∈f.toList,G e.key:=λe he=>F (iy e) (l9.2 ⟨e,he,rfl⟩);rcases hk.find w J f.toList L with⟨ah,B⟩|⟨i,C,ah,hi,he⟩
 .obtain⟨q,s,y⟩:=uI a (f.push {key:=x,val:=v,born:=h}) (h+1);refine .of ?_ s (H _ (λp ae=>?_) ⟨_,_,y,MapKept.stamped_push A B,by simp[iy]⟩ q)
  .simp only[Instr.mapUpdate,W6,run_underlying z,W9,MapKept.run_getObj_map a,hk.check w _ J,ah,MapKept.run_setObj_map _ a]
  .obtain⟨M,N,rfl⟩:=l9.1 ae;exact B M N
 .have E:f[i]?=σ C:=by grind
  obtain⟨q,s,y⟩:=uI a (f.modify i λe=>{e with key:=x,val:=v}) h;refine .of ?_ s (h1 i C.val _ (by grind [iy]) ⟨_,_,y,MapKept.stamped_modify A _ _ (λ_ _=>rfl) (by grind),Nz E⟩ q);simp only[Instr.mapUpdate,W6,run_underlying z,W9,MapKept.run_getObj_map a,hk.check w _ J,ah,E,Y7,Option.getD_some,he,hk.stays w J,MapKept.run_setObj_map _ a]
theorem NA{t B C:o4}{m:Nat}{d:List (x4×x4)}{x:x4}{K:x4->x5->Prop}(y:P.underlying t=σ (.map k e))(hk:Keys P k G)(hm:de w m d)(E:∀p∈d,G p.1)(J:G x)(h1:∀j v0 I,d[j]?=σ (x,v0)->de I m (d.eraseIdx j)->ai (λr=>r=m) w I->K (.tuple #[]) I)(F:∀I,(∀p∈d,p.1≠x)->de I m d->ai (λr=>r=m) w I->K (.tuple #[]) I):aM P (Z0.delete_ #[t,B] C #[.map (σ m),x]) w K:=by
 obtain⟨f,z,a,A,rfl⟩:=hm;have H:∀e∈f.toList,G e.key:=λe he=>E (iy e) (l9.2 ⟨e,he,rfl⟩);rcases hk.find w J f.toList H with⟨ah,L⟩|⟨i,M,ah,hi,he⟩
 .obtain⟨h,q,s⟩:=uI a f z;refine .of ?_ q (F _ (λp ae=>?_) ⟨_,_,s,A,rfl⟩ h)
  .simp only[Z0.delete_,List.getElem?_toArray,List.getElem?_cons_zero,List.getElem?_cons_succ,W6,run_underlying y,W9,MapKept.run_getObj_map a,hk.check w _ J,ah,MapKept.run_setObj_map _ a,V2]
  .obtain⟨N,O,rfl⟩:=l9.1 ae;exact L N O
 .obtain⟨h,q,s⟩:=uI a (f.eraseIdxIfInBounds i) z;refine .of ?_ q (h1 i M.val _ (by grind [iy]) ⟨_,_,s,MapKept.stamped_erase A _,by rw[mR];simp⟩ h);simp only[Z0.delete_,List.getElem?_toArray,List.getElem?_cons_zero,List.getElem?_cons_succ,W6,run_underlying y,W9,MapKept.run_getObj_map a,hk.check w _ J,ah,MapKept.run_setObj_map _ a,V2]
theorem Db{t a:o4}{m:Nat}{d:List (x4×x4)}(f:P.underlying t=σ (.map k e))(hm:de w m d):ad P (X8 #[t] a #[.map (σ m)]) w K=K (Δ d.length):=ad.of λI h=>by
 obtain⟨q,r,j,s,rfl⟩:=hm.W h;simp[X8,run_underlying f,MapKept.run_getObj_map j,goInt]
def iz(w:x5)(j m:Nat)(d left:List (x4×x4))(q:Option (x4×x4)):Prop:=∃a f seen gG,w.heap[m]?=σ (.map a f)/\MapKept.Stamped a f/\a.toList.map iy=d/\
 w.heap[j]?=σ (.mapIter (σ m) f seen gG)/\f<=gG/\(leftOf a seen).toList.map iy=left/\∀p,q=σ p->gG=f/\∃h,a.toList.find? (λe=>e.born == seen.back?.getD 0)=σ h/\seen.back? =σ h.born/\iy h=p
theorem iz.map{a m:Nat}{d left:List (x4×x4)}{e:Option (x4×x4)}(h:iz w a m d left e):de w m d:=by
 obtain⟨f,c,_,_,h1,j,q,_⟩:=h;exact⟨f,c,h1,j,q⟩
theorem iz.a7{a m:Nat}{d left:List (x4×x4)}{e:Option (x4×x4)}(h:iz w a m d left e)(J:ai S w I)(hm:¬S m)(hi:fp w I):iz I a m d left e:=by
 obtain⟨f,c,s,gG,h1,j,q,r,x⟩:=h;exact⟨f,c,s,gG,J.a7 m _ h1 rfl hm,j,q,hi a _ r rfl,x⟩
theorem iz.W{a m:Nat}{d left:List (x4×x4)}{e:Option (x4×x4)}(h:iz w a m d left e)(J:Ext w I)(hi:fp w I):iz I a m d left e:=
 h.a7 (J.ab λ_=>False) (λh=>h) hi
theorem NB(a:Array MapEntry):leftOf a #[]=a:=by
 grind [leftOf,Array.filter_eq_self]
theorem uK{t:o4}{m:Nat}{d:List (x4×x4)}{K:x4->x5->Prop}(s:P.underlying t=σ (.map k e))(hm:de w m d)(h:∀a I,a=w.heap.size->Ext w I->fp w I->iz I a m d d ν->K (Γ a) I):aM P (Instr.range t (.map (σ m))) w K:=by
 obtain⟨j,f,q,r,rfl⟩:=hm;refine .of (by grind [run_range_map]) (qx w _) (h _ _ rfl (qw w _) (qx w _).kD ⟨j,f,#[],f,(qw w _).a7 m _ q rfl,r,rfl,heap_alloc_new w _,o6 _,by rw[NB],by grind⟩)
theorem Dc:∀(l:List MapEntry)(j:Nat)(a:MapEntry),(l.map (·.born)).Nodup->l[j]?=σ a->l.filter (λx=>!(x.born == a.born))=l.eraseIdx j
 |[],j,a,_,h=>by simp at h
 |x::l,0,a,e,h=>by
  grind [List.filter_eq_self]
 |x::l,j+1,a,e,h=>by
  simp at h;have f:=List.nodup_cons.1 (by simpa using e:(x.born::l.map (·.born)).Nodup);have J:x.born≠a.born:=λhe=>f.1 (he▸l9.2 ⟨a,x7 h,rfl⟩);have q:=Dc l j a f.2 h
  grind
theorem uL{free:gh}{a m:Nat}{d left:List (x4×x4)}{H:Option (x4×x4)}{K:x4->x5->Prop}(h:iz w a m d left H)(ah:free.1=sp->free.2<=a)(M:left=[]->K (.tuple #[.bool sp]) w)(h1:∀j p I,left[j]?=σ p->Ext w I->cQ a w I->iz I a m d (left.eraseIdx j) (σ p)->K (.tuple #[.bool s2,p.1,p.2]) I):tv P free (Instr.next (Γ a) sp 0) w K:=by
 obtain⟨f,s,seen,gG,N,z,rfl,hi,O,rfl,_⟩:=h;have E:∀x∈f.toList,x.born<s:=z.1;have af:=z.2.1;have ag:∀x∈(leftOf f seen).toList,x.born<s:=λx J=>E x (mem_left J).1;have ai:∀(U:x5)(o':Obj),U.heap=w.heap->(setObj a o').run P U= .ok () {U with heap:=U.heap.setIfInBounds a o'}:=by grind [setObj,Sem.run]
 unfold tv;simp only[Instr.next,getObj,W6,Sem.run,hi,N,W9,next_test_false seen f s gG E O,Bool.false_eq_true,if_false];have Q:Array.filter (λe=>!seen.contains e.born) f=leftOf f seen:=rfl;rw[Q];have R:((leftOf f seen).toList.map (·.born)).Nodup:=by
  grind
 have S:∀A:MapEntry,leftOf f (seen.push A.born)=(leftOf f seen).filter λx=>!(x.born == A.born):=λA=>by
  unfold leftOf;rw[Array.filter_filter]
  grind
 generalize T:leftOf f seen=L at*;have V:L.filter (λx=>decide (x.born<s))=L:=by grind [Array.filter_eq_self]
 have W:L.filter (λx=>decide (x.born≥s))= #[]:=by
  grind [Array.filter_eq_empty_iff]
 simp only[V,W,Array.append_empty];by_cases X:L.size=0
 .have Y:=Array.eq_empty_of_size_eq_zero X;subst Y;refine⟨.tuple #[.bool sp],w,?_,λ_=>cQ.refl _ _,M rfl⟩;simp[choose,Sem.run,Question.forced]
 .have Z:L.isEmpty=sp:=by grind
  simp only[Z,Bool.false_eq_true,if_false,Array.empty_append,Array.size_map];have aa:∃(j:Nat)(n:Nat),j<L.size/\w.drawn<=n/\(choose (Question.mapNext L.size)).run P w= .ok j {w with drawn:=n}:=by
   by_cases ah:L.size<=1
   .exact⟨0,w.drawn,Ω,o6 _,by simp[choose,Sem.run,Question.forced,ah]⟩
   .exact⟨_,w.drawn+1,Nat.mod_lt _ Ω,Nat.le_succ _,by
     simp only[choose,Sem.run,Question.forced,ro,ah,if_false,Question.cut];rfl⟩
  obtain⟨j,n,F,G,aj⟩:=aa;have ab:L.toList[j]?=σ L[j]:=by simp[F]
  have ak:=(mem_left (by rw[T];exact Array.mem_toList_iff.2 (Array.getElem_mem F))).1;refine⟨.tuple #[.bool s2,L[j].key,L[j].val],{w with drawn:=n,heap:=w.heap.setIfInBounds a (.mapIter (σ m) s (seen.push L[j].born) s)},?_,?_,?_⟩
  .grind [W6,W9,V2]
  .intro ac;have:=ah ac;refine⟨rfl,⟨rfl,G⟩,rfl,Ξ,λr o q B=>?_,λr o ad q C=>?_⟩
   .show (w.heap.setIfInBounds a _)[r]?=σ o;by_cases y:r=a
    .subst y;rw[hi]at q;cases q;cases B
    grind
   grind
  .refine h1 j (iy L[j]) _ (by grind) ⟨Ξ,λr o q C=>?_⟩ ⟨rfl,⟨rfl,G⟩,rfl,Ξ,λr o q B=>?_,λr o ad q C=>?_⟩ ⟨f,s,seen.push L[j].born,s,?_,z,rfl,?_,o6 _,?_,λp ae=>⟨rfl,L[j],?_,Ξ,Z5 ae⟩⟩
   .show (w.heap.setIfInBounds a _)[r]?=σ o;by_cases y:r=a
    .subst y;rw[hi]at q;cases q;cases C
    grind
   .show (w.heap.setIfInBounds a _)[r]?=σ o;by_cases y:r=a
    .subst y;rw[hi]at q;cases q;cases B
    grind
   .grind
   .grind
   .grind
   .rw[S,Array.toList_filter,Dc _ _ _ R ab,mR]
   grind [find_born]
theorem uM{a m:Nat}{d left:List (x4×x4)}{p:x4×x4}{K:x4->x5->Prop}(h:iz w a m d left (σ p))(f:K (.tuple #[p.1,p.2]) w):aM P (Instr.entry (Γ a)) w K:=by
 obtain⟨r,s,seen,gG,j,x,rfl,hi,y,rfl,q⟩:=h;obtain⟨rfl,z,h1,e,rfl⟩:=q p rfl;refine .of ?_ (cU.refl _) f;rw[e]at h1;simp only[Instr.entry,getObj,W6,Sem.run,hi,j,W9,e,bne_self_eq_false,Bool.false_eq_true,if_false,<-Array.find?_toList];simp only[Option.getD_some]at h1;rw[h1];rfl
end
end Go.Vc
namespace Go.Proofs.YtlcdcbgoaljiiaaGreatDoor
open Go Go.Vc Go.RowKit Go.Proofs Go.Proofs.Tryz
set_option maxRecDepth 100000
def eD(a:Λ):x4:=.agg (ints .i8 a).toArray
def nU(a:Λ):Prop:=a.length=6/\∀x∈a,0<=x/\x<32
theorem NC{b:Λ}(h:eD a=eD b):a=b:=by
 unfold eD at h;have h:ints .i8 a=ints .i8 b:=by grind
 have e:∀l:Λ,(ints .i8 l).map valOf=l:=λl=>by
  unfold ints;rw[T5];exact List.map_id l
 grind
theorem Dd(a:Λ):(eD a).cells.toList=ints .i8 a:=by simp[eD,x4.cells]
theorem ND:WideMaps.ArrKey x8 cO gF 6:=⟨cO.u,Ψ,Ψ,Ψ⟩
theorem keys:Keys x8 cO λv=>∃l,keyOf x8 cO v=σ l:=Keys.law ND.law
theorem xR{q:Λ}(h:nU q):∃l,keyOf x8 cO (eD q)=σ l:=by
 obtain⟨s,j⟩:=h
 match q,s with
 |[a,b,c,d,e,f],_=>
  have w:=j a Ξ;have y:=j b Ξ;have z:=j c Ξ;have rd:=j d Ξ;have A:=j e Ξ;have lK:=j f Ξ;have wf:∀x:Int,0<=x/\x<32->(Lit.int .i8 x).wf=s2:=λx J=>by
   simp only[Lit.wf,T8,ro];have H:o8.i8.min= -128:=Φ
   have I:o8.i8.max=127:=Φ
   omega
  have r:decide (0<x8.types.size)=s2:=Ψ
  have r:=rs r;obtain⟨n,B⟩:∃n,x8.types.size=n+1:=⟨x8.types.size-1,Ω⟩;have one:∀x:Int,0<=x/\x<32->x8.keyLits (n+1) gF [.int .i8 x]=σ [.int .i8 x]:=λx J=>by
   unfold W0.keyLits
   grind [gF.u]
  unfold keyOf;rw[cO.u];simp only;have C:x8.keyType cO=s2:=Ψ
  have E:x8.cellsOf gF=1:=Ψ
  have F:x8.cellsOf cO=6:=Ψ
  have ah:(eD [a,b,c,d,e,f]).formed x8 cO=s2:=by
   grind [eD,x4.formed,cO.u]
  rw[C,ah,Dd,B];simp only[Bool.and_self,if_true];unfold W0.keyLits;rw[cO.u];simp only[F,E,ints];have G:X0 6=[0,1,2,3,4,5]:=Φ
  simp[G,one a w,one b y,one c z,one d rd,one e A,one f lK]
def pad(t:Λ):Λ:=t++o5 (6-t.length) 0
theorem NE(e:t.length<=6)(a:∀x∈t,0<=x/\x<32):nU (pad t):=
 ⟨by simp[pad];omega,λx J=>by
  rcases j5.1 J with h|h
  .exact a x h
  .have:=(List.mem_replicate.1 h).2;omega⟩
theorem NF{b:Λ}(e:a.length=b.length)(h:pad a=pad b):a=b:=by
 grind [pad,List.append_inj]
theorem De:(pad t).take t.length=t:=by simp[pad]
theorem pO{b o:Nat}(e:a.length=6)(h:w.rangeAt b o (ints .i8 a)):ad x8 (u5 cO (.pointer (σ ⟨b,o,ν⟩))) w K=K (eD a):=
 BG cO.u rfl cO.i (by simp[e]) h
theorem NG{b o:Nat}(e:a.length=6)(h:w.rangeAt b o (ints .i8 a)):ad x8 (do loadVar cO (<-asAddr (.pointer (σ ⟨b,o,ν⟩)))) w K=K (eD a):=ad.of λI J=>by
 have:=run_loadVar_mid I b o cO (ints .i8 a) (.array 6 gF) (pv J h) cO.u rfl (by rw[cO.i.size];simp[e]);simp only[asAddr,W6,V2,Result.andThen_ok,this];rfl
theorem sq{g:Nat}{cs:List x4}{K:Unit->x5->Prop}(e:a.length=6)(f:cs.length=6)(j:aj w g cO cs)(h:∀I,ai (λr=>r=g) w I->I.heap.size=w.heap.size->aj I g cO (ints .i8 a)->K () I):aM x8 (o7 cO (Γ g) (eD a)) w K:=
 b3 (vs:=ints .i8 a) cO.i (by simp[e]) f (λv ac=>by obtain⟨x,_,rfl⟩:=l9.1 ac;rfl) j h
def uN:List x4:=[.int .i8 0,.int .i8 0,.int .i8 0,.int .i8 0,.int .i8 0,.int .i8 0]
theorem NH{x:Int}:aq x8 tZ [Δ x] w λv I=>v= .bool (decide (¬jV x))/\Ext w I:=by
 refine aE func230 ?_;simp only[cG,aW,bU,ao];refine⟨λh=>⟨?_,Ext.refl _⟩,λh=>⟨?_,Ext.refl _⟩⟩
 .rw[ms];intro a;have:=a.1;omega
 .congr 1;have:(32<x)=(¬jV x):=propext ⟨λe a=>by have:=a.2;omega,λe=>by
   by_cases f:32<x
   .exact f
   .exact m6 ⟨Ω,Ω⟩ e⟩
  simp only[this]
theorem NI(h:aQ .i64 w sv l):
  aq x8 w2 [sv,.func (.func tZ) #[] #[]] w λv I=>Ext w I/\∃n:Int,v=Δ n/\((0<=n)=¬∀x∈l,jV x):=by
 have z:=h.le;refine aE func136 ?_;rw[a8 au.u h];refine⟨λ_ t U=>Ext w U/\∃i:Nat,t=Δ i/\i<=l.length/\∀x∈l.take i,jV x,λ_ t _=>l.length-(b2 t).toNat,⟨Ext.refl _,0,rfl,X9 _,Ξ⟩,?_⟩;rintro _ _ U ⟨J,i,rfl,hi,e⟩;simp only[aW,ao];refine⟨λA=>?_,λB=>⟨J,-1,rfl,?_⟩⟩
 .obtain⟨x,f⟩:=aI (l:=l) (i:=i) Ω;rw[bk au.u al.i Ψ (h.W J) f];show aq x8 tZ [Δ x] U _;refine NH.Y ?_;rintro _ aa _ ⟨rfl,j⟩;simp only[ao,aR];refine⟨λq=>⟨J.F j,i,rfl,?_⟩,λr=>?_⟩
  .exact propext ⟨λ_ s=>q (s x (x7 f)),λ_=>Ω⟩
  .rw[lm Ω Ω];refine⟨⟨J.F j,i+1,rfl,Ω,λy a=>?_⟩,?_⟩
   .rw[u9,f]at a;rcases j5.1 a with a|a
    .exact e y a
    .simp at a;subst a;exact X1.1 r
   .simp only[b2];omega
 .have:i=l.length:=Ω
  rw[this,o9]at e;exact propext ⟨λh=>Ω,λh=>m6 e h⟩
theorem Df(h:aQ .i64 w sv l):
  aq x8 w5 [sv,.func (.func tZ) #[] #[]] w λv I=>v= .bool (decide (¬∀x∈l,jV x))/\Ext w I:=by
 refine aE func231 ?_;refine(NI h).Y ?_;rintro _ U _ ⟨J,n,rfl,a⟩;simp only[cT];exact⟨by congr 1;simp only[a],J⟩
abbrev Told:=List (Λ×Int)
def lj(p:Λ×Int):x4×x4:=(eD (pad p.1),Δ p.2)
def e8(w:x5)(g m:Nat)(an:Λ)(k o:Int)(D:Told):Prop:=
 (∃sv gs,aj w g gj [sv,Δ k,Δ o,.map (σ m)]/\aH .i64 al w gs sv an)/\de w m (D.map lj)/\ct an/\cE o k/\∀p∈D,dF an p.1/\cE p.2 k/\p.2≠o
theorem e8.W{g m:Nat}{o:Int}{D:Told}(h:e8 w g m an k o D)(J:Ext w I):e8 I g m an k o D:=by
 obtain⟨⟨sv,gs,h1,a⟩,e,f⟩:=h;exact⟨⟨sv,gs,h1.W J,a.W J⟩,e.W J,f⟩
theorem xS(V:ct an)(h:dF an t):t.length=an.length/\∀x∈t,0<=x/\x<32:=by
 obtain⟨h1,f⟩:=pK.1 h;refine⟨h1.symm,λx J=>?_⟩;obtain⟨i,hi,rfl⟩:=List.getElem_of_mem J;obtain⟨a,e⟩:=aI (l:=an) (i:=i) Ω;have j:=f i a _ e (v8 hi);have q:=(V.2 a (x7 e)).2;omega
theorem sr(V:ct an)(h:dF an t):nU (pad t):=by
 obtain⟨h1,a⟩:=xS V h;exact NE (by rw[h1];exact V.1) a
theorem e8.q1{g m:Nat}{o:Int}{D:Told}(h:e8 w g m an k o D):∀p∈D.map lj,∃l,keyOf x8 cO p.1=σ l:=λp ae=>by
 obtain⟨q,a,rfl⟩:=l9.1 ae;exact xR (sr h.2.2.1 (h.2.2.2.2 q a).1)
theorem Dg{s:Λ}(V:dF an s)(a:dF an t)(h:eD (pad s)=eD (pad t)):s=t:=
 NF ((uy V).symm.F (uy a)) (NC h)
theorem e8.nodup{g m:Nat}{o:Int}{D:Told}(h:e8 w g m an k o D):(D.map (·.1)).Nodup:=by
 have e:=h.2.1.nodup;rw[T5]at e;refine List.Pairwise.of_map (S:=λa b=>a≠b) (λt=>eD (pad t)) (λa b h he=>h (by rw[he])) ?_;rw[T5];exact e
def NJ(w:x5)(l:Λ)(k o:Int)(v:x4)(I:x5):Prop:=
 Ext w I/\(¬ct l->v= .tuple #[.pointer ν,Δ 1])/\(ct l->¬cE o k->v= .tuple #[.pointer ν,Δ 3])/\
  (ct l->cE o k->∃g m,v= .tuple #[Γ g,Δ 0]/\w.heap.size<=g/\w.heap.size<=m/\e8 I g m l k o [])
theorem Dh{o:Int}(h:aQ .i64 w sv l):aq x8 qA [sv,Δ k,Δ o] w (NJ w l k o):=by
 refine aE func177 ?_;refine a6 (λv U=>Ext w U/\∃c,v= .bool c/\(c=s2↔¬ct l)) ?_ ?_
 .rintro _ U ⟨e,c,rfl,f⟩;rw[cb];refine⟨λs=>⟨e,λ_=>rfl,λh=>m6 h (f.1 s),λh=>m6 h (f.1 s)⟩,λah=>?_⟩;have V:=Classical.byContradiction λh=>by have:=f.2 h;rw[ah]at this;cases this
  have C:=V.1;refine ld.Y ?_;rintro _ aa _ ⟨rfl,a⟩;by_cases hi:cE o k
  rotate_left
  .simp only[hi,decide_false,bN,X6,bS];exact⟨e.F a,λh=>m6 V h,λ_ _=>rfl,λ_ h=>m6 h hi⟩
  simp only[hi,decide_true,bN,Y5,bc];refine(lf ((h.W e).W a) Ω).Y ?_;rintro aY E _ ⟨x,z,G,hm⟩;have H:=hm.ls.cells;refine sm λm I J j A=>?_;rw[ds (cs:=#[aY,Δ k,Δ o,.map (σ m)]) (by obtain⟨_,_,_,_,_,rfl,_⟩:=hm.ls;kernel_rfl)];refine bn λg K L q B=>?_;have s1:=e.size;have M:=a.size;have N:=x.size;have O:=j.size;exact⟨((((e.F a).F x).F j).F q),λh=>m6 V h,λ_ h=>m6 hi h,λ_ _=>⟨g,m,rfl,Ω,Ω,⟨aY,z,B,(hm.W j).W q⟩,A.W q,V,hi,λp ae=>by cases ae⟩⟩
 .intro aA y;rw[a8 au.u h];simp only[bU,ao];refine⟨λP=>y _ _ ⟨Ext.refl _,s2,rfl,λ_ V=>by have:=V.1;omega,λ_=>rfl⟩,λQ=>?_⟩;refine(Df h).Y ?_;rintro _ aa _ ⟨rfl,a⟩;refine y _ _ ⟨a,_,rfl,?_⟩;rw[ro];exact⟨λr V=>r V.2,λr V=>r ⟨Ω,V⟩⟩
def kS(t:Λ)(i:Nat):Λ:=t.take i++o5 (6-i) 0
theorem NK{i:Nat}(hi:i<=t.length)(a:t.length<=6):(kS t i).length=6:=by simp[kS];omega
theorem NL{i:Nat}{x:Int}(J:t[i]?=σ x)(e:t.length<=6):(kS t i).set i x=kS t (i+1):=by
 have hi:=(x6.1 J).1;unfold kS;have a:(t.take i).length=i:=by rw[Z3];omega
 rw[U7 _ _ Ω,a,V7,u9,J];have:6-i=(6-(i+1))+1:=Ω
 rw[this,List.replicate_succ];simp
theorem NM(t:Λ):kS t t.length=pad t:=by simp[kS,pad]
def Di(w:x5)(an t:Λ)(v:x4)(I:x5):Prop:=Ext w I/\∃a e,v= .tuple #[eD a,Δ e]/\a.length=6/\(dF an t->a=pad t/\e=0)/\(¬dF an t->e=3)
theorem NN{g m:Nat}{o:Int}{D:Told}{aY:x4}(h:e8 w g m an k o D)(G:aQ .i64 w aY t):aq x8 K7 [Γ g,aY] w (Di w an t):=by
 obtain⟨⟨sv,gs,H,hm⟩,_,V,_⟩:=h;have aG:=V.1;refine aE func232 ?_;refine bE cO.i λA U aH S B=>?_;refine bE cO.i λav aa aJ I K=>?_;have s:=S.F I;have s1:=S.size;have aK:=I.size;have aL:=B.lt;have aN:=K.lt;have aO:=H.lt;have B:=B.W I;have ag:=H.W s;rw[dl fg.u];simp only[b8,bc];have L:∀{f:x5}{C:Λ}{e:Int},Ext w f->aj f av cO (ints .i8 C)->aj f A cO uN->C.length=6->(dF an t->C=pad t/\e=0)->(¬dF an t->e=3)->
   ad x8 (u5 cO (Γ av)) f λah=>aM x8 (o7 cO (Γ A) ah) f λ(_:Unit)M=>ad x8 (do loadVar cO (<-asAddr (Γ A))) M λai=>Di w an t (.tuple #[ai,Δ e]) M:=by
  intro f C e q r y E ac N;rw[pO E r.range];refine sq E rfl y λM ak aS am=>?_;rw[NG E am.range];exact⟨q.put ak Ω,C,e,rfl,E,ac,N⟩
 rw[a8 au.u (G.W s),aP gj.p 0 ag rfl,a8 au.u (hm.ls.W s)];simp only[bM,ao];have W:ints .i8 (kS t 0)=uN:=by simp[kS,uN,ints]
 refine⟨λap=>L s (by rw[W];exact K) B (by simp[kS]) (λac=>m6 (by rw[uy ac]) ap) (λ_=>rfl),λX=>?_⟩;have X:t.length=an.length:=Ω
 rw[a8 au.u (G.W s)];refine ce.range t.length (λi _ f=>Ext w f/\aj f av cO (ints .i8 (kS t i))/\aj f A cO uN/\∀(j:Nat)(a x:Int),j<i->an[j]?=σ a->t[j]?=σ x->0<=x/\x<a) Ω
  ⟨s,by rw[W];exact K,B,λj a x aw=>Ω⟩ ?_ ?_
 .rintro i _ f ay hi ⟨q,r,y,O⟩ az;simp only[aW,ao];refine⟨λ_=>?_,λh=>Ω⟩;obtain⟨x,J⟩:=aI (l:=t) hi;obtain⟨a,z⟩:=aI (l:=an) (i:=i) Ω;have aT:=V.2 a (x7 z);rw[bk au.u al.i Ψ (G.W q) J];have Y:=NK (t:=t) (i:=i) Ω Ω;refine a6 (λv aB=>f=aB/\v= .bool (decide (¬(0<=x/\x<a)))) ?_ ?_
  .rintro _ _ ⟨rfl,rfl⟩;simp only[ao];refine⟨λaC=>L q r y Y (λac=>m6 ((pK.1 ac).2 i a x z J) aC) (λ_=>rfl),λP=>?_⟩;have P:=X1.1 P;rw[fR al.u gF.u,LX Ω Ω,xf cO.u gF.i Ω];refine bw gF.i rfl rfl r (by simp[Y];omega) λaU Z aV ae=>?_;simp only[aR];refine az _ _ ⟨q.put Z Ω,?_,y.ab Z (by show¬(A=av);omega),λj a' aD aw Q R=>?_⟩
   .have e:(ints .i8 (kS t i)).set (0+i*1) (.int .i8 x)=ints .i8 (kS t (i+1)):=by
     rw[<-NL J Ω];simp[ints,U2]
    rw[e]at ae;exact ae
   .by_cases aF:j=i
    .subst aF;rw[z]at Q;rw[J]at R;cases Q;cases R;exact P
    .exact O j a' aD Ω Q R
  .intro aA af;simp only[aW,ao];refine⟨λaX=>af _ _ ⟨rfl,by rw[ms];omega⟩,λaZ=>?_⟩;rw[aP gj.p 0 (H.W q) rfl,bk au.u al.i Ψ (hm.ls.W q) z,cT];refine af _ _ ⟨rfl,?_⟩;congr 1;exact decide_eq_decide.2 ⟨λh ax=>Ω,λh=>Ω⟩
 .rintro _ f ay ⟨q,r,y,O⟩;simp only[aW,ao];refine⟨λh=>Ω,λ_=>?_⟩;rw[NM]at r;exact L q r y (by simp[pad];omega) (λ_=>⟨rfl,rfl⟩) (λN=>m6 (pK.2 ⟨X.symm,λj a x z J=>O j a x (x6.1 J).1 z J⟩) N)
def j0(D:Told)(o:Int)(t:Λ):Int:=match D.find? (λp=>decide (p.1=t))with
 |some p=>p.2
 |none=>o
theorem Dj{D:Told}(e:(D.map (·.1)).Nodup){p q:Λ×Int}(ae:p∈D)(f:q∈D)(h:p.1=q.1):p=q:=by
 obtain⟨i,hi⟩:=Y8.1 ae;obtain⟨j,a⟩:=Y8.1 f;have h1:(D.map (·.1))[i]?=σ p.1:=by rw[u4,hi];rfl
 have r:(D.map (·.1))[j]?=σ p.1:=by rw[u4,a,h];rfl
 have:=l1 e h1 r;subst this;rw[hi]at a;exact Z5 a
theorem ss{D:Told}{o:Int}(a:(D.map (·.1)).Nodup)(h:(t,c)∈D):j0 D o t=c:=by
 unfold j0;cases ah:D.find? (λp=>decide (p.1=t))with
 |none=>
  have:=List.find?_eq_none.1 ah _ h;simp at this
 |some p=>
  have h1:=List.find?_some ah;have h1:p.1=t:=by simpa using h1
  have:=Dj a (List.mem_of_find?_eq_some ah) h h1;rw[this]
theorem su{D:Told}{o:Int}(h:∀p∈D,p.1≠t):j0 D o t=o:=by
 unfold j0;cases ah:D.find? (λp=>decide (p.1=t))with
 |none=>rfl
 |some p=>
  have h1:=List.find?_some ah;have h1:p.1=t:=by simpa using h1
  exact m6 h1 (h p (List.mem_of_find?_eq_some ah))
def mS(D:Told)(t:Λ)(c o:Int)(D':Told):Prop:=(∀p,p∈D'↔(c≠o/\p=(t,c))\/(p∈D/\p.1≠t))/\D'.length<=D.length+1
theorem mS.cost{D D':Told}{o:Int}(h:mS D t c o D')(q:(D.map (·.1)).Nodup)(e:(D'.map (·.1)).Nodup)(s:Λ):j0 D' o s=if s=t then c else j0 D o s:=by
 by_cases V:s=t
 .subst V;rw[m3 rfl];by_cases f:c=o
  .subst f;exact su λp ae he=>by
    rcases(h.1 p).1 ae with a|a
    .exact a.1 rfl
    .exact a.2 he
  .exact ss e ((h.1 _).2 (.inl ⟨f,rfl⟩))
 .rw[m5 V];by_cases he:∃p∈D,p.1=s
  .obtain⟨p,ae,rfl⟩:=he;rw[ss q ae];exact ss e ((h.1 _).2 (.inr ⟨ae,V⟩))
  .have j:∀p∈D,p.1≠s:=λp ae h=>he ⟨p,ae,h⟩;rw[su j];exact su λp ae a=>by
    rcases(h.1 p).1 ae with⟨_,rfl⟩|⟨r,_⟩
    .exact V a.symm
    .exact j p r a
theorem NO{D:Told}{o v0:Int}(h:(D.map (·.1)).Nodup)(e:D[j]?=σ (t,v0))(q:c≠o):mS D t c o (D.set j (t,c)):=by
 have f:=(x6.1 e).1;refine⟨λp=>⟨λae=>?_,λae=>?_⟩,Ξ⟩
 .obtain⟨i,hi⟩:=Y8.1 ae;by_cases a:j=i
  .subst a;rw[Z6 f]at hi;exact .inl ⟨q,(Z5 hi).symm⟩
  .rw[Y9 a]at hi;refine .inr ⟨x7 hi,λhe=>a ?_⟩;exact l1 h (by rw[u4,e];rfl) (by rw[u4,hi,Y7,he])
 .rcases ae with⟨_,rfl⟩|⟨ae,r⟩
  .exact x7 (Z6 f)
  .obtain⟨i,hi⟩:=Y8.1 ae;have a:j≠i:=λhe=>by subst he;rw[e]at hi;cases hi;exact r rfl
   exact x7 (by rw[Y9 a];exact hi)
theorem Dk{D:Told}{o:Int}(a:∀p∈D,p.1≠t)(e:c≠o):mS D t c o (D++[(t,c)]):=by
 refine⟨λp=>?_,Ξ⟩;rw[j5,Y1];exact⟨λh=>h.elim (λh=>.inr ⟨h,a p h⟩) (λh=>.inl ⟨e,h⟩),λh=>h.elim (λh=>.inr h.2) (λh=>.inl h.1)⟩
theorem NP{D:Told}{o v0:Int}(e:(D.map (·.1)).Nodup)(a:D[j]?=σ (t,v0)):mS D t o o (D.eraseIdx j):=by
 refine⟨λp=>⟨λae=>?_,λae=>?_⟩,by have:=List.length_eraseIdx_le D j;omega⟩
 .refine .inr ?_;obtain⟨i,f,hi⟩:=List.mem_eraseIdx_iff_getElem?.1 ae;refine⟨x7 hi,λhe=>f ?_⟩;exact l1 e (by rw[u4,hi,Y7,he]) (by rw[u4,a];rfl)
 .rcases ae with⟨h,_⟩|⟨ae,q⟩
  .exact m6 rfl h
  .obtain⟨i,hi⟩:=Y8.1 ae;exact List.mem_eraseIdx_iff_getElem?.2 ⟨i,λhe=>by subst he;rw[a]at hi;cases hi;exact q rfl,hi⟩
theorem NQ{D:Told}{o:Int}(a:∀p∈D,p.1≠t):mS D t o o D:=
 ⟨λp=>⟨λh=>.inr ⟨h,a p h⟩,λh=>h.elim (λh=>m6 rfl h.1) (λh=>h.1)⟩,Ω⟩
theorem Dl{g m:Nat}{o:Int}{D:Told}(h:e8 w g m an k o D)(e:dF an t)(a:(D.map lj)[j]?=σ (eD (pad t),v)):∃c,D[j]?=σ (t,c)/\v=Δ c:=by
 rw[u4]at a;obtain⟨p,ae,he⟩:=Y0.1 a;have h1:=Dg (h.2.2.2.2 p (x7 ae)).1 e (congrArg Prod.fst he);exact⟨p.2,by rw[ae,<-h1],(congrArg Prod.snd he).symm⟩
theorem Dm{g m:Nat}{o:Int}{D:Told}(h:e8 w g m an k o D)(a:∀p∈D.map lj,p.1≠eD (pad t)):∀p∈D,p.1≠t:=λp ae he=>a (lj p) (l9.2 ⟨p,ae,rfl⟩) (by rw[lj,he])
def NR(w:x5)(g m:Nat)(an t:Λ)(k o c:Int)(D:Told)(v:x4)(I:x5):Prop:=
 (¬(dF an t/\cE c k)->v=Δ 3/\Ext w I)/\(dF an t/\cE c k->v=Δ 0/\ai (λr=>r=m) w I/\∃D',mS D t c o D'/\e8 I g m an k o D')
theorem Dn{g m:Nat}{o:Int}{D:Told}{aY:x4}(h:e8 w g m an k o D)(af:aQ .i64 w aY t):aq x8 Ku [Γ g,aY,Δ c] w (NR w g m an t k o c D):=by
 refine aE func178 ?_;refine(NN h af).Y ?_;rintro _ U _ ⟨R,aF,e,rfl,K,ag,ah⟩;rw[bz,bA];refine bE cO.i λav aa aG S W=>?_;refine sq K rfl W λX aj aH Y=>?_;have s1:=R.size;have aI:=S.size;have aJ:=W.lt;have G:=(R.F S).put aj Ω;refine a6 (λv L=>v=Δ 0/\(dF an t/\cE c k)/\ai (λr=>r=m) w L/\∃D',mS D t c o D'/\e8 L g m an k o D') ?_ ?_
 .rintro _ L ⟨_,h1,C⟩;exact⟨λh=>m6 h1 h,λ_=>⟨rfl,C⟩⟩
 intro aA ak;simp only[bM,ao];by_cases ac:dF an t
 rotate_left
 .have he:=ah ac;subst he;exact⟨λ_=>⟨λ_=>⟨rfl,G⟩,λh=>m6 h.1 ac⟩,λh=>by simp at h⟩
 obtain⟨rfl,rfl⟩:=ag ac;refine⟨λh=>m6 rfl h,λ_=>?_⟩;have x:=h.W G;obtain⟨⟨sv,gs,y,hm⟩,H,V,al,am⟩:=id x;rw[aP gj.p 1 y rfl];refine ld.Y ?_;rintro _ ap _ ⟨rfl,z⟩;have au:=G.F z;by_cases hi:cE c k
 rotate_left
 .simp only[hi,decide_false,bN,X6,bS];exact⟨λ_=>⟨rfl,au⟩,λh=>m6 h.2 hi⟩
 simp only[hi,decide_true,bN,Y5,bc];rw[aP gj.p 2 (y.W z) rfl];simp only[bm,ao,ey];have Z:=xR (sr V ac);have aw:∀{D':Told},mS D t c o D'->∀p∈D',dF an p.1/\cE p.2 k/\p.2≠o:=λhu p ae=>by
  rcases(hu.1 p).1 ae with⟨B,rfl⟩|⟨h1,_⟩
  .exact⟨ac,hi,B⟩
  .exact am p h1
 have I:∀{E A:x5}{D':Told},Ext ap E->ai (λr=>r=m) E A->de A m (D'.map lj)->mS D t c o D'->aA (Δ 0) A:=by
  intro E A D' f q ay hu;have az:g≠m:=λhe=>by
   obtain⟨aB,aC,ax,_⟩:=H;have y:X.heap[g]?=_:=y;rw[he,ax]at y;cases y
  have aD:∀r,lc sv r->r≠m:=λr ad he=>by
   subst he;obtain⟨aB,aC,ax,_⟩:=H;obtain⟨_,⟨rfl,_⟩|⟨cap,cs,rfl,J,_⟩⟩:=hm
   .obtain⟨a,n,c,h1,_⟩:=ad;cases h1
   .obtain⟨a,n,c,h1,C⟩:=ad;cases h1;have J:X.heap[gs]?=_:=J;have C:gs=r:=C;rw[C,ax]at J;cases J
  have M:=z.F f;exact ak _ _ ⟨rfl,⟨ac,hi⟩,((G.F M).ab _).F q,D',hu,⟨sv,gs,(y.W M).ab q az,bG (hm.W M) q aD⟩,ay,V,al,aw hu⟩
 refine⟨λB E f _ _=>?_,λB E f _ _=>?_⟩
 .rw[aP gj.p 3 ((y.W z).W f) rfl,pO K ((Y.W z).W f).range];subst B;refine NA kj.u keys ((H.W z).W f) x.q1 Z (λj v0 A N s q=>?_) (λA O s q=>?_)
  .obtain⟨gG,P,_⟩:=Dl x ac N;rw[mR]at s;exact I f q s (NP x.nodup P)
  .exact I f q s (NQ (Dm x O))
 .rw[aP gj.p 3 ((y.W z).W f) rfl,pO K ((Y.W z).W f).range];refine q0 kj.u keys ((H.W z).W f) x.q1 Z (λj v0 A N s q=>?_) (λA O s q=>?_)
  .obtain⟨gG,P,_⟩:=Dl x ac N;have Q:(D.map lj).set j (eD (pad t),Δ c)=(D.set j (t,c)).map lj:=by rw[U2];rfl
   rw[Q]at s;exact I f q s (NO x.nodup P B)
  .have Q:D.map lj++[(eD (pad t),Δ c)]=(D++[(t,c)]).map lj:=by rw[Z2];rfl
   rw[Q]at s;exact I f q s (Dk (Dm x O) B)
theorem NS{g m:Nat}{o:Int}{D:Told}{b:Bool}(h:e8 w g m an k o D)(ac:dF an t)(h1:∀c,(t,c)∈D->K (if b then .tuple #[Δ c,.bool s2]else Δ c))(f:(∀p∈D,p.1≠t)->K (if b then .tuple #[Δ 0,.bool sp]else Δ 0)):
  ad x8 (Instr.lookup kj (.map (σ m)) (eD (pad t)) b) w K:=by
 have a:=xR (sr h.2.2.1 ac);by_cases he:∃p∈D,p.1=t
 .obtain⟨p,ae,rfl⟩:=he;obtain⟨j,r⟩:=Y8.1 ae;rw[sn kj.u keys h.2.1 h.q1 a (j:=j) (v:=Δ p.2) (by rw[u4,r];rfl)];exact h1 p.2 ae
 .have e:∀p∈D,p.1≠t:=λp ae h=>he ⟨p,ae,h⟩;rw[uJ kj.u keys ⟨_,_,ay.i⟩ h.2.1 h.q1 a (λq s hk=>by
   obtain⟨p,ae,rfl⟩:=l9.1 s;exact e p ae (Dg (h.2.2.2.2 p ae).1 ac hk))]
  exact f e
theorem NT{g m:Nat}{o:Int}{D:Told}(h:e8 w g m an k o D):aq x8 Lb [Γ g] w λv I=>v=Δ D.length/\Ext w I:=by
 obtain⟨⟨sv,gs,a,hm⟩,e,_⟩:=h;refine aE func238 ?_;rw[dl fg.u];simp only[b8,bc];rw[aP gj.p 3 a rfl,Db kj.u e];exact⟨Ξ,Ext.refl _⟩
theorem NU{g m:Nat}{o:Int}{D:Told}(h:e8 w g m an k o D):aq x8 LK [Γ g] w λv I=>v=Δ k/\Ext w I:=by
 obtain⟨⟨sv,gs,a,hm⟩,_⟩:=h;refine aE func300 ?_;rw[dl fg.u];simp only[b8,bc];rw[aP gj.p 1 a rfl];exact⟨rfl,Ext.refl _⟩
theorem xT{g m:Nat}{o:Int}{D:Told}(h:e8 w g m an k o D):aq x8 Lc [Γ g] w λv I=>Ext w I/\∃a,w.heap.size<=a/\aH .i64 al I a v an:=by
 obtain⟨⟨sv,gs,e,hm⟩,_,V,_⟩:=h;have f:=V.1;refine aE func239 ?_;rw[dl fg.u];simp only[b8,bc];rw[aP gj.p 0 e rfl];exact lf hm.ls Ω
theorem NV{g m:Nat}{o:Int}{D:Told}(h:e8 w g m an k o D):aq x8 LL [Γ g] w λv I=>v=Δ an.length/\Ext w I:=by
 refine aE func301 ?_;refine(xT h).Y ?_;rintro v U _ ⟨J,a,_,hm⟩;rw[a8 au.u hm.ls];exact⟨rfl,J⟩
end Go.Proofs.YtlcdcbgoaljiiaaGreatDoor
namespace Go.Vc
open Go Go.RowKit
set_option maxRecDepth 100000
def hx(v:x4)(r:Nat):Prop:=∃a n c,v= .slice (σ a) n c/\a.block=r
theorem gp(h:hx (.slice ν 0 0) r):False:=by
 obtain⟨a,n,c,h,_⟩:=h;cases h
section
variable{α:Type}{f:α->List x4}{k:Nat}
theorem j1:∀{L:List α},(∀a∈L,(f a).length=k)->(L.flatMap f).length=L.length*k
 :=by
 intro a;induction a<;>grind
theorem sw:∀{L:List α}(i:Nat),(∀a∈L,(f a).length=k)->(L.flatMap f).take (i*k)=(L.take i).flatMap f
 |[],i,_=>Ξ
 |a::L,0,_=>Ξ
 |a::L,i+1,h=>by
  have e:=h a (.head _);rw[T0,List.take_succ_cons,T0,<-sw i (by grind),T6,Nat.one_mul,Nat.add_comm,List.take_append,e]
  grind
theorem uO:∀{L:List α}(i:Nat),(∀a∈L,(f a).length=k)->(L.flatMap f).drop (i*k)=(L.drop i).flatMap f
 |[],i,_=>Ξ
 |a::L,0,_=>Ξ
 |a::L,i+1,h=>by
  have e:=h a (.head _);rw[T0,List.drop_succ_cons,<-uO i (by grind),T6,Nat.one_mul,Nat.add_comm,List.drop_append,e]
  grind [List.drop_of_length_le]
theorem q2{L:List α}{i:Nat}{a:α}(h:∀a∈L,(f a).length=k)(hi:L[i]?=σ a)(e:(f a)[j]?=σ v):(L.flatMap f)[i*k+j]?=σ v:=by
 have q:=(x6.1 e).1;rw[<-List.getElem?_drop,uO i h]
 grind [X4]
theorem xU{L:List α}{i:Nat}{a:α}(h:∀a∈L,(f a).length=k)(e:(f a).length=k)(hi:i<L.length):over (L.flatMap f) (i*k) (f a)=(L.set i a).flatMap f:=by
 have j:=j1 h;have q:(i+1)*k<=L.length*k:=V4 _ hi
 grind [T6,ox,sw,uO,List.set_eq_take_append_cons_drop]
theorem xV{cs vs:List x4}{o m:Nat}(h1:o+vs.length<=m)(a:m<=cs.length):(over cs o vs).take m=over (cs.take m) o vs:=by
 rw[ox Ω,ox (by rw[Z3];omega),T1,T1,List.take_append,List.take_append,List.take_take,List.take_take,List.drop_take,Z3]
 grind [j9]
def bo(f:α->List x4)(k:Nat)(e:o4)(w:x5)(g:Nat)(v:x4)(L:List α):Prop:=cf w g e k v L.length (L.flatMap f)/\∀a∈L,(f a).length=k
variable{P:W0}{w:x5}{e:o4}{g:Nat}{v:x4}{L:List α}
theorem bo.nil(f:α->List x4)(k:Nat)(e:o4)(w:x5)(g:Nat):bo f k e w g (.slice ν 0 0) []:=⟨cf.nil w g e k,λa h=>by cases h⟩
theorem bo.lc(h:bo f k e w g v L)(j:hx v r):r=g/\g<w.heap.size:=by
 obtain⟨_,⟨rfl,_⟩|⟨cap,cs,rfl,q,_⟩⟩:=h.1
 .grind [gp]
 .obtain⟨a,n,c,h1,s⟩:=j;cases h1;exact⟨s.symm,q.lt⟩
theorem bo.ab(h:bo f k e w g v L)(J:ai S w I)(a:∀r,hx v r->¬S r):bo f k e I g v L:=
 ⟨⟨h.1.1,h.1.2.imp id λ⟨cap,cs,h1,j,q⟩=>⟨cap,cs,h1,j.ab J (a g ⟨_,_,_,h1,rfl⟩),q⟩⟩,h.2⟩
theorem bo.W(h:bo f k e w g v L)(J:Ext w I):bo f k e I g v L:=h.ab (J.ab λ_=>False) λ_ _ h=>h
theorem bo.sl(h:bo f k e w g v L):cq w k v L.length (L.flatMap f):=h.1.sl
theorem bo.le(h:bo f k e w g v L):L.length<=9223372036854775807:=by
 have:=cq.le h.sl
 grind [maxLen]
theorem ek{t a:o4}(j:P.underlying t=σ (.slice e))(h:bo f k e w g v L):ad P (X8 #[t] a #[v]) w K=K (Δ L.length):=by
 obtain⟨_,_,_,_,_,rfl,_⟩:=h.sl;exact jr j
theorem cu{t:o4}{q:o8}{b:Nat}{i:Nat}(a:y=(i:Int))(j:P.underlying t=σ (.slice e))(hi:aV P e k b z)(h:bo f k e w g v L)(r:i<L.length):
  ad P (n9 t v (.int q y)) w K=K (.pointer (σ ⟨g,i*k,ν⟩)):=by
 subst a;obtain⟨_,⟨rfl,s⟩|⟨cap,cs,rfl,x,A⟩⟩:=h.1
 .omega
 .rw[e5 j hi r (λ_=>rfl),V0]
theorem bo.range{i:Nat}{a:α}(h:bo f k e w g v L)(hi:L[i]?=σ a):w.rangeAt g (i*k) (f a):=λj u hu=>by
 have h1:=q2 h.2 hi hu;have x:=(x6.1 hi).1;obtain⟨_,⟨rfl,y⟩|⟨cap,cs,rfl,r,_,_,z,s⟩⟩:=h.1
 .omega
 .have q:=(x6.1 h1).1;rw[j1 h.2]at q;rw[<-s,V1 q]at h1;exact r.cell h1
theorem xW{t:o4}{b:Nat}{i:Nat}{a:α}{K:Unit->x5->Prop}(hi:aV P t k b z)(h:bo f k e w g v L)(j:(f a).length=k)(h1:∀u∈f a,u.oneCell'=s2)(q:i<L.length)(s:∀I,ai (λr=>hx v r) w I->I.heap.size=w.heap.size->bo f k e I g v (L.set i a)->K () I):aM P (o7 t (.pointer (σ ⟨g,i*k,ν⟩)) (.agg (f a).toArray)) w K:=by
 have F:=j1 h.2;have x:(i+1)*k<=L.length*k:=V4 _ q;rw[T6,Nat.one_mul]at x;obtain⟨⟨G,⟨rfl,H⟩|⟨cap,cs,rfl,y,J,A,B,M⟩⟩,N⟩:=h
 .omega
 .have O:L.length*k<=cs.length:=by grind
  refine BJ hi j h1 y Ω λI C V E=>s I (C.Y λr _ he=>⟨_,_,_,rfl,he.symm⟩) V ⟨⟨?_,.inr ⟨cap,_,Ξ,E,by grind,A,by rw[nN,B],?_⟩⟩,λb Q=>?_⟩
  all_goals grind [j1,xU,xV]
theorem lk{t:o4}{b:Nat}{u:x4}{i:Nat}{a a':α}{K:Unit->x5->Prop}(hi:aV P t 1 b z)(hu:u.cells= #[u])(h1:u.oneCell'=s2)(h:bo f k e w g v L)(q:L[i]?=σ a)(ah:f a'=(f a).set j u)(M:j<k)(A:∀I,ai (λr=>hx v r) w I->I.heap.size=w.heap.size->bo f k e I g v (L.set i a')->K () I):aM P (o7 t (.pointer (σ ⟨g,i*k+j,ν⟩)) u) w K:=by
 have s:=(x6.1 q).1;have N:=j1 h.2;have B:(i+1)*k<=L.length*k:=V4 _ s;rw[T6,Nat.one_mul]at B;have O:(f a).length=k:=h.2 a (x7 q);have x:(f a').length=k:=by grind
 have Q:(L.flatMap f).set (i*k+j) u=(L.set i a').flatMap f:=by
  rw[<-xU h.2 x s];refine Y3 λp=>?_;rw[qH _ _ _ Ω,X7,x];by_cases ae:i*k<=p/\p<i*k+k
  .rw[m3 ae,ah,X7];by_cases C:i*k+j=p
   .grind
   .rw[m5 C,m5 Ω];obtain⟨y,E⟩:∃y,(f a)[p-i*k]?=σ y:=⟨_,v8 Ω⟩;have:=q2 h.2 q E
    grind
  grind
 obtain⟨⟨R,⟨rfl,S⟩|⟨cap,cs,rfl,F,T,G,U,W⟩⟩,X⟩:=h
 .omega
 .have Y:L.length*k<=cs.length:=by grind
  refine bw hi hu h1 F Ω λI H V J=>A I (H.Y λr _ he=>⟨_,_,_,rfl,he.symm⟩) V ⟨⟨?_,.inr ⟨cap,_,Ξ,J,by grind,G,by grind,?_⟩⟩,λb Z=>?_⟩
  all_goals grind [List.take_set]
theorem jB{t M:o4}{b:Nat}{x:x4}{a:α}{K:x4->x5->Prop}(y:P.underlying t=σ (.slice e))(hi:aV P e k b z)(F:z.cells.size=k)(h:bo f k e w g v L)(J:cq w k x 1 (f a))(h1:∀u∈f a,u.oneCell'=s2)(G:(L.length+1)*b<=140737488355328)(O:L.length+1<=9223372036854775807)(H:∀j q I,bo f k e I q j (L++[a])->(∀r,hx j r->hx v r\/w.heap.size<=r)->ai (λr=>hx v r) w I->K j I):aM P (b9 #[t,t] M #[v,x]) w K:=by
 have Q:(f a).length=k:=by have:=J.1;omega
 have A:∀j q I,cf I q e k j (L.length+1) (L.flatMap f++f a)->bo f k e I q j (L++[a]):=λj q I hm=>⟨by grind,λb G=>by
  rcases j5.1 G with be|be
  .exact h.2 b be
  grind⟩
 rcases h.1.2 with⟨ac,N⟩|⟨cap,cs,ac,R,_⟩
 .have hm:cf w w.heap.size e k v L.length (L.flatMap f):=⟨h.1.1,.inl ⟨ac,N⟩⟩;subst ac;refine pA y y hi F hm J h1 Ω (by grind [maxLen]) λj q I B s E=>H j q I (A _ _ _ s) (λr C=>.inr ?_) (E.Y Ω);have:=((A _ _ _ s).lc C).1;omega
 .refine pA y y hi F h.1 J h1 Ω (by grind [maxLen]) λj q I B s E=>H j q I (A _ _ _ s) (λr C=>?_) (E.Y λr C h=>⟨_,_,_,ac,h.symm⟩);have:=((A _ _ _ s).lc C).1;rcases B with B|B
  .exact .inl ⟨_,_,_,ac,by show g=r;omega⟩
  omega
theorem NW{t q:o4}{b:Nat}{x:x4}{a:α}{K:x4->x5->Prop}(s:P.underlying t=σ (.slice e))(hi:aV P e k b z)(y:z.cells.size=k)(h:bo f k e w g v L)(J:cq w k x 1 (f a))(h1:∀a,∀u∈f a,u.oneCell'=s2)(A:(L.length+1)*b<=140737488355328)(B:L.length+1<=9223372036854775807)(C:∀j E I,bo f k e I E j (L++[a])->(∀r,hx j r->hx v r\/w.heap.size<=r)->ai (λr=>hx v r) w I->K j I):aM P (b9 #[t,t] q #[v,x]) w K:=jB s hi y h J (h1 a) A B C
theorem jc{t:o4}{b:Nat}{a:α}{x:x4}{K:x4->x5->Prop}(h:P.underlying t=σ (.slice e))(hi:aV P e k b z)(y:k<=100000)(J:x.cells=(f a).toArray)(A:(f a).length=k)(j:∀v g I,g=w.heap.size->Ext w I->bo f k e I g v [a]->K v I):aM P (Y4 t 1 #[(0,x)]) w K:=
 lb h hi Ω (cs:=x.cells) (BS Ξ (by grind)) λg I q r s=>by
  have s:aj I g e (f a):=by grind
  exact j _ g I q r ⟨by simpa using(by grind [cf.full,maxLen]),by grind⟩
end
end Go.Vc
namespace Go.Proofs.YtlcdcbgoaljiiaaGreatDoor
open Go Go.Vc Go.RowKit Go.Proofs Go.Proofs.Tryz
set_option maxRecDepth 100000
theorem sx{α:Type}:∀{l:List α}{j:Nat}{x:α},l[j]?=σ x->(x::l.eraseIdx j).Perm l
 |[],j,x,h=>by simp at h
 |a::l,0,x,h=>by simp at h;subst h;exact T9.refl _
 |a::l,j+1,x,h=>by
  simp at h;rw[List.eraseIdx_cons_succ];exact(T9.swap a x _).F ((sx h).cons a)
theorem uP{α:Type}{l:List α}(h:j<l.length):(l.eraseIdx j).length+1=l.length:=by
 rw[List.length_eraseIdx,m3 h];omega
def ll(w:x5)(a:Nat):Nat:=match w.heap[a]? with
 |some (.mapIter (σ m) _ seen _)=>(match w.heap[m]? with
  |some (.map e _)=>(leftOf e seen).size
  |_=>0)
 |_=>0
theorem oI{a m:Nat}{d left:List (x4×x4)}{e:Option (x4×x4)}(h:iz w a m d left e):ll w a=left.length:=by
 obtain⟨j,q,seen,gG,h1,_,_,f,_,rfl,_⟩:=h;unfold ll;rw[f];simp only;rw[h1];simp
theorem NX{w0:x5}{a m:Nat}{d d0 left:List (x4×x4)}{e:Option (x4×x4)}(h:iz w a m d left e)(hm:de w0 m d0)(h1:Ext w0 w)(j:Ext w0 I)(hi:fp w I):iz I a m d left e:=by
 obtain⟨q,c,s,gG,r,x,y,z,A⟩:=h;obtain⟨B,C,f1,_⟩:=hm;have g1:=h1.a7 m _ f1 rfl;have f:=j.a7 m _ f1 rfl;rw[r]at g1;rw[<-g1]at f;exact⟨q,c,s,gG,f,x,y,hi a _ z rfl,A⟩
abbrev pP(w:x5)(g:Nat)(v:x4)(L:List (Λ)):Prop:=bo (ints .i8) 6 cO w g v L
theorem Do{k:o8}:∀u∈ints k l,u.oneCell'=s2:=λu hu=>by
 obtain⟨x,_,rfl⟩:=l9.1 hu;rfl
theorem keysIter{m:Nat}{d:List (x4×x4)}{e:List (Λ)}{w0:x5}(Q:aj w0 dB kj [.map (σ m)])(hm:de w0 m d)(R:d.map (·.1)=e.map eD)(S:∀a∈e,a.length=6):
  qt x8 s2 nG [Γ dB] ([]:List (Λ)) (λh=>h.Perm e) (λh vs be _=>∃a∈e,h.length<e.length/\vs=[eD a]/\be=h++[a]) (λw=>Ext w0 w):=by
 refine⟨nG.enters,λl aA aE w r _ V J W=>?_⟩;refine rW func298 ?_;rw[aG Ψ ((Q.W J).cell rfl)];refine aM.cR (uK kj.u (hm.W J) λB U X s aF Y Z=>?_);refine⟨λaa=>∃h f left C,aA h aa/\Ext w0 aa/\w.heap.size<=aa.heap.size/\iz aa B m d left C/\left.map (·.1)=f.map eD/\(h++f).Perm e,λaa=>ll aa B,
  ⟨[],e,d,ν,r _ _ _ s Z.b W,J.F s,s.size,Y,R,T9.refl _⟩,?_⟩
 rintro aa ⟨h,f,left,C,E,ab,aH,G,x,q⟩;have ac:left.length=f.length:=by have:=congrArg List.length x;simpa using this
 refine uL G (λh=>by cases h) (λad=>?_) (λj p aI ae H af I=>?_)
 .rw[gk (v:=.bool sp) rfl,bc];subst ad;have:f=[]:=j6 (by rw[<-ac];rfl);subst this;rw[T4]at q;exact .inl ⟨h,q,E⟩
 .rw[gk (v:=.bool s2) rfl,bS];refine uM I ?_;obtain⟨a,y,ag⟩:∃a,f[j]?=σ a/\p.1=eD a:=by
   have h1:(left.map (·.1))[j]?=σ p.1:=by rw[u4,ae];rfl
   rw[x,u4]at h1;obtain⟨a,K,ah⟩:=Y0.1 h1;exact⟨a,K,ah.symm⟩
  have L:=q.mem_iff.1 (j5.2 (.inr (x7 y)));have M:=S a L;rw[gk (v:=p.1) rfl,ag];refine aM.cR (bE cO.i λaJ aK aL ai ak al=>?_);refine aM.cR (sq M rfl ak λam an aN ao ap=>?_);rw[pO M ao.range];have z:=ai.put an Ω;have N:=al.F ap;have O:=(ab.F H).F z;have aq:=r _ _ _ H (by rw[<-X];exact af) E;have au:=r _ _ _ z N.b aq;have av:=I.W z N.kD;have aw:h.length<e.length:=by
   have h1:=q.length_eq;have K:=(x6.1 y).1;rw[c9]at h1;omega
  refine⟨rfl,(V h (h++[a]) _ am O ⟨a,L,aw,rfl,rfl⟩ au).Y ?_⟩;rintro _ ax (⟨rfl,P,ay,az⟩|⟨rfl,aB⟩)
  .simp only[bN,Y5,bc];have A:=NX av hm O P (az rfl).kD;have aC:w.heap.size<=ax.heap.size:=by
    obtain⟨_,_,_,_,_,_,_,aD,_⟩:=A;have:=(Y2.1 aD).1;omega
   refine⟨⟨h++[a],f.eraseIdx j,left.eraseIdx j,σ p,ay,P,aC,A,?_,?_⟩,?_⟩
   .rw[<-mR,x,mR]
   .refine T9.F ?_ q;rw[T1];exact T9.append_left h (sx y)
   .rw[oI A,oI G];have:=uP (x6.1 ae).1;omega
  .simp only[bN,X6,bS];exact .inr ⟨h,aB⟩
theorem NY{m:Nat}:aq x8 Lp [.map (σ m)] w λr I=>Ext w I/\∃g,r= .func (.func nG) #[] #[Γ g]/\w.heap.size<=g/\aj I g kj [.map (σ m)]:=by
 refine aE func262 ?_;refine bn λg U f a e=>?_;rw[lS];exact⟨a,g,rfl,Ω,e⟩
theorem NZ{m:Nat}{d:List (x4×x4)}{s:List (Λ)}(Y:aj w dB kj [.map (σ m)])(hm:de w m d)(Z:d.map (·.1)=s.map eD)(G:∀j∈s,j.length=6)(aD:s.length<=1000000):
  aq x8 LN [.slice ν 0 0,.func (.func nG) #[] #[Γ dB]] w λv I=>Ext w I/\∃g L,(∀r,hx v r->w.heap.size<=r)/\L.Perm s/\pP I g v L:=by
 refine jq func311 ?_;refine bn λgs U aE H x=>?_;have x:=x;have aF:=x.lt;refine kH.old ⟨List (Λ),s2,_,_,_,_,_,_,λh I=>ai (λr=>w.heap.size<=r) w I/\∃v g,aj I gs k8 [v]/\(∀r,hx v r->w.heap.size<=r/\r≠gs)/\pP I g v h,λ_ _ _=>False,rfl,keysIter Y hm Z G,?_,λ_ _ J h=>h.F J,
  λ_ _ _ J h=>⟨h.1.F (J.ab _),by obtain⟨v,g,h1,ad,ae⟩:=h.2;exact⟨v,g,h1.W J,ad,ae.W J⟩⟩,λ_ _ _ _ _ h=>h,H,⟨H.ab _,_,0,x,λr h=>(gp h).elim,bo.nil _ _ _ _ _⟩,?_,?_,λ_ _ h=>h.elim,λ_ _ _ h=>h.elim⟩
 .rintro h _ be I ⟨j,_,_,rfl,_⟩;rfl
 .rintro a h be aa af ⟨j,ag,aH,ah,rfl⟩ ⟨K,v,g,A,dd,ac⟩;cases ah;have B:=G j ag;have aI:h.length<=1000000:=Ω
  refine aM.cR (bE cO.i λaJ aK aL ak M al=>?_);refine aM.cR (sq B rfl M λaN am aO an ao=>?_);intro aP N _ ap;have aQ:=M.lt;have au:=ak.put am Ω;have q:=au.F N;rw[aG Ψ ((A.W q).cell rfl),pO B (an.W N).range];refine aM.cR (jc (f:=ints .i8) (a:=j) k8.u cO.i Ω (by simp[eD,x4.cells]) (by simp[B]) λa ga aR aS y av aw=>?_);have O:=av.sl;rw[T0,List.flatMap_nil,T4]at O;refine aM.cR (NW k8.u cO.i rfl ((ac.W q).W y) O (λa=>Do) Ω Ω λP ax Q C ay z az=>?_);have aT:=K.size;have aU:=q.size;have aV:=y.size;have aW:=A.lt;have R:∀r,hx P r->w.heap.size<=r/\r≠gs:=λr e=>by
   rcases ay r e with h|h
   .exact dd r h
   .omega
  have E:aj Q gs k8 [v]:=((A.W q).W y).ab z (λh=>(dd gs h).2 rfl);refine aM.cR (bw k8.i (by obtain⟨_,_,_,_,_,rfl,_⟩:=C.sl;rfl) (by obtain⟨_,_,_,_,_,rfl,_⟩:=C.sl;rfl) E Ξ λS V aX aA aB=>?_);have W:ai (λr=>w.heap.size<=r) aa S:=(((q.F y).ab _).F (z.Y λr _ h=>(dd r h).1)).F (V.Y λr _ h=>by show w.heap.size<=r;omega);refine⟨af.then W (λr e h=>by have h:=h;omega),⟨K.F W,P,ax,aA,R,C.ab V λr e h=>(R r e).2 h⟩,λ_=>?_⟩;exact((((al.kD.F ao.kD).F ap).F aw.kD).F az.kD).F aB.kD
 .rintro h Q aC ⟨z,v,g,E,dd,ac⟩;rw[aG Ψ (E.cell rfl)];intro S X _;exact⟨(z.W λr e h=>by have:w.heap.size<=r:=h;omega).F X,g,h,λr e=>(dd r e).1,aC,ac.W X⟩
theorem N0{m:Nat}{d:List (x4×x4)}{a:List (Λ)}(e:aj w dB kj [.map (σ m)])(hm:de w m d)(f:d.map (·.1)=a.map eD)(j:∀q∈a,q.length=6)(s:a.length<=1000000):
  aq x8 LH [.func (.func nG) #[] #[Γ dB]] w λv I=>Ext w I/\∃g L,(∀r,hx v r->w.heap.size<=r)/\L.Perm a/\pP I g v L:=by
 refine aE func296 ?_;exact(NZ e hm f j s).Y λ_ _ _ h=>h
def iA:Λ->Int
 |[]=>0
 |x::l=>x*32 ^ l.length+iA l
theorem xX(n:Nat):(0:Int)<32 ^ n:=Int.pow_pos Ω
theorem uQ:∀(l:Λ),(∀x∈l,0<=x/\x<32)->0<=iA l/\iA l<32 ^ l.length
 |[],_=>by simp[iA]
 |x::l,h=>by
  have f:=uQ l λy a=>h y (.tail _ a);have J:=h x (.head _);have ae:=xX l.length;simp only[iA,W5];have e:(32:Int) ^ (l.length+1)=32*32 ^ l.length:=by rw[Int.pow_succ,Int.mul_comm]
  have h1:x*32 ^ l.length<=31*32 ^ l.length:=Int.mul_le_mul_of_nonneg_right Ω Ω;have j:0<=x*32 ^ l.length:=Int.mul_nonneg J.1 Ω;rw[e];omega
def ks:Λ->Λ->Int
 |x::a,y::b=>if x<y then-1 else if y<x then 1 else ks a b
 |_,_=>0
theorem Dp:∀(a b:Λ),a.length=b.length->(∀x∈a,0<=x/\x<32)->(∀x∈b,0<=x/\x<32)->(ks a b<0↔iA a<iA b)/\(iA a=iA b->a=b)
 |[],[],_,_,_=>by simp[ks]
 |[],_::_,h,_,_=>by simp at h
 |_::_,[],h,_,_=>by simp at h
 |x::a,y::b,h,w,A=>by
  have j:a.length=b.length:=by simpa using h
  have q:∀x∈a,0<=x/\x<32:=λz e=>w z (.tail _ e);have r:∀x∈b,0<=x/\x<32:=λz e=>A z (.tail _ e);have s:=Dp a b j q r;have B:=uQ a q;have E:=uQ b r;have ae:=xX b.length;simp only[ks,iA];rw[j]at B ⊢;have step:∀u v:Int,u<v->u*32 ^ b.length+32 ^ b.length<=v*32 ^ b.length:=λu v F=>by
   have:=Int.mul_le_mul_of_nonneg_right (show u+1<=v by omega) (show(0:Int)<=32 ^ b.length by omega);rw[Int.add_mul,Int.one_mul]at this;exact this
  by_cases h1:x<y
  .rw[m3 h1];have:=step x y h1;exact⟨⟨λ_=>Ω,λ_=>Ω⟩,λh=>Ω⟩
  .rw[m5 h1];by_cases f:y<x
   .rw[m3 f];have:=step y x f;exact⟨⟨λh=>Ω,λh=>Ω⟩,λh=>Ω⟩
   .rw[m5 f];have C:x=y:=Ω
    subst C;exact⟨s.1.F ⟨λh=>Ω,λh=>Ω⟩,λh=>by rw[s.2 Ω]⟩
theorem xY:∀{a b:Λ}{i:Nat},(∀(j:Nat)(x y:Int),j<i->a[j]?=σ x->b[j]?=σ y->x=y)->i<=a.length->i<=b.length->ks a b=ks (a.drop i) (b.drop i)
 |_,_,0,_,_,_=>Ξ
 |[],_,i+1,_,h,_=>by simp at h
 |_::_,[],i+1,_,_,h=>by simp at h
 |x::a,y::b,i+1,he,h1,e=>by
  have f:=he 0 x y Ω rfl rfl;subst f;simp only[ks,Int.lt_irrefl,if_false,List.drop_succ_cons];exact xY (λj u v q hu ac=>he (j+1) u v Ω hu ac) (by simpa using h1) (by simpa using e)
theorem Dq{x:Int}:aq x8 LM [.int .i8 x] w λv I=>v= .bool sp/\Ext w I:=by
 refine aE func310 ?_;simp only[bM];exact⟨Ξ,Ext.refl _⟩
theorem N1{x:Int}:aq x8 LG [.int .i8 x,.int .i8 y] w λv I=>v=Δ (if x<y then-1 else if y<x then 1 else 0)/\Ext w I:=by
 refine aE func295 ?_;refine Dq.Y ?_;rintro _ U _ ⟨rfl,a⟩;refine Dq.Y ?_;rintro _ aa _ ⟨rfl,e⟩;simp only[bc,aW,bU,ao];exact⟨λh=>⟨by rw[m3 h],a.F e⟩,λh=>⟨λf=>⟨by rw[m5 h,m3 f],a.F e⟩,λf=>⟨by rw[m5 h,m5 f],a.F e⟩⟩⟩
theorem N2{bC bv:x4}{b:Λ}(r:aQ .i8 w bC a)(z:aQ .i8 w bv b)(V:a.length=b.length):aq x8 Ln [bC,bv] w λv I=>v=Δ (ks a b)/\Ext w I:=by
 refine aE func260 ?_;have W:=r.le;rw[a8 mA.u r];refine ce.range a.length (λi _ U=>Ext w U/\∀(j:Nat)(x y:Int),j<i->a[j]?=σ x->b[j]?=σ y->x=y) Ω ⟨Ext.refl _,λj x y K=>Ω⟩ ?_ ?_
 .rintro i _ U L hi ⟨e,s⟩ M;simp only[aW,ao];refine⟨λ_=>?_,λh=>Ω⟩;obtain⟨x,J⟩:=aI (l:=a) hi;obtain⟨y,A⟩:=aI (l:=b) (i:=i) Ω;rw[bk mA.u gF.i Ψ (r.W e) J,a8 mA.u (z.W e)];simp only[cT,ao];refine⟨λh=>Ω,λ_=>?_⟩;rw[bk mA.u gF.i Ψ (z.W e) A];refine N1.Y ?_;rintro _ aa _ ⟨rfl,E⟩;have f:ks a b=ks (a.drop i) (b.drop i):=xY s Ω Ω;have N:a.drop i=x::a.drop (i+1):=by rw[X4 hi,(x6.1 J).2]
  have O:b.drop i=y::b.drop (i+1):=by rw[X4 Ω,(x6.1 A).2]
  rw[N,O]at f;simp only[ks]at f;simp only[bM,ao,aR];refine⟨λG=>⟨?_,e.F E⟩,λP=>M _ _ ⟨e.F E,λj Q R K B C=>?_⟩⟩
  .rw[f];by_cases h1:x<y
   .rw[m3 h1,m3 h1]
   .by_cases q:y<x
    .rw[m5 h1,m3 q,m5 h1,m3 q]
    .rw[m5 h1,m5 q]at G;exact m6 rfl G
  .by_cases S:j=i
   .subst S;rw[J]at B;rw[A]at C;cases B;cases C;have H:=X1.1 P;by_cases h1:x<y
    .rw[m3 h1]at H;omega
    .by_cases q:y<x
     .rw[m5 h1,m3 q]at H;omega
     .omega
   .exact s j Q R Ω B C
 .rintro _ U L ⟨e,s⟩;simp only[aW,show decide ((a.length:Int)<(a.length:Int))=sp from rc Ω,bc];rw[a8 mA.u (r.W e),a8 mA.u (z.W e)];simp only[aW,ao];refine⟨λh=>Ω,λ_=>⟨?_,e⟩⟩;have f:ks a b=ks (a.drop a.length) (b.drop a.length):=xY s Ω Ω;rw[f,List.drop_length];cases b.drop a.length<;>rfl
theorem N3{b:Λ}(q:nU a)(r:nU b):aq x8 Bx [eD a,eD b] w λv I=>Ext w I/\v=Δ (ks a b):=by
 have C:∀{c:Λ},nU c->(ints .i8 c).length=6:=λh=>by simp[h.1]
 refine aE func259 ?_;refine bn λg1 U E z e=>?_;refine bn λG aa H s f=>?_;rw[Dd]at e f;intro x j _ _;have e:=(e.W s).W j;have f:=f.W j;rw[uf cO.u gF.i (l:=0) (h:=6) (m:=6) kl la fD Ω Ω Ω,uf cO.u gF.i (l:=0) (h:=6) (m:=6) kl la fD Ω Ω Ω];rw[m5 Ω,m5 Ω];have ls:∀{g:Nat}{c:Λ},nU c->aj x g cO (ints .i8 c)->aQ .i8 x (.slice (σ ⟨g,0+0*1,ν⟩) (6-0) (6-0)) c:=λ{g c}y A=>by
  unfold aQ;refine⟨Ξ,g,0,_,6,by rw[y.1],by rw[y.1];omega,by simp[maxLen],λ_=>rfl,A.range⟩
 refine(N2 (ls q e) (ls r f) (by rw[q.1,r.1])).Y ?_;rintro _ J _ ⟨rfl,B⟩;exact⟨((z.F s).F j).F B,rfl⟩
end Go.Proofs.YtlcdcbgoaljiiaaGreatDoor
namespace Go.Vc
open Go Go.RowKit Go.Shelf Go.Proofs Go.Sort
theorem grown_of(J:Ext w I)(a:cU w I):∃q os,I=grow (w.drewN q) os:=by
 refine⟨I.drawn-w.drawn,I.heap.extract w.heap.size I.heap.size,?_⟩;have hk:∀k,k<w.heap.size->I.heap[k]?=w.heap[k]?:=λk hk=>by
  have aC:=Array.getElem?_eq_getElem hk;rw[aC];cases V:gf w.heap[k]with
  |true=>exact J.a7 k _ aC V
  |false=>exact a.a7 k _ aC V
 have ax:I.heap=w.heap++I.heap.extract w.heap.size I.heap.size:=by
  apply Array.ext_getElem?
  grind
 have h1:=a.os;have e:=a.tape.1;have f:=a.output;have h:w.drawn+(I.drawn-w.drawn)=I.drawn:=by have:=a.tape.2;omega
 cases I
 grind [Sort.grow,x5.drewN]
section
variable{α:Type}[Inhabited α]
theorem Dr(enc:α->List x4)(k:Nat)(hk:∀x,(enc x).length=k)(d:Array α):(flatK enc k d).toList=d.toList.flatMap enc:=by
 apply Y3;intro t;by_cases h:t<d.size*k
 .have e:0<k:=by
   grind
  have f:=(Nat.div_lt_iff_lt_mul e).2 h;have j:=Nat.mod_lt t e;have q:(flatK enc k d).toList[t]?=σ ((enc d[t / k]!)[t % k]!):=by
   rw[Array.getElem?_toList,Array.getElem?_eq_getElem (by simpa using h)];have:=get_flatK enc k d t h
   grind
  have r:d.toList[t / k]?=σ d[t / k]!:=by
   grind
  grind [q2,Nat.mul_comm,Nat.div_add_mod]
 .rw[W8 (by simpa using h),W8];rw[j1 λa _=>hk a]
  grind
theorem Ds(enc:α->List x4)(k:Nat)(hk:∀x,(enc x).length=k){g m:Nat}{cs:List x4}{d:Array α}{os:Array Obj}(a:aj w g e cs)(q:d.size*k<=cs.length):
  aj (sortWorldK enc k w g 0 m d os) g e (d.toList.flatMap enc++cs.drop (d.size*k))/\∀r,r<w.heap.size->r≠g->(sortWorldK enc k w g 0 m d os).heap[r]?=w.heap[r]?:=by
 have f:=a.lt;have h:∀r,r<w.heap.size->(sortWorldK enc k w g 0 m d os).heap[r]?=(w.heap.modify g (onCells (putCells id 0 (flatK enc k d))))[r]?:=λr j=>by
  show((w.heap.modify g (onCells (putCells id 0 (flatK enc k d))))++os)[r]?=_
  grind
 refine⟨?_,λr j s=>?_⟩
 .unfold aj at a ⊢;rw[h g f,Array.getElem?_modify,m3 rfl,a];show σ (Obj.cells (putCells id 0 (flatK enc k d) cs.toArray) e (0,0))=_;refine congrArg σ (congrArg (λc=>Obj.cells c e (0,0)) ?_)
  grind [Array.size,j1,Sort.putCells,Dr]
 grind
end
theorem Dt{P:W0}{E:Ren}(H:SlLaysF0.n6 P E){α:Type}{f:α->List x4}{k:Nat}{G:α->Prop}{num:α->Int}{A:α->α->Int}{B:S8}{cap:Array x4}(ah:∀w,(isAgg (E.t 24)).run P w= .ok s2 w)(ak:∀w,(Go.sizeOf (E.t 24)).run P w= .ok k w)(h1:∀a,G a->∀u∈f a,u.oneCell'=s2)(hk:∀a,G a->(f a).length=k)(aJ:∀a b,G a->G b->(A a b<0↔num a<num b))(R:Enters P B){w:x5}{g:Nat}{v:x4}{L:List α}(h:bo f k e w g v L)(K:∀a∈L,G a)(al:L.length<65536)(am:∀N a b,ai (λr=>r=g) w N->G a->G b->aq P B ([.agg (f a).toArray,.agg (f b).toArray]++cap.toList) N λu an=>Ext N an/\u=Δ (A a b)):
  aq P (E.f 6) [v,.func (.func B) #[] cap] w λ_ I=>ai (λr=>hx v r) w I/\∃M,M.Perm L/\(∀(p q:Nat)(x y:α),p<q->M[p]?=σ x->M[q]?=σ y->num x<=num y)/\bo f k e I g v M:=by
 have S:=λargs w=>H.f6.enters rfl args w;obtain⟨⟨aK,ac⟩,aL⟩:=id h;have T:∀p c,v= .slice p 0 c->L=[]->aq P (E.f 6) [v,.func (.func B) #[] cap] w λ_ I=>ai (λr=>hx v r) w I/\∃M,M.Perm L/\(∀(p q:Nat)(x y:α),p<q->M[p]?=σ x->M[q]?=σ y->num x<=num y)/\bo f k e I g v M:=λp c ae al=>by
  refine .code S ?_;rw[ae];refine(AnyF.slices_SortFunc_none H p c _ w).Y ?_;rintro aM I ⟨rfl,rfl⟩;refine⟨_,rfl,cU.refl _,ai.refl _ _,L,.refl _,by grind,by grind⟩
 rcases ac with⟨rfl,ao⟩|⟨c,cs,rfl,C,aN,hm,aO,aP⟩
 .exact T _ _ rfl (j6 ao)
 cases U:L with
 |nil=>subst U;exact T _ _ rfl rfl
 |cons a0 aQ=>
 rw[<-U];let β:={a:α // G a};have:Inhabited β:=⟨⟨a0,by grind⟩⟩;let enc:β->List x4:=λx=>f x.1;let d:Array β:=(L.attach.map λx=>(⟨x.1,K x.1 x.2⟩:β)).toArray;have aR:d.toList.map Subtype.val=L:=by
  show(L.attach.map λx=>(⟨x.1,K x.1 x.2⟩:β)).map Subtype.val=L;rw[T5];exact List.attach_map_subtype_val L
 have ap:d.size=L.length:=by simp[d]
 have F:∀x:β,(enc x).length=k:=by grind
 have aS:d.toList.flatMap enc=L.flatMap f:=by
  grind [List.flatMap_map]
 have W:d.size*k<=cs.length:=by grind
 have au:HoldsK enc k w g 0 d:=by
  intro j av;rw[size_flatK]at av;have aT:j<cs.length:=Ω
  have aw:(flatK enc k d)[j]! =cs[j]:=by
   have aU:(flatK enc k d).toList[j]?=σ cs[j]:=by
    grind [Dr]
   grind
  refine⟨?_,?_⟩
  .show w.cell? ⟨g,0+j,ν⟩=σ ((flatK enc k d)[j]!);rw[aw];exact C.cell (by grind)
  grind [x5.frozen?,aj]
 have aV:∀x y:β,ltOf (λx y:β=>A x.1 y.1) x y=decide (num x.1<num y.1):=λx y=>by
  unfold ltOf
  grind
 have ax:SWO (ltOf λx y:β=>A x.1 y.1):=
  ⟨by grind,by grind,by grind⟩
 have X:∀m (d2:Array β) os,d2.size=d.size->ai (λr=>r=g) w (sortWorldK enc k w g 0 m d2 os)/\cU w (sortWorldK enc k w g 0 m d2 os):=λm d2 os V=>by
  obtain⟨aW,ay⟩:=Ds enc k F C (by rw[V];exact W);have Y:w.heap.size<=(sortWorldK enc k w g 0 m d2 os).heap.size:=by
   show w.heap.size<=((w.heap.modify g _)++os).size;simp
  refine⟨⟨Y,λr o s _ Z=>?_⟩,rfl,⟨rfl,Nat.le_add_right _ _⟩,rfl,Y,λr o s V=>?_⟩
  .rw[ay r (Y2.1 s).1 Z];exact s
  .have Z:r≠g:=λhe=>by subst he;unfold aj at C;rw[C]at s;cases s;cases V
   grind
 have az:CmpLays P B cap enc k (λx y:β=>A x.1 y.1) g 0 d.size w:=λm os aA V x y=>by
  have J:=(am _ x.1 y.1 (X m aA os V).1 x.2 y.2).calls R;have O:([x4.agg (f x.1).toArray,.agg (f y.1).toArray]++cap.toList).toArray= #[.agg (enc x).toArray,.agg (enc y).toArray]++cap:=by
   apply Array.ext';simp[enc]
  rw[O]at J;refine J.Y ?_
  grind [grown_of]
 have aa:=AnyQ.slices_SortFunc H k ah ak enc F (by grind) (λx y:β=>A x.1 y.1) ax B cap g 0 c d w (λargs w=>R args w) az au C.lt Ω;rw[ap]at aa;refine .code S (aa.Y ?_);rintro _ I ⟨rfl,z,n,os,⟨aB,_,ae⟩,aC,rfl⟩;have ab:=aB;obtain⟨aD,aE⟩:=X n z os ab;obtain⟨aF,_⟩:=Ds enc k F C (by rw[ab];exact W);have Q:(z.toList.map Subtype.val).Perm L:=by
  grind [Array.extract_size]
 have aG:=Q.length_eq;refine⟨_,rfl,aE,aD.Y λr _ s=>⟨_,_,_,rfl,s.symm⟩,z.toList.map Subtype.val,Q,λp q x y aH J ad=>?_,⟨?_,.inr ⟨c,_,by rw[aG],aF,Ω,hm,?_,?_⟩⟩,by grind⟩
 .rw[u4,Y0]at J ad;obtain⟨aX,af,rfl⟩:=J;obtain⟨aY,ag,rfl⟩:=ad;rw[Array.getElem?_toList]at af ag;have aZ:=(Y2.1 af);have a1:=(Y2.1 ag);have:=aC p q (X9 _) aH (by grind)
  grind
 .rw[j1 λa O=>hk a (K a (Q.mem_iff.1 O))]
 .have aI:(z.toList.flatMap enc).length=z.size*k:=by rw[j1 λa _=>F a];rfl
  grind [Nat.add_sub_cancel']
 .have aI:(z.toList.flatMap enc).length=z.size*k:=by rw[j1 λa _=>F a];rfl
  grind [List.flatMap_map]
end Go.Vc
namespace Go.Proofs
open Go.Shelf
def Tryz.xZ:Go.Shelf.Ren:=⟨λ|6=>297|15=>252|14=>312|28=>290|29=>291|20=>327|21=>328|22=>329|23=>330|24=>331|25=>332|26=>333|27=>334|46=>342|47=>304|48=>305|49=>343|50=>344|57=>347|n=>n,λ|22=>358|24=>333|25=>357|3=>3|39=>231|0=>0|53=>379|55=>58|4=>4|46=>373|45=>372|50=>306|5=>5|9=>9|66=>388|70=>392|76=>412|77=>413|n=>n,λ|n=>n⟩
theorem Tryz.N4:Go.Proofs.SlLaysF0.n6 Tryz.prog Tryz.xZ:={
 mixed:=Ψ,
 f6:=⟨Tryz.f297.name,Φ,Tryz.func297.F (congrArg σ Ψ)⟩,
 f14:=⟨Tryz.f312.name,Φ,Tryz.func312.F (congrArg σ Ψ)⟩,
 f15:=Tryz.func252.F (congrArg σ Ψ),
 f20:=⟨Tryz.f327.name,Φ,Tryz.func327.F (congrArg σ Ψ)⟩,
 f21:=⟨Tryz.f328.name,Φ,Tryz.func328.F (congrArg σ Ψ)⟩,
 f22:=⟨Tryz.f329.name,Φ,Tryz.func329.F (congrArg σ Ψ)⟩,
 f23:=⟨Tryz.f330.name,Φ,Tryz.func330.F (congrArg σ Ψ)⟩,
 f24:=⟨Tryz.f331.name,Φ,Tryz.func331.F (congrArg σ Ψ)⟩,
 f25:=⟨Tryz.f332.name,Φ,Tryz.func332.F (congrArg σ Ψ)⟩,
 f26:=⟨Tryz.f333.name,Φ,Tryz.func333.F (congrArg σ Ψ)⟩,
 f27:=⟨Tryz.f334.name,Φ,Tryz.func334.F (congrArg σ Ψ)⟩,
 f28:=Tryz.func290.F (congrArg σ Ψ),
 f29:=Tryz.func291.F (congrArg σ Ψ),
 f46:=⟨Tryz.f342.name,Φ,Tryz.func342.F (congrArg σ Ψ)⟩,
 f47:=Tryz.func304.F (congrArg σ Ψ),
 f48:=Tryz.func305.F (congrArg σ Ψ),
 f49:=⟨Tryz.f343.name,Φ,Tryz.func343.F (congrArg σ Ψ)⟩,
 f50:=⟨Tryz.f344.name,Φ,Tryz.func344.F (congrArg σ Ψ)⟩,
 f57:=⟨Tryz.f347.name,Φ,Tryz.func347.F (congrArg σ Ψ)⟩,
 t0:=Tryz.underlying0,
 a0:=Tryz.isAgg0,
 z0:=Tryz.sizeOf0,
 v0:=Tryz.zeroValue0,
 t3:=Tryz.underlying3,
 a3:=Tryz.isAgg3,
 z3:=Tryz.sizeOf3,
 v3:=Tryz.zeroValue3,
 t4:=Tryz.underlying4,
 a4:=Tryz.isAgg4,
 z4:=Tryz.sizeOf4,
 v4:=Tryz.zeroValue4,
 t5:=Tryz.underlying5,
 a5:=Tryz.isAgg5,
 z5:=Tryz.sizeOf5,
 v5:=Tryz.zeroValue5,
 t9:=Tryz.underlying9,
 a9:=Tryz.isAgg9,
 z9:=Tryz.sizeOf9,
 v9:=Tryz.zeroValue9,
 t22:=Tryz.underlying358,
 a22:=Tryz.isAgg358,
 z22:=Tryz.sizeOf358,
 v22:=Tryz.zeroValue358,
 t25:=Tryz.underlying357,
 a25:=Tryz.isAgg357,
 z25:=Tryz.sizeOf357,
 v25:=Tryz.zeroValue357,
 t39:=Tryz.underlying231,
 a39:=Tryz.isAgg231,
 z39:=Tryz.sizeOf231,
 v39:=Tryz.zeroValue231,
 t45:=Tryz.underlying372,
 a45:=Tryz.isAgg372,
 z45:=Tryz.sizeOf372,
 v45:=Tryz.zeroValue372,
 t46:=Tryz.underlying373,
 a46:=Tryz.isAgg373,
 z46:=Tryz.sizeOf373,
 v46:=Tryz.zeroValue373,
 t50:=Tryz.underlying306,
 a50:=Tryz.isAgg306,
 z50:=Tryz.sizeOf306,
 v50:=Tryz.zeroValue306,
 t53:=Tryz.underlying379,
 a53:=Tryz.isAgg379,
 z53:=Tryz.sizeOf379,
 v53:=Tryz.zeroValue379,
 t55:=Tryz.underlying58,
 a55:=Tryz.isAgg58,
 z55:=Tryz.sizeOf58,
 v55:=Tryz.zeroValue58,
 t66:=Tryz.underlying388,
 a66:=Tryz.isAgg388,
 z66:=Tryz.sizeOf388,
 v66:=Tryz.zeroValue388,
 t70:=Tryz.underlying392,
 a70:=Tryz.isAgg392,
 z70:=Tryz.sizeOf392,
 v70:=Tryz.zeroValue392,
 t76:=Tryz.underlying412,
 a76:=Tryz.isAgg412,
 z76:=Tryz.sizeOf412,
 v76:=Tryz.zeroValue412,
 t77:=Tryz.underlying413,
 a77:=Tryz.isAgg413,
 z77:=Tryz.sizeOf413,
 v77:=Tryz.zeroValue413}
def Tryz.x0:Go.Shelf.Ren:=⟨λ|6=>191|15=>252|14=>251|28=>290|29=>291|20=>282|21=>283|22=>284|23=>285|24=>286|25=>287|26=>288|27=>289|46=>303|47=>304|48=>305|49=>306|50=>307|57=>326|n=>n,λ|22=>274|24=>279|25=>289|3=>3|39=>231|0=>0|53=>379|55=>58|4=>4|46=>373|45=>372|50=>306|5=>5|9=>9|66=>388|70=>392|76=>412|77=>413|n=>n,λ|n=>n⟩
theorem Tryz.N5:Go.Proofs.SlLaysF0.n6 Tryz.prog Tryz.x0:={
 mixed:=Ψ,
 f6:=⟨Tryz.f191.name,Φ,Tryz.func191.F (congrArg σ Ψ)⟩,
 f14:=⟨Tryz.f251.name,Φ,Tryz.func251.F (congrArg σ Ψ)⟩,
 f15:=Tryz.func252.F (congrArg σ Ψ),
 f20:=⟨Tryz.f282.name,Φ,Tryz.func282.F (congrArg σ Ψ)⟩,
 f21:=⟨Tryz.f283.name,Φ,Tryz.func283.F (congrArg σ Ψ)⟩,
 f22:=⟨Tryz.f284.name,Φ,Tryz.func284.F (congrArg σ Ψ)⟩,
 f23:=⟨Tryz.f285.name,Φ,Tryz.func285.F (congrArg σ Ψ)⟩,
 f24:=⟨Tryz.f286.name,Φ,Tryz.func286.F (congrArg σ Ψ)⟩,
 f25:=⟨Tryz.f287.name,Φ,Tryz.func287.F (congrArg σ Ψ)⟩,
 f26:=⟨Tryz.f288.name,Φ,Tryz.func288.F (congrArg σ Ψ)⟩,
 f27:=⟨Tryz.f289.name,Φ,Tryz.func289.F (congrArg σ Ψ)⟩,
 f28:=Tryz.func290.F (congrArg σ Ψ),
 f29:=Tryz.func291.F (congrArg σ Ψ),
 f46:=⟨Tryz.f303.name,Φ,Tryz.func303.F (congrArg σ Ψ)⟩,
 f47:=Tryz.func304.F (congrArg σ Ψ),
 f48:=Tryz.func305.F (congrArg σ Ψ),
 f49:=⟨Tryz.f306.name,Φ,Tryz.func306.F (congrArg σ Ψ)⟩,
 f50:=⟨Tryz.f307.name,Φ,Tryz.func307.F (congrArg σ Ψ)⟩,
 f57:=⟨Tryz.f326.name,Φ,Tryz.func326.F (congrArg σ Ψ)⟩,
 t0:=Tryz.underlying0,
 a0:=Tryz.isAgg0,
 z0:=Tryz.sizeOf0,
 v0:=Tryz.zeroValue0,
 t3:=Tryz.underlying3,
 a3:=Tryz.isAgg3,
 z3:=Tryz.sizeOf3,
 v3:=Tryz.zeroValue3,
 t4:=Tryz.underlying4,
 a4:=Tryz.isAgg4,
 z4:=Tryz.sizeOf4,
 v4:=Tryz.zeroValue4,
 t5:=Tryz.underlying5,
 a5:=Tryz.isAgg5,
 z5:=Tryz.sizeOf5,
 v5:=Tryz.zeroValue5,
 t9:=Tryz.underlying9,
 a9:=Tryz.isAgg9,
 z9:=Tryz.sizeOf9,
 v9:=Tryz.zeroValue9,
 t22:=Tryz.underlying274,
 a22:=Tryz.isAgg274,
 z22:=Tryz.sizeOf274,
 v22:=Tryz.zeroValue274,
 t25:=Tryz.underlying289,
 a25:=Tryz.isAgg289,
 z25:=Tryz.sizeOf289,
 v25:=Tryz.zeroValue289,
 t39:=Tryz.underlying231,
 a39:=Tryz.isAgg231,
 z39:=Tryz.sizeOf231,
 v39:=Tryz.zeroValue231,
 t45:=Tryz.underlying372,
 a45:=Tryz.isAgg372,
 z45:=Tryz.sizeOf372,
 v45:=Tryz.zeroValue372,
 t46:=Tryz.underlying373,
 a46:=Tryz.isAgg373,
 z46:=Tryz.sizeOf373,
 v46:=Tryz.zeroValue373,
 t50:=Tryz.underlying306,
 a50:=Tryz.isAgg306,
 z50:=Tryz.sizeOf306,
 v50:=Tryz.zeroValue306,
 t53:=Tryz.underlying379,
 a53:=Tryz.isAgg379,
 z53:=Tryz.sizeOf379,
 v53:=Tryz.zeroValue379,
 t55:=Tryz.underlying58,
 a55:=Tryz.isAgg58,
 z55:=Tryz.sizeOf58,
 v55:=Tryz.zeroValue58,
 t66:=Tryz.underlying388,
 a66:=Tryz.isAgg388,
 z66:=Tryz.sizeOf388,
 v66:=Tryz.zeroValue388,
 t70:=Tryz.underlying392,
 a70:=Tryz.isAgg392,
 z70:=Tryz.sizeOf392,
 v70:=Tryz.zeroValue392,
 t76:=Tryz.underlying412,
 a76:=Tryz.isAgg412,
 z76:=Tryz.sizeOf412,
 v76:=Tryz.zeroValue412,
 t77:=Tryz.underlying413,
 a77:=Tryz.isAgg413,
 z77:=Tryz.sizeOf413,
 v77:=Tryz.zeroValue413}
theorem Tryz.N6(w:x5):(isAgg (Tryz.xZ.t 24)).run Tryz.prog w= .ok s2 w:=Tryz.isAgg333 w
theorem Tryz.N7(w:x5):(Go.sizeOf (Tryz.xZ.t 24)).run Tryz.prog w= .ok 6 w:=Tryz.sizeOf333 w
theorem Tryz.N8:Tryz.prog.funcs[259]?=σ Tryz.f259:=Tryz.func259
theorem Tryz.N9(w:x5):(isAgg (Tryz.x0.t 24)).run Tryz.prog w= .ok s2 w:=Tryz.isAgg279 w
theorem Tryz.Oa(w:x5):(Go.sizeOf (Tryz.x0.t 24)).run Tryz.prog w= .ok 2 w:=Tryz.sizeOf279 w
theorem Tryz.Ob:Tryz.prog.funcs[192]?=σ Tryz.f192:=Tryz.func192
end Go.Proofs
namespace Go.Proofs.YtlcdcbgoaljiiaaGreatDoor
open Go Go.Vc Go.RowKit Go.Proofs Go.Proofs.Tryz
set_option maxRecDepth 100000
def uR{α:Type}(f:α->Int)(L:List α)(a i:Nat):Prop:=∀(p q:Nat)(x y:α),a<=p->p<q->q<i->L[p]?=σ x->L[q]?=σ y->f x<=f y
def q3(L:List (Λ)):Prop:=∀a∈L,nU a
theorem q3.perm{L M:List (Λ)}(h:q3 L)(ae:M.Perm L):q3 M:=λa hk=>h a (ae.mem_iff.1 hk)
theorem Oc{g:Nat}{L:List (Λ)}{i:Nat}(e:y=(i:Int))(h:pP w g v L)(hi:L[i]?=σ a):
  ad x8 (n9 k8 v (Δ y)) w (λp=>ad x8 (u5 cO p) w K)=K (eD a):=by
 have f:a.length=6:=by have:=h.2 a (x7 hi);simpa using this
 rw[cu e k8.u cO.i h (x6.1 hi).1,pO f (h.range hi)]
abbrev Du:x4:=.func (.func Bx) #[] #[]
theorem uS{P:W0}{t:o4}{k:o8}{s:ByteArray}{i:Nat}(a:P.underlying t=σ .string)(hi:i<s.size):
  ad P (Instr.index t (.string s) (.int k (i:Int))) w K=K (.int .u8 (s[i].toNat:Int)):=ad.of λI _=>by
 simp[Instr.index,asIntOf,run_underlying a,hi]
def eI(n:Nat):Nat:=if n=0 then 0 else Nat.log2 n+1
theorem Dv(h:n<256):eI n<=8:=by
 unfold eI;by_cases a:n=0
 .rw[m3 a];omega
 .rw[m5 a];have e:Nat.log2 n<8:=(Nat.log2_lt a).2 Ω;omega
theorem Od{g:Nat}{L:List (Λ)}(h:pP w g v L)(j:q3 L)(s:L.length<65536):
  aq x8 LI [v,Du] w λ_ I=>ai (λr=>hx v r) w I/\∃M,M.Perm L/\uR iA M 0 M.length/\pP I g v M:=by
 refine(Dt N4 N6 N7 (λa _=>Do) (λa e=>by simp[e.1]) (λa b e f=>(Dp a b (by rw[e.1,f.1]) e.2 f.2).1) (Enters.of x8 N8 rfl Ψ) h j s λC a b _ e f=>N3 e f).Y ?_;rintro _ I _ ⟨z,M,ae,hu,hm⟩;exact⟨z,M,ae,λp q x y _ A _ J B=>hu p q x y A J B,hm⟩
end Go.Proofs.YtlcdcbgoaljiiaaGreatDoor
namespace Go.Vc
open Go Go.RowKit
set_option maxRecDepth 100000
theorem Keys.str{P:W0}{k:o4}(hk:P.underlying k=σ .string):Keys P k λv=>∃s,v= .string s:=by
 have key:∀s,MapKept.IsKey .string (.string s):=λs=>trivial;refine⟨λw f v ⟨n,h⟩=>?_,λw x ⟨n,h⟩ q r=>?_,λw v ⟨n,h⟩=>?_⟩
 .subst h;exact MapKept.run_checkKey hk (key n) f 9999
 .subst h;rcases MapKept.findNow_spec (key n) q 0 (λe he=>by obtain⟨m,h⟩:=r e he;rw[h];exact key m)with⟨h1,a⟩|⟨j,e,h1,a,y⟩
  .exact .inl ⟨MapKept.run_findKey hk h1,a⟩
  .exact .inr ⟨j,e,by have:=MapKept.run_findKey (P:=P) (w:=w) hk h1;simpa using this,a,y⟩
 .subst h;exact MapKept.run_keyThatStays (d:=.string) (key n)
section
variable{P:W0}{w:x5}
theorem mT{s:Sem x4}(h:∀K:x4->Prop,ad P s w K=K v):ch P s v w:=by
 have h1:ad P s w (λu=>u=v):=(h λu=>u=v).mpr rfl;obtain⟨u,hu,rfl⟩:=h1;exact hu
variable{k e:o4}{G:x4->Prop}
end
end Go.Vc
namespace Go.Proofs.YtlcdcbgoaljiiaaGreatDoor
open Go Go.Vc Go.RowKit Go.Proofs Go.Proofs.Tryz
set_option maxRecDepth 100000
def iB:Nat->Nat->Λ
 |0,_=>[]
 |n+1,u=>iB n (u / 10)++[48+((u % 10:Nat):Int)]
theorem sy:∀(n u:Nat),(iB n u).length=n
 |0,_=>rfl
 |n+1,u=>by rw[iB,c9,sy n];rfl
theorem Oe(n u:Nat):iB (n+2) u=iB n (u / 100)++[48+((u / 10 % 10:Nat):Int),48+((u % 10:Nat):Int)]:=by
 rw[iB,iB,T1];rw[show u / 10 / 10=u / 100 by omega];rfl
theorem Dw:∀(n u:Nat),10 ^ n<=u->u<10 ^ (n+1)->iB (n+1) u=gI u
 |0,u,h1,a=>by
  rw[pH,m3 (by simpa using a)];simp[iB]
 |n+1,u,h1,a=>by
  have e:(10:Nat) ^ (n+1)=10*10 ^ n:=by rw[Nat.pow_succ,Nat.mul_comm]
  have f:(10:Nat) ^ (n+1+1)=10*10 ^ (n+1):=by rw[Nat.pow_succ,Nat.mul_comm]
  have h:1<=10 ^ n:=Nat.one_le_iff_ne_zero.2 Ξ;rw[pH,m5 Ω,iB,Dw n (u / 10) Ω Ω]
def ie(a C:Λ)(e u:Nat):Prop:=e<=a.length/\C.length=a.length/\∃t,C.drop e=t/\a=iB e u++t
theorem ie.two{e:Λ}{a u:Nat}(h:ie e C (a+2) u):ie e ((C.set (a+1) (48+((u % 10:Nat):Int))).set a (48+((u / 10 % 10:Nat):Int))) a (u / 100):=by
 obtain⟨h1,f,t,j,q⟩:=h;refine⟨Ω,by simp[f],_,rfl,?_⟩;rw[q,Oe,T1];congr 1;rw[List.drop_set,m5 Ω,List.drop_set,m5 Ω,<-j];have r:a<C.length:=Ω
 have s:a+1<C.length:=Ω
 rw[X4 r,X4 s,V7,Nat.add_sub_cancel_left];rfl
theorem ie.one{u:Nat}(h:ie a C 1 u):C.set 0 (48+((u % 10:Nat):Int))=a:=by
 obtain⟨h1,e,t,f,j⟩:=h;rw[j,iB,iB,List.nil_append,<-f];cases C with
 |nil=>simp at e;omega
 |cons c C=>simp
theorem ie.zero{u:Nat}(h:ie a C 0 u):C=a:=by
 obtain⟨h1,j,t,e,f⟩:=h;rw[f,iB,List.nil_append,<-e,List.drop_zero]
def ln:ByteArray:=⟨#[48,48,48,49,48,50,48,51,48,52,48,53,48,54,48,55,48,56,48,57,49,48,49,49,49,50,49,51,49,52,49,53,49,54,49,55,49,56,49,57,50,48,50,49,50,50,50,51,50,52,50,53,50,54,50,55,50,56,50,57,51,48,51,49,51,50,51,51,51,52,51,53,51,54,51,55,51,56,51,57,52,48,52,49,52,50,52,51,52,52,52,53,52,54,52,55,52,56,52,57,53,48,53,49,53,50,53,51,53,52,53,53,53,54,53,55,53,56,53,57,54,48,54,49,54,50,54,51,54,52,54,53,54,54,54,55,54,56,54,57,55,48,55,49,55,50,55,51,55,52,55,53,55,54,55,55,55,56,55,57,56,48,56,49,56,50,56,51,56,52,56,53,56,54,56,55,56,56,56,57,57,48,57,49,57,50,57,51,57,52,57,53,57,54,57,55,57,56,57,57]⟩
theorem Dx:ln.size=200:=by decide+kernel
theorem Of:∀q:Fin 100,ln.data.toList[2*q.val]?=σ (UInt8.ofNat (48+q.val / 10))/\ln.data.toList[2*q.val+1]?=σ (UInt8.ofNat (48+q.val % 10)):=by decide+kernel
theorem x1{q:Nat}(e:q<100):(∀h,(ln[2*q]'h).toNat=48+q / 10)/\∀h,(ln[2*q+1]'h).toNat=48+q % 10:=by
 obtain⟨h1,f⟩:=Of ⟨q,e⟩;refine⟨λh=>?_,λh=>?_⟩
 .have a:=(x6.1 h1).2;have:ln[2*q]=UInt8.ofNat (48+q / 10):=a;rw[this,UInt8.toNat_ofNat'];omega
 .have a:=(x6.1 f).2;have:ln[2*q+1]=UInt8.ofNat (48+q % 10):=a;rw[this,UInt8.toNat_ofNat'];omega
theorem wrap_u32{x:Int}(h1:0<=x)(a:x<4294967296):o8.u32.wrap x=x:=by
 simp[o8.wrap,o8.bits,o8.signed];omega
def lp(w:x5)(g o:Nat)(a C e:Λ):Prop:=aj w g ov (ints .u8 (a++C++e))/\a.length=o
theorem x2{g o c i:Nat}{a:o8}(e:y=(i:Int))(hi:i<n):
  ad x8 (n9 cW (.slice (σ ⟨g,o,ν⟩) n c) (.int a y)) w K=K (.pointer (σ ⟨g,o+i,ν⟩)):=by
 subst e;rw[e5 cW.u cV.i hi (λ_=>rfl),U3]
theorem x3{g o i:Nat}{x:Int}{f:Λ}{K:Unit->x5->Prop}(h:lp w g o a C f)(hi:i<C.length)(q:∀I,ai (λr=>r=g) w I->lp I g o a (C.set i x) f->K () I):aM x8 (o7 cV (.pointer (σ ⟨g,o+i,ν⟩)) (.int .u8 x)) w K:=by
 obtain⟨h,rfl⟩:=h;refine bw (g:=g) (o:=a.length+i) cV.i rfl rfl h Θ λI s V j=>q I s ⟨?_,rfl⟩;have e:(ints .u8 (a++C++f)).set (a.length+i) (.int .u8 x)=ints .u8 (a++C.set i x++f):=by
  unfold ints;rw[<-U2,T1,U7 _ _ Ω,Nat.add_sub_cancel_left,List.set_append_left _ _ hi,T1]
 rw[e]at j;exact j
theorem pQ{g o c a q i:Nat}{f t:Int}{h j:Λ}{K:x5->Prop}(z:lp w g o h C j)(Y:C.length=n)(Z:n<=1000)(ac:a<=n)(h1:(a:Int)-y=((i+1:Nat):Int))(F:(a:Int)-f=(i:Int))(G:i+1<n)(H:t=((2*q:Nat):Int))(s:q<100)(J:∀I,ai (λr=>r=g) w I->lp I g o h ((C.set (i+1) (48+((q % 10:Nat):Int))).set i (48+((q / 10:Nat):Int))) j->K I):
  ey w λaa=>
  ad x8 (aT .sub al sp s2 (Δ (a:Int)) (Δ y)) aa λL=>
  ad x8 (aT .sub al sp s2 (Δ (a:Int)) (Δ f)) aa λA=>
  ad x8 (aT .add qF sp s2 (.int .u32 t) (.int .u32 1)) aa λM=>
  ad x8 (Instr.index dj (.string ln) M) aa λt50=>
  ad x8 (Instr.index dj (.string ln) (.int .u32 t)) aa λB=>
  ad x8 (n9 cW (.slice (σ ⟨g,o,ν⟩) n c) L) aa λt53=>
  aM x8 (o7 cV t53 t50) aa λ(_:Unit)e=>
   (Ext aa e\/ch x8 (Instr.index dj (.string ln) (.int .u32 t)) B e/\ch x8 (aT .sub al sp s2 (Δ (a:Int)) (Δ f)) A e/\True)/\
  ad x8 (n9 cW (.slice (σ ⟨g,o,ν⟩) n c) A) e λN=>
   aM x8 (o7 cV N B) e λ(_:Unit)x=>K x:=by
 subst H;intro aa E _ _;have O:ai (λr=>r=g) w aa:=E.ab _;have P:lp aa g o h C j:=⟨z.1.W E,z.2⟩;rw[dr,lm Ω Ω,dr,lm Ω Ω,aR,wrap_u32 Ω Ω];rw[show((2*q:Nat):Int)+1=((2*q+1:Nat):Int) by omega];have V:=Dx;rw[uS dj.u (by rw[V];omega),uS dj.u (by rw[V];omega)];rw[(x1 s).1,(x1 s).2,x2 h1 G];refine x3 P Ω λe Q R=>⟨.inr ⟨mT λK=>?_,mT λK=>?_,trivial⟩,?_⟩
 .rw[uS dj.u (by rw[V];omega),(x1 s).1]
 .rw[dr,lm Ω Ω]
 .rw[x2 F Ω];refine x3 R Θ λx S U=>J x ((O.F Q).F S) ?_;have W:48+((q % 10:Nat):Int)=((48+q % 10:Nat):Int):=Ω
  have X:48+((q / 10:Nat):Int)=((48+q / 10:Nat):Int):=Ω
  rw[W,X];exact U
theorem ie.pair{e:Λ}{a u q:Nat}(h:ie e C (a+2) u)(f:q=u % 100):ie e ((C.set (a+1) (48+((q % 10:Nat):Int))).set a (48+((q / 10:Nat):Int))) a (u / 100):=by
 have:=h.two;rw[show u % 10=q % 10 by omega,show u / 10 % 10=q / 10 by omega]at this;exact this
theorem pR{t:o4}{k:o8}{a b:Nat}(e:b≠0):ad x8 (aT .rem t cx cy (.int k (a:Int)) (.int k (b:Int))) w K=K (.int k ((a % b:Nat):Int)):=by
 rw[rX Ω,Int.tmod_eq_emod_of_nonneg Ω,Int.natCast_emod]
theorem u32_quo{t:o4}{a b:Nat}(e:b≠0)(f:a<4294967296):ad x8 (aT .quo t cx cy (.int .u32 (a:Int)) (.int .u32 (b:Int))) w K=K (.int .u32 ((a / b:Nat):Int)):=by
 have:=Nat.div_le_self a b;rw[ow Ω,Int.tdiv_eq_ediv_of_nonneg Ω,<-Int.natCast_ediv];generalize a / b=m at this ⊢;rw[wrap_u32 Ω Ω]
theorem u64_quo{t:o4}{a b:Nat}(e:b≠0)(f:a<18446744073709551616):ad x8 (aT .quo t cx cy (.int .u64 (a:Int)) (.int .u64 (b:Int))) w K=K (.int .u64 ((a / b:Nat):Int)):=by
 have:=Nat.div_le_self a b;rw[ow Ω,Int.tdiv_eq_ediv_of_nonneg Ω,<-Int.natCast_ediv];generalize a / b=m at this ⊢;rw[lw Ω Ω]
theorem pS{t:o4}{a b:Nat}(f:a*b<4294967296):ad x8 (aT .mul t cx cy (.int .u32 (a:Int)) (.int .u32 (b:Int))) w K=K (.int .u32 ((a*b:Nat):Int)):=by
 have e:(a:Int)*(b:Int)=((a*b:Nat):Int):=Ξ
 rw[fQ,e];generalize a*b=m at f ⊢;rw[wrap_u32 Ω Ω]
theorem ie.start{u:Nat}(h:C.length=N):ie (iB N u) C N u:=⟨by rw[sy];omega,by rw[sy,h],[],by rw[List.drop_eq_nil_iff];omega,Ξ⟩
theorem Og{g o c u:Nat}{G H:Λ}(aj:lp w g o G C H)(ak:C.length=N)(ay:N<=19)(hu:u<10 ^ N):
  aq x8 LQ [.slice (σ ⟨g,o,ν⟩) N c,.int .u64 (u:Int)] w λv I=>v= .tuple #[]/\ai (λr=>r=g) w I/\lp I g o G (iB N u) H:=by
 have x:=sy N u;refine aE func315 ?_;rw[jr cW.u];refine⟨λal R U=>∃e9 e:Nat,al= .int .u64 (e9:Int)/\R=Δ (e:Int)/\e9<10 ^ e/\e<=N/\ai (λr=>r=g) w U/\∃J,lp U g o G J H/\ie (iB N u) J e e9,
  λ_ R _=>(b2 R).toNat,⟨u,N,rfl,rfl,hu,o6 _,ai.refl _ _,C,aj,ie.start ak⟩,?_⟩
 rintro _ _ U ⟨e9,e,rfl,rfl,K,z,S,J,V,ah⟩;have ad:J.length=N:=by rw[ah.2.1,x]
 have az:(10:Nat) ^ e<=10 ^ 19:=T2 Ω Ω;have am:e9<18446744073709551616:=Ω
 have aB:(8:Int)=((8:Nat):Int):=rfl;rw[cT,ao];refine⟨λan=>?_,λan=>?_⟩
 .obtain⟨m,rfl⟩:∃m,e=m+8:=⟨e-8,Ω⟩;have aC:e9 % 100000000<100000000:=Nat.mod_lt _ Ω;rw[show V3 .u64 100000000=V3 .u64 ((100000000:Nat):Int)from rfl,pR Ω,fR gi.u qF.u,wrap_u32 Ω Ω,u64_quo Ω am];rw[show V3 .u32 10000=V3 .u32 ((10000:Nat):Int)from rfl,show V3 .u32 100=V3 .u32 ((100:Nat):Int)from rfl,show V3 .u32 2=V3 .u32 ((2:Nat):Int)from rfl];rw[u32_quo Ω Ω,pR Ω,u32_quo Ω Ω,pS Ω,pR Ω,pS Ω,u32_quo Ω Ω,pS Ω,pR Ω,pS Ω];refine pQ (i:=m+6) (q:=e9 % 100000000 % 10000 % 100) V ad Ω z Ω Ω Ω Ω Ω λaa A B=>?_;have h:=ah.pair (q:=e9 % 100000000 % 10000 % 100) Ω;have L:=h.2.1.F x;refine pQ (i:=m+4) (q:=e9 % 100000000 % 10000 / 100) B L Ω z Ω Ω Ω Ω Ω λE s j=>?_;have f:=ie.pair (q:=e9 % 100000000 % 10000 / 100) h Ω;have ae:=f.2.1.F x;refine pQ (i:=m+2) (q:=e9 % 100000000 / 10000 % 100) j ae Ω z Ω Ω Ω Ω Ω λap W P=>?_;have af:=ie.pair (q:=e9 % 100000000 / 10000 % 100) f Ω;have au:=af.2.1.F x;refine pQ (i:=m) (q:=e9 % 100000000 / 10000 / 100) P au Ω z Ω Ω Ω Ω Ω λaD av aw=>?_;have ag:=ie.pair (q:=e9 % 100000000 / 10000 / 100) af Ω;rw[dr,lm Ω Ω];refine⟨⟨e9 / 100000000,m,rfl,by congr 1;omega,?_,Ω,(((S.F A).F s).F W).F av,_,aw,?_⟩,by simp only[b2];omega⟩
  .rw[Nat.pow_add]at K;exact Nat.div_lt_of_lt_mul (by rw[Nat.mul_comm];exact K)
  .rw[show e9 / 100 / 100 / 100 / 100=e9 / 100000000 by omega]at ag;exact ag
 .have aF:e<8:=Ω
  have aG:(10:Nat) ^ e<=10 ^ 7:=T2 Ω Ω;rw[fR gi.u qF.u,wrap_u32 Ω Ω];refine iX (λa b aa=>∃fi m:Nat,a=Δ (m:Int)/\b= .int .u32 (fi:Int)/\fi<10 ^ m/\m<4/\m<=N/\ai (λr=>r=g) w aa/\∃Q,lp aa g o G Q H/\ie (iB N u) Q m fi) ?_ ?_
  rotate_left
  .intro aA M;rw[cT,ao];refine⟨λX=>?_,λX=>M _ _ _ ⟨e9,e,rfl,rfl,K,Ω,z,S,J,V,ah⟩⟩;obtain⟨m,rfl⟩:∃m,e=m+4:=⟨e-4,Ω⟩;rw[show V3 .u32 10000=V3 .u32 ((10000:Nat):Int)from rfl,show V3 .u32 100=V3 .u32 ((100:Nat):Int)from rfl,show V3 .u32 2=V3 .u32 ((2:Nat):Int)from rfl];rw[pR Ω,u32_quo Ω Ω,u32_quo Ω Ω,pS Ω,pR Ω,pS Ω];refine pQ (i:=m+2) (q:=e9 % 10000 % 100) V ad Ω z Ω Ω Ω Ω Ω λaa A B=>?_;have h:=ah.pair (q:=e9 % 10000 % 100) Ω;have L:=h.2.1.F x;refine pQ (i:=m) (q:=e9 % 10000 / 100) B L Ω z Ω Ω Ω Ω Ω λE s j=>?_;have f:=ie.pair (q:=e9 % 10000 / 100) h Ω;rw[dr,lm Ω Ω];refine M _ _ _ ⟨e9 / 10000,m,by congr 1;omega,rfl,?_,Ω,Ω,(S.F A).F s,_,j,?_⟩
   .rw[Nat.pow_add]at K;exact Nat.div_lt_of_lt_mul (by rw[Nat.mul_comm];exact K)
   .rw[show e9 / 100 / 100=e9 / 10000 by omega]at f;exact f
  rintro _ _ aa ⟨fi,m,rfl,rfl,Y,aH,Z,A,Q,B,h⟩;have L:=h.2.1.F x;have aI:(10:Nat) ^ m<=10 ^ 3:=T2 Ω Ω;refine iX (λa b E=>∃O m:Nat,a=Δ (m:Int)/\b= .int .u32 (O:Int)/\O<10 ^ m/\m<2/\m<=N/\ai (λr=>r=g) w E/\∃ab,lp E g o G ab H/\ie (iB N u) ab m O) ?_ ?_
  rotate_left
  .intro aA M;rw[cT,ao];refine⟨λX=>?_,λX=>M _ _ _ ⟨fi,m,rfl,rfl,Y,Ω,Z,A,Q,B,h⟩⟩;obtain⟨m,rfl⟩:∃bY,m=bY+2:=⟨m-2,Ω⟩;rw[show V3 .u32 100=V3 .u32 ((100:Nat):Int)from rfl,show V3 .u32 2=V3 .u32 ((2:Nat):Int)from rfl];rw[pR Ω,pS Ω,u32_quo Ω Ω];refine pQ (i:=m) (q:=fi % 100) B L Ω Z Ω Ω Ω Ω Ω λE s j=>?_;have f:=h.pair rfl;rw[dr,lm Ω Ω];refine M _ _ _ ⟨fi / 100,m,by congr 1;omega,rfl,?_,Ω,Ω,A.F s,_,j,f⟩;rw[Nat.pow_add]at Y;exact Nat.div_lt_of_lt_mul (by rw[Nat.mul_comm];exact Y)
  rintro _ _ E ⟨O,m,rfl,rfl,ac,aJ,Z,s,ab,j,f⟩;have ae:=f.2.1.F x;rw[bU,ao];refine⟨λax=>?_,λax=>?_⟩
  .obtain rfl:m=1:=Ω
   have ac:O<10:=by simpa using ac
   rw[aR,wrap_u32 Ω Ω,fR qF.u cV.u,wrap_u8 Ω Ω,x2 (y:=0) (i:=0) rfl Ω];refine x3 j Ω λap W P=>?_;have:=f.one;rw[Nat.mod_eq_of_lt ac]at this;rw[this]at P;exact⟨rfl,s.F W,P⟩
  .obtain rfl:m=0:=Ω
   rw[f.zero]at j;exact⟨rfl,s,j⟩
def sz:Λ:=[1,10,100,1000,10000,100000,1000000,10000000,100000000,1000000000,10000000000,100000000000,1000000000000,10000000000000,100000000000000,1000000000000000,10000000000000000,100000000000000000,1000000000000000000,10000000000000000000]
def fH(w:x5):Prop:=w.rangeAt 1 0 (ints .u64 sz)
theorem fH.W(h:fH w)(J:Ext w I):fH I:=pv J h
theorem Oh:∀k:Nat,k<20->sz[k]?=σ (((10 ^ k:Nat)):Int):=Φ
theorem Dy{s:Nat}(h:2 ^ s<=n):eI n=s+eI (n / 2 ^ s):=by
 have V:=Nat.two_pow_pos s;have h1:n / 2 ^ s≠0:=by have:=Nat.div_pos h V;omega
 have f:n≠0:=Ω
 unfold eI;rw[m5 f,m5 h1];have e:Nat.log2 n=Nat.log2 (n / 2 ^ s)+s:=by
  refine(Nat.log2_eq_iff f).2 ⟨?_,?_⟩
  .rw[Nat.pow_add];have:=V4 (2 ^ s) (Nat.log2_self_le h1);have:=Nat.div_mul_le_self n (2 ^ s);omega
  .have j:=Nat.lt_log2_self (n:=n / 2 ^ s);rw[show Nat.log2 (n / 2 ^ s)+s+1=(Nat.log2 (n / 2 ^ s)+1)+s by omega,Nat.pow_add];have:=V4 (2 ^ s) (show n / 2 ^ s+1<=2 ^ (Nat.log2 (n / 2 ^ s)+1) by omega);have q:=Nat.lt_div_mul_add V (a:=n);rw[T6]at this;omega
 omega
def sA:ByteArray:=⟨#[0,1,2,2,3,3,3,3,4,4,4,4,4,4,4,4,5,5,5,5,5,5,5,5,5,5,5,5,5,5,5,5,6,6,6,6,6,6,6,6,6,6,6,6,6,6,6,6,6,6,6,6,6,6,6,6,6,6,6,6,6,6,6,6,7,7,7,7,7,7,7,7,7,7,7,7,7,7,7,7,7,7,7,7,7,7,7,7,7,7,7,7,7,7,7,7,7,7,7,7,7,7,7,7,7,7,7,7,7,7,7,7,7,7,7,7,7,7,7,7,7,7,7,7,7,7,7,7,8,8,8,8,8,8,8,8,8,8,8,8,8,8,8,8,8,8,8,8,8,8,8,8,8,8,8,8,8,8,8,8,8,8,8,8,8,8,8,8,8,8,8,8,8,8,8,8,8,8,8,8,8,8,8,8,8,8,8,8,8,8,8,8,8,8,8,8,8,8,8,8,8,8,8,8,8,8,8,8,8,8,8,8,8,8,8,8,8,8,8,8,8,8,8,8,8,8,8,8,8,8,8,8,8,8,8,8,8,8,8,8,8,8,8,8,8,8,8,8,8,8,8,8,8,8,8,8]⟩
theorem Oi:sA.size=256:=by decide+kernel
theorem Oj:∀q:Fin 256,sA.data.toList[q.val]?=σ (UInt8.ofNat (eI q.val)):=by decide+kernel
theorem Ol{q:Nat}(a:q<256):∀h,(sA[q]'h).toNat=eI q:=λh=>by
 have h1:=Oj ⟨q,a⟩;have e:=(x6.1 h1).2;have:sA[q]=UInt8.ofNat (eI q):=e;have f:=Dv a;rw[this,UInt8.toNat_ofNat'];omega
theorem Om(E:n<18446744073709551616):aq x8 LC [.int .u64 (n:Int)] w λv I=>v=Δ (eI n:Int)/\Ext w I:=by
 refine aE func291 ?_;have step:∀{s x m:Nat}{aA:x4->x4->x5->Prop}{y c:Int},s<64->x<18446744073709551616->m+eI x=eI n->m<=64->y=(2 ^ s:Nat)->c=(s:Int)->2 ^ s<=18446744073709551615->(∀a bY:Nat,a<2 ^ s\/(a=x / 2 ^ s/\bY=m+s)->a<=x->bY+eI a=eI n->bY<=m+s->aA (.int .u64 (a:Int)) (Δ (bY:Int)) w)->
   ad x8 (aT .geq gi sp s2 (.int .u64 (x:Int)) (.int .u64 y)) w λt4=>
    Split t4 (ad x8 (aT .shr gi sp s2 (.int .u64 (x:Int)) (.int .u64 c)) w λr=>ad x8 (aT .add al sp s2 (Δ (m:Int)) (Δ c)) w λz=>aA r z w) (aA (.int .u64 (x:Int)) (Δ (m:Int)) w):=by
  intro s x m aA y c V J hm G A B j e;subst A B;rw[cT,ao];refine⟨λh=>?_,λh=>e x m (.inl Ω) (o6 _) hm Ω⟩;rw[mJ V,aR,lm Ω Ω];have:=Dy (n:=x) (s:=s) Ω;have:=e (x / 2 ^ s) (m+s) (.inr ⟨rfl,rfl⟩) (Nat.div_le_self _ _) Ω Ω;exact this
 refine iX (λx m U=>w=U/\∃a bY:Nat,x= .int .u64 (a:Int)/\m=Δ (bY:Int)/\a<4294967296/\bY+eI a=eI n/\bY<=32) ?_ ?_
 rotate_left
 .intro aA e;rw[cT,ao];refine⟨λh=>?_,λh=>e _ _ _ ⟨rfl,n,0,rfl,rfl,Ω,Ω,Ω⟩⟩;rw[show V3 .u64 32=V3 .u64 ((32:Nat):Int)from rfl,mJ Ω];have:=Dy (n:=n) (s:=32) Ω;exact e _ _ _ ⟨rfl,n / 2 ^ 32,32,rfl,rfl,Ω,Ω,Ω⟩
 rintro _ _ _ ⟨rfl,x,m,rfl,rfl,J,hm,q⟩;refine iX (λx m U=>w=U/\∃a bY:Nat,x= .int .u64 (a:Int)/\m=Δ (bY:Int)/\a<65536/\bY+eI a=eI n/\bY<=48) ?_ ?_
 rotate_left
 .intro aA e;refine step (s:=16) Ω Ω hm Ω Ω Ω Ω λa bY h1 j f C=>e _ _ _ ⟨rfl,a,bY,rfl,rfl,?_,f,Ω⟩;rcases h1 with h1|⟨h1,_⟩<;>omega
 rintro _ _ _ ⟨rfl,x,m,rfl,rfl,J,hm,q⟩;refine iX (λx m U=>w=U/\∃a bY:Nat,x= .int .u64 (a:Int)/\m=Δ (bY:Int)/\a<256/\bY+eI a=eI n/\bY<=56) ?_ ?_
 rotate_left
 .intro aA e;refine step (s:=8) Ω Ω hm Ω Ω Ω Ω λa bY h1 j f C=>e _ _ _ ⟨rfl,a,bY,rfl,rfl,?_,f,Ω⟩;rcases h1 with h1|⟨h1,_⟩<;>omega
 rintro _ _ _ ⟨rfl,x,m,rfl,rfl,J,hm,q⟩;have V:=Oi;have H:=Dv J;rw[fR gi.u cV.u,wrap_u8 Ω Ω];refine(uS (s:=sA) dj.u (by rw[V];omega)).mpr ?_;rw[Ol J,fR cV.u al.u,lm Ω Ω,aR,lm Ω Ω];exact⟨by congr 1;omega,Ext.refl _⟩
theorem Dz{t:o4}{k:o8}{a:Nat}(f:n<64):ad x8 (aT .shr t cx cy (Δ (a:Int)) (.int k (n:Int))) w K=K (Δ ((a / 2 ^ n:Nat):Int)):=ad.of λI _=>by
 have e:(a:Int).fdiv (2 ^ min n X5.bits)=((a / 2 ^ n:Nat):Int):=by
  have:min n X5.bits=n:=Nat.min_eq_left (by show n<=64;omega);rw[this,Int.fdiv_eq_ediv_of_nonneg _ (by exact Int.le_of_lt (Int.pow_pos Ω))];simp
 simp only[aT,eqGuard,binOp,Op.shift,u7,e];rfl
theorem On:∀L:Fin 64,7<=L.val->2 ^ L.val<=10 ^ (L.val*78913 / 262144+1)/\10 ^ (L.val*78913 / 262144)<=10*2 ^ (L.val-1)/\1<=L.val*78913 / 262144/\L.val*78913 / 262144<19:=by decide+kernel
theorem Oo{d:Nat}(z:fH w)(h1:100<=d)(E:d<9223372036854775808):aq x8 LP [.int .u64 (d:Int)] w λv I=>Ext w I/\∃n:Nat,v=Δ ((n+1:Nat):Int)/\n<19/\10 ^ n<=d/\d<10 ^ (n+1):=by
 have j:d≠0:=Ω
 have q:eI d=Nat.log2 d+1:=by unfold eI;rw[m5 j]
 have G:2 ^ (eI d-1)<=d:=by rw[q];exact Nat.log2_self_le j
 have H:d<2 ^ eI d:=by rw[q];exact Nat.lt_log2_self
 have A:7<=eI d:=by
  by_cases h:7<=eI d
  .exact h
  .have:2 ^ eI d<=2 ^ 6:=T2 Ω Ω;omega
 have B:eI d<64:=by
  by_cases h:eI d<64
  .exact h
  .have:2 ^ 63<=2 ^ (eI d-1):=T2 Ω Ω;omega
 obtain⟨C,r,t3,t4⟩:=On ⟨eI d,B⟩ A;simp only at C r t3 t4;refine aE func314 ?_;refine(Om Ω).Y ?_;rintro _ U _ ⟨rfl,a⟩;generalize eI d=L at*;refine aq.Y (K:=λv aa=>v=Δ ((L*78913 / 262144:Nat):Int)/\Ext U aa) ?_ ?_
 .refine aE func335 ?_;rw[fQ,lm Ω Ω,show V3 .u64 18=V3 .u64 ((18:Nat):Int)from rfl,show(L:Int)*78913=((L*78913:Nat):Int) by omega,Dz Ω];exact⟨rfl,Ext.refl _⟩
 rintro _ aa _ ⟨rfl,e⟩;generalize L*78913 / 262144=t at*;have ae:=Oh t Ω;rw[xf xc.u gi.i Ω,aG Ψ (by rw[U3];exact((z.W a).W e) _ _ (mC ae)),cT];refine aq.Y (K:=λv x=>v=Δ ((if 10 ^ t<=d then 1 else 0:Nat):Int)/\Ext aa x) ?_ ?_
 .refine aE func336 ?_;rw[ao];refine⟨λh=>⟨by rw[m3 Ω];rfl,Ext.refl _⟩,λh=>⟨by rw[m5 Ω];rfl,Ext.refl _⟩⟩
 rintro _ x _ ⟨rfl,y⟩;rw[aR];by_cases f:10 ^ t<=d
 .rw[m3 f,lm Ω Ω];exact⟨(a.F e).F y,t,by congr 1,t4,f,Ω⟩
 .rw[m5 f,lm Ω Ω];obtain⟨s,rfl⟩:∃s,t=s+1:=⟨t-1,Ω⟩;rw[Nat.pow_succ]at r;exact⟨(a.F e).F y,s,by congr 1,Ω,Ω,Ω⟩
theorem DA{t:o4}{k a:o8}{x:Int}{i:Nat}{s:ByteArray}(J:x=(i:Int))(e:y=(j:Int))(f:x8.underlying t=σ .string)(q:i<=j)(r:j<=s.size):
  ad x8 (V5 t (.string s) (σ (.int k x)) (σ (.int a y)) ν) w K=K (.string (s.extract i j)):=ad.of λI _=>by
 subst J e;have z:=ue (P:=x8) I (sl:=sp) (n:=s.size) (c:=s.size) (low:=σ (.int k (i:Int))) (high:=σ (.int a (j:Int))) (mx:=ν) (l:=i) (h:=j) (m:=s.size) ⟨k,rfl⟩ ⟨a,rfl⟩ fD q r (o6 _);simp[V5,Instr.slice,run_underlying f,z]
theorem Oq:∀q:Fin 100,ln.extract (2*q.val) (2*q.val+2)=strOfNums [48+((q.val / 10:Nat):Int),48+((q.val % 10:Nat):Int)]:=by decide+kernel
def DB:ByteArray:=⟨#[48,49,50,51,52,53,54,55,56,57,97,98,99,100,101,102,103,104,105,106,107,108,109,110,111,112,113,114,115,116,117,118,119,120,121,122]⟩
theorem Ot:∀q:Fin 10,DB.extract q.val (q.val+1)=strOfNums [48+(q.val:Int)]:=by decide+kernel
theorem DC(h:n<10):gI n=[48+(n:Int)]:=by rw[pH,m3 h,Nat.mod_eq_of_lt h];rfl
theorem Ou(h1:10<=n)(a:n<100):gI n=[48+((n / 10:Nat):Int),48+((n % 10:Nat):Int)]:=by
 rw[pH,m5 Ω,DC Ω];rfl
theorem Ov(a:n<100):aq x8 LO [Δ (n:Int)] w λv I=>v=cp (gI n)/\Ext w I:=by
 refine aE func313 ?_;rw[aW,ao];refine⟨λh=>?_,λh=>?_⟩
 .rw[aR,lm Ω Ω];refine(DA (s:=DB) (i:=n) (j:=n+1) rfl Ω dj.u Ω (by show n+1<=36;omega)).mpr ?_;rw[Ot ⟨n,Ω⟩,DC Ω];exact⟨rfl,Ext.refl _⟩
 .rw[fQ,lm Ω Ω,fQ,lm Ω Ω,aR,lm Ω Ω];refine(DA (s:=ln) (i:=2*n) (j:=2*n+2) Ω Ω dj.u Ω (by rw[Dx];omega)).mpr ?_;rw[Oq ⟨n,a⟩,Ou Ω a];exact⟨rfl,Ext.refl _⟩
theorem Ow{g:Nat}{e f:Λ}(a:lp w g 1 e C f)(h:C.length<=23):aQ .u8 w (.slice (σ ⟨g,1,ν⟩) C.length 23) C:=by
 obtain⟨a,ae⟩:=a;refine⟨Ξ,g,1,_,23,rfl,h,by simp[maxLen],λ_=>rfl,λj v ac=>?_⟩;have q:j<C.length:=by have:=(x6.1 ac).1;simpa using this
 refine a.cell ?_;rw[ints,Z2,Z2,V6 Θ,X2 Θ,r9,ae,Nat.add_sub_cancel_left];exact ac
theorem DD{g m:Nat}(a:y=((m+2:Nat):Int))(hm:m<=22):
  ad x8 (V5 ov (Γ g) (σ (Δ 1)) (σ (Δ y)) ν) w K=K (.slice (σ ⟨g,1,ν⟩) (m+1) 23):=by
 subst a;have:=uf (w:=w) (b:=g) (o:=0) (low:=σ (Δ 1)) (high:=σ (Δ ((m+2:Nat):Int))) (mx:=ν) (l:=1) (h:=m+2) (m:=24) (K:=K) ov.u cV.i ⟨_,rfl⟩ ⟨_,rfl⟩ fD Ω Ω Ω;rw[this,m5 Ω];rfl
theorem Ox(s:fH w)(x:n<9223372036854775808):aq x8 LJ [Δ (n:Int),Δ 10] w λv I=>v=cp (gI n)/\Ext w I:=by
 refine aE func299 ?_;rw[bm];refine(ao).mpr ⟨λ_=>?_,λh=>m6 rfl h⟩;refine a6 (λv U=>w=U/\v= .bool (decide (n<100))) ?_ ?_
 rotate_left
 .intro aA a;rw[mB,ao];refine⟨λ_=>?_,λh=>Ω⟩;rw[aW];exact a _ _ ⟨rfl,by congr 1;rw[V9,ro,ro];omega⟩
 rintro _ _ ⟨rfl,rfl⟩;rw[ao];refine⟨λh=>?_,λh=>?_⟩
 .exact (Ov h).Y λ_ _ _ h=>h
 refine bE ov.i λg U G f y=>?_;rw[fR ay.u gi.u,lw Ω Ω];refine a6 (λv aa=>U=aa/\v= .int .u64 (n:Int)) ?_ ?_
 rotate_left
 .intro aA a;rw[aW,ao];exact⟨λh=>Ω,λ_=>a _ _ ⟨rfl,rfl⟩⟩
 rintro _ _ ⟨rfl,rfl⟩;refine(Oo (s.W f) Ω x).Y ?_;rintro _ aa _ ⟨j,m,rfl,hm,z,q⟩;rw[aR,lm Ω Ω];rw[DD (m:=m) Ω Ω];have A:lp aa g 1 [0] (o5 (m+1) 0) (o5 (22-m) 0):=by
  refine⟨?_,rfl⟩;have e:[0]++o5 (m+1) (0:Int)++o5 (22-m) 0=o5 24 0:=by
   rw[show[(0:Int)]=o5 1 0 from rfl,List.replicate_append_replicate,List.replicate_append_replicate];congr 1;omega
  rw[e];exact y.W j
 refine(Og (N:=m+1) A Ξ Ω q).Y ?_;rintro _ H _ ⟨rfl,B,C⟩;refine b4 Ω ?_;rw[aR,lm Ω Ω];rw[DD (m:=m) Ω Ω];have E:=sy (m+1) n;have V:=Ow C Ω;rw[E]at V;rw[xq cW.u cV.u dj.u V,Dw m n z q];refine⟨rfl,(f.F j).then B λr J he=>?_⟩;have he:r=g:=he;omega
theorem Oy(a:fH w)(e:n<9223372036854775808):aq x8 w4 [Δ (n:Int)] w λv I=>v=cp (gI n)/\Ext w I:=by
 refine aE func229 ?_;refine aq.Y (K:=λv I=>v=cp (gI n)/\Ext w I) ?_ (λ_ _ _ h=>h);refine aE func273 ?_;exact(Ox a e).Y λ_ _ _ h=>h
theorem fH.ab(h:fH w)(J:ai S w I)(a:¬S 1):fH I:=iH J a h
def dE(w:x5)(g gs:Nat)(A:ak)(B:ak)(a:Bool)(s:Option aO):Prop:=match s with
 |some s=>eC w g gs A B s a
 |none=>fw w g gs A B
theorem gJ.of{g:Nat}{A:ak}{B:ak}{a:Bool}{s:Option aO}(h:gJ w g gs A B a s I):ai (bT g gs A) w I/\dE I g gs A B a s:=h
theorem gJ.mk{g:Nat}{A:ak}{B:ak}{a:Bool}{s:Option aO}(h:ai (bT g gs A) w I)(e:dE I g gs A B a s):gJ w g gs A B a s I:=⟨h,e⟩
theorem dE.ab{g:Nat}{A:ak}{B:ak}{a:Bool}{s:Option aO}(h:dE w g gs A B a s)(J:ai S w I)(e:∀r,bT g gs A r->¬S r)(f:∀r,cZ g gs A B r->¬S r):dE I g gs A B a s:=by
 cases s with
 |none=>exact fw.ab h J e f
 |some s=>exact eC.ab h J e f
theorem dE.W{g:Nat}{A:ak}{B:ak}{a:Bool}{s:Option aO}(h:dE w g gs A B a s)(J:Ext w I):dE I g gs A B a s:=h.ab (J.ab λ_=>False) (λ_ _ h=>h) λ_ _ h=>h
theorem dE.side{g:Nat}{A:ak}{B:ak}{a:Bool}{s:Option aO}(h:dE w g gs A B a s):mP w g gs A B:=by
 cases s with
 |none=>exact h.1
 |some s=>exact h.1
def bl(lo hi:Int)(s:Option aO):Option (Int×aO):=s.bind (bt lo hi)
theorem nV{g:Nat}{A:ak}{B:ak}{s:Option aO}{a:Bool}(h:dE w g gs A B a s):aq x8 pk [Γ g,Δ lo,Δ hi] w λv I=>gJ w g gs A B a ((bl lo hi s).map (·.2)) I/\∃n at_:Int,v= .tuple #[Δ n,Δ at_]/\(∀q,bl lo hi s=σ q->n=q.1)/\(bl lo hi s=ν->n=0):=by
 cases s with
 |none=>
  refine(Nt h).Y ?_;rintro _ U _ ⟨J,rfl⟩;exact⟨⟨J.ab _,fw.W h J⟩,0,0,rfl,λq h=>(by cases h),λ_=>rfl⟩
 |some s=>exact xN h
theorem q4{g:Nat}{A:ak}{B:ak}{s:Option aO}{a:Bool}(h:dE w g gs A B a s):aq x8 mw [Γ g] w λv I=>v= .bool s.isSome/\Ext w I:=by
 cases s with
 |none=>exact pM h
 |some s=>exact qX h
theorem Oz{g:Nat}{A:ak}{B:ak}{s:Option aO}{a:Bool}{e:Int}(h:dE w g gs A B a s)(he:e≠0):aq x8 pm [Γ g,Δ e,Δ at_] w λ_ I=>gJ w g gs A B a ν I:=by
 cases s with
 |none=>
  refine(Nr h).Y ?_;rintro _ U _ J;exact⟨J.ab _,fw.W h J⟩
 |some s=>
  refine(uE h he).Y ?_;rintro _ U _ ⟨f,j⟩;exact⟨f.Y λr _ h=>.inl h,j⟩
theorem sB{g:Nat}{A:ak}{B:ak}{s:Option aO}{a b:Bool}(h:dE w g gs A B a s):aq x8 rQ [Γ g,.bool b,Δ at_] w λ_ I=>gJ w g gs A B a (s.map (br b)) I:=by
 cases s with
 |none=>
  refine(C4 h).Y ?_;rintro _ U _ J;exact⟨J.ab _,fw.W h J⟩
 |some s=>
  refine(uF h).Y ?_;rintro _ U _ ⟨e,f⟩;exact⟨e.Y λr _ h=>.inl h,f⟩
theorem oJ{n:Int}{s:Option aO}{s':aO}(h:bl lo hi s=σ (n,s')):lo<=n/\n<=hi:=by
 cases s with
 |none=>cases h
 |some s=>exact(jx h).1
def gK(a acc:Λ)(s:Option aO):Option (Λ×aO):=s.bind (kO a acc)
theorem DE{acc:Λ}{s:Option aO}:gK (k::a) acc s=match bl 0 (k-1) s with
  |none=>ν
  |some (v,s)=>kO a (acc++[v]) s:=by
 cases s with
 |none=>rfl
 |some s=>
  show kO (k::a) acc s=_;rw[kO];show _=match bt 0 (k-1) s with|none=>ν|some (v,s)=>kO a (acc++[v]) s
  cases bt 0 (k-1) s<;>rfl
theorem DF:∀(t:Λ),(∀x∈t,0<=x/\x<=aF)->(eY t).length<=20*t.length
 |[],_=>by simp[eY]
 |x::t,h=>by
  have f:=DF t λy a=>h y (.tail _ a);have J:=h x (.head _);have j:=xu 19 x.toNat (by unfold aF at J;omega) Ω;have e:eY (x::t)=gI x.toNat++[32]++eY t:=by simp[eY]
  rw[e];simp only[c9,W5,List.length_nil];omega
theorem OA{g av:Nat}{A B:ak}{s:Option aO}{S:Bool}{af:x4->x5->Prop}(h:dE w g gs A B S s)(ah:aQ .i64 w sv d6)(aG:∀r,lc sv r->¬bT g gs A r/\r≠av)(aJ:∀z∈d6,1<=z/\z<=aF)(bO:d6.length<=100001)(aK:fH w)(h1:cZ g gs A B 1)(am:aj w av eH [.slice ν 0 0,Δ 0])(an:¬bT g gs A av)(ao:¬B av)(ap:∀t I aY gt,t.length=d6.length->(∀x∈t,0<=x/\x<=aF)->ai (λr=>bT g gs A r\/r=av) w I->aj I av eH [aY,Δ 0]->aH .i64 ay I gt aY t->w.heap.size<=gt->
   dE I g gs A B S ((gK d6 [] s).map (·.2))->(∀q,gK d6 [] s=σ q->t=q.1)->af (cp (eY t)) I):
  ce (.string ⟨#[]⟩) (Δ 0) w λkey V y aL=>
   ad x8 (aT .lss al sp sp V (Δ (d6.length:Int))) y λaP=>
   Split aP (ad x8 (n9 aB sv V) y λaS=>
   ad x8 (u5 ay aS) y λaU=>
   ad x8 (aT .sub ay sp s2 aU (Δ 1)) y λaV=>
   aq x8 pk [Γ g,(Δ 0),aV] y λau E=>
   ad x8 (Z7 au 0) E λaw=>
   ad x8 (Z7 au 1) E λbP=>
   ad x8 (u6 eH (Γ av) 0) E λaW=>
   ad x8 (u5 aB aW) E λaX=>
   aM x8 (Y4 aB 1 #[(0,aw)]) E λaZ a2=>
   aM x8 (b9 #[aB,aB] aB #[aX,aZ]) a2 λa6 ax=>
   ad x8 (u6 eH (Γ av) 0) ax λa7=>
   aM x8 (o7 aB a7 a6) ax λ(_:Unit)a8=>
   aq x8 w4 [aw] a8 λba K=>
   ad x8 (aT .add dj sp s2 ba (.string ⟨#[32]⟩)) K λbb=>
   ad x8 (aT .add dj sp sp key bb) K λbc=>
   ad x8 (aT .add al sp s2 V (Δ 1)) K λbd=>
   aL bc bd K) (af key y):=by
 have bQ:=am.lt;have be:=h.side;obtain⟨bR,bS,bU,bf,bg⟩:=be;refine ce.range d6.length (λj key U=>∃t aY gt s1,key=cp (eY t)/\t.length=j/\(∀x∈t,0<=x/\x<=aF)/\ai (λr=>bT g gs A r\/r=av) w U/\aj U av eH [aY,Δ 0]/\aH .i64 ay U gt aY t/\w.heap.size<=gt/\
  dE U g gs A B S s1/\gK d6 [] s=gK (d6.drop j) t s1) ah.le ⟨[],_,w.heap.size,s,rfl,rfl,λx J=>(by cases J),ai.refl _ _,am,aH.nil _ _ _ _,o6 _,h,rfl⟩ ?_ ?_
 rotate_left
 .rintro _ U bh ⟨t,aY,gt,s1,rfl,L,G,C,M,N,W,O,he⟩;refine b4 Ω ?_;rw[List.drop_length]at he;cases s1 with
  |none=>
   have he:=he;exact ap t U aY gt L G C M N W (by rw[he];exact O) (λq e=>by rw[he]at e;cases e)
  |some s1=>
   have he:=he;exact ap t U aY gt L G C M N W (by rw[he];exact O) (λq e=>by rw[he]at e;cases e;rfl)
 rintro j _ U bh az ⟨t,aY,gt,s1,rfl,L,G,C,M,N,W,O,he⟩ bi;obtain⟨z,X⟩:=aI (l:=d6) az;have bj:=aJ z (x7 X);have bV:z<=4611686018427387904:=bj.2;have bm:=jw ah C λr f a n c ac bn=>by
  have:=aG r ⟨a,n,c,ac,bn⟩;exact f.elim this.1 this.2
 have ag:∀r,bT g gs A r->r<w.heap.size:=bf;refine bF Ω ?_;rw[bk aB.u ay.i Ψ bm X,dr,lm Ω Ω];refine(nV O).Y ?_;rintro _ aa _ ⟨bo,n,at_,rfl,aA,bp⟩;obtain⟨P,bq⟩:=bo.of;have aC:0<=n/\n<=aF:=by
  cases e:bl 0 (z-1) s1 with
  |none=>rw[bp e];exact⟨Ω,by unfold aF;omega⟩
  |some q=>
   rw[aA q e];have:=oJ e;exact⟨this.1,by unfold aF;omega⟩
 rw[bz,bA];have aD:=M.ab P an;have br:=N.ab P λ_ bs=>by have:=ag _ bs;omega
 rw[aN eH.p 0 aD rfl];refine e6 aB.u ay.i rfl λa ga bt bW H bu=>?_;refine kL aB.u ay.i rfl (br.W H) bu.ls Θ Θ λbx bB bC bX Y Q=>?_;have bY:=C.size;have bZ:=P.size;have z3:=H.size;have z4:=Q.size;rw[a1 eH.p rfl];have bD:=(aD.W H).ab Q (λhe=>by have he:=he;omega);refine bw (g:=av) (o:=0) aB.i Y.ls.cells.1 Y.ls.cells.2 bD Ξ λbE Z b0 ae=>?_;have ae:=ae;have bG:ai (λr=>bT g gs A r\/r=av) w bt:=(C.F (P.Y λr _ h=>.inl h)).F (H.ab _);have bH:ai (λr=>bT g gs A r\/r=av) w bC:=ja bG Q λr f he=>by have he:r=gt:=he;omega
 have aE:ai (λr=>bT g gs A r\/r=av) w bE:=bH.F (Z.Y λr _ h=>.inr h);have bI:¬(λr=>bT g gs A r\/r=av) 1:=λh=>h.elim h1.1 λh=>ao (h▸h1.2);obtain⟨m,rfl⟩:∃m:Nat,n=(m:Int):=⟨n.toNat,Ω⟩;unfold aF at aC;refine(Oy (aK.ab aE bI) Ω).Y ?_;rintro _ b1 _ ⟨rfl,R⟩;have b2:=xu 19 m Ω Ω;have b3:=DF t G;rw[show(ByteArray.mk #[32])=strOfNums [32]from rfl,xp Θ,xp Θ,aR];refine bi _ _ ⟨t++[(m:Int)],bx,bB,(bl 0 (z-1) s1).map (·.2),?_,by simp[L],λx J=>?_,aE.F (R.ab _),ae.W R,(Y.ab Z (λ_ he=>by have he:=he;omega)).W R,Ω,?_,?_⟩
 .rw[ML,u7]
 .rcases j5.1 J with J|J
  .exact G x J
  .rw[Y1.1 J];exact aC
 .refine dE.W ?_ R;have bJ:=bq.W H;have bK:∀r,bT g gs A r->¬(λr=>r=gt) r:=λr f he=>by have:=ag r f;have he:r=gt:=he;omega
  have bL:∀r,cZ g gs A B r->¬(λr=>r=gt) r:=λr f he=>by have:=bg r f.2;have he:r=gt:=he;omega
  have bM:∀r,bT g gs A r->¬(λr=>r=av) r:=λr f he=>by have he:r=av:=he;exact an (he▸f)
  have bN:∀r,cZ g gs A B r->¬(λr=>r=av) r:=λr f he=>by have he:r=av:=he;exact ao (he▸f.2)
  exact(bJ.ab Q bK bL).ab Z bM bN
 .rw[he,X4 az,show d6[j]=z from(x6.1 X).2,DE];cases e:bl 0 (z-1) s1 with
  |none=>rfl
  |some q=>
   rw[aA q e];rfl
def ej(s:aO):Prop:=s.big=sp->s.m1<=16384
def lq(n:Int)(s:aO):aO:=br (decide (16384<min (s.m1+n) aF)) {s with m1:=min (s.m1+n) aF}
theorem OB(n:Int)(s:aO):ej (lq n s):=λh=>by
 have h:(s.big||decide (16384<min (s.m1+n) aF))=sp:=h;have:=of_decide_eq_false (T3.1 h).2;show min (s.m1+n) aF<=16384;omega
theorem OC{g:Nat}{A B:ak}{s:Option aO}{z:Bool}{n:Int}{K:x5->Prop}(h:dE w g gs A B z s)(O:∀t,s=σ t->0<=n/\n<=aF/\ej t)(J:∀I,ai (bT g gs A) w I->dE I g gs A B z (s.map (lq n))->K I):
  ad x8 (b1 (Γ g)) w λP=>
  ad x8 (u6 cL P 2) w λQ=>
  ad x8 (u5 ay Q) w λR=>
  ad x8 (aT .add ay sp sp R (Δ n)) w λS=>
  ad x8 (Z0.min_ #[ay,ay] ay #[S,(Δ 4611686018427387904)]) w λW=>
  ad x8 (b1 (Γ g)) w λX=>
  ad x8 (u6 cL X 2) w λY=>
  aM x8 (o7 ay Y W) w λ(_:Unit)q=>
  ad x8 (b1 (Γ g)) q λt77=>
  ad x8 (u6 cL t77 2) q λZ=>
  ad x8 (u5 ay Z) q λac=>
  ad x8 (aT .gtr ay sp s2 ac (Δ 16384)) q λae=>
  aq x8 rQ [Γ g,ae,Δ at_] q λ_ af=>K af:=by
 cases s with
 |none=>
  obtain⟨V,e,big,C,E,m1,sv,l,x,y,G⟩:=id h;rw[aP cL.p 2 x rfl,aR,nK,cc,a1 cL.p rfl];refine bw (g:=g) (o:=5) ay.i rfl rfl x (by simp[jz]) λU a ag f=>?_;rw[aP cL.p 2 f rfl,bU];have L:fw U g gs A B:=⟨V.ab a,e,big,C,E,_,sv,l,f,y,aw.ab G a λr _ h H=>uC h V.2.1 H⟩;refine(C4 L).Y ?_;rintro _ aa _ M;exact J _ ((a.Y λr _ h=>.inl h).F (M.ab _)) (L.W M)
 |some s=>
  obtain⟨ap,ah,hi⟩:=O s rfl;obtain⟨V,aj,al,big,C,E,m1,sv,x,y,G⟩:=id h;rw[aP cL.p 2 x rfl,aR,nK,cc,a1 cL.p rfl];refine bw (g:=g) (o:=5) ay.i rfl rfl x (by simp[jz]) λU a ag f=>?_;have f:=f;rw[aP cL.p 2 f rfl,bU];have key:s.big=sp->min (X5.wrap (m1+n)) 4611686018427387904=min (s.m1+n) aF:=λj=>by
   rw[y.2 j];have:=hi j;unfold aF at ah ⊢;rw[lm Ω Ω]
  have am:eC U g gs A B {s with m1:=min (s.m1+n) aF} z:=⟨V.ab a,aj.ab a (λhe=>V.1 he.symm) (λr an he=>an.1 (.inl he)),⟨by show 0<=min _ _;unfold aF;omega,by show min _ _<=_;omega,al.2.2⟩,big,C,E,_,sv,f,⟨y.1,key⟩,aw.ab G a λr _ h H=>uC h V.2.1 H⟩;refine(uF am).Y ?_;rintro _ aa _ ⟨ao,N⟩;refine J _ ((a.F ao).Y λr _ h=>.inl h) ?_;have e:br (decide (16384<min (X5.wrap (m1+n)) 4611686018427387904)) {s with m1:=min (s.m1+n) aF}=lq n s:=by
   cases j:s.big with
   |false=>rw[key j,<-j];rfl
   |true=>simp[lq,br,j]
  rw[e]at N;exact N
def kt(d6:Λ)(s:Option aO):Option (List (Λ×Int)×aO):=s.bind (ei d6)
def mU(w:x5)(m:Nat)(acc:List (Λ×Int)):Prop:=de w m (acc.map λp=>(cp (eY p.1),Δ 1))
def l2(w:x5)(m:Nat):Prop:=∃d,de w m d/\∀p∈d,∃(k:ByteArray)(c:Int),p=(.string k,Δ c)
theorem mU.any{m:Nat}{acc:List (Λ×Int)}(h:mU w m acc):l2 w m:=⟨_,h,λp ae=>by
 obtain⟨q,_,rfl⟩:=l9.1 ae;exact⟨_,_,rfl⟩⟩
theorem OD{m:Nat}{k:ByteArray}(h:l2 w m)(e:∀c:Int,K (Δ c)):ad x8 (Instr.lookup iG (.map (σ m)) (.string k) sp) w K:=by
 obtain⟨d,hm,f⟩:=h;have hk:=Keys.str dj.u;have q:∀p∈d,∃s,p.1=x4.string s:=λp ae=>by obtain⟨s,c,rfl⟩:=f p ae;exact⟨s,rfl⟩
 by_cases he:∃p∈d,p.1=x4.string k
 .obtain⟨p,ae,a⟩:=he;obtain⟨j,r⟩:=Y8.1 ae;obtain⟨s,c,rfl⟩:=f p ae;have a:x4.string s=x4.string k:=a;rw[a]at r;rw[sn iG.u hk hm q ⟨k,rfl⟩ r];exact e c
 .have x:∀p∈d,p.1≠x4.string k:=λp ae h=>he ⟨p,ae,h⟩;rw[uJ iG.u hk ⟨_,_,al.i⟩ hm q ⟨k,rfl⟩ x];exact e 0
theorem OE{m:Nat}{k:ByteArray}{K:Unit->x5->Prop}(h:l2 w m)(q:∀I,ai (λr=>r=m) w I->l2 I m->K () I):aM x8 (Instr.mapUpdate iG (.map (σ m)) (.string k) (Δ c)) w K:=by
 obtain⟨d,hm,a⟩:=h;have x:∀p∈d,∃s,p.1=x4.string s:=λp ae=>by obtain⟨s,c,rfl⟩:=a p ae;exact⟨s,rfl⟩
 refine q0 iG.u (Keys.str dj.u) hm x ⟨k,rfl⟩ (λj v0 I y e f=>q I f ⟨_,e,λp ae=>?_⟩) (λI z e f=>q I f ⟨_,e,λp ae=>?_⟩)
 .rcases U5 ae with ae|rfl
  .exact a p ae
  .exact⟨_,_,rfl⟩
 .rcases j5.1 ae with ae|ae
  .exact a p ae
  .rw[Y1.1 ae];exact⟨_,_,rfl⟩
theorem DG{b:Λ}(e:∀x∈a,0<=x)(f:∀x∈b,0<=x)(h:cp (eY a)=cp (eY b)):a=b:=by
 have h:=x4.string.inj h;exact Cn e f (str_inj (Co a) (Co b) h)
theorem x9{acc:List (Λ×Int)}:∀p∈acc.map λp=>(cp (eY p.1),V3 .i64 1),∃s,p.1=x4.string s:=λp ae=>by
 obtain⟨q,_,rfl⟩:=l9.1 ae;exact⟨_,rfl⟩
theorem DH{m:Nat}{acc:List (Λ×Int)}(h:mU w m acc)(e:∀p∈acc,∀x∈p.1,0<=x)(f:∀x∈t,0<=x):
  ad x8 (Instr.lookup iG (.map (σ m)) (cp (eY t)) sp) w K=K (Δ (if t∈acc.map (·.1)then 1 else 0)):=by
 have hk:=Keys.str dj.u;by_cases he:t∈acc.map (·.1)
 .rw[m3 he];obtain⟨p,ae,rfl⟩:=l9.1 he;obtain⟨j,r⟩:=Y8.1 ae;rw[sn iG.u hk h x9 ⟨_,rfl⟩ (by rw[u4,r];rfl)];simp
 .rw[m5 he];rw[uJ iG.u hk ⟨_,_,al.i⟩ h x9 ⟨_,rfl⟩ (λp ae s=>?_)]
  .simp
  .obtain⟨q,a,rfl⟩:=l9.1 ae;have:=DG (e q a) f s;exact he (l9.2 ⟨q,a,this⟩)
theorem OF{m:Nat}{acc:List (Λ×Int)}{K:Unit->x5->Prop}(h:mU w m acc)(z:∀p∈acc,∀x∈p.1,0<=x)(A:∀x∈t,0<=x)(B:t∉acc.map (·.1))(C:∀I,ai (λr=>r=m) w I->mU I m (acc++[(t,c)])->K () I):aM x8 (Instr.mapUpdate iG (.map (σ m)) (cp (eY t)) (Δ 1)) w K:=by
 refine q0 iG.u (Keys.str dj.u) h x9 ⟨_,rfl⟩ (λj v0 I e f s=>?_) (λI _ f s=>C I s ?_)
 .rw[u4]at e;obtain⟨q,y,a⟩:=Y0.1 e;have a:=congrArg Prod.fst a;have:=DG (z q (x7 y)) A a;exact m6 (l9.2 ⟨q,x7 y,this⟩) B
 .unfold mU;rw[Z2];exact f
theorem OG{m:Nat}{acc:List (Λ×Int)}{ok:Prop}{K:Unit->x5->Prop}(e:l2 w m)(z:ok->mU w m acc/\(∀p∈acc,∀x∈p.1,0<=x)/\(∀x∈t,0<=x)/\t∉acc.map (·.1))(f:∀I,ai (λr=>r=m) w I->l2 I m->(ok->mU I m (acc++[(t,c)]))->K () I):
  ad x8 (Instr.lookup iG (.map (σ m)) (cp (eY t)) sp) w λA=>
  ad x8 (aT .add al sp s2 A (Δ 1)) w λB=>
  aM x8 (Instr.mapUpdate iG (.map (σ m)) (cp (eY t)) B) w K:=by
 by_cases j:ok
 .obtain⟨h1,q,s,y⟩:=z j;rw[DH h1 q s,m5 y,aR,lm Ω Ω];exact OF h1 q s y λI a V=>f I a V.any λ_=>V
 .refine OD e λgG=>?_;rw[aR];exact OE e λI a V=>f I a V λh=>m6 h j
def fW{α:Type}(f:List α->aO->Option (α×aO))(n:Nat)(acc:List α)(o:Option aO):Option (List α×aO):=o.bind (dc f n acc)
theorem l2.ab{m:Nat}(h:l2 w m)(J:ai S w I)(a:¬S m):l2 I m:=by
 obtain⟨d,h1,e⟩:=h;exact⟨d,h1.ab J a,e⟩
theorem dE.words{g:Nat}{A:ak}{B:ak}{a:Bool}{s:aO}(h:dE w g gs A B a (σ s)):s.hp.length<=100000:=by
 have h:=h;exact h.2.1.words.1
theorem DI{acc:List (Λ×Int)}{st:aO}(j:∀q,gK d6 [] (σ st)=σ q->t=q.1)(a:∀q,bl 0 aF ((gK d6 [] (σ st)).map (·.2))=σ q->c=q.1):
  (bl 0 aF ((gK d6 [] (σ st)).map (·.2))=ν->eX d6 acc st=ν)/\∀q,bl 0 aF ((gK d6 [] (σ st)).map (·.2))=σ q->eX d6 acc st=if t∈acc.map (·.1)then ν else σ ((t,c),q.2):=by
 have e:gK d6 [] (σ st)=kO d6 [] st:=rfl;rw[e]at j a ⊢;unfold eX;cases h1:kO d6 [] st with
 |none=>exact⟨λ_=>rfl,λq f=>(by cases f)⟩
 |some q=>
  obtain⟨bx,s1⟩:=q;rw[h1]at j a;have:=j _ rfl;subst this;have r:bl 0 aF ((σ (t,s1)).map (·.2))=bt 0 aF s1:=rfl;rw[r]at a ⊢;simp only;cases s:bt 0 aF s1 with
  |none=>exact⟨λ_=>rfl,λq f=>(by cases f)⟩
  |some q=>
   obtain⟨w,x⟩:=q;rw[s]at a;have:=a _ rfl;subst this;exact⟨λh=>(by cases h),λq f=>(by cases f;rfl)⟩
theorem OH{g:Nat}{A B:ak}{s:Option aO}{Z:Bool}{Q:x4->x5->Prop}(h:dE w g gs A B Z s)(b0:aQ .i64 w sv d6)(aV:∀r,lc sv r->¬bT g gs A r/\r<w.heap.size)(b1:∀z∈d6,1<=z/\z<=aF)(b3:d6.length<=100001)(b4:fH w)(h1:cZ g gs A B 1)(b5:(N:Int)<=aF)(bt:∀v I l,gJ w g gs A B Z ((fW (eX d6) N [] s).map (·.2)) I->bB (e7 w.heap.size) bX I [v] (show List (Λ×Int)from l)->(∀q,fW (eX d6) N [] s=σ q->l=q.1)->Q v I):
  aM x8 (Instr.makeMap iG ν) w λaX y=>
 ce (.slice ν 0 0) (Δ 0) y λout i H k=>
  cG (α:=x4->x5->Prop) (λ(b6:x4)(U:x5)=>
   Split b6 (aM x8 (R3 eH s2 (.tuple #[])) U λx j=>
  ad x8 (X8 #[aB] al #[sv]) j λb7=>
  ce (.string ⟨#[]⟩) (Δ 0) j λkey aZ V b8=>
   ad x8 (aT .lss al sp sp aZ b7) V λca=>
   Split ca (ad x8 (n9 aB sv aZ) V λcb=>
   ad x8 (u5 ay cb) V λcc=>
   ad x8 (aT .sub ay sp s2 cc (Δ 1)) V λcd=>
   aq x8 pk [Γ g,(Δ 0),cd] V λbu aa=>
   ad x8 (Z7 bu 0) aa λbx=>
   ad x8 (Z7 bu 1) aa λdv=>
   ad x8 (u6 eH x 0) aa λcf=>
   ad x8 (u5 aB cf) aa λcg=>
   aM x8 (Y4 aB 1 #[(0,bx)]) aa λch K=>
   aM x8 (b9 #[aB,aB] aB #[cg,ch]) K λci bC=>
   ad x8 (u6 eH x 0) bC λcj=>
   aM x8 (o7 aB cj ci) bC λ(_:Unit)ck=>
   aq x8 w4 [bx] ck λcl aE=>
   ad x8 (aT .add dj sp s2 cl (.string ⟨#[32]⟩)) aE λcm=>
   ad x8 (aT .add dj sp sp key cm) aE λcn=>
   ad x8 (aT .add al sp s2 aZ (Δ 1)) aE λcp=>
   b8 cn cp aE)
    (aq x8 pk [Γ g,(Δ 0),(Δ 4611686018427387904)] V λbD aG=>
  ad x8 (Z7 bD 0) aG λcq=>
  ad x8 (Z7 bD 1) aG λcr=>
  ad x8 (u6 eH x 1) aG λct=>
  aM x8 (o7 ay ct cq) aG λ(_:Unit)cu=>
  cG (α:=x5->Prop) (λ(W:x5)=>
   ad x8 (Instr.lookup iG aX key sp) W λcw=>
   ad x8 (aT .add al sp s2 cw (Δ 1)) W λcz=>
   aM x8 (Instr.mapUpdate iG aX key cz) W λ(_:Unit)af=>
   ad x8 (u5 eH x) af λcA=>
   aM x8 (Y4 ki 1 #[(0,cA)]) af λcB au=>
   aM x8 (b9 #[ki,ki] ki #[out,cB]) au λcC aI=>
   ad x8 (aT .add ay sp s2 i (Δ 1)) aI λcD=>
  k cC cD aI) λbF=>
  cG (α:=x4->x5->Prop) (λ(cE:x4)(O:x5)=>
   Split cE (aq x8 pm [Γ g,(Δ 4),cr] O λdw bG=>
    bF bG)
    (bF O)) λbI=>
  aq x8 mw [Γ g] cu λcF ah=>
  Split cF (ad x8 (Instr.lookup iG aX key sp) ah λcH=>
  ad x8 (aT .gtr al sp s2 cH (Δ 0)) ah λcI=>
  bI cI ah)
   (bI (.bool sp) ah)))
    (Q out U)) λbJ=>
  ad x8 (aT .lss ay sp sp i (Δ (N:Int))) H λcJ=>
  Split cJ (aq x8 mw [Γ g] H λcK cL=>
  bJ cK cL)
   (bJ (.bool sp) H):=by
 obtain⟨dx,dy,dz,cM,aJ⟩:=h.side;have ag:∀r,bT g gs A r->r<w.heap.size:=cM;unfold aF at b5;refine sm λC y dA a2 a7=>?_;have dC:=a2.size;have dD:=a7.lt;generalize E:fW (eX d6) N [] s=bK at bt;refine⟨λout ba H=>∃(i:Nat)(acc:List (Λ×Int))(so:Option aO),ba=Δ (i:Int)/\i<=N/\ai (bT g gs A) w H/\y.heap.size<=H.heap.size/\bB (e7 y.heap.size) bX H [out] acc/\dE H g gs A B Z so/\
   bK=fW (eX d6) (N-i) acc so/\l2 H C/\acc.length<=100001/\∀st,so=σ st->mU H C acc/\(∀p∈acc,∀x∈p.1,0<=x)/\acc.length+st.hp.length<=100000,
  λ_ ba _=>N-(b2 ba).toNat,⟨0,[],s,rfl,X9 _,a2.ab _,o6 _,gH,h.W a2,E.symm,⟨[],a7,λp ae=>(by cases ae)⟩,Ξ,λst cN=>⟨a7,λp ae=>(by cases ae),?_⟩⟩,?_⟩
 .subst cN;have:=h.words;simpa using this
 rintro out _ H ⟨i,acc,so,rfl,dF,bL,z9,aC,bb,aK,cO,dG,bd⟩;refine a6 (λv U=>Ext H U/\((v= .bool s2/\i<N/\∃st,so=σ st)\/(v= .bool sp/\(so=ν\/i=N)))) ?_ ?_
 rotate_left
 .intro aA bf;rw[aW,ao];refine⟨λcP=>?_,λdH=>bf _ _ ⟨Ext.refl _,.inr ⟨rfl,.inr Ω⟩⟩⟩;refine(q4 bb).Y ?_;rintro _ U _ ⟨rfl,P⟩;cases so with
  |none=>exact bf _ _ ⟨P,.inr ⟨rfl,.inl rfl⟩⟩
  |some st=>exact bf _ _ ⟨P,.inl ⟨rfl,Ω,st,rfl⟩⟩
 rintro _ U ⟨P,cQ⟩;rcases cQ with⟨rfl,cP,st,rfl⟩|⟨rfl,cR⟩
 rotate_left
 .rw[bc];have bM:bK=so.map λst=>(acc,st):=by
   rcases cR with rfl|rfl
   .exact aK
   .rw[V7]at aK;rw[aK];cases so<;>rfl
  refine bt out U acc (gJ.mk (bL.F (P.ab _)) ?_) (bq (aw.Y aC (λr _ h=>by have h:y.heap.size<=r:=h;show w.heap.size<=r;omega) λ_ _ h=>h) P) (λq L=>?_)
  .rw[bM,Option.map_map];have e:V8 ((λx=>x.2)∘λst=>(acc,st)) so=so:=by cases so<;>rfl
   rw[e];exact bb.W P
  .rw[bM]at L;cases so with
   |none=>cases L
   |some st=>cases L;rfl
 rw[bS];obtain⟨bd,bg,dI⟩:=bd st rfl;have dJ:=P.size;refine bE eH.i λav j dK bN bO=>?_;have ax:=P.F bN;have bh:ai (bT g gs A) w j:=bL.F (ax.ab _);have bP:aQ .i64 j sv d6:=jw b0 bh λr f a n c ac cS=>(aV r ⟨a,n,c,ac,cS⟩).1 f;rw[a8 aB.u bP];have aL:¬bT g gs A av:=λE=>by have:=ag _ E;omega
 refine OA (s:=σ st) (bb.W ax) bP (λr f=>⟨(aV r f).1,by have:=(aV r f).2;omega⟩) b1 b3 (b4.ab bh h1.1) h1 bO aL (λcT=>by have:=aJ _ cT;omega) λt V aY gt dL cU bQ cV cW cX cY c0=>?_;have dM:=bN.size;have z12:=bQ.size;have dN:=bO.lt;have bi:∀x∈t,0<=x:=λx J=>(cU x J).1;refine(nV cY).Y ?_;rintro _ aa _ ⟨bj,c,dO,rfl,c1,dP⟩;obtain⟨aN,c2⟩:=bj.of;have dQ:=aN.size;rw[bz,bA,a1 eH.p rfl];refine bw (g:=av) (o:=1) ay.i rfl rfl (cV.ab aN aL) Ξ λK aP dR bk=>?_;have bk:aj K av eH [aY,Δ c]:=bk;have c3:aH .i64 ay K gt aY t:=(cW.ab aN (λ_ E=>by have:=ag _ E;omega)).ab aP (λ_ he=>by have he:gt=av:=he;omega);have bm:ai (λr=>bT g gs A r\/r=av) j K:=(bQ.F (aN.Y λr _ h=>.inl h)).F (aP.Y λr _ h=>.inr h);have X:dE K g gs A B Z ((bl 0 aF ((gK d6 [] (σ st)).map (·.2))).map (·.2)):=c2.ab aP (λr f he=>by have he:r=av:=he;exact aL (he▸f)) (λr f he=>by have:=aJ r f.2;have he:r=av:=he;omega);have bR:¬(λr=>bT g gs A r\/r=av) C:=λh=>h.elim (λh=>by have:=ag _ h;omega) (λh=>Ω);have c4:l2 K C:=(cO.ab (ax.ab (λ_=>False)) (λh=>h)).ab bm bR;have bV:mU K C acc:=(de.W bd ax).ab bm bR;obtain⟨bn,bo⟩:=DI (acc:=acc) c0 c1;refine dh (λW=>ai (bT g gs A) K W/\dE W g gs A B Z ((eX d6 acc st).map (·.2))) ?_ ?_
 .rintro W ⟨am,c5⟩;have bp:¬bT g gs A C:=λh=>by have:=ag _ h;omega
  have dS:=aP.size;have dT:=am.size;refine OG (acc:=acc) (t:=t) (c:=c) (ok:=∃q,eX d6 acc st=σ q) (c4.ab am bp) (λ⟨q,L⟩=>⟨de.ab bV am bp,bg,bi,λS=>?_⟩) λaf az c6 c7=>?_
  .cases M:bl 0 aF ((gK d6 [] (σ st)).map (·.2))with
   |none=>rw[bn M]at L;cases L
   |some an=>rw[bo an M,m3 S]at L;cases L
  have dU:=az.size;have c8:aj af av eH [aY,Δ c]:=(bk.ab am aL).ab az (λhe=>by have he:av=C:=he;omega);have da:aH .i64 ay af gt aY t:=(c3.ab am (λ_ E=>by have:=ag _ E;omega)).ab az (λ_ he=>by have he:gt=C:=he;omega);rw[bH eH.p eH.i rfl c8.range];have bW:bB (e7 j.heap.size) bX af [aY,Δ c] (t,c):=⟨[aY],[Δ c],e7 j.heap.size,bX,rfl,λ_ h=>h,λ_ h=>h.elim,λ_ _ _ h=>h,aw.Y (mD da) (λr _ h=>by subst h;exact cX) (λ_ _ h=>h),rfl⟩;refine jU (α:=Λ×Int) (a:=(t,c)) (cs:=[aY,Δ c]) (A:=e7 j.heap.size) (R:=bX) ki.u eH.i Φ rfl bW λu au ap _ db=>?_;have z22:=ap.size;have dc:bB (λr=>e7 y.heap.size r/\r<j.heap.size/\r≠av) bX j [out] acc:=bq (aw.Y (nO aC) (λr _ h=>⟨h.1,by have:=h.2;omega,by have:=h.2;omega⟩) λ_ _ h=>h) ax;have bY:ai (λr=>bT g gs A r\/r=av\/r=C) j au:=(((bm.Y λr _ h=>h.elim .inl λh=>.inr (.inl h)).F (am.Y λr _ h=>.inl h)).F (az.Y λr _ h=>.inr (.inr h))).F (ap.ab _);have dd:=aw.ab dc bY λr f h E=>by
   rcases h with h|h
   .have aS:y.heap.size<=r:=h.1;rcases E with E|E|E
    .have:=ag _ E;omega
    .exact h.2.2 E
    .omega
   .exact h
  refine oz (α:=Λ×Int) (a:=(t,c)) (A:=e7 j.heap.size) ki.u eH.i rfl dd db (bq bW ap) (λr _ h be=>?_) Ω Ω λdV aI df aD=>?_
  .rcases be with be|be
   .have:=h.2;have:j.heap.size<=r:=be;omega
   .exact be
  have dW:=aD.size;rw[aR,lm Ω Ω];have dg:ai (bT g gs A) w au:=ja bh bY λr f h=>by
   rcases h with h|h|h
   .exact h
   .omega
   .omega
  have di:ai (bT g gs A) w aI:=ja dg aD λr f h=>by have aS:y.heap.size<=r:=h.1;omega
  have dk:dE au g gs A B Z ((eX d6 acc st).map (·.2)):=(c5.ab az (λr f he=>by have he:r=C:=he;exact bp (he▸f)) (λr f he=>by have:=aJ r f.2;have he:r=C:=he;omega)).W ap;have dl:∀r,bT g gs A r->¬(e7 y.heap.size r/\r<j.heap.size/\r≠av):=λr f he=>by have:=ag _ f;have aS:y.heap.size<=r:=he.1;omega
  have dm:∀r,cZ g gs A B r->¬(e7 y.heap.size r/\r<j.heap.size/\r≠av):=λr f he=>by have:=aJ r f.2;have aS:y.heap.size<=r:=he.1;omega
  have bZ:¬(e7 y.heap.size C/\C<j.heap.size/\C≠av):=λhe=>by have aS:y.heap.size<=C:=he.1;omega
  refine⟨⟨i+1,acc++[(t,c)],(eX d6 acc st).map (·.2),rfl,Ω,di,Ω,?_,dk.ab aD dl dm,?_,(c6.ab (ap.ab (λ_=>False)) (λh=>h)).ab aD bZ,Θ,λdn dp=>?_⟩,by simp only[b2];omega⟩
  .refine aw.Y df (λr _ h=>?_) λ_ _ h=>h;show y.heap.size<=r;rcases h with h|h|h
   .exact h.1
   .have h:j.heap.size<=r:=h;omega
   .omega
  .rw[aK,show N-i=(N-(i+1))+1 by omega];cases G:eX d6 acc st with
   |none=>exact qY G
   |some q=>
    obtain⟨a,dn⟩:=q;have dq:a=(t,c):=by
     cases M:bl 0 aF ((gK d6 [] (σ st)).map (·.2))with
     |none=>rw[bn M]at G;cases G
     |some an=>
      rw[bo an M]at G;split at G
      .cases G
      .cases G;rfl
    subst dq;exact uH G
  .obtain⟨q,L,rfl⟩:=Y0.1 dp;have dX:=(qV L).2.2.2.1;refine⟨de.ab ((de.W (c7 ⟨q,L⟩) ap)) aD bZ,λp ae=>?_,by simp only[c9,List.length_singleton];omega⟩;rcases j5.1 ae with ae|ae
   .exact bg p ae
   .rw[Y1.1 ae];exact bi
 .intro dY br;cases M:bl 0 aF ((gK d6 [] (σ st)).map (·.2))with
  |none=>
   rw[M]at X;have G:=bn M;refine a6 (λv O=>Ext K O/\v= .bool sp) ?_ ?_
   .rintro _ O ⟨Y,rfl⟩;rw[bc];exact br _ ⟨Y.ab _,by rw[G];exact X.W Y⟩
   .intro dr bs;refine(q4 X).Y ?_;rintro _ ah _ ⟨rfl,aU⟩;rw[show((ν:Option (Int×aO)).map (·.2)).isSome=sp from rfl,bc];exact bs _ _ ⟨aU,rfl⟩
  |some an=>
   rw[M]at X;have G:=bo an M;refine a6 (λv O=>Ext K O/\v= .bool (decide (t∈acc.map (·.1)))) ?_ ?_
   .rintro _ O ⟨Y,rfl⟩;rw[ao];refine⟨λS=>?_,λds=>?_⟩
    .refine (Oz (X.W Y) Ω).Y ?_;rintro _ bG _ bj;obtain⟨dt,du⟩:=bj.of;exact br _ ⟨(Y.ab _).F dt,by rw[G,m3 S];exact du⟩
    .exact br _ ⟨Y.ab _,by rw[G,m5 ds];exact X.W Y⟩
   .intro dr bs;refine(q4 X).Y ?_;rintro _ ah _ ⟨rfl,aU⟩;rw[show((σ an:Option (Int×aO)).map (·.2)).isSome=s2 from rfl,bS,DH (de.W bV aU) bg bi,bU];refine bs _ _ ⟨aU,?_⟩;congr 1;by_cases S:t∈acc.map (·.1)
    .rw[m3 S,ms S];rfl
    .rw[m5 S,rc S];rfl
theorem DJ(d6:Λ)(s:Option aO):kt d6 s=match bl (-aF) aF s with
 |none=>ν
 |some (n,s)=>
  if n<0 then match s.m2[(-n-1).toNat]? with
   |none=>ν
   |some (z,l)=>if z=d6 then σ (l,s)else ν
  else dc (eX d6) n.toNat [] (lq n s):=by
 cases s with
 |none=>rfl
 |some s=>
  show ei d6 s=_;unfold ei;show _=match bt (-aF) aF s with
   |none=>ν
   |some (n,s)=>
    if n<0 then match s.m2[(-n-1).toNat]? with
     |none=>ν
     |some (z,l)=>if z=d6 then σ (l,s)else ν
    else dc (eX d6) n.toNat [] (lq n s)
  cases bt (-aF) aF s<;>rfl
theorem DK{m:Bool}{S R:ak}{cs:List x4}{a:lZ}(h:aw.rep (α:=lZ) m S R w cs a):∃u v,cs=[u,v]/\aw.rep (α:=Λ) sp bX R w [u] a.1/\aw.rep (α:=List (Λ×Int)) sp bX R w [v] a.2:=by
 obtain⟨c,d,f,j,rfl,_,_,_,h1,e⟩:=h;have h1:=h1;have e:=e;obtain⟨u,rfl⟩:=W3.1 (show c.length=1 from aw.len h1);obtain⟨v,rfl⟩:=W3.1 (show d.length=1 from aw.len e);exact⟨u,v,rfl,h1,e⟩
theorem OI{g:Nat}{A B:ak}{s:Option aO}{L:Bool}(h:dE w g gs A B L s)(hi:∀t,s=σ t->ej t)(ap:aQ .i64 w sv d6)(ad:∀r,lc sv r->¬bT g gs A r/\r<w.heap.size)(au:∀z∈d6,1<=z/\z<=aF)(av:d6.length<=100001)(aw:fH w)(h1:cZ g gs A B 1):
  aq x8 Kq [Γ g,sv] w λv I=>gJ w g gs A B L ((kt d6 s).map (·.2)) I/\∃l,Seen (λr=>cZ g gs A B r\/w.heap.size<=r) I [v] (show List (Λ×Int)from l)/\∀q,kt d6 s=σ q->l=q.1:=by
 have ax:=h.side;obtain⟨a2,a7,a8,ay,ba⟩:=id ax;have ag:∀r,bT g gs A r->r<w.heap.size:=ay;refine aE func173 ?_;refine(nV (lo:=-aF) (hi:=aF) h).Y ?_;rintro _ U _ ⟨az,n,at_,rfl,M,bb⟩;obtain⟨H,ae⟩:=az.of;have bd:=H.size;have j:=DJ d6 s;rw[bz,bA];have af:=jw ap H λr O a n c ac P=>(ad r ⟨a,n,c,ac,P⟩).1 O;have be:∀r,lc sv r->¬bT g gs A r/\r<U.heap.size:=by grind
 have rest:∀aa,Ext U aa->(∀q,bl (-aF) aF s=σ q->¬n<0)->∀N:Nat,n=(N:Int)->(N:Int)<=aF->∀x,ai (bT g gs A) aa x->dE x g gs A B L (((bl (-aF) aF s).map (·.2)).map (lq n))->
   ∀v I l,gJ x g gs A B L ((fW (eX d6) N [] (((bl (-aF) aF s).map (·.2)).map (lq n))).map (·.2)) I->bB (e7 x.heap.size) bX I [v] (show List (Λ×Int)from l)->(∀q,fW (eX d6) N [] (((bl (-aF) aF s).map (·.2)).map (lq n))=σ q->l=q.1)->
   gJ w g gs A B L ((kt d6 s).map (·.2)) I/\∃l,Seen (λr=>cZ g gs A B r\/w.heap.size<=r) I [v] (show List (Λ×Int)from l)/\∀q,kt d6 s=σ q->l=q.1:=by
  intro aa y J N Q R x E S v I l aB aC aD;obtain⟨aH,aI⟩:=aB.of;have aJ:=y.size;have z3:=E.size;have e:kt d6 s=fW (eX d6) N [] (((bl (-aF) aF s).map (·.2)).map (lq n)):=by
   rw[j];cases f:bl (-aF) aF s with
   |none=>rfl
   |some q=>
    obtain⟨aK,s1⟩:=q;have:=M _ f;subst this;simp only;rw[m5 (J _ f),Q,u7];rfl
  rw[e];refine⟨gJ.mk (((H.F (y.ab _)).F E).F aH) aI,l,pB aC λr _ h=>?_,aD⟩
  grind
 refine a6 (λv aa=>Ext U aa/\v= .bool (decide (n<0/\(bl (-aF) aF s).isSome=s2))) ?_ ?_
 rotate_left
 .intro aA V;refine(q4 ae).Y ?_;rintro _ aa _ ⟨rfl,y⟩;cases f:bl (-aF) aF s with
  |none=>
   rw[show((ν:Option (Int×aO)).map (·.2)).isSome=sp from rfl,bc]
   grind
  |some q=>
   rw[show((σ q:Option (Int×aO)).map (·.2)).isSome=s2 from rfl,bS,aW]
   grind
 rintro _ aa ⟨y,rfl⟩;have G:=ae.W y;have aJ:=y.size;rw[ao];refine⟨λJ=>?_,λbf=>?_⟩
 rotate_left
 .have J:∀q,bl (-aF) aF s=σ q->¬n<0:=by grind
  obtain⟨N,Q,R⟩:∃N:Nat,n=(N:Int)/\(N:Int)<=aF:=by
   cases f:bl (-aF) aF s with
   |none=>grind [aF]
   |some q=>
    have h1:=J q f;have aL:=oJ f
    grind
  refine OC G (λt aM=>?_) λx E S=>?_
  .obtain⟨q,f,rfl⟩:=Y0.1 aM;have aL:=oJ f;have bg:=M q f;refine⟨Ω,Ω,?_⟩;cases s with
   |none=>cases f
   |some s0=>
    have ah:=(dT f).eqs;have aj:=hi s0 rfl;intro al;rw[ah.1];rw[ah.2.1]at al;exact aj al
  .have z3:=E.size;have aN:ai (bT g gs A) w x:=(H.F (y.ab _)).F E;subst Q;refine OH S ((jw (af.W y) E λr O a n c ac P=>(ad r ⟨a,n,c,ac,P⟩).1 O)) (by grind) au av (aw.ab aN h1.1) h1 R λv I l a b c=>?_;exact rest aa y J N rfl R x E S v I l a b c
 .obtain⟨aR,aS⟩:=J;obtain⟨⟨aK,s1⟩,f⟩:=Option.isSome_iff_exists.1 aS;have:=M _ f;subst this;have bh:=oJ f;rw[f]at j G;simp only at j;rw[m3 aR]at j;have G:=G;obtain⟨_,aj,bi,big,bj,bk,m1,bm,W,bn,X⟩:=id G;have bo:aF=4611686018427387904:=rfl;refine a6 (λv x=>Ext aa x/\v= .bool (decide (kt d6 s=ν))) ?_ ?_
  .rintro _ x ⟨C,rfl⟩;rw[ao];refine⟨λaT=>?_,λaU=>?_⟩
   .refine (uE (G.W C) Ω).Y ?_;rintro _ bp _ ⟨aV,aX⟩;rw[aT];refine⟨gJ.mk (((H.F (y.ab _)).F (C.ab _)).F (aV.Y λr _ h=>.inl h)) aX,[],gH,by grind⟩
   .cases K:s1.m2[(-n-1).toNat]? with
    |none=>rw[K]at j;exact m6 j aU
    |some q=>
     obtain⟨z,l⟩:=q;rw[K]at j;simp only at j;have aY:z=d6:=by
      grind
     rw[m3 aY]at j;rw[aP cL.p 3 (W.W C) rfl,nJ,lm Ω Ω,dr,lm Ω Ω];refine km (i:=(-n-1).toNat) Ω iZ.u k7.i (bq X C) K λb o cs Y Z=>?_;obtain⟨u,v,rfl,hu,ac⟩:=DK Z;rw[a1 k7.p rfl,aG Ψ (Y 1 v rfl)];rw[j];refine⟨gJ.mk ((H.F (y.ab _)).F (C.ab _)) (G.W C),l,pB ac λr _ h=>?_,by grind⟩
     grind
  .intro aA V;rw[nJ,lm Ω Ω,aP cL.p 3 W rfl,fE iZ.u X,bU,ao];refine⟨λam=>V _ _ ⟨Ext.refl _,?_⟩,λan=>?_⟩
   .have am:(s1.m2.length:Int)<0-n:=am;rw[W8 Ω]at j;rw[ms j]
   .have an:¬(s1.m2.length:Int)<0-n:=an;have aZ:(-n-1).toNat<s1.m2.length:=Ω
    obtain⟨⟨z,l⟩,K⟩:∃q,s1.m2[(-n-1).toNat]?=σ q:=⟨_,v8 aZ⟩;rw[aP cL.p 3 W rfl,nJ,lm Ω Ω,dr,lm Ω Ω];refine km (i:=(-n-1).toNat) Ω iZ.u k7.i X K λb o cs Y Z=>?_;obtain⟨u,v,rfl,hu,ac⟩:=DK Z;rw[a1 k7.p rfl,aG Ψ (Y 0 u rfl)];refine(Ma (c3 hu) (af.W y)).Y ?_;rintro _ x _ ⟨rfl,C⟩;rw[bN];refine V _ _ ⟨C,?_⟩;rw[K]at j;simp only at j;by_cases br:z=d6
    all_goals grind
abbrev q5(n:Nat):ak:=λr=>r<n
def sC(n:Int)(k:Nat)(s:Option aO):Option (Λ×aO):=s.bind (fv n k)
theorem OJ{g k:Nat}{A B:ak}{s:Option aO}{m:Int}(h:dE w g gs A B f s)(hk:k<=4611686018427387904)(hm:0<=m/\m<=1000000):
  aq x8 Bj [Γ g,Δ (k:Int),Δ m] w λv I=>gJ w g gs A B f ((sC m k s).map (·.2)) I/\
   ∃gr l,aH .i64 ay I gr v l/\(∀r,lc v r->w.heap.size<=r)/\l.length<=100001/\∀q,sC m k s=σ q->l=q.1:=by
 cases s with
 |some s=>exact Nw h hk hm
 |none=>
  have h:=h;refine aE func171 ?_;refine⟨λout x U=>w=U/\out= .slice ν 0 0/\x=Δ 0,λ_ _ _=>0,⟨rfl,rfl,rfl⟩,?_⟩;rintro _ _ _ ⟨rfl,rfl,rfl⟩;refine a6 (λv aa=>Ext w aa/\v= .bool sp) ?_ ?_
  .rintro _ aa ⟨e,rfl⟩;rw[bc];exact⟨gJ.mk (e.ab _) (h.W e),0,[],aH.nil _ _ _ _,λr y=>m6 y (λh=>by obtain⟨a,n,c,h,_⟩:=h;cases h),Ξ,λq z=>by cases z⟩
  .intro aA j;rw[aW,ao];refine⟨λ_=>?_,λ_=>j _ _ ⟨Ext.refl _,rfl⟩⟩;refine(pM h).Y ?_;rintro _ aa _ ⟨rfl,e⟩;exact j _ _ ⟨e,rfl⟩
def uT(z:Λ)(l:List (Λ×Int))(s:aO):aO:={s with m2:=s.m2++[(z,l)]}
def DL(w:x5)(g gs:Nat):Prop:=∃(e big a f m1:Int)(sv:x4),aj w g cL (jz gs e big a f m1 sv)/\e≠0
def jd(w:x5)(g gs:Nat)(A:ak)(B:ak)(a:Bool)(s:Option aO):Prop:=match s with
 |some s=>eC w g gs A B s a
 |none=>DL w g gs
theorem dE.q{g:Nat}{A:ak}{B:ak}{a:Bool}{s:Option aO}(h:dE w g gs A B a s):jd w g gs A B a s:=by
 cases s with
 |some s=>exact h
 |none=>
  obtain⟨_,e,big,f,j,m1,sv,l,r,x,_⟩:=h;exact⟨e,big,f,j,m1,sv,r,x.1⟩
theorem jd.ab{g:Nat}{A:ak}{B:ak}{a:Bool}{s:Option aO}(h:jd w g gs A B a s)(J:ai S w I)(j:¬S g)(q:∀r,bT g gs A r->r<w.heap.size->¬S r)(x:∀r,cZ g gs A B r->¬S r):jd I g gs A B a s:=by
 cases s with
 |some s=>
  have h:=h;exact eC.ab h J (λr f=>q r f (h.1.2.2.2.1 r f)) x
 |none=>
  obtain⟨e,big,y,z,m1,sv,C,E⟩:=h;exact⟨e,big,y,z,m1,sv,C.ab J j,E⟩
theorem jd.W{g:Nat}{A:ak}{B:ak}{a:Bool}{s:Option aO}(h:jd w g gs A B a s)(J:Ext w I):jd I g gs A B a s:=h.ab (J.ab λ_=>False) (λh=>h) (λ_ _ _ h=>h) (λ_ _ h=>h)
theorem DM{g:Nat}{A:ak}{B:ak}{s:Option aO}{a:Bool}(h:jd w g gs A B a s):aq x8 mw [Γ g] w λv I=>v= .bool s.isSome/\Ext w I:=by
 cases s with
 |none=>
  obtain⟨e,big,q,r,m1,sv,f,j⟩:=h;refine(xM f).Y ?_;rintro _ U _ ⟨rfl,J⟩;exact⟨by rw[rc j];rfl,J⟩
 |some s=>exact qX h
theorem jb.a7{g:Nat}{R':Nat->Prop}(h:jb w g R hp f)(J:ai S w I)(q:¬S g)(s:∀r,R r->¬S r)(x:∀r,R r->R' r):jb I g R' hp f:=by
 obtain⟨y,p,a,⟨h1,z,A,B,bg,C⟩,j,E⟩:=h;exact⟨y,p,a,⟨h1,z,A,B.ab J q,bg,bG C J λr e=>s r (j r e)⟩,λr e=>x r (j r e),E⟩
theorem nW{α:Type}[aw α]{m:Bool}{S R:ak}{l:List α}(h:aw.rep m S R w [v] l):∃a n c,v= .slice a n c:=by
 obtain⟨vs,e,F,ae,he,V,hm⟩:=jT h;obtain⟨f,b,o,base,cap,rfl,_⟩:=V;exact⟨_,_,_,rfl⟩
def nX(w:x5)(g gs:Nat)(A:ak)(B:ak)(R:ak)(a:Bool)(s:Option aO):Prop:=match s with
 |some s=>mP w g gs A B/\jb w gs R s.hp a/\(0<=s.m1/\s.m1<=aF/\s.m2.length+s.hp.length<=100000)/\
  ∃big e f m1 sv,aj w g cL (jz gs 0 big e f m1 sv)/\((s.big=s2↔big≠0)/\(s.big=sp->m1=s.m1))/\bB A R w [sv] (show List lZ from s.m2)
 |none=>DL w g gs
theorem nX.ab{g:Nat}{A R:ak}{B:ak}{x:Bool}{s:Option aO}(h:nX w g gs A B R x s)(J:ai S w I)(y:¬S g)(z:∀r,bT g gs A r->r<w.heap.size->¬S r)(C:∀r,R r->¬S r):nX I g gs A B R x s:=by
 cases s with
 |some s=>
  obtain⟨h1,E,F,big,a,f,m1,sv,j,q,G⟩:=h;have H:=h1.2.2.2.1;exact⟨h1.ab J,E.ab J (z gs (.inr (.inl rfl)) (H _ (.inr (.inl rfl)))) C,F,big,a,f,m1,sv,j.ab J y,q,aw.ab G J λr K h=>h.elim (λh=>z r (.inr (.inr h)) K) (C r)⟩
 |none=>
  obtain⟨e,big,a,f,m1,sv,j,q⟩:=h;exact⟨e,big,a,f,m1,sv,j.ab J y,q⟩
theorem nX.out{g:Nat}{A R B e:ak}{s:Option aO}(h:nX w g gs A B R f s)(j:∀r,R r->cZ g gs A e r)(q:∀r,e r->r<w.heap.size):jd w g gs A e f s:=by
 cases s with
 |some s=>
  obtain⟨⟨x,y,z,C,P⟩,⟨E,p,a,F,G,H⟩,I,big,J,K,m1,sv,L,M,N⟩:=h;exact⟨⟨x,y,z,C,q⟩,⟨E,p,a,F,λr O=>j r (G r O),H⟩,I,big,J,K,m1,sv,L,M,aw.Y N (λ_ _ h=>h) λr _ h=>j r h⟩
 |none=>exact h
theorem dE.qr{g:Nat}{A R:ak}{B:ak}{y:Bool}{s:Option aO}(h:dE w g gs A B y s)(z:∀r,cZ g gs A B r->R r):nX w g gs A B R y s:=by
 cases s with
 |some s=>
  obtain⟨h1,⟨C,p,a,E,F,G⟩,H,big,f,j,m1,sv,q,x,I⟩:=h;exact⟨h1,⟨C,p,a,E,λr J=>z r (F r J),G⟩,H,big,f,j,m1,sv,q,x,aw.Y I (λ_ _ h=>h) λr _ h=>z r h⟩
 |none=>
  obtain⟨_,e,big,f,j,m1,sv,l,q,x,_⟩:=h;exact⟨e,big,f,j,m1,sv,q,x.1⟩
theorem OK{g M:Nat}{A B R:ak}{s:Option aO}{N:Bool}{aZ ay u:x4}{z:Λ}{l:List (Λ×Int)}{K:x5->Prop}(h:dE w g gs A B N s)(O:∀r,cZ g gs A B r->R r)(ah:∀r,R r->cZ g gs A (q5 w.heap.size) r)(al:∀t,s=σ t->t.m2.length+1+t.hp.length<=100000)(am:aj w M cv [aZ,u,ay,v])(hu:aw.rep (α:=Λ) sp bX R w [u] z)(ac:aw.rep (α:=List (Λ×Int)) sp bX R w [v] l)(az:∀I aS,ai (bT g gs A) w I->(∀r,aS r->A r\/w.heap.size<=r)->nX I g gs aS (q5 w.heap.size) R N (s.map (uT z l))->K I):
  ad x8 (b1 (Γ g)) w λP=>
  ad x8 (u6 cL P 3) w λQ=>
  ad x8 (u5 iZ Q) w λan=>
  ad x8 (u6 cv (Γ M) 1) w λt76=>
  ad x8 (u5 aB t76) w λt77=>
  ad x8 (u6 cv (Γ M) 3) w λaA=>
  ad x8 (u5 ki aA) w λaD=>
  ad x8 (Instr.build k7 #[(0,t77),(1,aD)]) w λaE=>
  aM x8 (Y4 iZ 1 #[(0,aE)]) w λaF F=>
   (Ext w F\/ch x8 (u5 iZ Q) an F/\ch x8 (u6 cL P 3) Q F/\ch x8 (b1 (Γ g)) P F/\True)/\
   aM x8 (b9 #[iZ,iZ] iZ #[an,aF]) F λaG S=>
    ad x8 (b1 (Γ g)) S λaH=>
    ad x8 (u6 cL aH 3) S λaI=>
    aM x8 (o7 iZ aI aG) S λ(_:Unit)aJ=>K aJ:=by
 obtain⟨aK,e,big,j,q,m1,sv,H,y,aC,a2,aL⟩:mP w g gs A B/\∃e big j q m1 sv,∃H:List lZ,aj w g cL (jz gs e big j q m1 sv)/\bB A R w [sv] H/\H.length<=100000/\
   ∀I aS C,mP I g gs aS (q5 w.heap.size)->ai (λr=>A r\/r=g) w I->aj I g cL (jz gs e big j q m1 C)->bB aS R I [C] (H++[((z,l):lZ)])->nX I g gs aS (q5 w.heap.size) R N (s.map (uT z l)):=by
  cases s with
  |none=>
   obtain⟨h1,e,big,j,q,m1,sv,l',W,L,X⟩:=h;exact⟨h1,e,big,j,q,m1,sv,l',W,aw.Y X (λ_ _ h=>h) λr _ h=>O r h,L.2,λI aS C V _ y aC=>⟨e,big,j,q,m1,C,y,L.1⟩⟩
  |some s=>
   obtain⟨h1,aQ,ao,big,j,q,m1,sv,W,L,X⟩:=h;have al:=al s rfl;refine⟨h1,0,big,j,q,m1,sv,s.m2,W,aw.Y X (λ_ _ h=>h) λr _ h=>O r h,(show s.m2.length<=100000 by omega),λI aS C V aR y aC=>⟨V,?_,⟨ao.1,ao.2.1,?_⟩,big,j,q,m1,C,y,L,aC⟩⟩
   .exact jb.a7 aQ aR (λhe=>he.elim h1.2.2.1 λh=>h1.1 h.symm) (λr f he=>he.elim (λh=>f.1 (.inr (.inr h))) λh=>f.1 (.inl h)) O
   .show (s.m2++[(z,l)]).length+s.hp.length<=100000;simp;omega
 obtain⟨aT,Y,aU,ap,a6⟩:=id aK;rw[aP cL.p 3 y rfl,aN cv.p 1 am rfl,aN cv.p 3 am rfl];rw[ds (cs:=#[u,v]) (by obtain⟨_,_,_,rfl⟩:=nW hu;obtain⟨_,_,_,rfl⟩:=nW ac;kernel_rfl)];have aq:bB (λ_=>False) R w [u,v] ((z,l):lZ):=⟨[u],[v],bX,bX,rfl,λ_ h=>h,λ_ h=>h,λ_ _ h _=>h,hu,ac⟩;refine jU (α:=lZ) (a:=(z,l)) (R:=R) iZ.u k7.i Φ rfl aq λx U E _ J=>?_;have a8:=E.size;refine⟨.inl E,?_⟩;refine oz iZ.u k7.i rfl (bq aC E) J (bq aq E) (λr _ aV G=>?_) Ω Ω λaW aa Z ae=>?_
 .rcases G with G|G
  .exact G
  .exact (ah r G).1 (.inr (.inr aV))
 have ba:=ae.size;have aX:=(y.W E).ab ae Y;rw[cc,a1 cL.p rfl];refine bw (g:=g) (o:=6) iZ.i (lU Z) (iJ Z) aX (by simp[jz]) λaf au bb ag=>?_;have ag:=ag;have av:ai (λr=>A r\/r=g) w af:=((E.ab _).F (ae.Y λr _ h=>.inl h)).F (au.Y λr _ h=>.inr h);let aS:ak:=λr=>(A r\/w.heap.size<=r)/\r<aa.heap.size;have bc:g<w.heap.size:=ap g (.inl rfl);have bd:=ap gs (.inr (.inl rfl));have aY:=aw.Y (S':=aS) (R':=R) Z (λr f h=>⟨h.elim .inl λh=>h.elim False.elim λh=>.inr Ω,f⟩) (λr f h=>h);refine az af aS (av.Y λr _ h=>h.elim (λh=>.inr (.inr h)) .inl) (λr f=>f.1) (aL af aS aW ⟨aT,λh=>h.1.elim Y λh=>Ω,λh=>h.1.elim aU λh=>Ω,λr f=>?_,?_⟩ av ag (aw.ab aY au λr f ax he=>?_))
 .rcases f with rfl|rfl|f
  .omega
  .omega
  .have:=f.2;omega
 .intro r f;have f:r<w.heap.size:=f;omega
 .have he:r=g:=he;subst he;rcases ax with ax|ax
  .exact ax.1.elim Y λh=>Ω
  .exact (ah _ ax).1 (.inl rfl)
theorem OL{e:Nat}{aZ E:x4}{M:x5->Prop}(N:aj w e cv [aZ,.slice ν 0 0,Δ 0,.slice ν 0 0])(O:aQ .i64 w aZ scope)(X:∀r,lc aZ r->r≠e)(Y:aQ .i64 w E all)(Z:∀r,lc E r->r≠e)(ac:∀v∈scope,0<=v/\v<all.length)(aE:scope.length<=100001)(ae:∀I hv gz,ai (λr=>r=e) w I->aj I e cv [aZ,hv,Δ 0,.slice ν 0 0]->aH .i64 ay I gz hv (scope.map λv=>all.getD v.toNat 0)->w.heap.size<=gz->M I):
 b7 (Δ 0) w λF s k=>
  ad x8 (aT .lss al sp sp F (Δ (scope.length:Int))) s λaf=>
  Split af (ad x8 (n9 aB aZ F) s λag=>
  ad x8 (u5 ay ag) s λah=>
  ey s λf=>
  ad x8 (u6 cv (Γ e) 1) f λt39=>
  ad x8 (u5 aB t39) f λP=>
  ad x8 (n9 aB E ah) f λak=>
  ad x8 (u5 ay ak) f λam=>
  aM x8 (Y4 aB 1 #[(0,am)]) f λt45 z=>
   (Ext f z\/ch x8 (u5 aB t39) P z/\ch x8 (u6 cv (Γ e) 1) t39 z/\True)/\
  aM x8 (b9 #[aB,aB] aB #[P,t45]) z λt46 Q=>
   ad x8 (u6 cv (Γ e) 1) Q λan=>
   aM x8 (o7 aB an t46) Q λ(_:Unit)R=>
    ad x8 (aT .add al sp s2 F (Δ 1)) R λap=>
  k ap R) (M s):=by
 have aF:=N.lt;refine b7.range scope.length (λi U=>ai (λr=>r=e) w U/\∃hv gz,aj U e cv [aZ,hv,Δ 0,.slice ν 0 0]/\aH .i64 ay U gz hv ((scope.take i).map λv=>all.getD v.toNat 0)/\w.heap.size<=gz) O.le ⟨ai.refl _ _,_,w.heap.size,N,aH.nil _ _ _ _,o6 _⟩ ?_ ?_
 rotate_left
 .rintro U aq ⟨j,hv,gz,A,B,S⟩;rw[o9]at B;rw[aW,ao];exact⟨λh=>Ω,λ_=>ae U hv gz j A B S⟩
 rintro i U aq hi ⟨j,hv,gz,A,B,S⟩ au;obtain⟨v,G⟩:=aI (l:=scope) hi;have aG:=ac v (x7 G);have av:all[v.toNat]?=σ (all.getD v.toNat 0):=by
  rw[r8,v8 Ω];rfl
 have aw:=jw O j λr C a n c H J=>X r ⟨a,n,c,H,J⟩ C;have ax:=jw Y j λr C a n c H J=>Z r ⟨a,n,c,H,J⟩ C;refine bF Ω ?_;rw[bk aB.u ay.i Ψ aw G];intro aa q _ _;have aJ:=j.size;have aK:=q.size;rw[aN cv.p 1 (A.W q) rfl];rw[ft (y:=v) (i:=v.toNat) Ω aB.u ay.i Ψ (ax.W q) av];refine e6 aB.u ay.i rfl λa ga aL aO x az=>?_;refine⟨.inl x,?_⟩;have z3:=x.size;refine kL aB.u ay.i rfl ((B.W q).W x) az.ls Θ Θ λaA aC aP aS K V=>?_;rw[a1 cv.p rfl];have aD:=((A.W q).W x).ab V (λhe=>by have he:=he;omega);refine bw (g:=e) (o:=1) aB.i K.ls.cells.1 K.ls.cells.2 aD Ξ λaU W aV L=>?_;have L:=L;rw[aR];refine au _ ⟨(ja (j.F ((q.F x).ab _)) V λr C he=>by have he:r=gz:=he;omega).F W,aA,aC,L,?_,Ω⟩;rw[u9,G,j4,Z2];exact K.ab W (λ_ he=>by have he:=he;omega)
abbrev j2:Type:=Rd (Λ)×Rd (Λ)×Int×Rd (List (Λ×Int))
def je(f:cI):j2:=(f.scope,f.d6,f.other,f.lines)
theorem DN{R:ak}{aZ hv cz:x4}{o:Int}{sc:Λ}{l:List (Λ×Int)}(h1:aw.rep (α:=Λ) sp bX R w [aZ] sc)(e:aw.rep (α:=Λ) sp bX R w [hv] a)(f:aw.rep (α:=List (Λ×Int)) sp bX R w [cz] l):
  Seen R w [aZ,hv,Δ o,cz] ((sc,a,o,l):j2):=
 ⟨[aZ],[hv,Δ o,cz],bX,bX,rfl,λ_ h=>h,λ_ h=>h,λ_ _ h _=>h,h1,[hv],[Δ o,cz],bX,bX,rfl,λ_ h=>h,λ_ h=>h,λ_ _ h _=>h,e,[Δ o],[cz],bX,bX,rfl,λ_ h=>h,λ_ h=>h,λ_ _ h _=>h,rfl,f⟩
theorem sD{R:ak}{g:Nat}(h:aH .i64 e w g v l)(s:∀r,lc v r->R r):aw.rep (α:=Λ) sp bX R w [v] l:=by
 have h1:bB (λr=>r=g) bX w [v] l:=mD h;obtain⟨vs,x,F,ae,he,V,hm⟩:=jT h1;refine⟨v,rfl,vs,x,λ_ _=>False,⟨λ_ _ h=>h,λh=>(by cases h),λh=>by cases h⟩,⟨he.1,λi c a y z=>?_⟩,?_,λh=>by cases h⟩
 .exact he.2 i c a y z
 .obtain⟨f,b,o,base,cap,rfl,A,B,j,G,C⟩:=V;refine⟨f,b,o,base,cap,rfl,A,B,j,λq=>.inr (s b ?_),C⟩;have E:0<l.length:=by
   rw[f]at q;rcases Nat.eq_zero_or_pos l.length with h|h
   .rw[h,Nat.zero_mul]at q;omega
   .exact h
  exact⟨⟨b,o,ν⟩,l.length,cap,by rw[j E],rfl⟩
theorem DO{α:Type}[aw α]{R R':ak}{cs:List x4}{a:α}(h:Seen R w cs a)(e:∀r,r<w.heap.size->R r->R' r):Seen R' w cs a:=aw.Y h (λ_ _ h=>h) e
theorem DP{f a:Nat}{cs:List x4}{K:x4->x5->Prop}(e:cs.length=4)(h1:∀v∈cs,v.oneCell'=s2)(q:aj w f cv cs){h:List x4}(s:h.length=4)(x:aj w a cv h)(y:∀I,ai (λr=>r=a) w I->K (.agg cs.toArray) I):
  ad x8 (u5 cv (Γ f)) w λz=>
  aM x8 (o7 cv (Γ a) z) w λ(_:Unit)j=>
  ad x8 (do loadVar cv (<-asAddr (Γ a))) j λA=>K A j:=by
 rw[bH cv.p cv.i e q.range];refine b3 cv.i e s h1 x λI B _ C=>?_;rw[fu cv.p cv.i e C.range];exact y I B
theorem DQ{s s':aO}{l:List (Λ×Int)}(h:ei d6 s=σ (l,s')):s'.m2=s.m2/\s'.hp.length<=s.hp.length:=by
 unfold ei at h;cases e:bt (-aF) aF s with
 |none=>rw[e]at h;cases h
 |some q=>
  obtain⟨n,s1⟩:=q;rw[e]at h;simp only at h;have h1:=dT e;obtain⟨w,x,f⟩:=h1.eqs;split at h
  .cases V:s1.m2[(-n-1).toNat]? with
   |none=>rw[V]at h;cases h
   |some q=>
    obtain⟨z,l'⟩:=q;rw[V]at h;simp only at h;split at h
    .simp only[W7,R4]at h;obtain⟨rfl,rfl⟩:=h;exact⟨f,by have:=h1.1;omega⟩
    .cases h
  .have:=mN (λacc t=>t.m2=s.m2/\t.hp.length<=s.hp.length) (λacc t a bx ⟨r,y⟩ g=>by
    obtain⟨A,B,C,j⟩:=qV g;obtain⟨f1,f2,f3⟩:=j.eqs;exact⟨by rw[f3,r],by have:=j.1;omega⟩) n.toNat [] (br (decide (16384<min (s1.m1+n) aF)) {s1 with m1:=min (s1.m1+n) aF}) l s' ⟨f,by have:=h1.1;show s1.hp.length<=_;omega⟩ h
   exact this.1
theorem OM{g:Nat}{A B:ak}{s:aO}{S:Bool}{bb:x4}(h:eC w g gs A B s S)(hi:ej s)(bJ:aQ .i64 w bb all)(bc:∀r,lc bb r->¬bT g gs A r/\r<w.heap.size)(cj:∀z∈all,1<=z/\z<=aF)(dg:all.length<=100001)(ck:fH w)(h1:cZ g gs A B 1):
  aq x8 Bc [Γ g,bb] w λv I=>∃aS V cs,∃bK:j2,v= .agg cs.toArray/\cs.length=4/\ai (bT g gs A) w I/\(∀r,aS r->A r\/w.heap.size<=r)/\(∀r,V r->(B r\/w.heap.size<=r)/\r<I.heap.size)/\(∀r,B r->V r)/\jd I g gs aS V S ((dA all s).map (·.2))/\
   Seen (cZ g gs aS V) I cs bK/\∀q,dA all s=σ q->bK=je q.1:=by
 have cl:=h.1;obtain⟨di,dj,bd,cm,Q⟩:=id cl;have ag:∀r,bT g gs A r->r<w.heap.size:=cm;have dk:aF=4611686018427387904:=rfl;have dl:=h.2.2.1.2.2;refine aE func111 ?_;refine bE cv.i λE U dm bf aL=>?_;have aL:=aL;have dn:=bf.size;have dp:=aL.lt;have K:¬bT g gs A E:=λj=>by have:=ag _ j;omega
 refine(xN (h.W bf)).Y ?_;rintro _ aa _ ⟨W,a,at_,rfl,bL,cn⟩;obtain⟨bg,bh⟩:=W.of;have dq:=bg.size;rw[bz,bA,aW,nJ];have dr: -aF<=a/\a<=aF:=by
  cases C:bt (-aF) aF s with
  |none=>rw[cn C];unfold aF;omega
  |some q=>rw[bL q C];exact(jx C).1
 rw[lm Ω Ω,rY,show max a (0-a)=((a.natAbs:Nat):Int) by omega];have bM:=(bf.ab _).F bg;have cp:=jw bJ bM λr f a n c ac bi=>(bc r ⟨a,n,c,ac,bi⟩).1 f;rw[a8 aB.u cp];refine(OJ bh Ω Ω).Y ?_;rintro aZ dt _ ⟨W,gr,scope,ax,cq,du,cr⟩;obtain⟨bj,ct⟩:=W.of;have z3:=bj.size;rw[ds (cs:=#[aZ,.slice ν 0 0,Δ 0,.slice ν 0 0]) (by obtain⟨_,_,_,_,_,rfl,_⟩:=ax.ls;kernel_rfl)];refine bE cv.i λy dv dw az aM=>?_;have aM:=aM;have z4:=az.size;have dx:=aM.lt;have bk:=ax.ls.cells;refine b3 (vs:=[aZ,.slice ν 0 0,Δ 0,.slice ν 0 0]) cv.i rfl rfl (by intro v ac;simp at ac;rcases ac with rfl|rfl|rfl|rfl<;>first|exact bk.2|rfl) aM λaP aD dy cu=>?_;have ah:¬bT g gs A y:=λj=>by have:=ag _ j;omega
 have bO:dE aP g gs A B S ((sC all.length a.natAbs ((bt (-aF) aF s).map (·.2))).map (·.2)):=(ct.W az).ab aD (λr f he=>by have he:r=y:=he;exact ah (he▸f)) (λr f he=>by have:=Q r f.2;have he:r=y:=he;omega);have bP:ai (bT g gs A) w aP:=ja ((bM.F bj).F (az.ab _)) aD λr f he=>by have he:r=y:=he;omega
 have cw:aj aP E cv [.slice ν 0 0,.slice ν 0 0,Δ 0,.slice ν 0 0]:=(((aL.ab bg K).ab bj K).W az).ab aD (λhe=>by have he:E=y:=he;omega);have cA:aH .i64 ay aP gr aZ scope:=bG (ax.W az) aD λr f he=>by
  obtain⟨cB,bh⟩:=cd ax f;have he:r=y:=he;omega
 refine(q4 bO).Y ?_;rintro _ bQ _ ⟨rfl,X⟩;have al:=bO.W X;have aG:=cA.W X;have bm:=cu.W X;have bR:=cw.W X;have dz:=X.size;have z5:=aD.size;have N:∀r,lc aZ r->aa.heap.size<=r/\r≠y/\r≠E:=λr f=>by
  obtain⟨cB,bh⟩:=cd ax f;have:=cq r f;exact⟨this,Ω,Ω⟩
 have J:dA all s=match sC all.length a.natAbs ((bt (-aF) aF s).map (·.2))with
   |none=>ν
   |some (sc,H)=>(kt (sc.map λv=>all.getD v.toNat 0) ((bl 0 aF (σ (br (decide (6<a.natAbs)||dO (sc.map λv=>all.getD v.toNat 0)) H))).map (·.2))).map λq=>((⟨sc,sc.map λv=>all.getD v.toNat 0,((bt 0 aF (br (decide (6<a.natAbs)||dO (sc.map λv=>all.getD v.toNat 0)) H)).map (·.1)).getD 0,q.1⟩:cI),if a<0 then uT (sc.map λv=>all.getD v.toNat 0) q.1 q.2 else q.2):=by
  unfold dA;cases C:bt (-aF) aF s with
  |none=>rfl
  |some q=>
   obtain⟨a',s1⟩:=q;have:=bL _ C;subst this;simp only;show _=match fv all.length a.natAbs s1 with
    |none=>ν
    |some (sc,H)=>_
   cases fv all.length a.natAbs s1 with
   |none=>rfl
   |some q=>
    obtain⟨sc,H⟩:=q;simp only;show _=V8 _ (kt _ ((bt 0 aF _).map (·.2)));cases bt 0 aF (br (decide (6<a.natAbs)||dO (sc.map λv=>all.getD v.toNat 0)) H)with
    |none=>rfl
    |some q=>
     obtain⟨o,G⟩:=q;simp only;show _=V8 _ (ei _ G);cases ei (sc.map λv=>all.getD v.toNat 0) G with
     |none=>rfl
     |some q=>rfl
 rw[bN,cb];cases Y:sC all.length a.natAbs ((bt (-aF) aF s).map (·.2))with
 |none=>
  rw[Y]at al J;simp only at J;refine⟨λ_=>?_,λh=>by simp at h⟩;refine DP rfl (by intro v ac;simp at ac;rcases ac with rfl|rfl|rfl|rfl<;>first|exact bk.2|rfl) bm rfl bR λZ L=>?_;have cC:=L.size;refine⟨A,λr=>(B r\/w.heap.size<=r)/\r<Z.heap.size,_,(scope,[],0,[]),rfl,rfl,ja (bP.F (X.ab _)) L λr f he=>by have he:r=E:=he;omega,λr f=>.inl f,λr f=>f,λr f=>⟨.inl f,by have:=Q r f;omega⟩,?_,?_,λq C=>by rw[J]at C;cases C⟩
  .rw[J];have cD:jd Z g gs A B S (V8 (λx=>x.2) (ν:Option (Λ×aO))):=al.q.ab L (λhe=>by have:=ag g (.inl rfl);have he:g=E:=he;omega) (λr f _ he=>by have he:r=E:=he;exact K (he▸f)) (λr f he=>by have:=Q r f.2;have he:r=E:=he;omega);exact cD
  .refine DN (sD (bG aG L λr f he=>(N r f).2.2 he) λr f=>?_) gH gH;have M:=N r f;have am:=(cd aG f);exact⟨λj=>by have:=ag _ j;omega,.inr Ω,Ω⟩
 |some q=>
  obtain⟨sc,H⟩:=q;have:=cr _ Y;subst this;rw[Y]at al J;simp only at J;refine⟨λh=>by simp at h,λ_=>?_⟩;have al:=al;obtain⟨s1,cE,cF⟩:∃s1,(bt (-aF) aF s).map (·.2)=σ s1/\fv all.length a.natAbs s1=σ (scope,H):=by
   cases C:(bt (-aF) aF s).map (·.2)with
   |none=>rw[C]at Y;cases Y
   |some s1=>rw[C]at Y;exact⟨s1,rfl,Y⟩
  obtain⟨dC,cG,rfl⟩:=Y0.1 cE;have bS:=dT cG;obtain⟨bV,dD,dF,bW⟩:=xJ cF;have bn:=bS.eqs;have bo:=bV.eqs;have cH:ej H:=λO=>by rw[bo.1,bn.1];rw[bo.2.1,bn.2.1]at O;exact hi O
  have cJ:H.m2.length+1+H.hp.length<=100000:=by rw[bo.2.2,bn.2.2];have:=bS.1;have:=bV.1;omega
  generalize bp:(scope.map λv=>all.getD v.toNat 0)=d6 at J;have bY:∀z∈d6,1<=z/\z<=aF:=λz aR=>by
   rw[<-bp]at aR;obtain⟨v,ac,rfl⟩:=l9.1 aR;have:=bW v ac;refine cj _ ?_;rw[r8,v8 Ω];exact S2 _
  have dG:d6.length=scope.length:=by rw[<-bp,r9]
  have bZ:ai (bT g gs A) w bQ:=bP.F (X.ab _);have cK:=jw bJ bZ λr f a n c ac bi=>(bc r ⟨a,n,c,ac,bi⟩).1 f;rw[aN cv.p 0 bm rfl,a8 aB.u aG.ls];refine OL bm aG.ls (λr f=>(N r f).2.1) cK (λr f=>by have:=(bc r f).2;omega) bW Ω λZ hv gz L b0 aT dH=>?_;rw[bp]at aT;have cC:=L.size;have bs:∀r,cZ g gs A B r->¬(λr=>r=y) r:=λr f he=>by have:=Q r f.2;have he:r=y:=he;omega
  have bu:∀r,bT g gs A r->¬(λr=>r=y) r:=λr f he=>by have he:r=y:=he;exact ah (he▸f)
  have b1:=al.ab L bu bs;have cL:ai (bT g gs A) w Z:=ja bZ L λr f he=>by have he:r=y:=he;omega
  refine dh (λaU=>ai (bT g gs A) Z aU/\eC aU g gs A B (br (decide (6<a.natAbs)||dO d6) H) S) ?_ ?_
  rotate_left
  .intro aA aI;rw[bU,ao];refine⟨λdI=>?_,λdJ=>?_⟩
   .refine (uF b1).Y ?_;rintro _ cM _ ⟨cN,cO⟩;refine aI _ ⟨cN.Y λr _ h=>.inl h,?_⟩;rw[ms Ω,Bool.true_or];exact cO
   .rw[aN cv.p 1 b0 rfl];refine(C7 aT.ls λz aR=>(bY z aR).1).Y ?_;rintro _ cM _ ⟨rfl,b2⟩;refine(uF (b1.W b2)).Y ?_;rintro _ dK _ ⟨cP,cQ⟩;refine aI _ ⟨(b2.ab _).F (cP.Y λr _ h=>.inl h),?_⟩;rw[rc Ω,Bool.false_or];exact cQ
  rintro aU ⟨aV,aX⟩;have dL:=aV.size;generalize bd:br (decide (6<a.natAbs)||dO d6) H=G at J aX;have cR:ej G:=λO=>by
   subst bd;have O:(H.big||_)=sp:=O;exact cH (T3.1 O).1
  have dM:G.m2.length+1+G.hp.length<=100000:=by subst bd;exact cJ
  have aX:dE aU g gs A B S (σ G):=aX;refine(nV (lo:=0) (hi:=aF) aX).Y ?_;rintro _ b4 _ ⟨W,o,dN,rfl,aC,dP⟩;obtain⟨aY,cS⟩:=W.of;have dQ:=aY.size;rw[bz,bA,a1 cv.p rfl];have cT:=(b0.ab aV ah).ab aY ah;refine bw (g:=y) (o:=2) ay.i rfl rfl cT Ξ λcU an dR a2=>?_;have a2:=a2;rw[aN cv.p 1 a2 rfl];have cV:=cS.ab an bu bs;have bx:ai (bT g gs A) Z b4:=aV.F aY;have cW:ai (bT g gs A) w b4:=cL.F bx;have b5:ai (bT g gs A) w cU:=ja cW an λr f he=>by have he:r=y:=he;omega
  have ad:∀r,lc hv r->bQ.heap.size<=r/\r<Z.heap.size:=λr f=>by have:=cd aT f;omega
  have b6:=bG (bG aT bx λr f j=>by have:=ag _ j;have:=ad r f;omega) an λr f he=>by have he:r=y:=he;have:=ad r f;omega
  have cX:=bG (bG (bG aG L λr f he=>(N r f).2.1 he) bx λr f j=>by have:=ag _ j;have:=N r f;omega) an λr f he=>(N r f).2.1 he;have dS:=an.size;refine(OI cV (λt bB=>?_) b6.ls (λr f=>⟨λj=>by have:=ag _ j;have:=ad r f;omega,by have:=ad r f;omega⟩) bY Ω (ck.ab b5 h1.1) h1).Y ?_
  .obtain⟨q,C,rfl⟩:=Y0.1 bB;have b7:=(dT C).eqs;intro O;rw[b7.1];rw[b7.2.1]at O;exact cR O
  rintro cz cY _ ⟨W,l,bC,b8⟩;obtain⟨ap,c0⟩:=W.of;have dU:=ap.size;have bD:cz.cells= #[cz]/\cz.oneCell'=s2:=⟨lU bC,iJ bC⟩;rw[a1 cv.p rfl];have c1:=a2.ab ap ah;refine bw (g:=y) (o:=3) ki.i bD.1 bD.2 c1 Ξ λP ae dV a6=>?_;have a6:=a6;have dW:=ae.size;have b9:=c0.ab ae bu bs;have c2:ai (bT g gs A) w cY:=b5.F ap;have c3:ai (bT g gs A) w P:=ja c2 ae λr f he=>by have he:r=y:=he;omega
  have ca:=bG (bG cX ap λr f j=>by have:=ag _ j;have:=N r f;omega) ae λr f he=>(N r f).2.1 he;have a7:=bG (bG b6 ap λr f j=>by have:=ag _ j;have:=ad r f;omega) ae λr f he=>by have he:r=y:=he;have:=ad r f;omega
  have c4:aj P E cv [.slice ν 0 0,.slice ν 0 0,Δ 0,.slice ν 0 0]:=((((((bR.ab L (λhe=>by have he:=he;omega)).ab aV K).ab aY K).ab an (λhe=>by have he:=he;omega)).ab ap K).ab ae (λhe=>by have he:=he;omega));let R:ak:=λr=>(B r\/w.heap.size<=r)/\r<P.heap.size;have cc:aw.rep sp bX (λr=>cZ g gs A R r/\r≠y/\r≠E) P [cz] l:=by
   refine DO (aw.ab bC ae λr f h he=>?_) λr f h=>?_
   .have he:r=y:=he;rcases h with h|h
    .exact h
    .rcases h with h|h
     .have:=Q r h.2;omega
     .omega
   .rcases h with h|h
    .have:=Q r h.2;exact⟨⟨h.1,.inl h.2,f⟩,Ω,Ω⟩
    .exact⟨⟨λj=>by have:=ag _ j;omega,.inr Ω,f⟩,Ω,Ω⟩
  have c5:∀r,lc aZ r->cZ g gs A R r/\r≠y/\r≠E:=λr f=>by
   have M:=N r f;have am:=(cd ca f);exact⟨⟨λj=>by have:=ag _ j;omega,.inr Ω,Ω⟩,M.2⟩
  have ce:∀r,lc hv r->cZ g gs A R r/\r≠y/\r≠E:=λr f=>by
   have M:=ad r f;have am:=(cd a7 f);exact⟨⟨λj=>by have:=ag _ j;omega,.inr Ω,Ω⟩,Ω,Ω⟩
  have c6:Seen (λr=>cZ g gs A R r/\r≠y/\r≠E) P [aZ,hv,Δ o,cz] ((scope,d6,o,l):j2):=DN (sD ca c5) (sD a7 ce) cc;have c7:∀q,dA all s=σ q->((scope,d6,o,l):j2)=je q.1:=λq C=>by
   rw[J]at C;obtain⟨dX,bF,rfl⟩:=Y0.1 C;have M:=b8 _ bF;cases au:bt 0 aF G with
   |none=>have e:bl 0 aF (σ G)=ν:=au;rw[e]at bF;cases bF
   |some af=>
    have am:=aC af au;rw[M,am];rfl
  have c8:∀v∈[aZ,hv,V3 .i64 o,cz],v.oneCell'=s2:=by
   intro v ac;simp at ac;rcases ac with rfl|rfl|rfl|rfl
   .exact bk.2
   .exact a7.ls.cells.2
   .rfl
   .exact bD.2
  have cf:∀r,cZ g gs A B r->cZ g gs A R r/\r≠y/\r≠E:=λr f=>by
   have:=Q r f.2;exact⟨⟨f.1,.inl f.2,Ω⟩,Ω,Ω⟩
  refine dh (λbH=>∃aS,ai (bT g gs A) P bH/\(∀r,aS r->A r\/P.heap.size<=r)/\∃V,nX bH g gs aS V (λr=>cZ g gs A R r/\r≠y/\r≠E) S ((dA all s).map (·.2))) ?_ ?_
  .rintro bH ⟨aS,aJ,aK,V,c9⟩;have dY:=aJ.size;refine DP rfl c8 (a6.ab aJ ah) rfl (c4.ab aJ K) λcg ba=>?_;have dZ:=ba.size;have ch:∀r,bT g gs aS r->¬(λr=>r=E) r:=λr f he=>by
    have he:r=E:=he;subst he;rcases f with f|f|f
    .exact K (.inl f)
    .exact K (.inr (.inl f))
    .rcases aK _ f with f|f
     .exact K (.inr (.inr f))
     .omega
   have ci:∀r,(cZ g gs A R r/\r≠y/\r≠E)->cZ g gs aS (λr=>(B r\/w.heap.size<=r)/\r<cg.heap.size/\(r<P.heap.size\/B r)) r:=λr h=>⟨λj=>h.1.1 (j.imp id (Or.imp id λj=>(aK r j).elim id λbe=>by have:=h.1.2.2;omega)),h.1.2.1,by have:=h.1.2.2;omega,.inl h.1.2.2⟩;have da:=c9.ab ba (ch g (.inl rfl)) (λr f _=>ch r f) (λr f=>f.2.2);refine⟨aS,λr=>(B r\/w.heap.size<=r)/\r<cg.heap.size/\(r<P.heap.size\/B r),_,(scope,d6,o,l),rfl,rfl,ja (c3.F aJ) ba λr f he=>by have he:r=E:=he;omega,λr f=>(aK r f).imp id λh=>Ω,λr f=>⟨f.1,f.2.1⟩,λr f=>⟨.inl f,by have:=Q r f;omega,.inr f⟩,da.out ci λr f=>f.2.1,?_,c7⟩;refine DO (aw.ab (aw.ab c6 aJ λr _ h j=>?_) ba λr _ h he=>?_) λr _ h=>ci r h
   .rcases h with h|h
    .exact h
    .exact h.1.1 j
   .rcases h with h|h
    .exact h
    .exact h.2.2 he
  .intro aA aI;rw[ao];refine⟨λdb=>?_,λdc=>?_⟩
   .intro bI av _ _;have ea:=av.size;have dd:∀r,(cZ g gs A R r/\r≠y/\r≠E)->cZ g gs A (q5 bI.heap.size) r:=λr h=>⟨h.1.1,by have:=h.1.2.2;show r<bI.heap.size;omega⟩;refine OK (b9.W av) cf dd (λt bB=>?_) (a6.W av) (sD (a7.W av) ce) (bq cc av) λeb aS de aK df=>?_
    .obtain⟨q,C,rfl⟩:=Y0.1 bB;cases au:bt 0 aF G with
     |none=>have e:bl 0 aF (σ G)=ν:=au;rw[e]at C;cases C
     |some af=>
      have e:bl 0 aF (σ G)=σ af:=au;rw[e]at C;have h1:q.2.m2=af.2.m2/\q.2.hp.length<=af.2.hp.length:=DQ (l:=q.1) (s':=q.2) C;have M:=dT (n:=af.1) (s':=af.2) au;have am:=M.eqs.2.2;have ec:=M.1;rw[h1.1,am];have:=h1.2;omega
    .refine aI _ ⟨aS,(av.ab _).F de,λr f=>(aK r f).imp id λh=>Ω,q5 bI.heap.size,?_⟩;have e:(dA all s).map (·.2)=((kt d6 ((bl 0 aF (σ G)).map (·.2))).map (·.2)).map (uT d6 l):=by
      rw[J];cases C:kt d6 ((bl 0 aF (σ G)).map (·.2))with
      |none=>rfl
      |some q=>
       have M:=b8 _ C;simp only[Y7,m3 db,M]
     rw[e];exact df
   .refine aI _ ⟨A,ai.refl _ _,λr f=>.inl f,B,?_⟩;have e:(dA all s).map (·.2)=(kt d6 ((bl 0 aF (σ G)).map (·.2))).map (·.2):=by
     rw[J];cases C:kt d6 ((bl 0 aF (σ G)).map (·.2))with
     |none=>rfl
     |some q=>simp only[Y7,m5 dc]
    rw[e];exact b9.qr cf
def nY(l:Λ):Prop:=∀v∈l,0<=v/\v<64
theorem DR(h:nY l){v:Int}:v∈bJ l↔v∈l:=by
 unfold bJ;rw[S6,ro];refine⟨λh=>h.2,λac=>⟨?_,ac⟩⟩;obtain⟨h1,a⟩:=h v ac;exact l9.2 ⟨v.toNat,by grind,Ω⟩
theorem ON(l:Λ):nY (bJ l):=λv ac=>by
 obtain⟨n,a,rfl⟩:=l9.1 (S6.1 ac).1
 grind
theorem ya(l:Λ):(bJ l).Pairwise (·< ·):=by
 grind [bJ,List.pairwise_lt_range]
theorem DS(l:Λ):(bJ l).Nodup:=(ya l).imp Ω
where
 nodup_le' {a b:Λ} (h:a.Nodup) (V:∀x∈a,x∈b):a.length<=b.length:=by
  induction a generalizing b with
  |nil=>grind
  |cons x a ih=>
   have be:=List.nodup_cons.1 h;have J:=V x (.head _);have:=ih be.2 λy hy=>(List.mem_erase_of_ne (λ(he:y=x)=>be.1 (by rw[<-he];exact hy))).2 (V y (.tail _ hy))
   grind
theorem DT(n:Nat):(0:Int)<64 ^ n:=Int.pow_pos Ω
theorem uU:∀(l:Λ),nY l->0<=kR l/\kR l<64 ^ l.length
 |[],_=>by simp[kR]
 |x::l,h=>by
  have f:=uU l λy a=>h y (.tail _ a);have J:=h x (.head _);have ae:=DT l.length;simp only[kR,W5];have e:(64:Int) ^ (l.length+1)=64*64 ^ l.length:=Ω
  have h1:x*64 ^ l.length<=63*64 ^ l.length:=Int.mul_le_mul_of_nonneg_right Ω Ω;have j:0<=x*64 ^ l.length:=Int.mul_nonneg J.1 Ω;omega
def j3:Λ->Λ->Int
 |x::a,y::b=>if x<y then-1 else if y<x then 1 else j3 a b
 |[],[]=>0
 |[],_::_=>-1
 |_::_,[]=>1
theorem DU:∀(a b:Λ),a.length=b.length->nY a->nY b->(j3 a b<0↔kR a<kR b)/\(j3 a b=0↔a=b)/\(kR a=kR b->a=b)
 |[],[],_,_,_=>by simp[j3]
 |[],_::_,h,_,_=>by simp at h
 |_::_,[],h,_,_=>by simp at h
 |x::a,y::b,h,s,w=>by
  have f:a.length=b.length:=by grind
  have j:=λz e=>s z (.tail _ e);have q:=λz e=>w z (.tail _ e);have B:=DU a b f j q;have A:=uU a j;have C:=uU b q;have ae:=DT b.length;simp only[j3,kR];rw[f]at A ⊢;have step:∀u v:Int,u<v->u*64 ^ b.length+64 ^ b.length<=v*64 ^ b.length:=λu v E=>by
   have:=Int.mul_le_mul_of_nonneg_right (show u+1<=v by omega) (show(0:Int)<=64 ^ b.length by omega)
   grind
  by_cases h1:x<y
  .grind
  .rw[m5 h1];by_cases r:y<x
   .rw[m3 r];have:=step y x r
    grind
   grind
def l3(l:Λ):Prop:=nY l/\l.length<=6
theorem DV(h:l3 l):0<=kR l/\kR l<64 ^ 6:=by
 have:=uU l h.1;have e:(64:Int) ^ l.length<=64 ^ 6:=by
  have a:=h.2
  match l.length,a with
  |0,_=>decide
  |1,_=>decide
  |2,_=>decide
  |3,_=>decide
  |4,_=>decide
  |5,_=>decide
  |6,_=>decide
  |n+7,h=>omega
 omega
theorem yb{b:Λ}(f:l3 a)(h:l3 b):(dv a<dv b↔a.length<b.length\/(a.length=b.length/\j3 a b<0))/\(dv a=dv b->a=b):=by
 have h1:=DV f;have j:=DV h;have e:(64:Int) ^ 6=68719476736:=Φ
 rw[e]at h1 j;unfold dv;rw[e];by_cases q:a.length=b.length
 .have:=DU a b q f.1 h.1
  grind
 omega
theorem yc(g:c5):∀l:List c5,(jy g l).Perm (g::l)
 :=by
 intro a;induction a<;>grind [jy]
theorem OO{g:c5}:∀{l:List c5},l.Pairwise (λa b=>dv a.1<dv b.1)->(∀h∈l,dv h.1≠dv g.1)->(jy g l).Pairwise (λa b=>dv a.1<dv b.1)
 :=by
 intro a;induction a<;>grind [jy,List.pairwise_cons,yc]
theorem DW:∀(l acc:List c5),acc.Pairwise (λa b=>dv a.1<dv b.1)->l.Pairwise (λa b=>dv a.1≠dv b.1)->(∀a∈acc,∀b∈l,dv a.1≠dv b.1)->
  (l.foldl (λl g=>jy g l) acc).Pairwise (λa b=>dv a.1<dv b.1)/\(l.foldl (λl g=>jy g l) acc).Perm (acc++l)
 |[],acc,h,_,_=>by grind
 |g::l,acc,h,e,j=>by
  have f:=List.pairwise_cons.1 e;have:=DW l (jy g acc) (by grind [OO]) f.2 (by grind [yc])
  grind [yc]
theorem yd{α:Type}{f:α->Int}:∀{L M:List α},L.Pairwise (λa b=>f a<f b)->M.Pairwise (λa b=>f a<f b)->(∀x,x∈L↔x∈M)->L=M
 |[],M,_,_,h=>by
  cases M with
  |nil=>rfl
  |cons y M=>exact m6 ((h y).2 (.head _)) Ξ
 |x::L,[],_,_,h=>m6 ((h x).1 (.head _)) Ξ
 |x::L,y::M,h1,e,h=>by
  have j:=List.pairwise_cons.1 h1;have q:=List.pairwise_cons.1 e;have r:x=y:=by
   grind
  subst r;rw[yd j.2 q.2 λz=>⟨λs=>?_,λs=>?_⟩]
  all_goals grind
structure gq(d6:Λ)(k:Int)(g:c5):Prop where
 scope:l3 g.1
 up:g.1.Pairwise (·< ·)
 d9:∀v∈g.1,v<d6.length
 len:g.2.length=(aX (b5 d6 g.1)).toNat
 small:aX (b5 d6 g.1)<=4096
 jf:∀c∈g.2,0<=c/\c<=k
theorem pT{sc:Λ}(a:∀z∈d6,1<=z/\z<=32)(ac:∀v∈sc,0<=v/\v<d6.length):∀z∈b5 d6 sc,1<=z/\z<=32:=λz h=>by
 obtain⟨v,e,rfl⟩:=l9.1 h
 grind [S2]
theorem OP{b:Λ}(h:a.Perm b):aX a=aX b:=by
 induction h<;>grind [aX]
theorem OQ{b:Λ}(h:a.length=b.length):(eP k a b).length=b.length:=by simp[eP,h]
theorem OR{b:Λ}(hk:0<=k)(f:∀c∈a,0<=c/\c<=k)(h:∀c∈b,0<=c/\c<=k):∀c∈eP k a b,0<=c/\c<=k:=by
 induction a generalizing b with
 |nil=>intro c e;simp[eP]at e
 |cons x a j=>
  cases b with
  |nil=>intro c e;simp[eP]at e
  |cons y b=>
   intro c e;have J:=f x (.head _);have q:=h y (.head _);rcases List.mem_cons.1 (show c∈min (x+y) k::eP k a b from e)with rfl|e
   .omega
   .exact j (by grind) (by grind) c e
def kT(l:List c5):Prop:=(l.map (·.1)).Nodup
theorem OS{acc:List c5}{g:c5}(hk:0<=k)(f:∀h∈acc,gq d6 k h)(j:kT acc)(a:gq d6 k g):(∀h∈jZ k acc g,gq d6 k h)/\kT (jZ k acc g)/\(jZ k acc g).length<=acc.length+1:=by
 unfold jZ;split
 .refine⟨λh ax=>?_,?_,Ξ⟩
  .obtain⟨e,hm,rfl⟩:=l9.1 ax;have h1:=f e hm;split
   .rename_i he;have q:e.2.length=g.2.length:=by rw[h1.len,a.len,he]
    exact⟨h1.scope,h1.up,h1.d9,by grind [OQ,gq.len],h1.small,OR hk h1.jf a.jf⟩
   .exact h1
  grind [kT]
 grind [kT]
theorem ye{d6:Λ}{k:Int}(hk:0<=k):∀{l acc:List c5},(∀h∈acc,gq d6 k h)->kT acc->(∀g∈l,gq d6 k g)->(∀h∈l.foldl (jZ k) acc,gq d6 k h)/\kT (l.foldl (jZ k) acc)/\(l.foldl (jZ k) acc).length<=acc.length+l.length
 |[],acc,a,e,_=>by grind
 |g::l,acc,a,e,f=>by
  obtain⟨h1,j,q⟩:=OS hk a e (f g (.head _));obtain⟨r,s,w⟩:=ye hk h1 j λx J=>f x (.tail _ J)
  grind
theorem uV(h:nY l)(a:l.Nodup):(bJ l).Perm l:=by grind [DS,DR]
theorem yf:∀{l:Λ},(∀z∈l,1<=z/\z<=32)->l.map (λz=>min z 4097)=l
 |[],_=>rfl
 |z::l,h=>by
  have a:=h z (.head _);rw[List.map_cons,yf (by grind)]
  grind
theorem OT{x:cI}(hk:0<=k)(aC:0<=x.other)(a:∀p∈x.lines,0<=p.2):0<=li x k t/\li x k t<=k:=by
 grind [li]
theorem uW{x:cI}(h:uB all N x)(a:all.length<=64):nY x.scope:=λv ac=>by
 have:=h.scope.2 v ac;omega
theorem q6{f:cn}{x:cI}(ah:fG N f)(J:x∈f.ho):gq f.d6 f.k (jY f.d6 f.k x):=by
 obtain⟨h1,h,s⟩:=ah.ho x J;have j:=ah.d6.2.1;have ac:=uW h1 j;have ae:=uV ac h1.scope.1;have a:∀v∈bJ x.scope,0<=v/\v<f.d6.length:=λv hm=>h1.scope.2 v (by grind);have q:=pT ah.d6.2.2 a;have w:aX (b5 f.d6 (bJ x.scope))=aX x.d6:=by rw[h1.d6];exact OP (ae.map _)
 refine⟨⟨ON _,?_⟩,ya _,λv hm=>(a v hm).2,?_,?_,λc r=>?_⟩
 .show (bJ x.scope).length<=6;rw[ae.length_eq];exact h
 .show ((bs _).map _).length=_;rw[r9,jt q];rfl
 .show aX (b5 f.d6 (bJ x.scope))<=4096;have y:∀z∈x.d6,1<=z/\z<=32:=λz e=>by
   rw[h1.d6]at e;exact pT ah.d6.2.2 (by grind) z e
  grind [dO,yf]
 .obtain⟨t,_,rfl⟩:=l9.1 r;exact OT (by have:=ah.k.1;omega) h1.other λp ae=>(h1.lines.2 p ae).2
theorem mV{f:cn}(ah:fG N f):(∀g∈gm f,gq f.d6 f.k g)/\kT (gm f)/\(gm f).length<=f.ho.length:=by
 have:=ye (k:=f.k) (by have:=ah.k.1;omega) (acc:=[]) (by grind) List.nodup_nil λg e=>by
  obtain⟨x,J,rfl⟩:=l9.1 e;exact q6 ah J
 refine⟨this.1,this.2.1,?_⟩;have a:=this.2.2;rw[List.length_nil,r9,V0]at a;exact a
theorem DX{l:List c5}(e:∀g∈l,gq d6 k g)(q:kT l):l.Pairwise λa b=>dv a.1≠dv b.1:=by
 have h1:l.Pairwise λa b=>a.1≠b.1:=by
  grind [kT]
 exact h1.imp_of_mem λ{a b}f h j he=>j ((yb (e a f).scope (e b h).scope).2 he)
theorem sE{f:cn}(ah:fG N f):(gn f).Pairwise (λa b=>dv a.1<dv b.1)/\(gn f).Perm ((gm f).filter gl):=by
 obtain⟨h1,h,_⟩:=mV ah;have j:∀g∈(gm f).filter gl,gq f.d6 f.k g:=by grind
 have q:kT ((gm f).filter gl):=(List.Sublist.map _ List.filter_sublist).nodup h;have:=DW ((gm f).filter gl) [] List.Pairwise.nil (DX j q) (by grind);refine⟨this.1,?_⟩;have e:=this.2;rw[List.nil_append]at e;exact e
theorem uX{f:cn}(ah:fG N f):∀g∈gn f,gq f.d6 f.k g:=by grind [mV,sE]
theorem OU{f:cn}(ah:fG N f){M:List c5}(ae:M.Perm ((gm f).filter gl))(V:M.Pairwise λa b=>dv a.1<=dv b.1):M=gn f:=by
 obtain⟨h1,r⟩:=sE ah;have e:kT ((gm f).filter gl):=(List.Sublist.map _ List.filter_sublist).nodup (mV ah).2.1;have h:=(ae.map (λg:c5=>g.1)).nodup_iff.2 e;have j:∀g∈M,gq f.d6 f.k g:=by grind [mV]
 have q:=DX j h;refine yd ?_ h1 (by grind);exact V.imp₂ Ω q
structure kU(n:aJ):Prop where
 k:1<=n.k/\n.k<=2147483648
 d6:1<=n.d6.length/\n.d6.length<=64/\∀z∈n.d6,1<=z/\z<=32
 zero:0<=n.zero/\n.zero<=n.k
 l4:n.unary.length=n.d6.length
 unary:∀(i:Nat)(z:Int)(u:Λ),n.d6[i]?=σ z->n.unary[i]?=σ u->u.length=z.toNat/\∀c∈u,0<=c/\c<=n.k
 ho:∀g∈n.ho,gq n.d6 n.k g/\2<=g.1.length
theorem OV(z:Int):aX [z]=z:=by simp[aX]
theorem uY:∀{l:List c5}{n:aJ},kU n->(∀g∈l,gq n.d6 n.k g)->kU (l.foldl (λn g=>match g.1 with
 |[]=>{n with zero:=g.2.getD 0 0}
 |[v]=>{n with unary:=n.unary.set v.toNat g.2}
 |_=>{n with ho:=n.ho++[g]}) n)/\(l.foldl (λn g=>match g.1 with
 |[]=>{n with zero:=g.2.getD 0 0}
 |[v]=>{n with unary:=n.unary.set v.toNat g.2}
 |_=>{n with ho:=n.ho++[g]}) n).d6=n.d6
 |[],n,h,_=>⟨h,rfl⟩
 |g::l,n,h,j=>by
  have e:=j g (.head _);have f:∀x∈l,gq n.d6 n.k x:=by grind
  rw[List.foldl_cons];obtain⟨sc,cs⟩:=g
  match sc,e with
  |[],e=>
   have w:=e.len;refine uY ⟨h.k,h.d6,?_,h.l4,h.unary,h.ho⟩ f;have h1:cs.length=1:=by grind [b5,aX]
   have q:cs[0]?=σ (cs.getD 0 0):=by grind
   exact e.jf _ (x7 q)
  |[v],e=>
   have ac:=e.scope.1 v (.head _);have y:=e.d9 v (.head _);refine uY ⟨h.k,h.d6,h.zero,by grind [kU.l4],λi z u s hu=>?_,h.ho⟩ f;by_cases hi:v.toNat=i
   .subst hi;have A:=h.l4;rw[Z6 Ω]at hu;cases hu;have B:b5 n.d6 [v]=[z]:=by
     grind [b5]
    refine⟨?_,e.jf⟩;have:=e.len
    grind [OV]
   .rw[Y9 hi]at hu;exact h.unary i z u s hu
  |a::b::r,e=>
   refine uY ⟨h.k,h.d6,h.zero,h.l4,h.unary,λx J=>?_⟩ f;rcases j5.1 J with J|J
   .exact h.ho x J
   grind
theorem DY{f:cn}(ah:fG N f):kU (cY f)/\(cY f).d6=f.d6:=by
 unfold cY;have e:=ah.d6;refine uY ⟨ah.k,e,⟨by grind,by show(0:Int)<=f.k;have:=ah.k.1;omega⟩,Ξ,λi z u h1 a=>?_,by grind⟩ (uX ah);have a:(f.d6.map λz=>o5 z.toNat (0:Int))[i]?=σ u:=a;have h1:=h1;rw[u4,h1]at a;cases a;refine⟨Ξ,λc h=>?_⟩;rw[(List.mem_replicate.1 h).2];have:=ah.k.1
 grind
def mW(x:cI)(k:Int)(i:Nat)(t:Λ):Int:=match(x.lines.take i).find? (λp=>decide (p.1=t))with
 |some p=>min p.2 k
 |none=>min x.other k
theorem DZ(x:cI)(k:Int)(t:Λ):mW x k 0 t=min x.other k:=by simp[mW]
theorem D0(x:cI)(k:Int)(t:Λ):mW x k x.lines.length t=li x k t:=by
 unfold mW li;rw[o9]<;>cases x.lines.find? (λp=>decide (p.1=t))<;>rfl
theorem D1{x:cI}{i:Nat}{p:Λ×Int}(a:(x.lines.map (·.1)).Nodup)(hi:x.lines[i]?=σ p)(t:Λ):mW x k (i+1) t=if t=p.1 then min p.2 k else mW x k i t:=by
 unfold mW;rw[u9,hi,j4,List.find?_append];by_cases e:t=p.1
 all_goals grind [Y8,U1]
theorem uZ{v:Int}(h:v∈l):l[l.idxOf v]?=σ v:=by
 grind
theorem OW{i:Nat}{v:Int}(a:l.Nodup)(h:l[i]?=σ v):l.idxOf v=i:=by
 grind
def gL(scope a:Λ):Λ:=a.map λv=>((scope.idxOf v:Nat):Int)
theorem u0{h:Λ}(q:scope.Nodup)(a:h.Perm scope):Good (gL scope h) scope.length:=by
 have r:=a.nodup_iff.2 q;refine⟨by simp[gL,a.length_eq],λi p ae=>?_⟩;unfold gL at ae;rw[u4]at ae;obtain⟨v,ac,rfl⟩:=Y0.1 ae;have hm:v∈scope:=a.mem_iff.1 (x7 ac);have x:=List.idxOf_lt_length_iff.2 hm;refine⟨Ω,λj y f=>?_⟩;unfold gL at f;rw[u4]at f;obtain⟨u,hu,he⟩:=Y0.1 f;have s:=a.mem_iff.1 (x7 hu);have e:scope.idxOf u=scope.idxOf v:=Ω
 have h1:=uZ s;rw[e,uZ hm]at h1;have w:v=u:=Z5 h1;subst w;have z:=OW r hu
 grind
theorem OX{v:Int}(ac:a[j]?=σ v):(gL scope a)[j]?=σ ((scope.idxOf v:Nat):Int):=by
 grind [gL]
theorem OY(e:scope.Nodup)(f:a.Perm scope):fh (b5 d6 scope) (gL scope a)=b5 d6 a:=by
 refine Y3 λj=>?_
 grind [uz,gL,b5,u0,CR,u7,uZ]
theorem D2(f:scope.Nodup)(h:a.Perm scope)(q:t.length=scope.length):oF (gL scope a) t=qW scope a t:=by
 have r:=u0 f h;refine(CQ r q (by simp[qW]) λj p e=>?_).symm;unfold gL at e;rw[u4]at e
 grind [Y0,T9.length_eq,qW,u7]
theorem OZ{f:cn}{x:cI}(ah:fG N f)(J:x∈f.ho)(C:cs.length=(aX x.d6).toNat)(r:∀t,dF x.d6 t->bu x.d6 cs t=li x f.k t):
  fh x.d6 (gL x.scope (bJ x.scope))=b5 f.d6 (bJ x.scope)/\pL x.d6 cs (gL x.scope (bJ x.scope))=(jY f.d6 f.k x).2:=by
 obtain⟨h1,E,F⟩:=ah.ho x J;have ac:=uW h1 ah.d6.2.1;have ae:=uV ac h1.scope.1;have s:=h1.d6;have a:fh x.d6 (gL x.scope (bJ x.scope))=b5 f.d6 (bJ x.scope):=by rw[s];exact OY h1.scope.1 ae
 have w:=u0 h1.scope.1 ae;have y:∀v∈bJ x.scope,0<=v/\v<f.d6.length:=λv hm=>h1.scope.2 v (by grind);have e:dS (b5 f.d6 (bJ x.scope)):=pT ah.d6.2.2 y;refine⟨a,?_⟩;have z:x.d6.length=x.scope.length:=by grind
 unfold pL;rw[a];show _=(bs (b5 f.d6 (bJ x.scope))).map λt=>li x f.k (qW x.scope (bJ x.scope) t);refine Y3 λq=>?_;rw[u4,u4];have G:=nT e;by_cases h:q<(aX (b5 f.d6 (bJ x.scope))).toNat
 .have A:=se e (i:=q) Ω;rw[A,List.getElem?_range h];simp only[Y7];have B:=xE e h;have j:(dz (b5 f.d6 (bJ x.scope)) q).length=x.scope.length:=by rw[kN];simp[b5,ae.length_eq]
  rw[D2 h1.scope.1 ae j,r];have:=Nk w z (by rw[a];exact B);rw[D2 h1.scope.1 ae j]at this;exact this
 grind [jt]
theorem O0{e:Λ}(V:dS an)(h1:a.length=(aX an).toNat)(f:e.length=(aX an).toNat):
  eP k a e=(X0 (aX an).toNat).map λ(q:Nat)=>min (bu an a (dz an q)+bu an e (dz an q)) k:=by
 grind [xD,eP,List.zipWith_self]
theorem O1{m:Nat}{d:List (x4×x4)}{a:List (Λ)}(f:aj w dB kj [.map (σ m)])(hm:de w m d)(j:d.map (·.1)=a.map eD)(e:q3 a)(B:a.length<65536):
  aq x8 Lo [.func (.func nG) #[] #[Γ dB],Du] w λv I=>Ext w I/\∃g M,M.Perm a/\uR iA M 0 M.length/\pP I g v M:=by
 refine aE func261 ?_;refine(N0 f hm j (λq h=>(e q h).1) Ω).Y ?_;rintro v U _ ⟨s,g,L,dd,ae,x⟩;refine(Od x (e.perm ae) (by rw[ae.length_eq];omega)).Y ?_;rintro _ aa _ ⟨y,M,z,hu,A⟩;exact⟨s.then y (λr C h=>by have:=dd r h;omega),g,M,z.F ae,hu,A⟩
theorem D3{α β:Type}{f:α->β}:∀{M:List β}{D:List α},M.Perm (D.map f)->∃L:List α,L.Perm D/\L.map f=M
 |[],D,h=>by
  have h1:=h.length_eq;simp at h1;have:D=[]:=j6 h1.symm;exact⟨[],by rw[this],rfl⟩
 |x::M,D,h=>by
  have J:x∈D.map f:=h.mem_iff.1 (.head _);obtain⟨p,ae,rfl⟩:=l9.1 J;obtain⟨A,B,rfl⟩:=List.append_of_mem ae;have a:(f p::M).Perm (f p::(A++B).map f):=h.F (by
   rw[Z2,List.map_cons,Z2];exact List.perm_middle)
  obtain⟨L,e,j⟩:=D3 (T9.cons_inv a);exact⟨p::L,(e.cons p).F List.perm_middle.symm,by rw[List.map_cons,j]⟩
theorem D4{g:Nat}{cs:List x4}(r:a.length=6)(s:n<=6)(e:cs=ints .i8 a)(f:aj w g cO cs):aQ .i8 w (.slice (σ (if 6=0 then⟨g,0,ν⟩else⟨g,0+0*1,ν⟩)) (n-0) (6-0)) (a.take n):=by
 subst e;rw[m5 Ω];unfold aQ;have h:(a.take n).length=n:=by rw[Z3];omega
 rw[h];refine⟨Θ,g,0,_,6,rfl,Ω,by simp[maxLen],λ_=>rfl,λj v ac=>?_⟩;have q:=(x6.1 ac).1;refine f.range j v ?_;rw[ints,List.map_take,V1 (by simp[ints]at q;omega)]at ac;exact ac
def O2(D L:Told):Prop:=L.Perm D/\uR (λp=>iA (pad p.1)) L 0 L.length
theorem O3{g m:Nat}{o:Int}{D:Told}(h:e8 w g m an k o D)(ba:D.length<65536):aq x8 KH [Γ g] w λv I=>Ext w I/\∃L:Told,O2 D L/\bB (e7 w.heap.size) bX I [v] L:=by
 obtain⟨⟨sv,gs,X,hm⟩,bb,V,bR,az⟩:=id h;have bd:q3 (D.map λp=>pad p.1):=λbS hk=>by
  obtain⟨p,ae,rfl⟩:=l9.1 hk;exact sr V (az p ae).1
 refine aE func198 ?_;rw[dl fg.u];simp only[b8,bc];rw[aP gj.p 3 X rfl];refine NY.Y ?_;rintro _ U _ ⟨Y,dB,rfl,bT,bf⟩;refine(O1 bf (bb.W Y) (by rw[T5,T5];rfl) bd (by simpa using ba)).Y ?_;rintro bU aa _ ⟨aA,bV,M,bg,bh,aB⟩;obtain⟨L,Z,K⟩:=D3 bg;have aD:M.length=L.length:=by rw[<-K];simp
 have bW:=Z.length_eq;have s1:=Y.size;have bY:=aA.size;have aF:=Y.F aA;rw[ek k8.u aB];refine ce.range L.length (λi out e=>Ext aa e/\bB (e7 aa.heap.size) bX e [out] (L.take i)) Ω ⟨Ext.refl _,by rw[List.take_zero];exact gH⟩ ?_ ?_
 rotate_left
 .rintro out e bi ⟨B,aC⟩;rw[aD];simp only[aW,ao];refine⟨λh=>Ω,λ_=>⟨aF.F B,L,⟨Z,λp q x y h1 bj bZ J bl=>?_⟩,?_⟩⟩
  .exact bh p q (pad x.1) (pad y.1) h1 bj Ω (by rw[<-K,u4,J];rfl) (by rw[<-K,u4,bl];rfl)
  .rw[o9]at aC;exact aw.Y aC (λr _ h=>by have h:=h;show w.heap.size<=r;omega) λ_ _ h=>h
 rintro i out e bi hi ⟨B,aC⟩ bm;obtain⟨⟨t,c⟩,ad⟩:∃p,L[i]?=σ p:=⟨_,v8 hi⟩;have af:(t,c)∈D:=Z.mem_iff.1 (x7 ad);have ag:=(az _ af).1;have aG:=xS V ag;have ah:t.length=an.length:=aG.1;have aJ:=V.1;have bn:nU (pad t):=sr V ag;have N:=bn.1;have bo:M[i]?=σ (pad t):=by rw[<-K,u4,ad];rfl
 rw[aD];simp only[aW,ao];refine⟨λ_=>?_,λh=>Ω⟩;rw[Oc rfl (aB.W B) bo];refine bE cO.i λav b0 b1 aK aL=>?_;refine sq N rfl aL λbp br b2 O=>?_;have b4:=aK.size;have b5:=aL.lt;have bs:Ext e bp:=aK.put br Ω;intro aM E _ _;have ak:=bs.F E;have am:=(aF.F B).F ak;have aO:=h.W am;obtain⟨⟨b6,b9,ca,cb⟩,cc,_⟩:=id aO;have cd:=ak.size;rw[aP gj.p 3 (X.W am) rfl,pO N (O.W E).range];refine NS aO ag (λf bt=>?_) (λbu=>m6 rfl (bu _ af));have bx:f=c:=by
  have:=Dj h.nodup bt af rfl;exact congrArg Prod.snd this
 subst bx;simp only[Bool.false_eq_true,if_false];rw[ds (cs:=#[.slice ν 0 0,Δ f]) Ψ];refine bE gY.i λP cf cg ap aQ=>?_;refine⟨.inl ap,?_⟩;refine b3 (vs:=[.slice ν 0 0,Δ f]) gY.i rfl rfl (by intro v ac;simp at ac;rcases ac with rfl|rfl<;>rfl) aQ λC bz ch aS=>?_;have ci:=ap.size;have cj:=aQ.lt;have Q:Ext aM C:=ap.put bz Ω;have aT:=ak.F Q;have aU:=am.F Q;rw[aP gj.p 0 (X.W aU) rfl,a8 au.u (hm.ls.W aU)];rw[uf cO.u gF.i (l:=0) (h:=an.length) (m:=6) kl (px _ _ rfl) fD Ω Ω Ω];have aV:=D4 N aJ rfl ((O.W E).W Q);rw[<-ah,De]at aV;rw[<-ah,a8 mA.u aV];have bA:=(O.W E).W Q;have ck:av<aM.heap.size:=(O.W E).lt;have cl:P<C.heap.size:=aS.lt;refine b7.range t.length (λj s=>ai (λr=>r=P\/C.heap.size<=r) C s/\∃aY gt,C.heap.size<=gt/\aj s P gY [aY,Δ f]/\aH .i64 al s gt aY (t.take j)) Ω ⟨ai.refl _ _,_,C.heap.size,o6 _,aS,aH.nil _ _ _ _⟩ ?_ ?_
 .rintro j s bC bD ⟨z,aY,gt,bF,S,W⟩ bG;obtain⟨x,ax⟩:=aI (l:=t) bD;have cm:=aG.2 x (x7 ax);have cn:Ext e s:=aT.then z (λr aX he=>by rcases he with rfl|he<;>omega);have aZ:=D4 N aJ rfl (bA.ab z (λhe=>by rcases he with he|he<;>omega));rw[<-ah,De]at aZ;simp only[aW,ao];refine⟨λ_=>?_,λh=>Ω⟩;rw[bk mA.u gF.i Ψ aZ ax,aN gY.p 0 S rfl,fR gF.u al.u,lm Ω Ω];refine e6 au.u al.i rfl λa ga bI cp A bJ=>?_;refine kL au.u al.i rfl (W.W A) bJ.ls Θ Θ λa2 bK bL cq G H=>?_;have bM:=z.size;have bN:=A.size;have cr:=H.size;rw[a1 gY.p rfl];refine bw (g:=P) (o:=0) au.i G.ls.cells.1 G.ls.cells.2 ((S.W A).ab H (λhe=>by have he:=he;omega)) Ξ λct a6 cu bO=>?_;simp only[aR];refine bG _ ⟨((z.F (A.ab _)).F (H.Y λr _ he=>.inr (by have he:r=gt:=he;omega))).F (a6.Y λr _ he=>.inl he),a2,bK,Ω,bO,?_⟩;rw[u9,ax];exact G.ab a6 (λ_ he=>by have he:=he;omega)
 .rintro s bC ⟨z,aY,gt,bF,S,W⟩;simp only[aW,ao];refine⟨λh=>Ω,λ_=>?_⟩;rw[o9]at W;rw[bH gY.p gY.i rfl S.range];have bM:=z.size;have bP:=aT.then z (λr aX he=>by rcases he with rfl|he<;>omega);have a7:bB (e7 e.heap.size) bX s [aY,Δ f] (t,f):=⟨[aY],[Δ f],e7 e.heap.size,bX,rfl,λ_ h=>h,λ_ h=>h.elim,λ_ _ _ h=>h,aw.Y (mD W) (λr _ h=>by subst h;show e.heap.size<=r;omega) (λ_ _ h=>h),rfl⟩;refine jU (α:=Λ×Int) (R:=bX) qE.u gY.i Φ rfl a7 λu bI A _ bQ=>?_;have ay:=bP.F A;have bN:=ay.size;refine oz qE.u gY.i rfl (bq (nO aC) ay) bQ (bq a7 A) (λr _ h be=>?_) Θ Θ λa2 bL G H=>?_
  .rcases be with be|be
   .have:=h.2;have:e.heap.size<=r:=be;omega
   .exact be
  simp only[aR];have cw:=B.size;refine bm _ _ ⟨(B.F ay).then H (λr aX h=>by have h:=h.1;have h:=h;omega),?_⟩;rw[u9,ad];refine aw.Y G (λr _ h=>?_) λ_ _ h=>h;show aa.heap.size<=r;rcases h with h|h|h
  .exact h.1
  .have h:=h;omega
  .omega
theorem D5{s:Λ}(V:dS s):t∈bs s↔dF s t:=by
 refine⟨λh=>?_,λ⟨n,h⟩=>x7 (lX V h)⟩;obtain⟨i,hi⟩:=Y8.1 h;exact⟨_,kr V hi⟩
theorem D6:∀{s:Λ},dS s->(bs s).Pairwise λa b=>iA a<iA b
 |[],_=>by simp[bs]
 |k::s,V=>by
  have z:=D6 V.tail;have f:∀t∈bs s,0<=iA t/\iA t<32 ^ s.length:=λt q=>by
   have ac:=(D5 V.tail).1 q;have h1:=pK.1 ac;have r:=uQ t λx J=>by
    obtain⟨i,hi,rfl⟩:=List.getElem_of_mem J;obtain⟨a,e⟩:=aI (l:=s) (i:=i) Ω;have B:=h1.2 i a _ e (v8 hi);have C:=(V.tail a (x7 e)).2;omega
   rw[h1.1];exact r
  have j:∀t∈bs s,t.length=s.length:=λt q=>ui q;show((X0 k.toNat).flatMap λ(v:Nat)=>(bs s).map λt=>(v:Int)::t).Pairwise _;rw[List.pairwise_flatMap];refine⟨λv _=>?_,?_⟩
  .rw[List.pairwise_map];refine z.imp_of_mem λ{a b}e f h=>?_;simp only[iA,j a e,j b f];omega
  .refine List.pairwise_lt_range.imp λ{u v}E x J y A=>?_;obtain⟨a,e,rfl⟩:=l9.1 J;obtain⟨b,w,rfl⟩:=l9.1 A;simp only[iA,j a e,j b w];have h1:=f a e;have r:=f b w;have:=Int.mul_le_mul_of_nonneg_right (show(u:Int)+1<=v by omega) (show(0:Int)<=32 ^ s.length by have:=xX s.length;omega);rw[Int.add_mul,Int.one_mul]at this;omega
theorem O4{D L:Told}{o:Int}(e:(D.map (·.1)).Nodup)(ae:L.Perm D)(t:Λ):j0 L o t=j0 D o t:=by
 have h:=(ae.map (·.1)).nodup_iff.2 e;by_cases he:∃p∈D,p.1=t
 .obtain⟨p,f,rfl⟩:=he;rw[ss e f,ss h (ae.mem_iff.2 f)]
 .rw[su λp h1 a=>he ⟨p,h1,a⟩,su λp h1 a=>he ⟨p,ae.mem_iff.1 h1,a⟩]
def j7(an:Λ)(f:Λ->Int)(cs:Λ):Prop:=cs.length=(aX an).toNat/\∀t,dF an t->bu an cs t=f t
theorem j7.eq{f:Λ->Int}(V:dS an)(h1:j7 an f cs)(e:j7 an f a):cs=a:=M9 V h1.1 e.1 λt h=>by rw[h1.2 t h,e.2 t h]
theorem j7.congr{f a:Λ->Int}(h:j7 an f cs)(he:∀t,dF an t->f t=a t):j7 an a cs:=⟨h.1,λt e=>by rw[h.2 t e,he t e]⟩
theorem yg(V:dS an)(h:dF an t):∃n:Nat,cj an t 0=σ (n:Int)/\n<(aX an).toNat:=by
 obtain⟨n,a⟩:=h;have:=mF V a;simp only[Int.zero_mul,Int.zero_add,Int.one_mul]at this;exact⟨n.toNat,by rw[a];congr 1;omega,Ω⟩
theorem O5(V:dS an)(c:Int):j7 an (λ_=>c) (o5 (aX an).toNat c):=⟨Ξ,λt a=>by
 obtain⟨n,e,f⟩:=yg V a;unfold bu;rw[e];simp only[u7,r8,List.getElem?_replicate,f,if_true,Option.getD_some]⟩
theorem j7.put{f:Λ->Int}(V:dS an)(h:j7 an f cs)(ac:dF an t)(r:cE c k):j7 an (λs=>if s=t then c else f s) (uk an t k c cs):=by
 obtain⟨n,e,w⟩:=yg V ac;unfold uk;rw[e];simp only[r,if_true,u7];refine⟨by simp[h.1],λs q=>?_⟩;obtain⟨m,hm,x⟩:=yg V q;have a:=h.2 s q;unfold bu at a ⊢;rw[hm]at a ⊢;simp only[u7]at a ⊢;by_cases he:s=t
 .subst he;rw[e]at hm;have j:n=m:=by have:=Z5 hm;omega
  subst j;rw[m3 rfl,r8,Z6 (by rw[h.1];exact w)];rfl
 .rw[m5 he,r8,Y9 (λj=>he ?_),<-r8,a];subst j;rw[<-CK V hm,<-CK V e]
def O6(w:x5)(an:Λ)(k o:Int)(D:Told)(v:x4)(I:x5):Prop:=Ext w I/\(4096<aX an->v= .tuple #[.pointer ν,Δ 5])/\
 (aX an<=4096->∃g a sv cs,v= .tuple #[Γ g,Δ 0]/\w.heap.size<=g/\(w.heap.size<=a/\∀r,lc sv r->w.heap.size<=r)/\du I g a sv an k cs/\j7 an (j0 D o) cs)
theorem D7{g m:Nat}{o:Int}{D:Told}(h:e8 w g m an k o D)(W:D.length<65536):aq x8 JM [Γ g] w (O6 w an k o D):=by
 obtain⟨⟨sv,gs,X,hm⟩,aT,V,Y,Z⟩:=id h;have N:=h.nodup;refine aE func123 ?_;rw[dl fg.u];simp only[b8,bc];intro U a _ _;have G:=X.W a;rw[aP gj.p 0 G rfl,aP gj.p 1 G rfl,aP gj.p 2 G rfl];refine(xm (hm.ls.W a)).Y ?_;rintro _ aa _ ⟨x,_,ad,_,af⟩;by_cases ae:aX an<=4096
 rotate_left
 .have:=ad V Ω;subst this;rw[bz,bA];simp only[bM,ao];exact⟨λ_=>⟨a.F x,λ_=>rfl,λh=>m6 h ae⟩,λh=>by simp at h⟩
 obtain⟨gt,f,aY,rfl,aU,aV,ag,O⟩:=af V ae Y;rw[bz,bA];simp only[bM,ao];refine⟨λh=>m6 rfl h,λ_=>?_⟩;have s1:=a.size;have aZ:=x.size;refine(O3 ((h.W a).W x) W).Y ?_;rintro dd ah _ ⟨H,L,y,P⟩;have a1:=H.size;have a2:f<aa.heap.size:=by
  obtain⟨⟨bf,a6,_,_,aj⟩,⟨_,_,a7⟩,ak,al⟩:=id O;have a8:=nT ak.2;obtain⟨_,⟨_,am⟩|⟨cap,cs,_,ap,_⟩⟩:=aj
  .rw[al]at am;omega
  .exact ap.lt
 have ba:=y.1.length_eq;rw[fE qE.u P];refine b7.range L.length (λi z=>ai (λr=>r=f) ah z/\∃cs,du z gt f aY an k cs/\j7 an (j0 (L.take i) o) cs) Ω ⟨ai.refl _ _,_,O.W H,by rw[List.take_zero];exact O5 V.2 o⟩ ?_ ?_
 .rintro i z au hi ⟨C,cs,I,E⟩ av;simp only[aW,ao];refine⟨λ_=>?_,λh=>Ω⟩;obtain⟨⟨t,c⟩,q⟩:∃p,L[i]?=σ p:=⟨_,v8 hi⟩;have ax:(t,c)∈D:=y.1.mem_iff.1 (x7 q);obtain⟨ay,az,aA⟩:=Z _ ax;have aB:=aw.ab P C λr Q aC he=>by
   have he:r=f:=he;rcases aC with h|h
   .have h:=h;omega
   .exact h
  refine lV gY.p rfl qE.u gY.i aB q λus aD=>?_;obtain⟨bb,bd,A,B,rfl,be,bg,_,h1,aF⟩:=aD;have aG:=aF;subst aG;obtain⟨aH,rfl,_⟩:=id h1;have hu:=c3 h1;refine bE gY.i λbh bi bj aI R=>?_;refine b3 (vs:=[aH,Δ c]) gY.i rfl rfl (by intro v ac;simp at ac;rcases ac with rfl|rfl;exact hu.cells.2;rfl) R λbk aJ bl S=>?_;have bm:=R.lt;have J:=aI.put aJ Ω;rw[aN gY.p 0 S rfl,aN gY.p 1 S rfl];refine(Mi (I.W J) (hu.W J)).Y ?_;rintro _ bn _ ⟨rfl,aK,aL⟩;simp only[aR];refine av _ ⟨(C.F (J.ab _)).F aK,_,aL,(E.put V.2 ay az).congr λs bo=>?_⟩;rw[u9,q];have K:=(y.1.map (·.1)).nodup_iff.2 N;have aM:∀p∈L.take i,p.1≠t:=λp ae he=>by
   obtain⟨j,M⟩:=Y8.1 ae;have aO:j<i:=by have:=(x6.1 M).1;rw[Z3]at this;omega
   rw[V1 aO]at M;have:=l1 K (by rw[u4,M,Y7,he]) (by rw[u4,q];rfl);omega
  have aQ:((L.take i).map (·.1)).Nodup:=by rw[List.map_take];exact(List.take_sublist _ _).nodup K
  have aS:((L.take i++[(t,c)]).map (·.1)).Nodup:=by
   have e:L.take i++[(t,c)]=L.take (i+1):=by rw[u9,q];rfl
   rw[e,List.map_take];exact(List.take_sublist _ _).nodup K
  exact((Dk aM aA).cost aQ aS s).symm
 .rintro z au ⟨C,cs,I,E⟩;simp only[aW,ao];refine⟨λh=>Ω,λ_=>?_⟩;rw[o9]at E;exact⟨((a.F x).F H).put C Ω,λh=>Ω,λ_=>⟨gt,f,aY,cs,rfl,Ω,⟨Ω,λr Q=>by have:=ag r Q;omega⟩,I,E.congr λs _=>O4 N y.1 s⟩⟩
theorem O7{s:Λ}(V:dS s)(a:cs.length=(aX s).toNat){i:Nat}(h:(bs s)[i]?=σ t):cs[i]?=σ (bu s cs t):=by
 have hi:=(x6.1 h).1;rw[jt V,<-a]at hi;unfold bu;rw[kr V h];simp only[u7,r8,v8 hi,Option.getD_some]
theorem sF{k:o8}{g:Nat}(h:aH k e w g v l)(f:0<l.length):g<w.heap.size:=by
 obtain⟨_,⟨_,h1⟩|⟨_,_,_,a,_⟩⟩:=h
 .omega
 .exact a.lt
def gM(w:x5)(g m:Nat)(sv:x4)(gs:Nat)(an:Λ)(k o:Int)(D:Told):Prop:=
 aj w g gj [sv,Δ k,Δ o,.map (σ m)]/\aH .i64 al w gs sv an/\de w m (D.map lj)/\ct an/\cE o k/\∀p∈D,dF an p.1/\cE p.2 k/\p.2≠o
theorem gM.is{g m:Nat}{o:Int}{D:Told}(h:gM w g m sv gs an k o D):e8 w g m an k o D:=⟨⟨sv,gs,h.1,h.2.1⟩,h.2.2⟩
theorem e8.at{g m:Nat}{o:Int}{D:Told}(h:e8 w g m an k o D):∃sv gs,gM w g m sv gs an k o D:=by
 obtain⟨⟨sv,gs,h1,a⟩,e⟩:=h;exact⟨sv,gs,h1,a,e⟩
theorem gM.W{g m:Nat}{o:Int}{D:Told}(h:gM w g m sv gs an k o D)(J:Ext w I):gM I g m sv gs an k o D:=by
 obtain⟨h1,a,e,f⟩:=h;exact⟨h1.W J,a.W J,e.W J,f⟩
theorem gM.ab{g m:Nat}{o:Int}{D:Told}(h:gM w g m sv gs an k o D)(J:ai S w I)(a:¬S g)(hm:¬S m)(V:∀r,lc sv r->¬S r):gM I g m sv gs an k o D:=by
 obtain⟨h1,e,f,j⟩:=h;exact⟨h1.ab J a,bG e J V,f.ab J hm,j⟩
theorem u1{g m:Nat}{cs:List x4}{d:List (x4×x4)}(h:aj w g e cs)(hm:de w m d):g≠m:=by
 rintro rfl;obtain⟨a,c,h1,_⟩:=hm;unfold aj at h;rw[h1]at h;cases h
theorem D8{g m:Nat}{k:o8}{d:List (x4×x4)}(h:aH k e w g v l)(hm:de w m d)(f:lc v r):r≠m:=by
 obtain⟨rfl,_⟩:=cd h f;obtain⟨_,⟨rfl,_⟩|⟨_,_,_,j,_⟩⟩:=h
 .obtain⟨a,n,c,h,_⟩:=f;cases h
 .exact u1 j hm
theorem gM.put{g m:Nat}{o:Int}{D D':Told}(h:gM w g m sv gs an k o D)(a:ai (λr=>r=m) w I)(be:e8 I g m an k o D'):gM I g m sv gs an k o D':=
 ⟨h.1.ab a (λhe=>u1 h.1 h.2.2.1 he),bG h.2.1 a (λr e he=>D8 h.2.1 h.2.2.1 e he),be.2⟩
theorem gM.sj{g m:Nat}{o:Int}{D:Told}(h:gM w g m sv gs an k o D):g<w.heap.size/\m<w.heap.size/\∀r,lc sv r->r<w.heap.size:=
 ⟨h.1.lt,h.2.2.1.lt,λr a=>by obtain⟨rfl,e⟩:=cd h.2.1 a;exact e⟩
instance (s t:Λ):Decidable (dF s t):=decidable_of_iff ((cj s t 0).isSome=s2) ⟨λh=>by
 cases a:cj s t 0 with
 |none=>rw[a]at h;cases h
 |some n=>exact⟨n,a⟩,λ⟨n,h⟩=>by rw[h];rfl⟩
end Go.Proofs.YtlcdcbgoaljiiaaGreatDoor
