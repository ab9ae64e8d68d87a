/- own texts, made small by a tool (wip/ holds them as they were written): no statement of the seat. -/
import Derived.Test.YtkcigodpbndobaaGreatDoorWa
set_option linter.unusedVariables false
set_option linter.unusedSimpArgs false
set_option linter.unnecessarySimpa false
open Array renaming getElem?_eq_some_iff→Z5
open BitVec renaming ofInt→U6
open Bool renaming false→rs,true→ro,not_true→Y6,not_false→X4,and_eq_true→V9,eq_iff_iff→T1
open Decidable renaming not_not→Z6
open Go renaming Value→x1,World→x3,TypeId→r9,IntKind→o5,Builtin→j9,Program→X5,Addr→Q0,FuncId→Q2
open Go.Addr renaming add_mid→W5
open Go.Builtin renaming append_→j6,len_→W0
open Go.Instr renaming loadAt→u4,fieldAt→u6,storeAt→o7,indexAt→j4,extract→c8,buildSlice→Y1,sliceAt→V4,alloc→S5
open Go.IntKind renaming i64→Y7,u64→U2
open Go.Proofs.Tryz renaming prog→x7
open Go.Result renaming andThen→W3
open Go.Sem renaming run_bind→X8,run_pure→W9
open Go.Value renaming int→X2,cells→T9
open Int renaming toNat_natCast→u9,mul_le_mul_of_nonneg_right→V6,le_refl→R6
open List renaming getElem?_eq_some_iff→x4,mem_of_getElem?→x5,getElem?_eq_getElem→x6,getElem?_map→x8,getD_eq_getElem?_getD→u5,take_add_one→u7,replicate→r8,length_append→p8,length_map→o4,take_length→o6,mem_map→o8,mem_append→o9,take_of_length_le→n9,map_append→l7,ext_getElem?→j5,length_take→c7,mem_iff_getElem?→c9,mem_singleton→b8,eq_nil_of_length_eq_zero→Z0,range→Z2,getElem?_set_self→Z3,getElem?_eq_none→Z9,length_cons→Y3,getElem?_set→Y4,getElem?_take_of_lt→Y5,getElem?_append_right→Y9,append_assoc→X0,drop_eq_getElem_cons→X1,getElem?_set_ne→X3,length_eq_one_iff→X6,pairwise_iff_getElem→X9,getElem?_append_left→W8,append_nil→V1,map_congr_left→V2,map_set→V3,mem_of_mem_take→U1,map_cons→U3,flatMap_cons→U7,mem_filter→U8,length_singleton→T4,mem_cons→T5,mem_or_eq_of_mem_set→T8,map_map→S4,map_take→S7,set_append_right→Q1,getElem_mem→Q4
open Nat renaming le_refl→p9,le_trans→Y2,zero_le→X7,zero_add→W7,mul_one→V0,mul_le_mul_right→V5,sub_self→U5,pow_le_pow_right→T6,add_mul→T7
open Option renaming toList_some→l9,isNone_some→j0,some→b9,map_some→Z4,map_eq_some_iff→Y0,map→W6
open Option.some renaming inj→Z7,injEq→Y8
open Prod.mk renaming injEq→T2
set_option maxHeartbeats 16000000
open Option renaming some→σ,none→ν
variable{C a cs l scope co szs t:Λ}{I w:x3}{at_ c e hi k lo v y:Int}{sv z:x1}{N dx gs j n r:Nat}{R S:Nat->Prop}{d8:List (Λ)}{cx cy f:Bool}{K:x1->Prop}
namespace Go.Proofs.YtkcigodpbndobaaGreatDoor
open Go Go.Vc Go.RowKit Go.Proofs Go.Proofs.Tryz
set_option maxRecDepth 100000
abbrev bT:ah:=λ_=>False
abbrev fF(n:Nat):ah:=λr=>n<=r
theorem MB{b:Λ}{bw bv:x1}(f:aI .i64 w bw a)(s:aI .i64 w bv b):
  aj x7 J4 [bw,bv] w λv I=>v= .bool (decide (a=b))/\Ext w I:=by
 refine az func153 ?_;rw[aS al.u f,aS al.u s];simp only[bJ,ai];refine⟨λp=>⟨?_,Ext.refl _⟩,λz=>?_⟩
 .rw[ms];rintro rfl;exact p rfl
 .have z:a.length=b.length:=Ω
  rw[aS al.u f];refine b2.range a.length (λi _ J=>Ext w J/\a.take i=b.take i) f.le ⟨Ext.refl _,rfl⟩ ?_ ?_
  .rintro i t4 J k A ⟨e,q⟩ hk;simp only[aP,ai,eu];refine⟨λ_ V B _ _=>?_,λh=>Ω⟩;have e:=e.F B;obtain⟨x,r⟩:=aF A;obtain⟨y,j⟩:=aF (l:=b) (i:=i) Ω;rw[be al.u ae.i Ψ (f.W e) r,be al.u ae.i Ψ (s.W e) j];simp only[bJ,ai,aM];refine⟨λp=>⟨?_,e⟩,λC=>hk _ _ ⟨e,xL q r j Ω⟩⟩;rw[ms];rintro rfl;rw[r]at j;cases j;exact p rfl
  .rintro _ J k ⟨e,q⟩;simp only[aP,ai];refine⟨λh=>Ω,λ_=>⟨?_,e⟩⟩;rw[m7];rwa [o6,z,o6]at q
def kE(rest:List (Λ))(i:Nat):List (Λ):=(Z2 i).flatMap λ(v:Nat)=>rest.map λt=>(v:Int)::t
theorem MC(rest:List (Λ))(i:Nat):kE rest (i+1)=kE rest i++rest.map λt=>(i:Int)::t:=by
 simp[kE,List.range_succ]
theorem CW(rest:List (Λ))(i:Nat):(kE rest i).length=i*rest.length:=by
 simp only[kE,List.length_flatMap,o4];rw[List.map_const',List.length_range,List.sum_replicate_nat]
def sD(l:Λ):Prop:=l.length<=90/\(∀x∈l,1<=x/\x<=32)/\aA l<=1073741824
theorem bS.p(h:bS l):sD l:=⟨by have:=h.1;omega,h.2,(prod_bound h).2⟩
theorem sD.tail{s:Λ}(h:sD (k::s)):sD s:=by
 have h1:=h.2.1 k (.head _);have e:=(oI s λx a=>h.2.1 x (.tail _ a)).1;have f:k*aA s<=1073741824:=h.2.2;have j:=V6 h1.1 (show 0<=aA s by omega);refine⟨?_,λx a=>h.2.1 x (.tail _ a),Ω⟩;have:=h.1;rw[Y3]at this;omega
theorem CX:∀(s:Λ){sv:x1}{w:x3},aI .i64 w sv s->sD s->
  aj x7 Br [sv] w λv I=>Ext w I/\bM (fF w.heap.size) bT I [v] (bl s)
 |[],sv,w,h,U=>by
  refine az func10 ?_;rw[aS al.u h];simp only[bh,List.length_nil,Int.natCast_zero,decide_true,bY];refine lX (α:=Λ) (cs:=[.slice ν 0 0]) (A:=bT) dL.u al.i Φ rfl iQ λv I P f _=>⟨P,aq.X f (λr _ h=>?_) λ_ _ h=>h⟩;exact h.elim False.elim id
 |k::s,sv,w,h,U=>by
  have ap:1<=aA (k::s)/\aA (k::s)<=1073741824:=⟨(oI _ U.2.1).1,U.2.2⟩;have q:=U.tail;have hk:=U.2.1 k (.head _);have Q:=j2 q.2.1;have au:1<=aA s/\aA s<=1073741824:=⟨(oI _ q.2.1).1,q.2.2⟩;obtain⟨kn,rfl⟩:∃kn:Nat,k=kn:=⟨k.toNat,Ω⟩;have av:kn*(bl s).length<=1073741824:=by
   have e:((kn*(bl s).length:Nat):Int)=aA ((kn:Int)::s):=by
    rw[Int.natCast_mul,Q,aA,Int.toNat_of_nonneg Ω]
   omega
  refine az func10 ?_;rw[aS al.u h];simp only[bh,ai];refine⟨λS=>by simp at S;omega,λ_=>?_⟩;refine uQ rfl al.u ae.i h Ξ λW bi=>?_;refine(CX s bi q).X ?_;rintro aw V _ ⟨E,z⟩;have ax:=oH z;refine b2.range kn (λi out J=>Ext V J/\bM (fF V.heap.size) bT J [out] (kE (bl s) i)) Ω ⟨Ext.refl _,iQ⟩ ?_ ?_
  .rintro i out X Y M ⟨p,f⟩ Z;have aa:=b6 z p;rw[fm (y:=0) (i:=0) rfl al.u ae.i Ψ (h.W (E.F p)) (by rfl)];simp only[aP,ai];refine⟨λ_=>?_,λh=>Ω⟩;rw[kB dL.u aa];refine b2.range (bl s).length (λj out J=>Ext V J/\bM (fF V.heap.size) bT J [out] (kE (bl s) i++((bl s).take j).map λt=>(i:Int)::t)) Ω ⟨p,by simpa using f⟩ ?_ ?_
   .rintro j out B ab ac ⟨C,f⟩ ad;simp only[aP,ai];refine⟨λ_=>?_,λh=>Ω⟩;obtain⟨x,G⟩:=aF ac;have ay:x.length<=100:=by
     have:=xO G;have:=q.1;omega
    refine pK rfl rfl dL.u al.i Ψ (b6 z C) G λu af=>?_;refine dr al.u ae.i rfl λa ga aB aC H ag=>?_;refine jD al.u ae.i rfl ag (fw (b6 af H)) Θ Θ λb aD aE aG K ah=>?_;have aH:=H.size;have N:=H.then ah (by rintro r z rfl;omega);have aJ:=N.size;refine lX (α:=Λ) (a:=(i:Int)::x) (R:=bT) dL.u al.i Φ (su (pN K (R:=bT))) (aq.X (pN K) (λr _ h=>by subst h;show B.heap.size<=r;omega) λ_ _ h=>h) λc aK L _ ak=>?_;have O:=N.F L;have aL:=L.size;refine pM dL.u al.i rfl (b6 (oH f) O) ak (b6 (aq.X (pN K) (λr _ h=>by subst h;show B.heap.size<=r;omega) λ_ _ h=>h) L) (λr _ h bi=>?_) ?_ ?_ λW aN am an=>?_
    .rcases bi with bi|bi
     .have:=h.2;have:B.heap.size<=r:=bi;omega
     .exact bi
    .have ao:(kE (bl s) i++((bl s).take j).map λt=>(i:Int)::t).length+1<=kn*(bl s).length:=by
      simp only[p8,CW,o4,c7];have:(i+1)*(bl s).length<=kn*(bl s).length:=V5 _ M;rw[T7]at this;omega
     omega
    .have ao:(kE (bl s) i++((bl s).take j).map λt=>(i:Int)::t).length+1<=kn*(bl s).length:=by
      simp only[p8,CW,o4,c7];have:(i+1)*(bl s).length<=kn*(bl s).length:=V5 _ M;rw[T7]at this;omega
     omega
    .simp only[aM];have aO:=C.size;refine ad _ _ ⟨(C.F O).then an (λr z h=>?_),?_⟩
     .have:=h.1;have:V.heap.size<=r:=this;omega
     .have e:kE (bl s) i++((bl s).take (j+1)).map (λt=>(i:Int)::t)=(kE (bl s) i++((bl s).take j).map λt=>(i:Int)::t)++[(i:Int)::x]:=by
       rw[u7,G];simp
      rw[e];refine aq.X am (λr _ h=>?_) λ_ _ h=>h;show V.heap.size<=r;rcases h with h|h|h
      .exact h.1
      .have:B.heap.size<=r:=h;omega
      .omega
   .rintro out B ab ⟨C,f⟩;simp only[aP,ai,aM];refine⟨λh=>Ω,λ_=>Z _ _ ⟨C,?_⟩⟩;rw[MC];simpa using f
  .rintro out X Y ⟨p,f⟩;rw[fm (y:=0) (i:=0) rfl al.u ae.i Ψ (h.W (E.F p)) (by rfl)];simp only[aP,ai];refine⟨λh=>Ω,λ_=>⟨E.F p,?_⟩⟩;have s2:=E.size;have e:bl ((kn:Int)::s)=kE (bl s) kn:=by simp[bl,kE]
   rw[e];exact aq.X f (λr _ h=>by have:V.heap.size<=r:=h;show w.heap.size<=r;omega) λ_ _ h=>h
theorem CY(s:Λ)(h:aI .i64 w sv s)(U:bS s):aj x7 Br [sv] w λv I=>Ext w I/\bM (fF w.heap.size) bT I [v] (bl s):=CX s h U.p
theorem MD:∀(x:Nat),0<x->∃k m,x=2 ^ k*(2*m+1):=by
 intro x;induction x using Nat.strongRecOn with
 |_ x a=>
  intro h;by_cases e:x % 2=1
  .exact⟨0,x / 2,Ω⟩
  .obtain⟨k,m,hk⟩:=a (x / 2) Ω Ω;refine⟨k+1,m,?_⟩;rw[Nat.pow_succ,Nat.mul_assoc,Nat.mul_comm 2,<-Nat.mul_assoc,<-hk];omega
theorem xZ{k m i:Nat}:(2 ^ k*(2*m+1)).testBit i=(decide (i=k)||decide (k<i)&&m.testBit (i-k-1)):=by
 rw[Nat.testBit_two_pow_mul];by_cases h:k<=i
 .obtain⟨d,rfl⟩:=Nat.exists_eq_add_of_le h;cases d with
  |zero=>simp
  |succ d=>
   have e:(2*m+1).testBit (d+1)=m.testBit d:=by rw[Nat.testBit_succ];congr 1;omega
   simp[e,show k+(d+1)-k=d+1 by omega]
 .simp[h,show i≠k by omega,show¬k<i by omega]
theorem ME{k m:Nat}(p:2 ^ k*(2*m+1)<2 ^ 64):(2 ^ k*(2*m+1)) &&& (2 ^ 64-2 ^ k*(2*m+1))=2 ^ k:=by
 have q:=Nat.two_pow_pos k;have hk:k<64:=by
  rcases Nat.lt_or_ge k 64 with h|h
  .exact h
  .have:2 ^ 64<=2 ^ k:=T6 Ω h;have:2 ^ k*1<=2 ^ k*(2*m+1):=Nat.mul_le_mul_left _ Ω;omega
 have e:2 ^ k*(2*m+1)=(2 ^ k*(2*m)+(2 ^ k-1))+1:=by rw[Nat.mul_add];omega
 apply Nat.eq_of_testBit_eq;intro i;rw[Nat.testBit_and,xZ]
 conv=>lhs;rhs;rw[e]
 rw[Nat.testBit_two_pow_sub_succ Ω,Nat.testBit_two_pow_mul_add _ Ω,Nat.testBit_two_pow];by_cases h1:i=k
 .subst h1;simp[hk]
 .by_cases a:k<i
  .have f:(2*m).testBit (i-k)=m.testBit (i-k-1):=by
    obtain⟨d,j⟩:∃d,i-k=d+1:=⟨i-k-1,Ω⟩;rw[j,Nat.testBit_succ];congr 1;omega
   simp[h1,a,show¬i<k by omega,f,show k≠i by omega];intro h;simp[h]
  .simp[h1,a,show k≠i by omega]
def ll(a c:Nat):Nat:=(BitVec.ofNat 64 a &&& ~~~BitVec.ofNat 64 c).toNat
theorem CZ(a c i:Nat):(ll a c).testBit i=(decide (i<64)&&(a.testBit i&& !c.testBit i)):=by
 unfold ll;rw[BitVec.testBit_toNat,BitVec.getLsbD_and,BitVec.getLsbD_not,BitVec.getLsbD_ofNat,BitVec.getLsbD_ofNat];by_cases h:i<64<;>simp[h]
theorem MF(a c:Nat):ll a c<2 ^ 64:=BitVec.isLt _
theorem MG{a:Nat}(h:∀i,n<=i->a.testBit i=rs):a<2 ^ n:=Nat.lt_pow_two_of_testBit a h
theorem C0{a i:Nat}(h:a<2 ^ n)(hi:n<=i):a.testBit i=rs:=Nat.testBit_lt_two_pow (Nat.lt_of_lt_of_le h (T6 Ω hi))
def fp(b n:Nat):List Nat:=(Z2 n).filter λi=>b.testBit i
theorem C1(b n:Nat):(fp b n).Pairwise (·< ·):=List.Pairwise.filter _ List.pairwise_lt_range
theorem x0{b i:Nat}:i∈fp b n↔i<n/\b.testBit i=ro:=by simp[fp]
def pT:Option Nat->Int
 |some i=>(i:Int)
 |none=>-1
def ln(b n:Nat)(v:Int):Int:=pT ((Z2 n).find? (λi:Nat=>decide (v<(i:Int))&&b.testBit i))
theorem C2:∀{l:List Nat}{k x:Nat},l.Pairwise (·< ·)->l[k]?=σ x->l.filter (λi=>decide (x<i))=l.drop (k+1)
 |y::l,0,x,h,hk=>by
  simp at hk;subst hk;rw[List.pairwise_cons]at h;simp only[List.drop_succ_cons,List.drop_zero];rw[List.filter_cons_of_neg Ξ,List.filter_eq_self.2 λa e=>by simpa using h.1 a e]
 |y::l,k+1,x,h,hk=>by
  simp only[List.getElem?_cons_succ]at hk;rw[List.pairwise_cons]at h;have:y<x:=h.1 x (x5 hk);rw[List.filter_cons_of_neg Θ,List.drop_succ_cons];exact C2 h.2 hk
theorem C3(b n:Nat)(v:Int):ln b n v=pT (((fp b n).filter (λi:Nat=>decide (v<i))).head?):=by
 unfold ln fp;rw[<-List.head?_filter,List.filter_filter]
theorem MH(b n:Nat):ln b n (-1)=pT ((fp b n)[0]?):=by
 rw[C3,List.filter_eq_self.2 (λa _=>Θ),List.head?_eq_getElem?]
theorem C4{b k x:Nat}(h:(fp b n)[k]?=σ x):ln b n x=pT ((fp b n)[k+1]?):=by
 have e:(λi:Nat=>decide ((x:Int)<i))=λi=>decide (x<i):=by funext i;simp
 rw[C3,e,C2 (C1 b n) h,List.head?_eq_getElem?,List.getElem?_drop]
theorem MI{b:Nat}(h:(n:Int)-1<=v):ln b n v= -1:=by
 unfold ln;rw[List.find?_eq_none.2 λi hi=>by simp at hi ⊢;omega];rfl
theorem MJ{b k m s:Nat}(y:n<=64)(f:b<2 ^ n)(e:∀i,r.testBit i=(decide (s<=i)&&b.testBit i))(hk:r=2 ^ k*(2*m+1))(z:v+1=s):ln b n v=k:=by
 have p:r.testBit k=ro:=by rw[hk,xZ];simp
 have q:∀i,i<k->r.testBit i=rs:=λi hi=>by rw[hk,xZ];simp[show i≠k by omega,show¬k<i by omega]
 have a:=p;rw[e]at a;simp at a;have w:k<n:=by
  rcases Nat.lt_or_ge k n with h|h
  .exact h
  .rw[C0 f h]at a;cases a.2
 unfold ln;have:(Z2 n).find? (λi:Nat=>decide (v<(i:Int))&&b.testBit i)=σ k:=by
  rw[List.find?_range_eq_some];refine⟨by simp[a.2];omega,by simpa using w,λj x=>?_⟩;have:=q j x;rw[e]at this;simp only[Bool.not_eq_true',Bool.and_eq_false_iff,decide_eq_false_iff_not]at this ⊢;rcases this with h|h
  .exact .inl Ω
  .exact .inr h
 rw[this];rfl
theorem MK{b s:Nat}(a:∀i,r.testBit i=(decide (s<=i)&&b.testBit i))(hk:r=0)(e:v+1=s):ln b n v= -1:=by
 unfold ln;rw[List.find?_eq_none.2]
 .rfl
 .intro i hi;have:=a i;rw[hk,Nat.zero_testBit]at this;simp at hi this ⊢;intro h;exact this Ω
section
variable{P:X5}{w:x3}{t:r9}{cx cy:Bool}{a b:Nat}{K:x1->Prop}
theorem oM(a:Nat):U6 64 (a:Int)=BitVec.ofNat 64 a:=BitVec.ofInt_natCast _ _
theorem C5(x:BitVec 64):U2.wrap (x.toNat:Int)=(x.toNat:Int):=by
 have:=x.isLt;rw[lw Ω Ω]
theorem u64_and(f:a<2 ^ 64)(h:b<2 ^ 64):ab P (aO .and t cx cy (.int .u64 a) (.int .u64 b)) w K=K (.int .u64 ((a &&& b:Nat):Int)):=ab.of λI _=>by
 have e:(U6 64 (a:Int) &&& U6 64 (b:Int)).toNat=a &&& b:=by
  rw[oM,oM,BitVec.toNat_and,BitVec.toNat_ofNat,BitVec.toNat_ofNat,Nat.mod_eq_of_lt f,Nat.mod_eq_of_lt h]
 have hw:U2.wrap ((a &&& b:Nat):Int)=((a &&& b:Nat):Int):=by rw[<-e];exact C5 _
 have j:(U6 U2.bits (a:Int) &&& U6 U2.bits (b:Int)).toNat=a &&& b:=e;simp only[aO,eqGuard,binOp,Op.intBits,j,hw];rfl
theorem C6:ab P (aO .andNot t cx cy (.int .u64 a) (.int .u64 b)) w K=K (.int .u64 (ll a b:Int)):=ab.of λI _=>by
 have e:(U6 64 (a:Int) &&& ~~~U6 64 (b:Int)).toNat=ll a b:=by rw[oM,oM];rfl
 have hw:U2.wrap (ll a b:Int)=(ll a b:Int):=C5 _;have f:(U6 U2.bits (a:Int) &&& ~~~U6 U2.bits (b:Int)).toNat=ll a b:=e;simp only[aO,eqGuard,binOp,Op.intBits,f,hw];rfl
theorem mQ{k:o5}(f:n<64):ab P (aO .shr t cx cy (.int .u64 (a:Int)) (.int k (n:Int))) w K=K (.int .u64 ((a / 2 ^ n:Nat):Int)):=ab.of λI _=>by
 have e:(a:Int).fdiv (2 ^ min n U2.bits)=((a / 2 ^ n:Nat):Int):=by
  have:min n U2.bits=n:=Nat.min_eq_left (by show n<=64;omega);rw[this,Int.fdiv_eq_ediv_of_nonneg _ (by exact Int.le_of_lt (Int.pow_pos Ω))];simp
 simp only[aO,eqGuard,binOp,Op.shift,u9,e];simp[show¬(n:Int)<0 by omega]
theorem x2{k:o5}(a:n<64):ab P (aO .shl t cx cy (.int .u64 1) (.int k (n:Int))) w K=K (.int .u64 ((2 ^ n:Nat):Int)):=by
 rw[B4 Ω];have e:min ((n:Int).toNat) U2.bits=n:=Nat.min_eq_left (by show n<=64;omega);have f:2 ^ n<2 ^ 64:=Nat.pow_lt_pow_right Ω a;rw[e,Int.one_mul,show((2:Int) ^ n)=((2 ^ n:Nat):Int) by simp];generalize 2 ^ n=q at f ⊢;rw[lw Ω Ω]
end
def uV:Λ:=[0,1,56,2,57,49,28,3,61,58,42,50,38,29,17,4,62,47,59,36,45,43,51,22,53,39,33,30,24,18,12,5,63,55,48,27,60,41,37,16,46,35,44,21,52,32,23,11,54,26,40,15,34,20,31,10,25,14,19,9,13,8,7,6]
def Laid(w:x3):Prop:=w.rangeAt 0 0 (ints .u8 uV)
theorem Laid.W(h:Laid w)(a:Ext w I):Laid I:=pG a h
theorem ML:∀k:Nat,k<64->uV[(2 ^ k*285870213051353865 % 2 ^ 64) / 2 ^ 58]?=σ (k:Int):=Φ
theorem MM{x k m:Nat}(f:Laid w)(j:x=2 ^ k*(2*m+1))(p:x<2 ^ 64):
  aj x7 Ld [.int .u64 (x:Int)] w λv I=>v=Δ (k:Int)/\Ext w I:=by
 have z:=Nat.two_pow_pos k;have A:2 ^ k<=x:=by
  have:2 ^ k*1<=2 ^ k*(2*m+1):=Nat.mul_le_mul_left _ Ω;omega
 have hk:k<64:=by
  rcases Nat.lt_or_ge k 64 with h|h
  .exact h
  .have:2 ^ 64<=2 ^ k:=T6 Ω h;omega
 refine az func263 ?_;simp only[bh,ai];refine⟨λh=>Ω,λ_=>?_⟩;rw[nI];have q:U2.wrap (0-(x:Int))=((2 ^ 64-x:Nat):Int):=by
  simp only[o5.wrap,o5.bits,o5.signed];simp;omega
 rw[q,u64_and p Ω,j,ME Ω];simp only[iO];have r:U2.wrap (((2 ^ k:Nat):Int)*285870213051353865)=((2 ^ k*285870213051353865 % 2 ^ 64:Nat):Int):=by
  have e:((2 ^ k:Nat):Int)*285870213051353865=((2 ^ k*285870213051353865:Nat):Int):=Ξ
  rw[e];simp only[o5.wrap,o5.bits,o5.signed];simp
 have s:(58:Int)=((58:Nat):Int):=rfl;rw[r,s,mQ Ω];have a:=ML k hk;have y:=(x4.1 a).1;rw[xK xG.u cM.i y,ax Ψ (by rw[V0];exact f _ _ (mK a)),e1 cM.u ae.u,lm Ω Ω];exact⟨rfl,Ext.refl _⟩
def ka(b n:Nat):x1:=.agg #[.int .u64 (b:Int),Δ (n:Int)]
def mR(b n:Nat):Prop:=n<=32/\b<2 ^ n
theorem MN(s i:Nat):(2 ^ s-1).testBit i=decide (i<s):=Nat.testBit_two_pow_sub_one s i
theorem C7{b:Nat}:aj x7 Ka [ka b n,Δ v] w λr I=>r= .bool (decide (0<=v/\v<n))/\Ext w I:=by
 refine az func160 ?_;refine bm λg J f a e=>?_;simp only[cz,cI,ai];refine⟨λh=>?_,λh=>⟨?_,a⟩⟩
 .rw[aQ b3.p 1 e rfl];simp only[aP];exact⟨by simp[h],a⟩
 .rw[ms];omega
theorem uW{b:Nat}:aj x7 J8 [ka b n] w λr I=>r=Δ n/\Ext w I:=by
 refine az func158 ?_;refine bm λg J f a e=>?_;rw[aQ b3.p 1 e rfl];exact⟨rfl,a⟩
theorem MO{n:Int}:aj x7 J6 [Δ n] w λr I=>Ext w I/\r=(if 1<=n/\n<=32 then .tuple #[ka (2 ^ n.toNat-1) n.toNat,Δ 0]else .tuple #[ka 0 0,Δ 1]):=by
 refine az func156 ?_;refine bx b3.i λg J A j q=>?_;refine aV (λv V=>v= .bool (decide (¬(1<=n/\n<=32)))/\J=V) ?_ ?_
 .rintro _ _ ⟨rfl,rfl⟩;simp only[ai];refine⟨λh=>?_,λh=>?_⟩
  .rw[dw (cs:=#[.int .u64 0,Δ 0]) Ψ];refine cb (vs:=[.int .u64 0,Δ 0]) b3.i rfl rfl (by intro u a;simp at a;rcases a with rfl|rfl<;>rfl) q λx e y f=>?_;rw[fD b3.p b3.i rfl f.range,m5 h];exact⟨j.then e (by rintro r z rfl;omega),rfl⟩
  .have h:1<=n/\n<=32:=Z6.1 h;obtain⟨m,rfl⟩:∃m:Nat,n=m:=⟨n.toNat,Ω⟩;rw[x2 Ω];have B:=Nat.two_pow_pos m;have C:2 ^ m<=2 ^ 32:=T6 Ω Ω;simp only[dR];rw[lw Ω Ω,show(((2 ^ m:Nat):Int)-1)=((2 ^ m-1:Nat):Int) by omega];rw[dw (cs:=#[.int .u64 ((2 ^ m-1:Nat):Int),Δ m]) Ψ];refine cb (vs:=[.int .u64 ((2 ^ m-1:Nat):Int),Δ m]) b3.i rfl rfl (by intro u a;simp at a;rcases a with rfl|rfl<;>rfl) q λx e y f=>?_;rw[fD b3.p b3.i rfl f.range,m3 h];exact⟨j.then e (by rintro r z rfl;omega),rfl⟩
 .intro ay s;simp only[aP,bL,ai];refine⟨λh=>s _ _ ⟨?_,rfl⟩,λh=>s _ _ ⟨?_,rfl⟩⟩
  .rw[m7];omega
  .congr 1;simp;omega
theorem C8{b:Nat}(y:mR b n)(z:Laid w)(G: -1<=v):aj x7 Kx [ka b n,Δ v] w λr I=>r=Δ (ln b n v)/\Ext w I:=by
 obtain⟨H,e⟩:=y;have f:b<2 ^ 64:=Nat.lt_of_lt_of_le e (T6 Ω Ω);refine az func198 ?_;refine bm λg J K a j=>?_;rw[aQ b3.p 1 j rfl];simp only[dR,cI,ai];rw[lm Ω Ω];refine⟨λh=>⟨by rw[MI h],a⟩,λL=>?_⟩;rw[aQ b3.p 0 j rfl];refine aV (λu V=>J=V/\∃r s:Nat,u= .int .u64 (r:Int)/\r<2 ^ 64/\v+1=s/\∀i,r.testBit i=(decide (s<=i)&&b.testBit i)) ?_ ?_
 .rintro _ _ ⟨rfl,r,s,rfl,A,U,q⟩;simp only[bh,ai];refine⟨λB=>⟨by rw[MK q Ω U],a⟩,λB=>?_⟩;obtain⟨k,m,hk⟩:=MD r Ω;refine(MM (z.W a) hk A).X ?_;rintro _ M _ ⟨rfl,C⟩;exact⟨by rw[MJ Ω e q hk U],a.F C⟩
 .intro ay x;refine⟨λh=>?_,λh=>?_⟩
  .obtain⟨s,rfl⟩:∃s:Nat,v=s:=⟨v.toNat,Ω⟩;have N:0<2 ^ (s+1):=Nat.two_pow_pos _;have O:2 ^ (s+1)<=2 ^ 32:=T6 Ω Ω;simp only[aM];rw[lm Ω Ω,show((s:Int)+1)=((s+1:Nat):Int) by omega,x2 Ω];simp only[dR];rw[lw Ω Ω,show(((2 ^ (s+1):Nat):Int)-1)=((2 ^ (s+1)-1:Nat):Int) by omega,C6];refine x _ _ ⟨rfl,_,s+1,rfl,MF _ _,Ω,λi=>?_⟩;rw[CZ,MN];by_cases E:i<64
   .by_cases hi:s+1<=i
    .simp[E,hi,show¬i<s+1 by omega]
    .simp[hi,show i<s+1 by omega]
   .rw[C0 f Ω];simp
  .exact x _ _ ⟨rfl,b,0,rfl,f,Ω,λi=>Ξ⟩
theorem MP{b:Nat}(e:mR b n)(f:Laid w):aj x7 Kw [ka b n] w λr I=>r=Δ (ln b n (-1))/\Ext w I:=by
 refine az func197 ?_;refine bm λg J q a h=>?_;rw[bB b3.p b3.i rfl h.range];refine(C8 e (f.W a) Ω).X ?_;rintro _ V _ ⟨rfl,j⟩;exact⟨rfl,a.F j⟩
theorem MQ{b:Nat}(K:mR b n):aj x7 J9 [ka b n,Δ v] w λr I=>r=ka (if 0<=v/\v<n then ll b (2 ^ v.toNat)else b) n/\Ext w I:=by
 refine az func159 ?_;refine bm λg J U x y=>?_;refine bx b3.i λL V W z A=>?_;have s1:=x.size;have X:=y.lt;refine dk (λe=>∃f,ag e g b3 [.int .u64 ((f:Nat):Int),Δ (n:Int)]/\ag e L b3 [.int .u64 0,Δ 0]/\Ext w e/\f=(if 0<=v/\v<n then ll b (2 ^ v.toNat)else b)) ?_ ?_
 .rintro e ⟨f,M,N,O,rfl⟩;rw[bB b3.p b3.i rfl M.range];refine cb (vs:=[_,_]) b3.i rfl rfl (by intro u B;simp at B;rcases B with rfl|rfl<;>rfl) N λY P Z Q=>?_;rw[fD b3.p b3.i rfl Q.range];exact⟨rfl,O.then P (by rintro r R rfl;omega)⟩
 .intro ay C;have j:=y.W z;rw[bB b3.p b3.i rfl j.range];refine C7.X ?_;rintro _ ab _ ⟨rfl,a⟩;have E:=(x.F z).F a;simp only[ai,eu];refine⟨λh ac q _ _=>?_,λh=>C _ ⟨b,j.W a,A.W a,E,by rw[m5 h]⟩⟩;have G:=(j.W a).W q;rw[aQ b3.p 0 G rfl];obtain⟨s,rfl⟩:∃s:Nat,v=s:=⟨v.toNat,Ω⟩;have ad:=K.1;rw[x2 Ω,C6,aT b3.p rfl];refine bt fN.i rfl rfl G (by simp[ka,T9]) λae H af S=>?_;refine C _ ⟨_,S,((A.W a).W q).aa H Ω,(E.F q).then H (by rintro r R rfl;omega),?_⟩;rw[m3 h,u9]
def q9(v:Int):Nat:=if v<0 then 0 else 40-v.toNat
theorem x9(x:Nat):q9 x=40-x:=by unfold q9;rw[m5 Ω];omega
theorem pU{b g:Nat}(e:mR b n):
  qO x7 la [Γ g] (fp b n).length (λk vs _=>∃v:Nat,(fp b n)[k]?=σ v/\vs=[Δ (v:Int)])
   (λw=>ag w g b3 [.int .u64 (b:Int),Δ (n:Int)]/\Laid w):=by
 refine⟨la.enters,λl ay Q w r _ E ⟨s,z⟩ G=>?_⟩;have R:=e.1;refine sq func196 ?_;rw[bB b3.p b3.i rfl s.range];refine(MP e z).free.X ?_;rintro _ J ⟨H,rfl,f⟩;refine⟨λv V=>∃k,k<=(fp b n).length/\v=Δ (pT (fp b n)[k]?)/\ay k V/\ag V g b3 [.int .u64 (b:Int),Δ (n:Int)]/\Laid V,
  λv _=>q9 (b0 v),⟨0,X7 _,by rw[MH],r 0 _ _ f H.b G,s.W f,z.W f⟩,?_⟩
 rintro _ V ⟨k,hk,rfl,A,I,K⟩;cases a:(fp b n)[k]? with
 |none=>
  have:k=(fp b n).length:=by
   have:=List.getElem?_eq_none_iff.1 a;omega
  subst this;simp only[pT,cI,ai];exact⟨λh=>Ω,λ_=>.inl A⟩
 |some x=>
  have j:=(x4.1 a).1;have S:=(x0.1 (x5 a)).1;simp only[pT,cI,ai];refine⟨λ_=>?_,λh=>Ω⟩;refine⟨rfl,(E k _ V j ⟨I,K⟩ ⟨x,a,rfl⟩ A).X ?_⟩;rintro _ U (⟨rfl,⟨B,C⟩,L⟩|⟨rfl,M⟩)
  .simp only[bA,Y6,aX];rw[bB b3.p b3.i rfl B.range];refine(C8 e C Ω).free.X ?_;rintro _ W ⟨N,rfl,q⟩;refine⟨⟨k+1,j,congrArg (X2 .i64) (C4 a),r _ _ _ q N.b L.1,B.W q,C.W q⟩,?_⟩;rw[C4 a];cases O:(fp b n)[k+1]? with
   |none=>show 0<q9 x;rw[x9];omega
   |some y=>
    have X:x<y:=by
     have h1:=(x4.1 a).2;have P:=(x4.1 O).2;rw[<-h1,<-P];exact X9.1 (C1 b n) k (k+1) _ _ Ω
    show q9 y<q9 x;rw[x9,x9];omega
  .simp only[bA,X4,bY];exact .inr ⟨k,j,M⟩
theorem pV{b:Nat}:aj x7 Jr [ka b n] w λr I=>Ext w I/\∃g,r= .func (.func la) #[] #[Γ g]/\w.heap.size<=g/\ag I g b3 [.int .u64 (b:Int),Δ (n:Int)]:=by
 refine az func99 ?_;refine bm λg J f a e=>?_;rw[j1];exact⟨a,g,rfl,Ω,e⟩
abbrev dh(s:Λ):Prop:=∀x∈s,1<=x/\x<=32
theorem dh.tail{s:Λ}(h:dh (k::s)):dh s:=λx a=>h x (.tail _ a)
theorem kF{s:Λ}(h:dh s):1<=aA s:=(oI s h).1
theorem ra:∀(s t:Λ)(m:Int),ct s t m=(ct s t 0).map λn=>n+m*aA s
 |[],[],m=>by simp[ct,aA]
 |k::s,v::t,m=>by
  unfold ct;split
  .rw[ra s t (m*k+v),ra s t (0*k+v)];simp only[Option.map_map,aA];congr 1;funext n;simp only[Function.comp];rw[Int.add_mul,Int.add_mul,<-Int.mul_assoc];simp;omega
  .rfl
 |[],_::_,_=>rfl
 |_::_,[],_=>rfl
theorem ya{L j:Nat}{rest:List (Λ)}(p:rest.length=L):∀{kn v:Nat},v<kn->∀{x:Λ},rest[j]?=σ x->
  ((Z2 kn).flatMap λ(v:Nat)=>rest.map λt=>(v:Int)::t)[v*L+j]?=σ ((v:Int)::x)
 |0,v,h,_,_=>Ω
 |kn+1,v,h,x,e=>by
  have q:=(x4.1 e).1;have f:((Z2 kn).flatMap λ(v:Nat)=>rest.map λt=>(v:Int)::t).length=kn*L:=by
   simp only[List.length_flatMap,o4,p];rw[List.map_const',List.length_range,List.sum_replicate_nat]
  rw[List.range_succ,List.flatMap_append];by_cases a:v<kn
  .have:(v+1)*L<=kn*L:=V5 _ a;rw[T7]at this;rw[W8 (by rw[f];omega)];exact ya p a e
  .have a:v=kn:=Ω
   subst a;rw[Y9 (by rw[f];omega),f,show v*L+j-v*L=j by omega];simp[e]
theorem kG:∀{s:Λ},dh s->∀{i:Nat}{t:Λ},(bl s)[i]?=σ t->ct s t 0=σ (i:Int)
 |[],_,i,t,h=>by
  cases i with
  |zero=>simp[bl]at h;subst h;rfl
  |succ i=>simp[bl]at h
 |k::s,U,i,t,h=>by
  have hk:=U k (.head _);have a:=j2 U.tail;have w:=kF U.tail;obtain⟨kn,rfl⟩:∃kn:Nat,k=kn:=⟨k.toNat,Ω⟩;have hi:=(x4.1 h).1;rw[j2 U,aA,Int.toNat_mul Ω Ω,<-a,u9]at hi;have p:0<(bl s).length:=Ω
  have e:i / (bl s).length<kn:=Nat.div_lt_of_lt_mul (by rw[Nat.mul_comm];exact hi);have q:i % (bl s).length<(bl s).length:=Nat.mod_lt _ p;obtain⟨x,f⟩:∃x,(bl s)[i % (bl s).length]?=σ x:=⟨_,x6 q⟩;have j:=ya rfl e f;rw[Nat.mul_comm,Nat.div_add_mod]at j;have bi:((Z2 ((kn:Int).toNat)).flatMap λ(v:Nat)=>(bl s).map λt=>(v:Int)::t)[i]?=σ t:=h;rw[u9,j]at bi;cases bi;unfold ct;rw[m3 ⟨Int.natCast_nonneg _,Int.ofNat_lt.2 e⟩,ra,kG U.tail f];simp only[Z4,Y8,Int.zero_mul,Int.zero_add];have r:aA s=((bl s).length:Int):=by rw[a];omega
  rw[r,<-Int.natCast_mul,<-Int.natCast_add];congr 1;rw[Nat.mul_comm,Nat.add_comm,Nat.div_add_mod]
theorem oN:∀{s:Λ},dh s->∀{t:Λ}{n:Int},ct s t 0=σ n->(bl s)[n.toNat]?=σ t
 |[],_,[],n,h=>by simp[ct]at h;subst h;rfl
 |k::s,U,v::t,n,h=>by
  have hk:=U k (.head _);have j:=j2 U.tail;have w:=kF U.tail;obtain⟨kn,rfl⟩:∃kn:Nat,k=kn:=⟨k.toNat,Ω⟩;unfold ct at h;split at h
  .rename_i x;rw[ra]at h;cases f:ct s t 0 with
   |none=>rw[f]at h;cases h
   |some q=>
    rw[f]at h;simp only[Z4,Y8,Int.zero_mul,Int.zero_add]at h;have p:=mL U.tail f;simp only[Int.zero_mul,Int.zero_add,Int.one_mul]at p;obtain⟨a,rfl⟩:∃a:Nat,v=a:=⟨v.toNat,Ω⟩;have r:=ya (kn:=kn) (v:=a) rfl Ω (oN U.tail f);have e:n.toNat=a*(bl s).length+q.toNat:=by
     rw[<-h,j];have:((a*(aA s).toNat:Nat):Int)=(a:Int)*aA s:=by rw[Int.natCast_mul,Int.toNat_of_nonneg Ω]
     omega
    rw[e];show((Z2 ((kn:Int).toNat)).flatMap λ(v:Nat)=>(bl s).map λt=>(v:Int)::t)[_]?=_;rw[u9];exact r
  .cases h
 |[],_,_::_,_,h=>by cases h
 |_::_,_,[],_,h=>by cases h
theorem C9:∀(s:Λ),dh s->∀(n c:Int),b1 s (n+c*aA s)=b1 s n
 |[],_,_,_=>rfl
 |k::s,U,n,c=>by
  have a:=kF U.tail;simp only[b1,aA];rw[<-Int.mul_assoc,C9 s U.tail,Int.add_mul_ediv_right _ _ Ω,Int.add_mul_emod_self_right]
theorem rb:∀{s:Λ},dh s->∀{n:Int},0<=n->n<aA s->ct s (b1 s n) 0=σ n
 |[],_,n,a,h1=>by simp[aA]at h1;simp[b1,ct];omega
 |k::s,U,n,a,h1=>by
  have hk:=U k (.head _);have j:=kF U.tail;simp only[b1,aA]at h1 ⊢;have f:=Int.ediv_lt_of_lt_mul Ω h1;have h:0<=n / aA s:=Int.ediv_nonneg a Ω;have hm:n / aA s % k=n / aA s:=Int.emod_eq_of_lt h f;rw[hm];unfold ct;rw[m3 ⟨h,f⟩,ra];have e:b1 s n=b1 s (n % aA s):=by
   have:=C9 s U.tail (n % aA s) (n / aA s);rw[<-this];congr 1;have:=Int.emod_add_mul_ediv n (aA s);rw[Int.mul_comm (n / aA s)];omega
  rw[e,rb U.tail (Int.emod_nonneg _ Ω) (Int.emod_lt_of_pos _ Ω)];simp only[Z4,Y8,Int.zero_mul,Int.zero_add];have:=Int.emod_add_mul_ediv n (aA s);rw[Int.mul_comm (n / aA s)];omega
theorem re{s:Λ}(U:dh s){i:Nat}(h:(i:Int)<aA s):(bl s)[i]?=σ (b1 s i):=by
 have:=oN U (rb U Ω h);simpa using this
theorem Da:∀{s:Λ}{i:Nat}{x:Int},s[i]?=σ x->aA s=x*aA (s.take i++s.drop (i+1))
 |y::s,0,x,h=>by simp at h;subst h;simp[aA]
 |y::s,i+1,x,h=>by
  simp only[List.getElem?_cons_succ]at h;simp only[aA,List.take_succ_cons,List.drop_succ_cons,List.cons_append,Da h];rw[<-Int.mul_assoc,<-Int.mul_assoc,Int.mul_comm y x]
theorem bS.erase{s:Λ}(h:bS s)(i:Nat):bS (s.take i++s.drop (i+1)):=
 ⟨by have:=h.1;simp;omega,λx a=>by
  rcases o9.1 a with a|a
  .exact h.2 x (U1 a)
  .exact h.2 x (List.mem_of_mem_drop a)⟩
theorem MR{s:Λ}(h:bS s){i:Nat}(hi:i<s.length):aA (s.take i++s.drop (i+1))<=aA s:=by
 have a:=h.2 s[i] (Q4 hi);have e:=prod_bound (h.erase i);rw[Da (x6 hi)];have:=V6 a.1 (show 0<=aA (s.take i++s.drop (i+1)) by omega);omega
def bg(s cs t:Λ):Int:=match ct s t 0 with
 |some n=>cs.getD n.toNat 0
 |none=>0
def rf(x:Λ)(i:Nat)(v:Int):Λ:=x.take i++[v]++x.drop i
def oO(f:Int->Int)(a:Int×Int)(v:Int):Int×Int:=if a.1<0\/f v<a.2 then(v,f v)else a
def sE(s cs:Λ)(k:Int)(i:Nat)(bO:Λ)(x:Λ):Int×Int:=bO.foldl (oO λv=>bg s cs (rf x i v)) (-1,k)
def gh(s:Λ)(i:Nat):Λ:=s.take i++s.drop (i+1)
def nT(s cs:Λ)(k:Int)(i:Nat)(bO:Λ):List (Int×Int):=(Z2 (aA (gh s i)).toNat).map λ(q:Nat)=>sE s cs k i bO (b1 (gh s i) q)
def upto{α:Type}(l:List α)(d:α)(i:Nat):List α:=l.take i++r8 (l.length-i) d
theorem mS{α:Type}(l:List α)(d:α)(i:Nat):(upto l d i).length=l.length:=by simp[upto];omega
theorem nU{α:Type}(l:List α)(d:α):upto l d 0=r8 l.length d:=by simp[upto]
theorem nV{α:Type}(l:List α)(d:α):upto l d l.length=l:=by simp[upto]
theorem Db{α:Type}{l:List α}{d:α}{i:Nat}(h:i<l.length):(upto l d i)[i]?=σ d:=by
 unfold upto;rw[Y9 Θ,List.getElem?_replicate,m3 Θ]
theorem nW{α:Type}{l:List α}{d x:α}{i:Nat}(h:l[i]?=σ x):(upto l d i).set i x=upto l d (i+1):=by
 have hi:=(x4.1 h).1;unfold upto;rw[Q1 _ _ Θ,u7,h];have e:i-(l.take i).length=0:=Θ
 obtain⟨m,hm⟩:∃m,l.length-i=m+1:=⟨l.length-i-1,Ω⟩;rw[e,hm,show l.length-(i+1)=m by omega];simp[List.replicate_succ]
theorem pW{α:Type}{l:List α}{i:Nat}{x:α}(h:l[i]?=σ x):l.set i x=l:=by
 apply j5;intro j;rw[Y4];split
 .rename_i a;subst a;rw[m3 (x4.1 h).1,h]
 .rfl
def yb:Λ->Int
 |[]=>0
 |x::l=>l.foldl min x
def Dc(P:Int->Prop)(m:Int):Prop:=P m/\∀x,P x->m<=x
def cX(s t:Λ):Prop:=∃n,ct s t 0=σ n
theorem MS(k v:Int)(s t:Λ):ct (k::s) (v::t) 0=if 0<=v/\v<k then(ct s t 0).map (λn=>n+(0*k+v)*aA s)else ν:=by
 conv=>lhs;unfold ct
 rw[ra]
theorem yc{s:Λ}:cX (k::s) (v::t)↔(0<=v/\v<k)/\cX s t:=by
 unfold cX;rw[MS];constructor
 .rintro⟨n,h⟩;split at h
  .rename_i a;cases e:ct s t 0 with
   |none=>rw[e]at h;cases h
   |some q=>exact⟨a,q,rfl⟩
  .cases h
 .rintro⟨a,q,e⟩;rw[m3 a,e];exact⟨_,rfl⟩
theorem Dd:cX [] t↔t=[]:=by
 cases t with
 |nil=>exact⟨λ_=>rfl,λ_=>⟨0,rfl⟩⟩
 |cons v t=>
  constructor
  .rintro⟨_,h⟩;cases h
  .intro h;cases h
theorem sF{s:Λ}(h:cX s t):s.length=t.length:=by
 obtain⟨n,h⟩:=h;rcases Nat.decEq s.length t.length with a|a
 .rw[xN s t 0 a]at h;cases h
 .exact a
theorem yd{s:Λ}(U:dh s){n:Int}(h:ct s t 0=σ n):b1 s n=t:=by
 have f:=mL U h;have h1:=oN U h;simp only[Int.zero_mul,Int.zero_add,Int.one_mul]at f;have a:=re U (i:=n.toNat) Ω;rw[h1]at a;have e:((n.toNat:Nat):Int)=n:=Ω
 rw[e]at a;exact(Z7 a).symm
theorem MT{s:Λ}(U:dh s){f:Λ->Int}(h:cX s t):bg s ((Z2 (aA s).toNat).map λ(q:Nat)=>f (b1 s q)) t=f t:=by
 obtain⟨n,a⟩:=h;have j:=mL U a;simp only[Int.zero_mul,Int.zero_add,Int.one_mul]at j;unfold bg;rw[a];simp only;rw[u5,x8,List.getElem?_range Ω];simp only[Z4,Option.getD_some];have e:((n.toNat:Nat):Int)=n:=Ω
 rw[e,yd U a]
theorem ye{s:Λ}(U:dh s)(a:cs.length=(aA s).toNat):cs=(Z2 (aA s).toNat).map λ(q:Nat)=>bg s cs (b1 s q):=by
 apply List.ext_getElem
 .simp[a]
 .intro i h1 e;rw[List.getElem_map,List.getElem_range];have f:=kF U;have hi:(i:Int)<aA s:=Ω
  unfold bg;rw[rb U Ω hi];simp only[u9];rw[u5,x6 h1];rfl
theorem rg{s:Λ}(U:dh s){q:Nat}(a:q<(aA s).toNat):cX s (b1 s q):=⟨_,rb U Ω (by have:=kF U;omega)⟩
theorem MU{s:Λ}(U:dh s)(e:cs.length=(aA s).toNat)(f:a.length=(aA s).toNat)(h:∀t,cX s t->bg s cs t=bg s a t):cs=a:=by
 rw[ye U e,ye U f];apply V2;intro q j;exact h _ (rg U (by simpa using j))
theorem MV(h:l≠[]):Dc (λc=>c∈l) (yb l):=by
 obtain⟨x,r,rfl⟩:∃v r,l=v::r:=by cases l with
  |nil=>exact m6 rfl h
  |cons v r=>exact⟨v,r,rfl⟩
 clear h;show Dc (λc=>c∈x::r) (r.foldl min x);induction r generalizing x with
 |nil=>exact⟨.head _,λy f=>by simp at f;simp[f]⟩
 |cons y r j=>
  rw[List.foldl_cons];obtain⟨h1,e⟩:=j (min x y);refine⟨?_,λz a=>?_⟩
  .rcases T5.1 h1 with h1|h1
   .rw[h1];rcases Int.le_total x y with h|h
    .rw[Int.min_eq_left h];exact .head _
    .rw[Int.min_eq_right h];exact .tail _ (.head _)
   .exact .tail _ (.tail _ h1)
  .rcases T5.1 a with rfl|a
   .have:=e _ (.head _);omega
   .rcases T5.1 a with rfl|a
    .have:=e _ (.head _);omega
    .exact e _ (.tail _ a)
def rh(m:Λ)(i j:Nat):Prop:=∀(p q:Nat)(x y:Int),p<q->q<=i->q≠j->m[p]?=σ x->m[q]?=σ y->x<=y
def sG(m:Λ)(i:Nat):Prop:=∀(p q:Nat)(x y:Int),p<q->q<i->m[p]?=σ x->m[q]?=σ y->x<=y
theorem MW{m:Λ}{i:Nat}(h:sG m i):rh m i i:=λp q x y h1 f j a e=>h p q x y h1 Ω a e
theorem MX{m:Λ}{i:Nat}(h:rh m i 0):sG m (i+1):=λp q x y h1 f a e=>h p q x y h1 Ω Ω a e
theorem MY{m:Λ}{i:Nat}{a b:Int}(h:rh m i j)(B:0<j)(r:m[j-1]?=σ a)(w:m[j]?=σ b)(z:a<=b):sG m (i+1):=by
 intro p q x y h1 C e f;by_cases s:q=j
 .subst s;rw[w]at f;cases f;by_cases A:p=q-1
  .subst A;rw[r]at e;cases e;exact z
  .have:=h p (q-1) x a Ω Ω Ω e r;omega
 .exact h p q x y h1 Ω s e f
theorem MZ{m:Λ}{i:Nat}{a b:Int}(h:rh m i j)(H:0<j)(hi:j<=i)(z:m[j-1]?=σ a)(A:m[j]?=σ b)(I:b<a):rh ((m.set j a).set (j-1) b) i (j-1):=by
 intro p q x y h1 w B e f;have C:=(x4.1 A).1;have E:∀(r:Nat),((m.set j a).set (j-1) b)[r]?=if r=j-1 then σ b else if r=j then σ a else m[r]?:=λr=>by
  by_cases h:r=j-1
  .subst h;rw[Z3 Θ,m3 rfl]
  .rw[X3 (Ne.symm h),m5 h];by_cases bi:r=j
   .subst bi;rw[Z3 C,m3 rfl]
   .rw[X3 (Ne.symm bi),m5 bi]
 rw[E]at e f;rw[m5 B]at f;by_cases s:q=j
 .rw[m3 s]at f;cases f;split at e
  .cases e;omega
  .split at e
   .omega
   .exact h p (j-1) x a Ω Ω Ω e z
 .rw[m5 s]at f;split at e
  .cases e;have:=h j q b y;by_cases F:j<q
   .exact this F w s A f
   .omega
  .split at e
   .rename_i G;subst G;cases e;exact h (p-1) q a y Ω w s z f
   .exact h p q x y h1 w s e f
theorem swap_perm{m:Λ}{i:Nat}{a b:Int}(q:i<j)(h:m[i]?=σ a)(f:m[j]?=σ b):((m.set j a).set i b).Perm m:=by
 induction m generalizing i j with
 |nil=>simp at h
 |cons x m p=>
  cases j with
  |zero=>omega
  |succ j=>
   cases i with
   |zero=>
    simp at h f ⊢;subst h;obtain⟨r,f⟩:=x4.1 f;rw[show m=m.take j++m[j]::m.drop (j+1) by simp];rw[Q1 _ _ Θ];have e:j-(m.take j).length=0:=Θ
    rw[e,f];simp only[List.set_cons_zero];refine(List.Perm.cons b (List.perm_middle)).F ?_;refine(List.Perm.swap x b _).F ?_;exact List.Perm.cons x List.perm_middle.symm
   |succ i=>
    simp at h f ⊢;exact p Ω h f
theorem M0{m:Λ}(h:sG m m.length):m.Pairwise (·<= ·):=by
 rw[X9];intro i j hi a e;exact h i j _ _ e a (x6 hi) (x6 a)
def Good(o:Λ)(n:Nat):Prop:=o.length=n/\∀(i:Nat)(p:Int),o[i]?=σ p->(0<=p/\p<n)/\∀j,j<i->o[j]? ≠σ p
theorem Good.inj{o:Λ}{i:Nat}{p:Int}(h:Good o n)(hi:o[i]?=σ p)(a:o[j]?=σ p):i=j:=by
 rcases Nat.lt_trichotomy i j with h1|h1|h1
 .exact m6 hi ((h.2 j p a).2 i h1)
 .exact h1
 .exact m6 a ((h.2 i p hi).2 j h1)
def De(m:Λ):Prop:=∀i:Nat,i<m.length->m[i]?=σ (i:Int)
theorem Df{o m:Λ}(h:Good o n)(a:m.Perm o)(U:m.Pairwise (·<= ·)):De m:=by
 have s:o.Nodup:=X9.2 λi j hi w C he=>by
  have:=h.inj (i:=i) (j:=j) (p:=o[j]) (by rw[x6 hi,he]) (x6 w);omega
 have y:=a.nodup_iff.2 s;have E:m.length=n:=by rw[a.length_eq,h.1]
 have q:∀x∈m,0<=x/\x<(n:Int):=λx z=>by
  obtain⟨i,hi,he⟩:=List.getElem_of_mem (a.mem_iff.1 z);exact(h.2 i x (by rw[x6 hi,he])).1
 have r:∀(i:Nat)(hi:i+1<m.length),m[i]<m[i+1]:=λi hi=>by
  have h1:=X9.1 U i (i+1) Ω hi Ω;have e:=X9.1 y i (i+1) Ω hi Ω;omega
 have A:∀(i:Nat)(hi:i<m.length),(i:Int)<=m[i]:=by
  intro i;induction i with
  |zero=>intro hi;exact(q _ (Q4 hi)).1
  |succ i f=>
   intro hi;have h1:=f Ω;have e:=r i hi;omega
 have B:∀(d i:Nat)(hi:i<m.length),i+d+1=m.length->m[i]<=(i:Int):=by
  intro d;induction d with
  |zero=>
   intro i hi he;have:=(q _ (Q4 hi)).2;omega
  |succ d f=>
   intro i hi he;have h1:=f (i+1) Ω Ω;have e:=r i Ω;omega
 intro i hi;rw[x6 hi];have h1:=A i hi;have e:=B (m.length-i-1) i hi Ω;congr 1;omega
theorem M1{o m:Λ}(h:De m)(e:m.Perm o):Good o m.length:=by
 have s:m.Nodup:=X9.2 λi j hi a x he=>by
  have h1:=h i hi;have f:=h j a;rw[x6 hi]at h1;rw[x6 a]at f;have h1:=Z7 h1;have f:=Z7 f;omega
 have w:=e.nodup_iff.1 s;refine⟨e.length_eq.symm,λi p hi=>⟨?_,λj a q=>?_⟩⟩
 .obtain⟨k,hk,he⟩:=List.getElem_of_mem (e.mem_iff.2 (x5 hi));have h1:=h k hk;rw[x6 hk,he]at h1;cases h1;omega
 .have r:=(x4.1 hi).1;have:=X9.1 w j i Ω r a;rw[x6 r]at hi;rw[x6 (show j<o.length by omega)]at q;exact this ((Z7 q).F (Z7 hi).symm)
theorem Good.Dg{o:Λ}{p:Nat}(h:Good o n)(f:p<n):∃j:Nat,o[j]?=σ (p:Int):=by
 let le:Int->Int->Bool:=λa b=>decide (a<=b);have h1:(o.mergeSort le).Perm o:=List.mergeSort_perm o le;have e:(o.mergeSort le).Pairwise (·<= ·):=by
  refine(List.pairwise_mergeSort (λa b c h1 e=>?_) (λa b=>?_) o).imp λh=>by simpa[le]using h
  .simp[le]at*;omega
  .simp[le];omega
 have q:=Df h h1 e p (by rw[h1.length_eq,h.1];exact f);obtain⟨j,r,he⟩:=List.getElem_of_mem (h1.mem_iff.1 (x5 q));exact⟨j,by rw[x6 r,he]⟩
def oP(o x:Λ):Λ:=(Z2 o.length).map λ(p:Nat)=>x.getD (o.idxOf (p:Int)) 0
theorem Dh(o x:Λ):(oP o x).length=o.length:=by simp[oP]
theorem Di{o x:Λ}{p:Int}(h:Good o n)(r:x.length=n)(a:o[j]?=σ p):(oP o x)[p.toNat]?=x[j]?:=by
 have h1:=(h.2 j p a).1;have s:=(x4.1 a).1;have hm:=x5 a;have e:=List.idxOf_lt_length_of_mem hm;have f:=h.inj (by rw[x6 e,List.getElem_idxOf e]) a;have q:((p.toNat:Nat):Int)=p:=Ω
 have w:=h.1;unfold oP;rw[x8,List.getElem?_range Ω];simp only[Z4,q,f];rw[u5,x6 (show j<x.length by omega)];rfl
theorem Dj{o x y:Λ}(h:Good o n)(f:x.length=n)(s:y.length=n)(q:∀(j:Nat)(p:Int),o[j]?=σ p->y[p.toNat]?=x[j]?):y=oP o x:=by
 refine j5 λp=>?_;have w:=h.1;by_cases r:p<n
 .obtain⟨j,a⟩:=h.Dg r;have h1:=q j p a;have e:=Di h f a;rw[u9]at h1 e;rw[h1,e]
 .rw[Z9 Ω,Z9 (by rw[Dh];omega)]
theorem oQ:∀{s t:Λ},cX s t↔s.length=t.length/\∀(i:Nat)(a v:Int),s[i]?=σ a->t[i]?=σ v->0<=v/\v<a
 |[],t=>by
  rw[Dd];exact⟨λh=>⟨by rw[h],λi a v h _=>by simp at h⟩,λh=>Z0 h.1.symm⟩
 |k::s,[]=>⟨λh=>m6 (sF h) Ξ,λh=>m6 h.1 Ξ⟩
 |k::s,v::t=>by
  rw[yc,oQ];refine⟨λ⟨h1,j,p⟩=>⟨by simp[j],λi a u e f=>?_⟩,λ⟨h1,j⟩=>⟨j 0 k v rfl rfl,by simpa using h1,λi a u e f=>j (i+1) a u (by simpa using e) (by simpa using f)⟩⟩;cases i with
  |zero=>simp at e f;subst e;subst f;exact h1
  |succ i=>exact p i a u (by simpa using e) (by simpa using f)
def fg(s o:Λ):Λ:=o.map λp=>s.getD p.toNat 0
theorem uX(s o:Λ):(fg s o).length=o.length:=by simp[fg]
theorem Dk{s o:Λ}{p:Int}(h:Good o n)(U:s.length=n)(a:o[j]?=σ p):(fg s o)[j]?=s[p.toNat]?:=by
 have h1:=(h.2 j p a).1;unfold fg;rw[x8,a,Z4,u5,x6 (show p.toNat<s.length by omega)];rfl
theorem M2{s o:Λ}(h:Good o n)(U:s.length=n){x:Int}(a:x∈fg s o):x∈s:=by
 obtain⟨p,e,rfl⟩:=o8.1 a;obtain⟨j,f,he⟩:=List.getElem_of_mem e;have h1:=(h.2 j p (by rw[x6 f,he])).1;rw[u5,x6 (show p.toNat<s.length by omega)];exact Q4 _
theorem bS.M3{s o:Λ}(a:bS s)(h:Good o n)(U:s.length=n):bS (fg s o):=
 ⟨by rw[uX,h.1,<-U];exact a.1,λx e=>a.2 x (M2 h U e)⟩
theorem M4{s o x:Λ}(h:Good o n)(U:s.length=n)(w:cX (fg s o) x):cX s (oP o x):=by
 obtain⟨h1,y⟩:=oQ.1 w;rw[uX,h.1]at h1;refine oQ.2 ⟨by rw[Dh,h.1,U],λp a v e z=>?_⟩;have A:p<n:=by have:=(x4.1 e).1;omega
 obtain⟨j,f⟩:=h.Dg A;have q:=Dk h U f;have r:=Di h h1.symm f;rw[u9]at q r;exact y j a v (by rw[q,e]) (by rw[<-r,z])
def pX(s cs o:Λ):Λ:=(Z2 (aA (fg s o)).toNat).map λ(q:Nat)=>bg s cs (oP o (b1 (fg s o) q))
theorem Dl(s cs o:Λ):(pX s cs o).length=(aA (fg s o)).toNat:=by simp[pX]
theorem yf{f:Int->Bool}{x:Int}:runN f (x::l)=if f x=ro then runN f l+1 else 0:=by
 grind [runN,List.takeWhile_cons]
theorem yg(f:Int->Bool):∀l:Λ,l.dropWhile f=l.drop (runN f l)
 |[]=>rfl
 |x::l=>by
  rw[List.dropWhile_cons,yf];by_cases h:f x=ro
  .rw[m3 h,m3 h,yg f l];rfl
  grind
theorem Dm(f:Int->Bool):∀l:Λ,l.takeWhile f=l.take (runN f l)
 |[]=>rfl
 |x::l=>by
  rw[List.takeWhile_cons,yf];by_cases h:f x=ro
  .rw[m3 h,m3 h,List.take_succ_cons,Dm f l]
  grind
theorem Dn{f:Int->Bool}:∀{l:Λ}{b:Int}{q:Λ},l.dropWhile f=b::q->f b=rs
 |x::l,b,q,h=>by
  rw[List.dropWhile_cons]at h;by_cases a:f x=ro
  .rw[m3 a]at h;exact Dn h
  grind
theorem yh{p:Λ}{a:Nat}{b:Int}{q:Λ}(h:p.drop a=b::q):p[a]?=σ b:=by
 have:=List.getElem?_drop (xs:=p) (i:=a) (j:=0)
 grind
theorem M5(p:Λ)(at_:Nat):match q8 p at_ with
  | .word a b=>lex (p.drop at_)=(((p.take b).drop a)::(lex (p.drop b)).1,(lex (p.drop b)).2)
  | .none=>lex (p.drop at_)=([],ro)
  | .text _=>lex (p.drop at_)=([],rs):=by
 have h:(p.drop at_).dropWhile c0=p.drop (gK p at_):=by rw[yg,List.drop_drop];rfl
 have j:(p.drop (gK p at_)).dropWhile b7=p.drop (j8 p (gK p at_)):=by rw[yg,List.drop_drop];rfl
 have s:(p.drop (gK p at_)).takeWhile b7=(p.take (j8 p (gK p at_))).drop (gK p at_):=by
  grind [Dm,List.drop_take,j8]
 have w:runN b7 (p.drop (gK p at_))=j8 p (gK p at_)-gK p at_:=by grind [j8]
 have A:gK p at_<=j8 p (gK p at_):=by grind [j8]
 unfold q8;generalize gK p at_=a at*;generalize j8 p a=b at*;by_cases h1:b<p.length/\(∀c,p[b]?=σ c->c0 c=rs)
 .grind [mN,List.drop_eq_nil_iff,yh]
 .rw[m5 h1];by_cases f:a=b
  .rw[m3 f];simp only;subst f;rw[mN,h];cases e:p.drop a with
   |nil=>rfl
   |cons x q=>
    exfalso;have B:=yh e
    grind [Dn]
  .rw[m5 f];simp only;rw[mN (p.drop at_),h];cases e:p.drop a with
   |nil=>
    rw[e]at w;have:runN b7 []=0:=rfl;omega
   |cons x q=>
    simp only;rw[e]at j s w;have y:b7 x=ro:=by
     grind [yf]
    rw[m3 y,j,s];cases z:p.drop b with
    |nil=>simp only;rw[mN []];rfl
    |cons c r=>
     simp only;have C:=yh z
     grind
def iT(w:x3)(g:Nat)(R:Nat->Prop)(d8:List (Λ))(e:Bool):Prop:=∃a p at_,nS w g a p at_ (-1)/\(∀r,li a r->R r)/\lex (p.drop at_)=(d8,e)
theorem iT.aa{g:Nat}{e:Bool}(h:iT w g R d8 e)(f:af S w I)(j:¬S g)(B:∀r,R r->¬S r):iT I g R d8 e:=by
 obtain⟨q,p,a,⟨h1,s,x,y,bu,C⟩,z,A⟩:=h;exact⟨q,p,a,⟨h1,s,x,y.aa f j,bu,by grind [bk]⟩,z,A⟩
theorem iT.words{g:Nat}(h:iT w g R d8 f):d8.length<=100000/\∀t∈d8,Bytes t/\t≠[]/\t.length<=100000:=by
 obtain⟨s,p,a,⟨x,y,z,_⟩,_,j⟩:=h;have A:(p.drop a).length<=100000:=by grind
 have q:=q5 _ (p.drop a) (p9 _);rw[j]at q;refine⟨by grind,λt B=>?_⟩;have e:=uN _ (p.drop a) (p9 _) t (by grind);refine⟨λb r=>?_,e.1,Ω⟩;have:=rc (e.2.1 b r);omega
def M6(w:x3)(g:Nat)(R:Nat->Prop)(d8:List (Λ))(a:Bool)(v:x1)(I:x3):Prop:=af (λr=>r=g) w I/\match d8 with
 |t::l=>iT I g R l a/\∃n:Int,v= .tuple #[cc t,Δ n,Δ 0]
 |[]=>∃n:Int,v= .tuple #[cc [],Δ n,Δ (if a then 2 else 11)]
theorem sH{g:Nat}{z:Bool}(h:iT w g R d8 z):aj x7 xp [Γ g] w (M6 w g R d8 z):=by
 obtain⟨A,p,a,h1,B,q⟩:=h;refine(MA h1).X ?_;intro v I _ hw;have e:=M5 p a;unfold sC at hw;cases r:q8 p a with
 |word x y=>
  rw[r]at hw e;simp only at hw e;rw[q]at e;obtain⟨rfl,s,U⟩:=hw;obtain⟨f,j⟩:=Prod.mk.inj e;subst f j;exact⟨s,⟨A,p,y,U,B,rfl⟩,_,rfl⟩
 |none=>
  rw[r]at hw e;simp only at hw e;rw[q]at e;obtain⟨f,j⟩:=Prod.mk.inj e;subst f j;obtain⟨n,rfl,C⟩:=hw;exact⟨C.aa _,_,rfl⟩
 |text b=>
  rw[r]at hw e;simp only at hw e;rw[q]at e;obtain⟨f,j⟩:=Prod.mk.inj e;subst f j;obtain⟨rfl,s,_⟩:=hw;exact⟨s,_,rfl⟩
def lZ(w:Λ):x1:=match ib w with
 |some n=>.tuple #[Δ n,Δ 0]
 |none=>.tuple #[Δ 0,Δ 4]
theorem Do{i:Nat}{b:Int}(hi:l[i]?=σ b):(l.take (i+1)).all gI=((l.take i).all gI&&gI b):=by
 grind [u7]
theorem Dp{i:Nat}{b:Int}(hi:l[i]?=σ b):(l.take (i+1)).foldl fE 0=fE ((l.take i).foldl fE 0) b:=by
 grind [u7]
theorem Dq(a:l≠[])(h:l.all gI=ro):lY l=σ (l.foldl fE 0):=by
 grind [lY]
theorem Dr{i:Nat}{b:Int}(hi:l[i]?=σ b)(a:gI b=rs):lY l=ν:=by
 grind [lY]
def ri(w l:Λ)(s:Int):Prop:=(s=1\/s= -1)/\ib w=(lY l).map λn=>s*n
theorem Ds:ri (45::l) l (-1):=⟨.inr rfl,by simp only[ib];congr 1;funext n;omega⟩
theorem Dt{w:Λ}(h:∀b,w[0]?=σ b->b≠45):ri w w 1:=⟨.inl rfl,by
 have e:ib w=lY w:=by
  unfold ib
  grind
 rw[e];cases lY w<;>grind⟩
theorem uY{w:Λ}{s:Int}(h:ri w l s)(a:lY l=ν):lZ w= .tuple #[Δ 0,Δ 4]:=by
 unfold lZ;rw[h.2,a];rfl
theorem Du{w:Λ}{s n:Int}(h:ri w l s)(a:lY l=σ n):lZ w= .tuple #[Δ (s*n),Δ 0]:=by
 unfold lZ;rw[h.2,a];rfl
theorem M7(C:Bytes l)(ab:l.length<=100000):aj x7 JF [cc l] w λv I=>v=lZ l/\Ext w I:=by
 refine az func118 ?_;rw[Mi];refine jA (λN O J=>Ext w J/\∃(m:Λ)(s:Int),N=cc m/\O=Δ s/\Bytes m/\m.length<=100000/\ri l m s) ?_ ?_
 .rintro _ _ J ⟨E,m,s,rfl,rfl,G,ac,H⟩;rw[CH G (λb a=>by cases a),ai];refine⟨λp=>⟨by rw[uY H (by rw[p];rfl)],E⟩,λp=>?_⟩;refine xW dd.u cS.u cM.u G Ω λbv V K L _=>?_;rw[aS cS.u L];refine tZ.range m.length (λi _ _ c q=>Ext V q/\c=Δ ((m.take i).foldl fE 0)/\(m.take i).all gI=ro) Ω (by grind [Ext.refl]) ?_ ?_
  .rintro i P t3 _ q Q hi ⟨e,rfl,f⟩ ad;obtain⟨b,z⟩:=aF (l:=m) hi;have ae:=G b (x5 z);refine bC Ω ?_;refine Mj (λ_ _ c A=>Ext V A/\c=Δ ((m.take (i+1)).foldl fE 0)/\(m.take (i+1)).all gI=ro) ?_ ?_
   .rintro af ag c A ah;rw[aM]
    grind
   intro ay B;rw[be cS.u cM.i Ψ (L.W e) z];refine aV (λv A=>q=A/\v= .bool (!gI b)) ?_ ?_
   rotate_left
   .intro R S;rw[aP,ai];refine⟨by grind [gI],λh=>?_⟩;rw[bL]
    grind [gI]
   rintro _ _ ⟨rfl,rfl⟩;cases M:gI b with
   |false=>
    rw[X4,bY];exact⟨by grind [uY,Dr],(E.F K).F e⟩
   |true=>
    rw[Y6,aX];have ak:=rc M;have j:=xR f ⟨R6 _,Φ⟩;rw[Dp z,Do z,f,M]at B;generalize (m.take i).foldl fE 0=n at*;have j:=j;rw[dR,wrap_u8 Ω Ω,e1 cM.u ap.u,lm Ω Ω,dR,lm Ω Ω,uD Φ,Int.tdiv_eq_ediv_of_nonneg Ω];rw[lm Ω Ω,bL,ai];refine⟨λU=>B _ _ _ _ ⟨e,?_,rfl⟩,λU=>?_⟩
    .grind [fE,au]
    .rw[iO,lm Ω Ω,aM,lm Ω Ω]
     grind [fE,au]
  .rintro P t3 _ q Q ⟨e,rfl,f⟩;rw[o6]at f ⊢;refine ci Ω ?_;have j:=xR f ⟨R6 _,Φ⟩;have j:0<=m.foldl fE 0/\m.foldl fE 0<=4611686018427387904:=j;rw[iO];have hw:Y7.wrap (s*m.foldl fE 0)=s*m.foldl fE 0:=by
    rcases H.1 with rfl|rfl<;>exact(by grind [lm])
   rw[hw];exact⟨by grind [Du,Dq],(E.F K).F e⟩
 .intro ay B;refine aV (λv V=>w=V/\∃c:Bool,v= .bool c/\(c=ro↔l[0]?=σ 45)) ?_ ?_
  .rintro _ _ ⟨rfl,c,rfl,W⟩;rw[bU];refine⟨λX=>?_,λal=>?_⟩
   .intro am Y _ _;have Z:=W.1 X;cases l with
    |nil=>simp at Z
    |cons x r=>
     have aa:x=45:=by grind
     subst aa;rw[CI (y:=1) (i:=1) rfl dd.u Ξ];exact B _ _ _ ⟨Y,r,-1,rfl,rfl,λb a=>C b (.tail _ a),by grind,Ds⟩
   grind [Ext.refl,Dt]
  .intro R S;rw[Mo C (λb a=>by cases a),ai];refine⟨λp=>?_,by grind⟩;cases l with
   |nil=>exact m6 rfl p
   |cons x r=>
    rw[sz (y:=0) (b:=x) rfl dd.u C rfl,bh]
    grind
theorem uZ{s s':aG}{w:Λ}(h:dS s=σ (w,s')):s.d8=w::s'.d8/\s'={s with d8:=s'.d8}:=by
 grind [dS]
theorem jl{n:Int}{s s':aG}(h:bc lo hi s=σ (n,s')):(lo<=n/\n<=hi)/\(∃w,s.d8=w::s'.d8/\ib w=σ n)/\s'={s with d8:=s'.d8}:=by
 grind [bc,dS]
def jF(k:Nat)(s s':aG):Prop:=s.d8.length=s'.d8.length+k/\s'={s with d8:=s'.d8}
theorem jF.refl(s:aG):jF 0 s s:=⟨rfl,rfl⟩
theorem jF.F{a b:Nat}{r s t:aG}(h:jF a r s)(k:jF b s t):jF (a+b) r t:=⟨by have:=h.1;have:=k.1;omega,by rw[k.2,h.2]⟩
theorem ds{n:Int}{s s':aG}(h:bc lo hi s=σ (n,s')):jF 1 s s':=by
 obtain⟨_,⟨w,h1,_⟩,a⟩:=jl h;exact⟨by rw[h1];simp,a⟩
theorem jF.eqs{k:Nat}{s s':aG}(h:jF k s s'):s'.m1=s.m1/\s'.big=s.big/\s'.m2=s.m2:=by rw[h.2];grind
theorem kH{α:Type}{f:List α->aG->Option (α×aG)}(e:List α->aG->Prop)(h:∀acc s a s',e acc s->f acc s=σ (a,s')->e (acc++[a]) s'):
  ∀(n:Nat)(acc:List α)(s:aG)(l:List α)(s':aG),e acc s->c3 f n acc s=σ (l,s')->e l s'/\l.length=acc.length+n
 :=by
 intro a;induction a<;>grind [c3]
theorem u0{n:Int}{k:Nat}{s s':aG}(h:ff n k s=σ (l,s')):jF l.length s s'/\l.length=k/\l.Nodup/\∀v∈l,0<=v/\v<n:=by
 have:=kH (λacc t=>jF acc.length s t/\acc.Nodup/\∀v∈acc,0<=v/\v<n) (λacc t a t' ⟨h1,f,p⟩ h=>by
  cases e:bc 0 (n-1) t with
  |none=>grind
  |some q=>
   obtain⟨v,r⟩:=q;rw[e]at h;simp only at h;split at h
   .cases h
   .rename_i w;simp only[Y8,T2]at h;obtain⟨rfl,rfl⟩:=h;have z:=(jl e).1;refine⟨by rw[p8];exact h1.F (ds e),List.nodup_append.2 ⟨f,Ξ,λx j y A he=>?_⟩,λx j=>?_⟩
    all_goals grind) k [] s l s' (by grind [jF.refl]) h
 grind
theorem yi:∀{a acc:Λ}{s s':aG}{t:Λ},kC a acc s=σ (t,s')->∃u,t=acc++u/\cX a u/\jF u.length s s'
 |[],acc,s,s',t,h=>by
  simp only[kC,Y8,T2]at h;obtain⟨rfl,rfl⟩:=h;exact⟨[],Ξ,Dd.2 rfl,jF.refl s⟩
 |k::a,acc,s,s',t,h=>by
  simp only[kC]at h;cases e:bc 0 (k-1) s with
  |none=>grind
  |some q=>
   obtain⟨v,s1⟩:=q;rw[e]at h;obtain⟨u,rfl,j,f⟩:=yi h;have p:=(jl e).1;exact⟨v::u,Ξ,by grind [yc],by rw[Y3,Nat.add_comm];exact(ds e).F f⟩
def oR(co:Λ)(l:List (Λ×Int)):Prop:=(l.map (·.1)).Nodup/\∀p∈l,cX co p.1/\0<=p.2
theorem pY{acc:List (Λ×Int)}{s s':aG}{a:Λ×Int}(h:eP co acc s=σ (a,s')):a.1∉acc.map (·.1)/\cX co a.1/\0<=a.2/\jF (a.1.length+1) s s':=by
 unfold eP at h;cases f:kC co [] s with
 |none=>grind
 |some q=>
  obtain⟨t,s1⟩:=q;rw[f]at h;simp only at h;obtain⟨u,j,p,r⟩:=yi f;rw[List.nil_append]at j;subst j;cases e:bc 0 au s1 with
  |none=>grind
  |some q=>
   obtain⟨c,s2⟩:=q;rw[e]at h;simp only at h;split at h
   .cases h
   .rename_i w;simp only[Y8,T2]at h;obtain⟨rfl,rfl⟩:=h;exact⟨w,p,(jl e).1.1,r.F (ds e)⟩
structure yj(s s':aG):Prop where
 d8:s'.d8.length<s.d8.length
 big:s.big=ro->s'.big=ro
theorem M8{s s':aG}{l:List (Λ×Int)}(r:∀q∈s.m2,oR q.1 q.2/\q.2.length<=N)(C:s.d8.length<=N)(h:dM co s=σ (l,s')):
  oR co l/\l.length<=N/\s'.m2=s.m2/\yj s s':=by
 unfold dM at h;cases w:bc (-au) au s with
 |none=>grind
 |some q=>
  obtain⟨n,s1⟩:=q;rw[w]at h;simp only at h;have h1:=ds w;obtain⟨E,F,f⟩:=h1.eqs;split at h
  .cases U:s1.m2[(-n-1).toNat]? with
   |none=>grind
   |some q=>
    obtain⟨z,fx⟩:=q;rw[U]at h;simp only at h;split at h
    .rename_i A;simp only[Y8,T2]at h;obtain⟨rfl,rfl⟩:=h;subst A;have hm:=x5 U;rw[f]at hm;exact⟨(r _ hm).1,(r _ hm).2,f,by have:=h1.1;omega,by grind⟩
    .cases h
  .have:=kH (λacc t=>oR co acc/\t.m2=s.m2/\t.d8.length+acc.length<=s1.d8.length/\(s.big=ro->t.big=ro)) (λacc t a t' ⟨g1,j,B,x⟩ g=>by
    obtain⟨G,H,I,y⟩:=pY g;obtain⟨f1,f2,f3⟩:=y.eqs;refine⟨⟨?_,λp e=>?_⟩,by rw[f3,j],by have:=y.1;grind,by grind⟩
    .rw[l7];exact List.nodup_append.2 ⟨g1.1,Ξ,by grind⟩
    .rcases o9.1 e with e|e
     .exact g1.2 p e
     grind) n.toNat [] (ba (decide (16384<min (s1.m1+n) au)) {s1 with m1:=min (s1.m1+n) au}) l s' ⟨⟨Ξ,λp e=>by cases e⟩,f,by simp[ba],by grind [ba]⟩ h
   obtain⟨⟨g1,j,B,x⟩,_⟩:=this;have:=h1.1;exact⟨g1,Ω,j,⟨Ω,x⟩⟩
structure sI(all:Λ)(N:Nat)(f:cq):Prop where
 scope:f.scope.Nodup/\∀v∈f.scope,0<=v/\v<all.length
 co:f.co=f.scope.map λv=>all.getD v.toNat 0
 other:0<=f.other
 lines:oR f.co f.lines
 len:f.lines.length<=N
theorem M9{all:Λ}{s s':aG}{f:cq}(E:∀q∈s.m2,oR q.1 q.2/\q.2.length<=N)(O:s.d8.length<=N)(h:dl all s=σ (f,s')):
  sI all N f/\(∀q∈s'.m2,oR q.1 q.2/\q.2.length<=N)/\yj s s'/\(s'.big=rs->f.scope.length<=6/\dD f.co=rs):=by
 unfold dl at h;cases x:bc (-au) au s with
 |none=>grind
 |some q=>
 obtain⟨a,s1⟩:=q;rw[x]at h;simp only at h;have t0:=ds x;obtain⟨P,F,G⟩:=t0.eqs;cases h1:ff all.length a.natAbs s1 with
 |none=>grind
 |some q=>
 obtain⟨sc,s2⟩:=q;rw[h1]at h;simp only at h;obtain⟨y,Q,H,I⟩:=u0 h1;obtain⟨R,J,K⟩:=y.eqs;generalize L:sc.map (λv=>all.getD v.toNat 0)=co at h;cases j:bc 0 au (ba (decide (6<a.natAbs)||dD co) s2)with
 |none=>grind
 |some q=>
 obtain⟨other,e⟩:=q;rw[j]at h;simp only at h;have z:=ds j;obtain⟨S,A,p⟩:=z.eqs;have p:e.m2=s.m2:=by rw[p];show s2.m2=_;rw[K,G]
 have T:e.d8.length<s.d8.length:=by
  have:=t0.1;have:=y.1;have r:=z.1
  grind [ba]
 cases r:dM co e with
 |none=>grind
 |some q=>
 obtain⟨lines,w⟩:=q;rw[r]at h;simp only[Y8,T2]at h;obtain⟨rfl,rfl⟩:=h;obtain⟨g1,M,U,B⟩:=M8 (by rw[p];exact E) Ω r;have V:=B.big;have gt:=B.d8;have W:e.big=ro->∀C:aG,C=(if a<0 then{w with m2:=w.m2++[(co,lines)]}else w)->C.big=ro:=by grind
 have A:e.big=(s.big||(decide (6<a.natAbs)||dD co)):=by
  rw[A];show(s2.big||_)=_;rw[J,F]
 refine⟨⟨⟨H,I⟩,L.symm,(jl j).1.1,g1,M⟩,λq X=>?_,⟨?_,by grind⟩,λY=>?_⟩
 all_goals grind
structure fh(N:Nat)(f:b5):Prop where
 name:f.name.length<=64
 k:1<=f.k/\f.k<=2147483648
 co:1<=f.co.length/\f.co.length<=64/\∀z∈f.co,1<=z/\z<=32
 mT:f.d7.length<=256
 d7:∀x∈f.d7,sI f.co N x/\x.scope.length<=6/\dD x.co=rs
theorem sJ{b:Bool}{s:aG}(h:(ba b s).big=rs):s.big=rs/\b=rs:=by
 have h:(s.big||b)=rs:=h
 grind
theorem Dv{s s':aG}{f:b5}(U:s.m2=[])(h:iR s=σ (f,s'))(r:s'.big=rs):fh s.d8.length f/\f.name∈s.d8:=by
 unfold iR at h;cases B:dS s with
 |none=>grind
 |some q=>
 obtain⟨name,s0⟩:=q;rw[B]at h;simp only at h;obtain⟨J,V⟩:=uZ B;cases h1:bc 1 au (ba (decide (64<name.length)) s0)with
 |none=>grind
 |some q=>
 obtain⟨n,s1⟩:=q;rw[h1]at h;simp only at h;have e:=ds h1;cases C:bc 1 au (ba (decide (64<n)) s1)with
 |none=>grind
 |some q=>
 obtain⟨most,s2⟩:=q;rw[C]at h;simp only at h;have w:=ds C;cases E:bc 0 au s2 with
 |none=>grind
 |some q=>
 obtain⟨count,F⟩:=q;rw[E]at h;simp only at h;have t3:=ds E;cases y:bc 1 au (ba (decide (256<count)) F)with
 |none=>grind
 |some q=>
 obtain⟨k,j⟩:=q;rw[y]at h;simp only at h;have t4:=ds y;cases G:c3 (fR most) n.toNat [] (ba (decide (2147483648<k)) j)with
 |none=>grind
 |some q=>
 obtain⟨co,p⟩:=q;rw[G]at h;simp only at h;cases H:c3 (λ_ s=>dl co s) count.toNat [] p with
 |none=>grind
 |some q=>
 obtain⟨d7,O⟩:=q;rw[H]at h;simp only[Y8,T2]at h;obtain⟨rfl,rfl⟩:=h;have P:=kH (λ(acc:Λ)t=>t.m2=[]/\t.d8.length<=s.d8.length/\(t.big=rs->j.big=rs/\k<=2147483648/\∀z∈acc,1<=z/\z<=32)) (λacc t a t' ⟨g1,I,Q⟩ g=>by
  unfold fR at g;cases A:bc 1 most t with
  |none=>grind
  |some q=>
   obtain⟨z,e⟩:=q;rw[A]at g;simp only[Y8,T2]at g;obtain⟨rfl,rfl⟩:=g;have K:=ds A;obtain⟨ae,af,R⟩:=K.eqs;have ag:=(jl A).1;refine⟨by show e.m2=[];rw[R,g1],by show e.d8.length<=_;have:=K.1;omega,λr=>?_⟩
   grind [sJ]) n.toNat [] (ba (decide (2147483648<k)) j) co p ⟨by
     show j.m2=[];rw[t4.eqs.2.2];show F.m2=[];rw[t3.eqs.2.2,w.eqs.2.2];show s1.m2=[];rw[e.eqs.2.2];show s0.m2=[]
     grind,by
     show j.d8.length<=_;have ah:=e.1;have ai:=w.1;have a3:=t3.1;have a4:=t4.1
     grind [ba],by grind [sJ]⟩ G
 obtain⟨⟨aj,ak,S⟩,T⟩:=P;have W:=kH (λ(acc:List cq)t=>(∀q∈t.m2,oR q.1 q.2/\q.2.length<=s.d8.length)/\t.d8.length<=s.d8.length/\(t.big=rs->p.big=rs/\∀x∈acc,sI co s.d8.length x/\x.scope.length<=6/\dD x.co=rs)) (λacc t a t' ⟨g1,I,Q⟩ g=>by
  obtain⟨al,X,Y,am⟩:=M9 g1 I g;refine⟨X,by have:=Y.d8;omega,λr=>?_⟩
  grind [yj.big]) count.toNat [] p d7 O (by grind) H
 obtain⟨⟨_,_,d3⟩,d4⟩:=W;obtain⟨Z,d5⟩:=d3 r;obtain⟨L,aa,an⟩:=S Z;rw[t4.eqs.2.1]at L;obtain⟨M,ab⟩:=sJ L;rw[t3.eqs.2.1,w.eqs.2.1]at M;obtain⟨N,ac⟩:=sJ M;rw[e.eqs.2.1]at N;obtain⟨_,ad⟩:=sJ N;have:=of_decide_eq_false ab;have:=of_decide_eq_false ac;have:=of_decide_eq_false ad;have ao:=(jl h1).1;have hk:=(jl y).1;simp only[List.length_nil,W7]at T d4;exact⟨⟨by grind,⟨hk.1,aa⟩,by grind,by grind,d5⟩,by grind⟩
def lp(x:cq)(k:Int)(t:Λ):Int:=min (match x.lines.find? (λp=>decide (p.1=t))with
 |some p=>p.2
 |none=>x.other) k
def bz(l:Λ):Λ:=((Z2 64).map λ(v:Nat)=>(v:Int)).filter λv=>decide (v∈l)
def aB(co scope:Λ):Λ:=scope.map λv=>co.getD v.toNat 0
def rj(scope a t:Λ):Λ:=scope.map λv=>t.getD (a.idxOf v) 0
abbrev c4:Type:=Λ×Λ
def jG(co:Λ)(k:Int)(x:cq):c4:=(bz x.scope,(bl (aB co (bz x.scope))).map λt=>lp x k (rj x.scope (bz x.scope) t))
def bV(k:Int)(a b:Λ):Λ:=List.zipWith (λx y=>min (x+y) k) a b
def jH(k:Int)(acc:List c4)(g:c4):List c4:=if g.1∈acc.map (·.1)then acc.map λh=>if h.1=g.1 then(h.1,bV k h.2 g.2)else h else acc++[g]
def kI:Λ->Int
 |[]=>0
 |x::l=>x*64 ^ l.length+kI l
def dt(l:Λ):Int:=l.length*64 ^ 6+kI l
def jm(g:c4):List c4->List c4
 |[]=>[g]
 |h::l=>if dt h.1<dt g.1 then h::jm g l else g::h::l
def gi(g:c4):Bool:=g.2.any λc=>decide (0<c)
def gj(f:b5):List c4:=(f.d7.map (jG f.co f.k)).foldl (jH f.k) []
def gk(f:b5):List c4:=((gj f).filter gi).foldl (λl g=>jm g l) []
structure aD where
 k:Int
 co:Λ
 zero:Int
 unary:List (Λ)
 d7:List c4
deriving DecidableEq
def df(f:b5):aD:=(gk f).foldl (λn g=>match g.1 with
 |[]=>{n with zero:=g.2.getD 0 0}
 |[v]=>{n with unary:=n.unary.set v.toNat g.2}
 |_=>{n with d7:=n.d7++[g]}) ⟨f.k,f.co,0,f.co.map λz=>r8 z.toNat 0,[]⟩
abbrev l0:Type:=Rd (Λ)×Rd (List (Λ×Int))
def bG(g gs:Nat)(A:ah):ah:=λr=>r=g\/r=gs\/A r
def jn(gs:Nat)(e big a f m1:Int)(sv:x1):List x1:=[Γ gs,Δ e,Δ big,Δ a,Δ f,Δ m1,sv]
def cT(g gs:Nat)(A:ah)(B:ah):ah:=λr=>¬bG g gs A r/\B r
def mU(w:x3)(g gs:Nat)(A:ah)(B:ah):Prop:=g≠gs/\¬A g/\¬A gs/\(∀r,bG g gs A r->r<w.heap.size)/\∀r,B r->r<w.heap.size
def ek(w:x3)(g gs:Nat)(A:ah)(B:ah)(s:aG)(a:Bool):Prop:=mU w g gs A B/\iT w gs (cT g gs A B) s.d8 a/\(0<=s.m1/\s.m1<=au/\s.m2.length+s.d8.length<=100000)/\
 ∃big e f m1 sv,ag w g cF (jn gs 0 big e f m1 sv)/\((s.big=ro↔big≠0)/\(s.big=rs->m1=s.m1))/\bM A (cT g gs A B) w [sv] (show List l0 from s.m2)
def fq(w:x3)(g gs:Nat)(A:ah)(B:ah):Prop:=mU w g gs A B/\∃(e big a f m1:Int)(sv:x1)(l:List l0),ag w g cF (jn gs e big a f m1 sv)/\(e≠0/\l.length<=100000)/\bM A (cT g gs A B) w [sv] l
theorem mU.aa{g:Nat}{A:ah}{B:ah}(h:mU w g gs A B)(e:af S w I):mU I g gs A B:=by
 obtain⟨h1,f,j,p,q⟩:=h;exact⟨h1,f,j,λr a=>Nat.lt_of_lt_of_le (p r a) e.size,λr a=>Nat.lt_of_lt_of_le (q r a) e.size⟩
theorem Dw{g:Nat}{A:ah}{B:ah}(a:∀r,A r->¬S r)(e:∀r,cT g gs A B r->¬S r):∀r,A r\/cT g gs A B r->¬S r:=λr h=>h.elim (a r) (e r)
theorem ek.aa{g:Nat}{A:ah}{B:ah}{s:aG}(h:ek w g gs A B s f)(a:af S w I)(e:∀r,bG g gs A r->¬S r)(j:∀r,cT g gs A B r->¬S r):ek I g gs A B s f:=by
 obtain⟨h1,p,q,big,x,y,m1,sv,z,C,E⟩:=h;exact⟨h1.aa a,p.aa a (e gs (.inr (.inl rfl))) j,q,big,x,y,m1,sv,z.aa a (e g (.inl rfl)),C,aq.aa E a λr _ h=>Dw (λr F=>e r (.inr (.inr F))) j r h⟩
theorem fq.aa{g:Nat}{A:ah}{B:ah}(h:fq w g gs A B)(a:af S w I)(f:∀r,bG g gs A r->¬S r)(j:∀r,cT g gs A B r->¬S r):fq I g gs A B:=by
 obtain⟨h1,e,big,p,q,m1,sv,l,s,x,y⟩:=h;exact⟨h1.aa a,e,big,p,q,m1,sv,l,s.aa a (f g (.inl rfl)),x,aq.aa y a λr _ h=>Dw (λr z=>f r (.inr (.inr z))) j r h⟩
theorem ek.W{g:Nat}{A:ah}{B:ah}{s:aG}{a:Bool}(h:ek w g gs A B s a)(e:Ext w I):ek I g gs A B s a:=h.aa (e.aa λ_=>False) (λ_ _ h=>h) (λ_ _ h=>h)
theorem fq.W{g:Nat}{A:ah}{B:ah}(h:fq w g gs A B)(a:Ext w I):fq I g gs A B:=h.aa (a.aa λ_=>False) (λ_ _ h=>h) (λ_ _ h=>h)
def gl(w:x3)(g gs:Nat)(A:ah)(B:ah)(a:Bool)(s':Option aG)(I:x3):Prop:=af (bG g gs A) w I/\match s' with
 |some s'=>ek I g gs A B s' a
 |none=>fq I g gs A B
theorem yk{g:Nat}{big a f m1:Int}(h:ag w g cF (jn gs e big a f m1 sv)):aj x7 mF [Γ g] w λv I=>v= .bool (decide (e=0))/\Ext w I:=by
 refine az func51 ?_;rw[bR,aT cF.p rfl,aT fl.p rfl,ax Ψ (h.cell rfl),bh];exact⟨rfl,Ext.refl _⟩
theorem rk{g:Nat}{A:ah}{B:ah}{s:aG}{a:Bool}(h:ek w g gs A B s a):aj x7 mF [Γ g] w λv I=>v= .bool ro/\Ext w I:=by
 obtain⟨_,_,_,big,f,j,m1,sv,e,_⟩:=h;exact(yk e).X λ_ _ _ h=>h
theorem pZ{g:Nat}{A:ah}{B:ah}(h:fq w g gs A B):aj x7 mF [Γ g] w λv I=>v= .bool rs/\Ext w I:=by
 obtain⟨_,e,big,p,q,m1,sv,l,a,f,_⟩:=h;refine(yk a).X ?_;rintro _ J _ ⟨rfl,j⟩;exact⟨by rw[ms f.1],j⟩
theorem u1{g:Nat}{A B:ah}(h:A r\/cT g gs A B r)(a:¬A g):r≠g:=by
 rintro rfl;rcases h with h|h
 .exact a h
 .exact h.1 (.inl rfl)
theorem u2{g:Nat}{A:ah}{B:ah}{big x q m1:Int}{l:List l0}(U:mU w g gs A B)(s:ag w g cF (jn gs 0 big x q m1 sv))(y:bM A (cT g gs A B) w [sv] l)(he:e≠0)(z:l.length<=100000):
  aj x7 pz [Γ g,Δ e,Δ at_] w λ_ I=>af (λr=>r=g) w I/\fq I g gs A B:=by
 refine az func54 ?_;rw[bR,aT cF.p rfl,aT fl.p rfl,ax Ψ (s.cell rfl),bh,ai];refine⟨λ_=>?_,λh=>m6 rfl h⟩;rw[bR,aT cF.p rfl,aT fl.p rfl];refine bt (g:=g) (o:=1) lb.i rfl rfl s (by simp[jn]) λJ C H a=>?_;have a:=a;rw[bR,aT cF.p rfl,aT fl.p rfl];refine bt (g:=g) (o:=3) ae.i rfl rfl a (by simp[jn]) λV E K f=>?_;have f:=f;have j:=C.F E;exact⟨j,U.aa j,e,big,at_,q,m1,sv,l,f,⟨he,z⟩,aq.aa y j λr _ h G=>u1 h U.2.1 G⟩
theorem u3{g:Nat}{A:ah}{B:ah}{s:aG}{a:Bool}(h:ek w g gs A B s a)(he:e≠0):aj x7 pz [Γ g,Δ e,Δ at_] w λ_ I=>af (λr=>r=g) w I/\fq I g gs A B:=by
 obtain⟨U,_,f,big,q,x,m1,sv,j,_,p⟩:=h;exact u2 U j p he (by have:=f.2.2;show s.m2.length<=_;omega)
theorem Na{g:Nat}{A:ah}{B:ah}(h:fq w g gs A B):aj x7 pz [Γ g,Δ e,Δ at_] w λ_ I=>Ext w I:=by
 obtain⟨_,f,big,j,q,m1,sv,l,h1,a,_⟩:=h;refine az func54 ?_;rw[bR,aT cF.p rfl,aT fl.p rfl,ax Ψ (h1.cell rfl),bh,ai];exact⟨λh=>m6 h a.1,λ_=>Ext.refl _⟩
theorem va{g:Nat}{A:ah}{B:ah}{s:aG}{y b:Bool}(h:ek w g gs A B s y):aj x7 sj [Γ g,.bool b,Δ at_] w λ_ I=>af (λr=>r=g) w I/\ek I g gs A B (ba b s) y:=by
 obtain⟨U,z,C,big,E,K,m1,sv,e,G,H⟩:=id h;refine az func49 ?_;refine aV (λv J=>w=J/\v= .bool (b&&decide (big=0))) ?_ ?_
 rotate_left
 .intro ay j;cases b with
  |false=>rw[aX];exact j _ _ ⟨rfl,rfl⟩
  |true=>
   rw[bY,bR,aT cF.p rfl,aT fl.p rfl,ax Ψ (e.cell rfl),bh,ai];refine⟨λa=>?_,λa=>j _ _ ⟨rfl,by rw[ms a];rfl⟩⟩;rw[bR,aT cF.p rfl,aT fl.p rfl,ax Ψ (e.cell rfl),bh];exact j _ _ ⟨rfl,by rw[m7 a];rfl⟩
 rintro _ _ ⟨rfl,rfl⟩;rw[bU];refine⟨λL=>?_,λM=>?_⟩
 .obtain⟨rfl,a⟩:=Bool.and_eq_true_iff.1 L;rw[bR,aT cF.p rfl,aT fl.p rfl];refine bt (g:=g) (o:=2) lb.i rfl rfl e (by simp[jn]) λJ N R q=>?_;have q:=q;rw[bR,aT cF.p rfl,aT fl.p rfl];refine bt (g:=g) (o:=4) ae.i rfl rfl q (by simp[jn]) λV O S x=>?_;have x:=x;have f:=N.F O;exact⟨f,U.aa f,z.aa f (λhe=>U.1 he.symm) (λr P he=>P.1 (.inl he)),C,5,E,at_,m1,sv,x,⟨⟨λ_=>Ω,λ_=>by simp[ba]⟩,λh=>by simp[ba]at h⟩,aq.aa H f λr _ h Q=>u1 h U.2.1 Q⟩
 .refine⟨af.refl _ _,U,z,C,big,E,K,m1,sv,e,⟨?_,λh=>G.2 (by
   have h:(s.big||b)=rs:=h;exact(Bool.or_eq_false_iff.1 h).1)⟩,H⟩
  show(s.big||b)=ro↔big≠0;cases b with
  |false=>rw[Bool.or_false];exact G.1
  |true=>
   have a:=of_decide_eq_false (by simpa using M);simp[a]
theorem Dx{g:Nat}{A:ah}{B:ah}{b:Bool}(h:fq w g gs A B):aj x7 sj [Γ g,.bool b,Δ at_] w λ_ I=>Ext w I:=by
 obtain⟨_,j,big,q,r,m1,sv,l,h1,e,_⟩:=h;refine az func49 ?_;refine aV (λv J=>w=J/\v= .bool rs) ?_ ?_
 .rintro _ _ ⟨rfl,rfl⟩;rw[aX];exact Ext.refl _
 intro ay a;cases b with
 |false=>rw[aX];exact a _ _ ⟨rfl,rfl⟩
 |true=>
  rw[bY,bR,aT cF.p rfl,aT fl.p rfl,ax Ψ (h1.cell rfl),bh,ai];refine⟨λf=>?_,λf=>a _ _ ⟨rfl,rfl⟩⟩;rw[bR,aT cF.p rfl,aT fl.p rfl,ax Ψ (h1.cell rfl),bh];exact a _ _ ⟨rfl,by rw[ms e.1]⟩
theorem ek.scan{g:Nat}{A:ah}{B:ah}{s:aG}{a:Bool}{l:List (Λ)}(h:ek w g gs A B s a)(e:af (λr=>r=gs) w I)(U:iT I gs (cT g gs A B) l a)(C:l.length<=s.d8.length):ek I g gs A B {s with d8:=l} a:=by
 obtain⟨h1,_,f,big,p,q,m1,sv,x,y,z⟩:=h;refine⟨h1.aa e,U,⟨f.1,f.2.1,by have:=f.2.2;show s.m2.length+l.length<=100000;omega⟩,big,p,q,m1,sv,x.aa e h1.1,y,aq.aa z e λr _ h j=>?_⟩;have j:r=gs:=j;subst j;rcases h with h|h
 .exact h1.2.2.1 h
 .exact h.1 (.inr (.inl rfl))
theorem Dy{g:Nat}{A:ah}{B:ah}{s:aG}{z:Bool}(h:ek w g gs A B s z):aj x7 Bz [Γ g] w λv I=>gl w g gs A B z ((dS s).map (·.2)) I/\∃(t:Λ)(n:Int),v= .tuple #[cc t,Δ n]/\Bytes t/\t.length<=100000/\∀q,dS s=σ q->t=q.1:=by
 refine az func48 ?_;refine(rk h).X ?_;rintro _ J _ ⟨rfl,M⟩;rw[bA,Y6,aX];have h1:=h.W M;obtain⟨_,N,_,big,Q,R,m1,sv,C,_⟩:=id h1;have S:=N.words.2;rw[aK cF.p 0 C rfl];refine(sH N).X ?_;rintro v V _ ⟨j,y⟩;have O:af (bG g gs A) w V:=(M.aa _).F (j.X λr _ h=>.inr (.inl h));cases f:s.d8 with
 |cons t l=>
  rw[f]at y;obtain⟨U,n,rfl⟩:=y;have W:=h1.scan j U (by rw[f];simp);have E:dS s=σ (t,{s with d8:=l}):=by unfold dS;rw[f]
  have P:=S t (by rw[f];exact .head _);rw[gX,gY,gZ];refine aV (λv G=>V=G/\v=Δ 0) ?_ ?_
  .rintro _ _ ⟨rfl,rfl⟩;refine dk (λx=>V=x) ?_ ?_
   .rintro _ rfl;rw[E];exact⟨⟨O,W⟩,t,n,rfl,P.1,P.2.2,λq H=>by cases H;rfl⟩
   .intro ay a;rw[bJ,ai];exact⟨λh=>m6 rfl h,λ_=>a _ rfl⟩
  .intro ay a;rw[bh,ai];exact⟨λh=>Ω,λ_=>a _ _ ⟨rfl,rfl⟩⟩
 |nil=>
  rw[f]at y;obtain⟨n,rfl⟩:=y;have E:dS s=ν:=by unfold dS;rw[f]
  obtain⟨K,_,X,big,Q,R,m1,sv,C,ag,Y⟩:=id h1;have Z:=C.aa j K.1;have ab:=aq.aa Y j λr _ h L=>by
   have L:r=gs:=L;subst L;rcases h with h|h
   .exact K.2.2.1 h
   .exact h.1 (.inr (.inl rfl))
  rw[gX,gY,gZ];refine aV (λv G=>V=G/\∃e:Int,v=Δ e/\e≠0) ?_ ?_
  .rintro _ _ ⟨rfl,e,rfl,he⟩;refine dk (λx=>af (λr=>r=g) V x/\fq x g gs A B) ?_ ?_
   .rintro x ⟨ac,ad⟩;rw[E];exact⟨⟨O.F (ac.X λr _ h=>.inl h),ad⟩,[],n,rfl,λb ae=>(by cases ae),Ξ,λq H=>by cases H⟩
   .intro ay a;rw[bJ,ai];refine⟨λ_=>?_,λh=>m6 he h⟩;exact(u2 (K.aa j) Z ab he (by have:=X.2.2;show s.m2.length<=_;omega)).X λ_ I _ h=>a _ h
  .intro ay a;rw[bh,ai];cases z with
   |true=>exact⟨λ_=>a _ _ ⟨rfl,4,rfl,Ω⟩,λh=>m6 rfl h⟩
   |false=>exact⟨λh=>by simp at h,λ_=>a _ _ ⟨rfl,11,rfl,Ω⟩⟩
theorem Nb{g:Nat}{A:ah}{B:ah}(h:fq w g gs A B):aj x7 Bz [Γ g] w λv I=>Ext w I/\v= .tuple #[cc [],Δ 0]:=by
 refine az func48 ?_;refine(pZ h).X ?_;rintro _ J _ ⟨rfl,a⟩;rw[bA,X4,bY];exact⟨a,rfl⟩
theorem yl{g:Nat}{A:ah}{B:ah}{s:aG}{y:Bool}(h:ek w g gs A B s y):aj x7 py [Γ g,Δ lo,Δ hi] w λv I=>gl w g gs A B y ((bc lo hi s).map (·.2)) I/\∃n at_:Int,v= .tuple #[Δ n,Δ at_]/\(∀q,bc lo hi s=σ q->n=q.1)/\(bc lo hi s=ν->n=0):=by
 refine az func50 ?_;refine(Dy h).X ?_;rintro _ J _ ⟨⟨z,f⟩,t,n,rfl,H,K,hw⟩;rw[bo,bp];cases j:dS s with
 |none=>
  have a:bc lo hi s=ν:=by unfold bc;rw[j]
  rw[j]at f;have f:=f;refine(pZ f).X ?_;rintro _ V _ ⟨rfl,p⟩;rw[bA,X4,bY,a];exact⟨⟨z.F (p.aa _),f.W p⟩,0,n,rfl,λq h=>(by cases h),λ_=>rfl⟩
 |some q=>
  obtain⟨t',s1⟩:=q;have:=hw _ j;subst this;rw[j]at f;have f:=f;refine(rk f).X ?_;rintro _ V _ ⟨rfl,p⟩;rw[bA,Y6,aX];refine(M7 H K).X ?_;rintro _ L _ ⟨rfl,C⟩;have E:=(f.W p).W C;have G:=(z.F (p.aa _)).F (C.aa _);obtain⟨m,e,M,hm⟩:∃m e:Int,lZ t= .tuple #[Δ m,Δ e]/\((ib t=σ m/\e=0)\/(ib t=ν/\e=4)):=by
   unfold lZ;cases Q:ib t with
   |none=>exact⟨0,4,rfl,.inr ⟨rfl,rfl⟩⟩
   |some m=>exact⟨m,0,rfl,.inl ⟨rfl,rfl⟩⟩
  rw[M,bo,bp];refine aV (λv N=>L=N/\v= .bool (bc lo hi s).isNone) ?_ ?_
  .rintro _ _ ⟨rfl,rfl⟩;cases a:bc lo hi s with
   |none=>
    rw[Option.isNone_none,bY];refine(u3 E Ω).X ?_;rintro _ R _ ⟨O,P⟩;exact⟨⟨G.F (O.X λr _ h=>.inl h),P⟩,0,n,rfl,λq h=>(by cases h),λ_=>rfl⟩
   |some q=>
    rw[j0,aX];unfold bc at a;rw[j]at a;simp only at a;rcases hm with⟨hm,_⟩|⟨hm,_⟩
    .rw[hm]at a;simp only at a;split at a
     .cases a;exact⟨⟨G,E⟩,m,n,rfl,λq h=>(by cases h;rfl),λh=>(by cases h)⟩
     .cases a
    .rw[hm]at a;cases a
  .intro ay x;have a:bc lo hi s=match ib t with
     |none=>ν
     |some n=>if lo<=n/\n<=hi then σ (n,s1)else ν:=by
    unfold bc;rw[j];simp only;cases ib t<;>rfl
   rw[bJ,ai];rcases hm with⟨hm,rfl⟩|⟨hm,rfl⟩
   .rw[hm]at a;simp only at a;refine⟨λh=>m6 rfl h,λ_=>?_⟩;rw[aP,ai];refine⟨λh=>x _ _ ⟨rfl,by rw[a,m5 Ω];rfl⟩,λh=>?_⟩;rw[bL];refine x _ _ ⟨rfl,?_⟩;rw[a];by_cases an:hi<m
    .rw[m7 an,m5 Ω];rfl
    .rw[ms an,m3 Ω];rfl
   .rw[hm]at a;exact⟨λ_=>x _ _ ⟨rfl,by rw[a];rfl⟩,λh=>m6 (by omega:(4:Int)≠0) h⟩
theorem Nc{g:Nat}{A:ah}{B:ah}(h:fq w g gs A B):aj x7 py [Γ g,Δ lo,Δ hi] w λv I=>Ext w I/\v= .tuple #[Δ 0,Δ 0]:=by
 refine az func50 ?_;refine(Nb h).X ?_;rintro _ J _ ⟨a,rfl⟩;rw[bo,bp];refine(pZ (h.W a)).X ?_;rintro _ V _ ⟨rfl,e⟩;rw[bA,X4,bY];exact⟨a.F e,rfl⟩
theorem Nd{x:Int}(h:aI .i64 w sv l):aj x7 Lf [sv,Δ x] w λv I=>Ext w I/\∃r:Int,v=Δ r/\(0<=r↔x∈l):=by
 refine az func267 ?_;rw[aS aw.u h];refine b2.range l.length (λi _ J=>Ext w J/\x∉l.take i) h.le (by grind [Ext.refl]) ?_ ?_
 .rintro i _ J k hi ⟨a,e⟩ hk;refine bC Ω ?_;obtain⟨y,f⟩:=aF (l:=l) hi;rw[be aw.u ap.i Ψ (h.W a) f,bh,ai];refine⟨λhe=>⟨a,i,rfl,⟨λ_=>he▸x5 f,Ω⟩⟩,λhe=>?_⟩;rw[aM]
  grind [u7]
 .rintro _ J k ⟨a,e⟩;rw[o6]at e;rw[aP,ai];exact⟨λh=>Ω,by grind⟩
theorem Nf{x:Int}(h:aI .i64 w sv l):aj x7 KC [sv,Δ x] w λv I=>v= .bool (decide (x∈l))/\Ext w I:=by
 refine az func206 ?_;refine(Nd h).X ?_;rintro _ J _ ⟨a,r,rfl,e⟩;rw[cI]
 grind
theorem vb:∀{l:Λ},(∀z∈l,1<=z)->∀i,aA ((l.take i).map λk=>min k 4097)<=aA (l.map λk=>min k 4097)/\1<=aA ((l.take i).map λk=>min k 4097)
 |[],_,i=>by simp[aA]
 |z::l,h,0=>by
  have a:=vb (λx e=>h x (.tail _ e)) l.length;rw[o6]at a;have f:=h z (.head _);simp only[List.take_zero,List.map_nil,U3,aA];have:=Int.mul_le_mul_of_nonneg_left a.2 (show 0<=min z 4097 by omega);omega
 |z::l,h,i+1=>by
  have a:=vb (λx e=>h x (.tail _ e)) i;have f:=h z (.head _);simp only[List.take_succ_cons,U3,aA];have h1:=Int.mul_le_mul_of_nonneg_left a.1 (show 0<=min z 4097 by omega);have j:=Int.mul_le_mul_of_nonneg_left a.2 (show 0<=min z 4097 by omega);omega
theorem ym(l:Λ)(x:Int):aA (l++[x])=aA l*x:=by
 induction l<;>grind [aA]
theorem Dz(h:aI .i64 w sv l)(h1:∀z∈l,1<=z):aj x7 JG [sv] w λv I=>v= .bool (dD l)/\Ext w I:=by
 refine az func120 ?_;rw[aS aw.u h];refine k8.range l.length (λi _ n J=>Ext w J/\n=Δ (aA ((l.take i).map λk=>min k 4097))/\aA ((l.take i).map λk=>min k 4097)<=4096) h.le (by grind [Ext.refl,aA]) ?_ ?_
 .rintro i _ _ J p hi ⟨a,rfl,f⟩ r;refine bC Ω ?_;obtain⟨z,j⟩:=aF (l:=l) hi;have s:=h1 z (x5 j);have x:=vb h1 i;have y:=vb h1 (i+1);have e:aA ((l.take (i+1)).map λk=>min k 4097)=aA ((l.take i).map λk=>min k 4097)*min z 4097:=by
   grind [u7,ym]
  rw[be aw.u ap.i Ψ (h.W a) j,nJ,iO,<-e];have A:aA ((l.take (i+1)).map λk=>min k 4097)<=4096*4097:=by
   rw[e];have B:=V6 f (show 0<=min z 4097 by omega);omega
  rw[lm Ω Ω,bL,ai];refine⟨λq=>⟨?_,a⟩,λq=>?_⟩
  .grind [dD]
  .rw[aM]
   grind
 .rintro _ _ J p ⟨a,rfl,f⟩;rw[o6]at f;rw[aP,ai];refine⟨λh=>Ω,λ_=>⟨?_,a⟩⟩
  grind [dD]
def l1(n:Int)(acc:Λ)(s:aG):Option (Int×aG):=match bc 0 (n-1) s with
 |none=>ν
 |some (v,s)=>if v∈acc then ν else σ (v,s)
theorem rl{α:Type}{f:List α->aG->Option (α×aG)}{acc:List α}{s:aG}(h:f acc s=ν):c3 f (n+1) acc s=ν:=by
 grind [c3]
theorem vc{α:Type}{f:List α->aG->Option (α×aG)}{acc:List α}{s s':aG}{a:α}(h:f acc s=σ (a,s')):c3 f (n+1) acc s=c3 f n (acc++[a]) s':=by
 grind [c3]
theorem ek.sK{g:Nat}{A:ah}{B:ah}{s:aG}{a:Bool}(h:ek w g gs A B s a):(∀r,bG g gs A r->r<w.heap.size)/\(∀r,B r->r<w.heap.size):=⟨h.1.2.2.2.1,h.1.2.2.2.2⟩
theorem Ng{g k:Nat}{A B:ah}{s:aG}{C:Bool}{m:Int}(h:ek w g gs A B s C)(hk:k<=4611686018427387904)(hm:0<=m/\m<=1000000):
  aj x7 BJ [Γ g,Δ (k:Int),Δ m] w λv I=>gl w g gs A B C ((ff m k s).map (·.2)) I/\
   ∃gr l,ao .i64 ap I gr v l/\(∀r,li v r->w.heap.size<=r)/\l.length<=100001/\∀q,ff m k s=σ q->l=q.1:=by
 obtain⟨a1,ax⟩:=h.sK;have a2:=h.2.1.words.1;refine az func119 ?_;refine⟨λout N J=>∃i:Nat,N=Δ (i:Int)/\i<=k/\af (bG g gs A) w J/\∃gr l,ao .i64 ap J gr out l/\w.heap.size<=gr/\l.length<=100001/\
  ((∃st,ek J g gs A B st C/\c3 (l1 m) (k-i) l st=ff m k s/\l.length+st.d8.length<=100000)\/(fq J g gs A B/\ff m k s=ν)),λ_ N _=>k-(b0 N).toNat,
  ⟨0,rfl,X7 _,af.refl _ _,w.heap.size,[],ao.nil _ _ _ _,p9 _,Ξ,.inl ⟨s,h,rfl,by grind⟩⟩,?_⟩
 rintro out _ J ⟨i,rfl,aA,Y,gr,l,Z,a6,a7,ab⟩;have s1:=Y.size;have ac:∀r,li out r->w.heap.size<=r:=λr O=>by have:=bE Z O;omega
 refine aV (λv V=>Ext J V/\((v= .bool ro/\i<k/\∃st,ek V g gs A B st C/\c3 (l1 m) (k-i) l st=ff m k s/\l.length+st.d8.length<=100000)\/
  (v= .bool rs/\((∃st,ek V g gs A B st C/\ff m k s=σ (l,st))\/(fq V g gs A B/\ff m k s=ν))))) ?_ ?_
 rotate_left
 .intro ay P;rw[aP,ai];refine⟨λa8=>?_,λba=>?_⟩
  .rcases ab with⟨st,j,E,Q⟩|⟨y,R⟩
   .refine (rk j).X ?_;rintro _ V _ ⟨rfl,p⟩;exact P _ _ ⟨p,.inl ⟨rfl,Ω,st,j.W p,E,Q⟩⟩
   .refine (pZ y).X ?_;rintro _ V _ ⟨rfl,p⟩;exact P _ _ ⟨p,.inr ⟨rfl,.inr ⟨y.W p,R⟩⟩⟩
  .have aB:k-i=0:=Ω
   rcases ab with⟨st,j,E,Q⟩|bb
   .rw[aB]at E;exact P _ _ ⟨Ext.refl _,.inr ⟨rfl,.inl ⟨st,j,E.symm⟩⟩⟩
   grind [Ext.refl]
 rintro _ V ⟨p,aC⟩;have S:af (bG g gs A) w V:=Y.F (p.aa _);have H:=Z.W p;rcases aC with⟨rfl,aA,st,j,E,Q⟩|⟨rfl,aD⟩
 rotate_left
 .rw[aX];rcases aD with⟨st,j,G⟩|⟨y,G⟩
  .rw[G];exact⟨⟨S,j⟩,gr,l,H,ac,Ω,by grind⟩
  .rw[G];exact⟨⟨S,y⟩,gr,l,H,ac,Ω,by grind⟩
 rw[bY,dR,lm Ω Ω];have aE:k-i=(k-(i+1))+1:=Ω
 rw[aE]at E;refine(yl j).X ?_;rintro _ ad _ ⟨⟨K,L⟩,n,at_,rfl,aF,bd⟩;rw[bo,bp];have ae:∀r,li out r->¬bG g gs A r:=by grind
 have be:∀r,g=r->bG g gs A r:=λr h=>.inl h.symm;refine dk (λe=>af (bG g gs A) V e/\((∃x,ek e g gs A B x C/\c3 (l1 m) (k-(i+1)) (l++[n]) x=ff m k s/\l.length+1+x.d8.length<=100000)\/(fq e g gs A B/\ff m k s=ν))/\l.length+1<=100001) ?_ ?_
 .rintro e ⟨ag,aH,aI⟩;have aJ:=bk H ag ae;have ak:=S.F ag;have bf:=ak.size;refine dr aw.u ap.i rfl λa ga al bg z aK=>?_;refine jD aw.u ap.i rfl (aJ.W z) aK.ls Θ Θ λaL aN aO bh aQ U=>?_;have bi:=z.size;rw[aM,lm Ω Ω];have aR:af (bG g gs A) w aO:=iS (ak.F (z.aa _)) U Ω;have am:∀r,bG g gs A r->¬(λr=>r=gr) r:=by grind
  have an:∀r,cT g gs A B r->¬(λr=>r=gr) r:=λr O he=>by have:=ax r O.2;omega
  refine⟨⟨i+1,rfl,Ω,aR,aN,l++[n],aQ,Ω,Θ,?_⟩,by grind [b0]⟩;rcases aH with⟨x,W,aS,bj⟩|⟨aT,R⟩
  .exact .inl ⟨x,(W.W z).aa U am an,aS,Θ⟩
  .exact .inr ⟨(aT.W z).aa U am an,R⟩
 .intro bl X;cases M:bc 0 (m-1) st with
  |none=>
   rw[M]at L;have y:=L;have aq:l1 m l st=ν:=by grind [l1]
   have G:ff m k s=ν:=by grind [rl]
   refine aV (λv e=>Ext ad e/\v= .bool rs) ?_ ?_
   rotate_left
   .intro aU au;refine(pZ y).X ?_;rintro _ e _ ⟨rfl,f⟩;rw[aX]
    grind
   rintro _ e ⟨f,rfl⟩;rw[aX];exact X _ ⟨K.F (f.aa _),.inr ⟨y.W f,G⟩,Ω⟩
  |some q=>
   obtain⟨aL,x⟩:=q;have aW:=aF _ M;subst aW;rw[M]at L;have av:=L;have aY:=ds M;have aI:l.length+1+x.d8.length<=100000:=by have:=aY.1;omega
   refine aV (λv e=>Ext ad e/\v= .bool (decide (n∈l))) ?_ ?_
   rotate_left
   .intro aU au;refine(rk av).X ?_;rintro _ e _ ⟨rfl,f⟩;rw[bY];refine(Nf ((bk H K ae).W f).ls).X ?_;rintro _ al _ ⟨rfl,z⟩;exact au _ _ ⟨f.F z,rfl⟩
   rintro _ e ⟨f,rfl⟩;have W:=av.W f;rw[ai];refine⟨λbm=>?_,λbn=>?_⟩
   .have aq:l1 m l st=ν:=by grind [l1]
    refine(u3 W Ω).X ?_;rintro _ al _ ⟨aZ,bq⟩;exact X _ ⟨(K.F (f.aa _)).F (aZ.X λr _ h=>.inl h),by grind [rl],Ω⟩
   .have aq:l1 m l st=σ (n,x):=by grind [l1]
    exact X _ ⟨K.F (f.aa _),by grind [vc],Ω⟩
theorem rm{a b:Int}(e:0<=a/\a<=4294967296)(f:0<=b/\b<=4294967296):aj x7 Ji [Δ a,Δ b,Δ k] w λv I=>v=Δ (min (a+b) k)/\Ext w I:=by
 refine az func86 ?_;simp only[aM,bL,ai];rw[lm Ω Ω];exact⟨λh=>⟨by rw[Int.min_eq_right Ω],Ext.refl _⟩,λh=>⟨by rw[Int.min_eq_left Ω],Ext.refl _⟩⟩
def sL(a b k:Int):x1:=if cJ a k/\cJ b k then .tuple #[Δ (min (a+b) k),Δ 0]else .tuple #[Δ 0,Δ 3]
theorem DA{a b:Int}:aj x7 BI [Δ a,Δ b,Δ k] w λv I=>v=sL a b k/\Ext w I:=by
 refine az func109 ?_;refine aV (λv J=>Ext w J/\v= .bool (decide (¬(cJ a k/\cJ b k)))) ?_ ?_
 .rintro _ J ⟨e,rfl⟩;simp only[ai,aM,nJ];refine⟨λh=>⟨by unfold sL;rw[m5 h],e⟩,λh=>?_⟩;have h:=Z6.1 h;obtain⟨⟨h1,r⟩,s,x⟩:=id h;have:=h1.2;rw[lm Ω Ω];exact⟨by unfold sL;rw[m3 h],e⟩
 .intro ay f;refine lk.X ?_;rintro _ V _ ⟨rfl,j⟩;simp only[bA,bU];refine⟨λh=>f _ _ ⟨j,?_⟩,λh=>?_⟩
  .have:¬cJ a k:=by simpa using h
   rw[m7];exact λh=>this h.1
  .have p:cJ a k:=by simpa using h
   refine lk.X ?_;rintro _ y _ ⟨rfl,q⟩;simp only[bA];exact f _ _ ⟨j.F q,by simp[p]⟩
theorem DB{k:o5}{cs:List x1}(h:cs.take l.length=ints k l)(a:j<l.length):cs[j]?=(ints k l)[j]?:=by
 rw[<-h,Y5 a]
theorem Nh(w:x3):(Go.sizeOf ae).run x7 w= .ok 1 w:=by
 obtain⟨i,hi,U,_⟩:=ae.i;simp[sizeOf,typeInfo,hi,U]
theorem Ni{ak g o cx a f p:Nat}{q cs:List x1}(h:ag w ak j q)(r:ag w g p cs)(s:ak≠g)(x:cs.length≠0):
  aj x7 xD [.slice (σ ⟨ak,0,ν⟩) 1 cx,.slice (σ ⟨g,o,ν⟩) a f] w λv I=>v= .bool rs/\I=w:=by
 have y:xD<x7.funcs.size:=rc Ψ;refine .ext (.bool rs) w ?_ (cC.refl _) ⟨rfl,rfl⟩;rw[run_callFunc_extern (fn:=x7.funcs[xD]) (Array.getElem?_eq_getElem y) Ψ Ψ Ψ (e:=Extern.SlicesOverlaps.overlaps #[al,al] #[ir]) Ψ];have:=Lib.run_overlaps_apart (P:=x7) w al ir ae al.u 1 Nh ⟨ak,0,ν⟩ ⟨g,o,ν⟩ 1 cx a f s j p q.length cs.length (CC h) (CC r) x (h.frozen _ _) (h.frozen _ _);show(Sem.run x7 (Extern.SlicesOverlaps.overlaps #[al,al] #[ir] #[.slice (σ ⟨ak,0,ν⟩) 1 cx,.slice (σ ⟨g,o,ν⟩) a f]) w).andThen _=_;rw[this];rfl
theorem Nj{eB:x1}{x:Int}{i g ak:Nat}(h:ao .i64 ae w g sv l)(e:ao .i64 ae w ak eB [x])(E:g≠ak)(hi:i<=l.length)(aO:l.length<=1000):
  aj x7 BT [sv,Δ i,eB] w λv I=>af (λr=>r=g) w I/\∃f,(f=g\/w.heap.size<=f)/\ao .i64 ae I f v (l.take i++[x]++l.drop i):=by
 refine az func187 ?_;refine uQ rfl al.u ae.i h.ls hi λ_ _=>?_;rw[aS al.u e.ls];simp only[bh,ai];refine⟨λs=>by simp at s,λ_=>?_⟩;rw[aS al.u h.ls];simp only[bh,ai];refine⟨λhe=>?_,λaP=>?_⟩
 .have he:i=l.length:=Ω
  subst he;refine jD al.u ae.i rfl h e.ls Θ Θ λaQ f I W X Y=>⟨Y,f,W,?_⟩;simpa using X
 .have aR:i<l.length:=Ω
  obtain⟨Z,⟨rfl,s⟩|⟨cap,cs,rfl,p,aT,ab,G,y⟩⟩:=id h
  .omega
  simp only[V0]at G y Z;simp only[maxLen]at ab;have ac:([x].length:Int)=1:=rfl;simp only[aM,ac];rw[lm Ω Ω,xS al.u];simp only[bL,ai];refine⟨λq=>?_,λq=>?_⟩
  .have q:cap<l.length+1:=Ω
   rw[eA al.u ae.i (l:=0) (h:=i) (m:=cap) iP mJ dZ Ω Ω Ω];simp only[aM,dR];rw[lm (x:=(l.length:Int)+1-i) Ω Ω];have H:=b4.part (l:=0) (h:=i) (m:=cap) h.ls Ω Ω Ω Ω;have ad:((ints .i64 l).drop (0*1)).take ((i-0)*1)=ints .i64 (l.take i):=by simp[ints,S7]
   rw[ad]at H;refine CB (k:=l.length+1-i) Ω al.u ae.u ae.i rfl H Ω Ω Ω Ω λaU ag V aV z J=>?_;obtain⟨ah,⟨rfl,s⟩|⟨A,fS,rfl,am,K,L,M,B⟩⟩:=id J
   .omega
   simp only[maxLen]at L;have an:i-0+(l.length+1-i)=l.length+1:=Ω
   rw[an]at J ah K B ⊢;simp only[V0]at M B;rw[eA al.u ae.i (l:=i) (h:=l.length+1) (m:=A) lT gW dZ Ω Ω Ω,m5 Ω];refine pI al.u ae.i am (o:=i) (λ_=>by simp[W5]) Ω (e.ls.W z) (kx _ _) λaW ap aX aq=>?_;intro au N _ _;have O:=aq.W N;rw[n9 Θ]at O;rw[lm Ω Ω,eA al.u ae.i (l:=i+1) (h:=l.length+1) (m:=A) (mI (i+1) _ Ω) gW dZ Ω Ω Ω,m5 Ω];have av:=p.lt;have P:Ext w au:=(z.then ap (by rintro r aw rfl;omega)).F N;have s2:=z.size;refine uQ rfl al.u ae.i (h.ls.W P) hi λv4 ax=>?_;refine pI al.u ae.i O (o:=i+1) (λ_=>by simp[W5]) (by rw[gf];omega) ax (kx _ _) λaY ay aZ aA=>?_;refine⟨(P.then ay (by rintro r aw rfl;omega)).aa _,ag,.inr Ω,ao.of (n:=l.length+1) ⟨Θ,.inr ⟨A,_,rfl,aA,K,L,by rw[gf,gf];simpa using M,?_⟩⟩⟩;have aB:(ints .i64 (l.drop i)).take (l.length+1-(i+1))=ints .i64 (l.drop i):=n9 (by simp<;>omega);rw[aB,V0];have aC:∀j,j<l.length+1->fS[j]?=(ints .i64 (l.take i)++r8 (l.length+1-i) (X2 .i64 0))[j]?:=λj a=>by
    rw[<-B,Y5 a]
   apply j5;intro j;by_cases a:j<l.length+1
   .rw[Y5 a,kw _ _ _ (by rw[gf];simp;omega),kw _ _ _ Θ,aC j a];simp only[ints,l7,List.map_drop,S7,List.getElem?_append,List.getElem?_drop,List.getElem?_take,p8,c7,o4,List.length_drop,Y3,List.length_nil,U3,List.map_nil]
    repeat' split
    all_goals first|rfl|omega|(congr 1;omega)|(exfalso;omega)|skip
   .rw[Z9 Θ,Z9 Θ]
  .have q:l.length+1<=cap:=Ω
   rw[eA al.u ae.i (l:=0) (h:=l.length+1) (m:=cap) iP (nM _ _ Ω) dZ Ω Ω Ω,m5 Ω];rw[lm (x:=(i:Int)+1) Ω Ω,eA al.u ae.i (l:=i+1) (h:=l.length+1-0) (m:=cap-0) (mI (i+1) _ Ω) gW dZ Ω Ω Ω,m5 Ω];have av:=p.lt;obtain⟨a1,⟨rfl,aD⟩|⟨a2,a6,rfl,aE,a7,a8,ba,bb⟩⟩:=id e
   .simp at aD
   refine(Ni aE p (Ne.symm E) Ω).X ?_;rintro _ _ _ ⟨rfl,rfl⟩;simp only[bA,X4,bY];intro aF C _ _;have Q:=p.W C;rw[eA al.u ae.i (l:=i+1) (h:=l.length+1-0) (m:=cap-0) (mI (i+1) _ Ω) gW dZ Ω Ω Ω,m5 Ω,
    eA al.u ae.i (l:=i) (h:=l.length+1-0) (m:=cap-0) lT gW dZ Ω Ω Ω,m5 Ω]
   have aG:b4 aF 1 (.slice (σ ⟨g,i,ν⟩) (l.length+1-0-i) (cap-0-i)) (l.length+1-0-i) ((cs.drop i).take (l.length+1-0-i)):=CD Q Ω Ω (by simp only[maxLen];omega);have R:W6 (λx:Q0=>x.add (i*1)) (W6 (λx:Q0=>x.add (0*1)) (σ ⟨g,0,ν⟩))=σ ⟨g,i,ν⟩:=by simp[W5]
   have aH:W6 (λx:Q0=>x.add ((i+1)*1)) (W6 (λx:Q0=>x.add (0*1)) (σ ⟨g,0,ν⟩))=σ ⟨g,i+1,ν⟩:=by simp[W5]
   rw[R,aH];have S:((cs.drop i).take (l.length+1-0-i)).take (l.length+1-0-(i+1))=ints .i64 (l.drop i):=by
    have:cs.drop i=(cs.take l.length).drop i++cs.drop l.length:=by
     conv=>lhs;rw[<-List.take_append_drop l.length cs]
     rw[List.drop_append_of_le_length Θ]
    rw[List.take_take,this,y,List.take_append_of_le_length Θ,n9 Θ,ints,ints,List.map_drop]
   have aI:∀u∈((cs.drop i).take (l.length+1-0-i)).take (l.length+1-0-(i+1)),u.oneCell'=ro:=by rw[S];exact kx _ _
   refine Ma al.u ae.i Q (o:=i+1) (λ_=>rfl) Ω aG aI λbc U bd aJ=>?_;rw[eA al.u ae.i (l:=i) (h:=l.length+1-0) (m:=cap-0) lT gW dZ Ω Ω Ω,m5 Ω,R];refine pI al.u ae.i aJ (o:=i) (λ_=>rfl) (by rw[gf];omega) ((e.aa ((C.aa (λr=>r=g)).F U) (λ_=>Ne.symm E)).ls) (kx _ _) λbe aK bf aL=>?_;refine⟨((C.aa _).F U).F aK,g,.inl rfl,ao.of (n:=l.length+1) ⟨Θ,.inr ⟨cap,_,by simp[W5],aL,q,by simp only[maxLen];omega,by rw[gf,gf];simpa using G,?_⟩⟩⟩;rw[V0,S];apply j5;intro j;by_cases a:j<l.length+1
   .rw[Y5 a,kw _ _ _ (by rw[gf];simp;omega),kw _ _ _ Θ];have aN:j<i->cs[j]?=(ints .i64 l)[j]?:=λbg=>DB y Ω;by_cases h1:j<i
    .rw[aN h1,m5 Ω,m5 Ω];simp only[ints,l7,S7,List.getElem?_append,List.getElem?_take,p8,c7,o4,U3,List.map_nil,Y3,List.length_nil];rw[m3 Ω,m3 Ω,m3 h1]
    .simp only[ints,l7,List.map_drop,S7,List.getElem?_append,List.getElem?_drop,List.getElem?_take,p8,c7,o4,List.length_drop,Y3,List.length_nil,U3,List.map_nil]
     repeat' split
     all_goals first|rfl|omega|(congr 1;omega)|(exfalso;omega)
   .rw[Z9 Θ,Z9 Θ]
theorem Nk{eB:x1}(h:aI .i64 w eB [c])(Z:n<65536):
  aj x7 Ko [eB,Δ n] w λv I=>Ext w I/\∃g,w.heap.size<=g/\ao .i64 ae I g v (r8 n c):=by
 refine az func185 ?_;refine dk (λJ=>w=J) ?_ ?_
 .rintro _ rfl;rw[aS al.u h,e1 ae.u nG.u,e1 ae.u nG.u,lw Ξ Ξ,lw Ω Ω];refine(Cs (x:=([c].length:Int)) Ξ Ω).X ?_;rintro _ V _ ⟨rfl,z⟩;rw[bo,bp];have G:(([c].length:Int)*n)=(n:Int):=Ξ
  rw[G];refine dk (λa=>V=a) ?_ ?_
  .rintro _ rfl;rw[e1 nG.u ae.u,lm Ω Ω];refine ky al.u ae.i Ω Ω ?_;intro g aa ab H K;have A:=z.F H;have ac:=z.size;refine pI al.u ae.i K (o:=0) (λ_=>rfl) Ξ (h.W A) (kx _ _) ?_;intro ad L af B;have M:=A.then L (by rintro r N rfl;omega);have st:over (ints .i64 (r8 n 0)) 0 ((ints .i64 [c]).take n)=ints .i64 (r8 (min 1 n) c++r8 (n-min 1 n) 0):=by
    rcases Nat.eq_zero_or_pos n with rfl|e
    .simp[over]
    .rw[n9 Θ,nN Θ];have:min 1 n=1:=Ω
     simp[this,ints]
   rw[st]at B;refine⟨λt f=>Ext w f/\∃i:Nat,t=Δ i/\i<=n/\(0<n->0<i)/\ag f g ae (ints .i64 (r8 i c++r8 (n-i) 0)),λt _=>n-(b0 t).toNat,
    ⟨M,min 1 n,Ξ,Ω,Ω,B⟩,?_⟩
   rintro _ f ⟨p,i,rfl,hi,ah,q⟩;simp only[iv al.u,aP,ai,eu];refine⟨λO P s _ _=>?_,λak=>?_⟩
   .have O:i<n:=Ω
    have C:=q.W s;rw[eA al.u ae.i (l:=i) (h:=n) (m:=n) lT gW dZ Ω Ω Ω,
     eA al.u ae.i (l:=0) (h:=i) (m:=n) iP mJ dZ Ω Ω Ω]
    have Q:b4 P 1 (.slice (σ ⟨g,0,ν⟩) n n) n (ints .i64 (r8 i c++r8 (n-i) 0)):=(bZ.full C (by simp<;>omega) (by simp[maxLen]<;>omega)).sl;have e:=Q.part (l:=0) (h:=i) (m:=n) Ω Ω Ω Ω;have R:((ints .i64 (r8 i c++r8 (n-i) 0)).drop (0*1)).take ((i-0)*1)=ints .i64 (r8 i c):=by
     simp[ints]
    rw[R]at e;refine pI al.u ae.i C (o:=i) (λ_=>?_) (by simp<;>omega) e (kx _ _) ?_
    .rw[m5 Ω];simp[W5]
    .intro am S an E;have ap:=p.size;have aq:=s.size;have U:over (ints .i64 (r8 i c++r8 (n-i) 0)) i ((ints .i64 (r8 i c)).take (n-i))=ints .i64 (r8 (i+min i (n-i)) c++r8 (n-(i+min i (n-i))) 0):=by
      apply j5;intro j;rw[kw _ _ _ (by simp[ints]<;>omega)];simp only[ints,l7,List.map_replicate,List.getElem?_append,List.getElem?_take,List.getElem?_replicate,c7,List.length_replicate]
      repeat' split
      all_goals first|rfl|omega
     rw[U]at E;have W:min (i-0) (n-i)=min i (n-i):=Ω
     simp only[aM,W];have X:Y7.wrap ((i:Int)+((min i (n-i):Nat):Int))=((i+min i (n-i):Nat):Int):=by rw[lm Ω Ω];omega
     rw[X];refine⟨⟨(p.F s).then S (by rintro r N rfl;omega),_,rfl,Ω,Ω,E⟩,?_⟩;simp only[b0,u9];omega
   .have:i=n:=Ω
    subst this;rw[U5,List.replicate_zero,V1]at q;exact⟨p,g,Ω,ao.of (n:=i) (bZ.full q Ξ (by simp[maxLen];omega))⟩
  .intro ay y;refine aV (λv a=>v= .bool rs/\V=a) ?_ ?_
   .rintro _ _ ⟨rfl,rfl⟩;rw[aX];exact y _ rfl
   .intro au Y;simp only[bL,ai];refine⟨λh=>Ω,λ_=>Y _ _ ⟨?_,rfl⟩⟩;rw[ms];omega
 .intro ay y;simp only[aP,ai];exact⟨λh=>Ω,λ_=>y _ rfl⟩
theorem DC{i g:Nat}(h:ao .i64 ae w g sv l)(hi:i<l.length)(N:l.length<=1000):
  aj x7 BH [sv,Δ i,Δ ((i:Int)+1)] w λv I=>af (λr=>r=g) w I/\ao .i64 ae I g v (l.take i++l.drop (i+1)):=by
 refine az func93 ?_;have a:=h.ls;obtain⟨q,⟨rfl,O⟩|⟨cap,cs,rfl,s,P,y,f,p⟩⟩:=id h
 .omega
 simp only[V0]at f p q;simp only[maxLen]at y;rw[aS al.u a,eA al.u ae.i (l:=i) (h:=i+1) (m:=l.length) lT (nM (i+1) _ Ω) Ca Ω Ω Ω];simp only[bh,ai];refine⟨λh=>Ω,λ_=>?_⟩;rw[aS al.u a];intro J e _ _;have z:=s.W e;rw[eA al.u ae.i (l:=0) (h:=i) (m:=cap) iP mJ dZ Ω Ω Ω,m5 Ω];refine uQ (i:=i+1) Ω al.u ae.i (a.W e) Ω λQ A=>?_;have B:W6 (λx:Q0=>x.add (0*1)) (σ ⟨g,0,ν⟩)=σ ⟨g,0,ν⟩:=by simp[W5]
 rw[B];refine Mb (m:=(l.drop (i+1)).length) (news:=ints .i64 (l.drop (i+1))) al.u al.u ae.i z A (kx _ _) Θ Ω λV C R E=>?_;have G:i-0+(l.drop (i+1)).length=l.length-1:=Θ
 rw[G,iv al.u,eA al.u ae.i (l:=l.length-1) (h:=l.length) (m:=cap-0) lT mJ dZ Ω Ω Ω,m5 Ω];have H:W6 (λx:Q0=>x.add ((l.length-1)*1)) (σ ⟨g,0,ν⟩)=σ ⟨g,l.length-1,ν⟩:=by simp[W5]
 rw[H];refine xT al.u ae.i rfl rfl E Ω (by rw[gf];omega) λS K U L=>?_;refine⟨((e.aa _).F C).F K,ao.of (n:=l.length-1) ⟨Θ,.inr ⟨cap,_,rfl,L,Ω,by simp only[maxLen];omega,by rw[gf,gf];simpa using f,?_⟩⟩⟩;rw[V0];apply j5;intro j;by_cases M:j<l.length-1
 .rw[Y5 M,kw _ _ _ (by rw[gf];simp;omega),m5 Ω,kw _ _ _ Θ];by_cases h1:j<i
  .rw[DB p Ω,m5 Ω];simp only[ints,l7,S7,List.getElem?_append,List.getElem?_take,c7,o4];rw[m3 Ω,m3 h1]
  .simp only[ints,l7,List.map_drop,S7,List.getElem?_append,List.getElem?_drop,List.getElem?_take,c7,o4,List.length_drop]
   repeat' split
   all_goals first|rfl|omega|(congr 1;omega)|(exfalso;omega)
 .rw[Z9 Θ,Z9 Θ]
theorem Nl(h:aI .i64 w sv l)(f:l≠[]):
  aj x7 Lk [sv] w λv I=>v=Δ (yb l)/\Ext w I:=by
 obtain⟨x,l,rfl⟩:∃x r,l=x::r:=by cases l with
  |nil=>exact m6 rfl f
  |cons x r=>exact⟨x,r,rfl⟩
 have j:=h.le;refine az func284 ?_;refine dk (λJ=>w=J) ?_ ?_
 .rintro _ rfl;rw[fm (y:=0) (i:=0) rfl aw.u ap.i Ψ h (by rfl)];refine⟨λm i V=>Ext w V/\∃k:Nat,i=Δ (k+1:Nat)/\k<=l.length/\m=Δ ((l.take k).foldl min x),λ_ i _=>l.length+1-(b0 i).toNat,⟨Ext.refl _,0,rfl,X7 _,rfl⟩,?_⟩;rintro _ _ V ⟨a,k,rfl,hk,rfl⟩;rw[aS aw.u (h.W a)];simp only[Y3,aP,ai]at j ⊢;refine⟨λq=>?_,λs=>⟨?_,a⟩⟩
  .obtain⟨y,e⟩:=aF (l:=l) (i:=k) Ω;rw[be aw.u ap.i Ψ (h.W a) (show(x::l)[k+1]?=σ y from e),nJ];simp only[aM];rw[lm Ω Ω];refine⟨⟨a,k+1,by congr 1,Ω,?_⟩,?_⟩
   .rw[u7,e,List.foldl_append];rfl
   .simp only[b0];omega
  .have:k=l.length:=Ω
   subst this;rw[o6];rfl
 .intro ay p;rw[aS aw.u h];simp only[aP,ai];exact⟨λh=>by simp at h;omega,λ_=>p _ rfl⟩
theorem yn{g a:Nat}(h:ce w g a sv szs k cs):aj x7 xB [Γ g] w λv I=>v=Δ k/\Ext w I:=by
 obtain⟨⟨a1,gs,e,hm,f⟩,_⟩:=h;refine az func228 ?_;rw[cW dv.u];simp only[j0,aX];rw[aK cu.p 1 e rfl];exact⟨rfl,Ext.refl _⟩
theorem nX{g e:Nat}(h:ce w g e sv szs k cs):
  aj x7 I2 [Γ g] w λv I=>Ext w I/\∃a,w.heap.size<=a/\ao .i64 ap I a v cs:=by
 obtain⟨⟨a1,gs,f,hm,j⟩,⟨_,_,q⟩,U,r⟩:=h;refine az func65 ?_;rw[cW dv.u];simp only[j0,aX];rw[aK cu.p 2 f rfl];exact xP j.ls Ω
theorem nY{g q:Nat}(h:ce w g q sv szs k cs):
  aj x7 J1 [Γ g] w λv I=>v= .agg #[sv]/\Ext w I:=by
 obtain⟨⟨a1,gs,s,hm,B⟩,_⟩:=h;have x:=hm.ls.cells;refine az func150 ?_;refine bx bn.i λC J E e y=>?_;rw[cW dv.u];simp only[j0,aX];rw[bR,aT cu.p rfl,bB (cs:=[sv]) bn.p bn.i rfl (oJ (s.W e) (by
  intro j v a
  match j,a with
  |0,a=>exact a))]
 refine cb (vs:=[sv]) bn.i rfl rfl (by intro u f;simp at f;subst f;exact x.2) y λG z H A=>?_;rw[fD bn.p bn.i rfl A.range];exact⟨rfl,e.then z (by rintro r K rfl;omega)⟩
theorem vd(h:aI .i64 w sv szs)(q:szs.length<=1000):aj x7 xx [.agg #[sv]] w λv I=>Ext w I/\∃a,w.heap.size<=a/\ao .i64 ae I a v szs:=by
 refine az func184 ?_;refine bm λg J r e f=>?_;rw[aQ bn.p 0 f rfl];refine(j3 (h.W e) Ω).X ?_;rintro v V _ ⟨j,a,s,hm⟩;have s1:=e.size;exact⟨e.F j,a,Ω,hm⟩
theorem yo(h:aI .i64 w sv szs):aj x7 Km [.agg #[sv]] w λv I=>v=Δ szs.length/\Ext w I:=by
 refine az func182 ?_;refine bm λg J f a e=>?_;rw[aQ bn.p 0 e rfl,aS al.u (h.W a)];exact⟨rfl,a⟩
def fi(szs:Λ)(i:Int):Int:=if 0<=i then szs.getD i.toNat 0 else 0
theorem rn{i:Int}(h:aI .i64 w sv szs):aj x7 Kn [.agg #[sv],Δ i] w λv I=>v=Δ (fi szs i)/\Ext w I:=by
 refine az func183 ?_;refine bm λg J r a e=>?_;refine aV (λv V=>v= .bool (decide (i<0\/(szs.length:Int)<=i))/\J=V) ?_ ?_
 .rintro _ _ ⟨rfl,rfl⟩;simp only[ai];refine⟨λh=>⟨?_,a⟩,λq=>?_⟩
  .unfold fi;split
   .rw[u5,Z9 Ω];rfl
   .rfl
  .rw[aQ bn.p 0 e rfl];obtain⟨n,rfl⟩:∃n:Nat,i=n:=⟨i.toNat,Ω⟩;have f:n<szs.length:=Ω
   rw[be al.u ae.i Ψ (h.W a) (x6 f)];refine⟨?_,a⟩;unfold fi;rw[m3 Ω,u5,u9,x6 f];rfl
 .intro ay j;simp only[aP,ai];refine⟨λh=>j _ _ ⟨by rw[m7];omega,rfl⟩,λq=>?_⟩;rw[aQ bn.p 0 e rfl,aS al.u (h.W a)];simp only[cI];exact j _ _ ⟨by congr 1;simp;omega,rfl⟩
theorem p0{g B0:Nat}(U:bS szs):
  qO x7 kt [Γ g] (aA szs).toNat (λk vs w=>∃aN gt,vs=[Δ (k:Int),aN]/\B0<=gt/\ao .i64 ae w gt aN (b1 szs k))
   (λw=>ag w g bn [sv]/\aI .i64 w sv szs/\B0<=w.heap.size):=by
 refine⟨kt.enters,λl ay P w r _ z ⟨s,x,A⟩ B=>?_⟩;have Q:=prod_bound U;refine sq func199 ?_;rw[bB bn.p bn.i rfl s.range];refine(q2 x U).free.X ?_;rintro _ J ⟨C,rfl,a⟩;refine cm.range (aA szs).toNat (λi V=>ay i V/\ag V g bn [sv]/\aI .i64 V sv szs/\B0<=V.heap.size) Ω ⟨r 0 _ _ a C.b B,s.W a,x.W a,Y2 A a.size⟩ ?_ ?_
 .rintro i V k hi ⟨f,j,q,y⟩ hk;simp only[aP,ai];refine⟨λ_=>?_,λh=>Ω⟩;rw[bB bn.p bn.i rfl j.range];refine(LV q U Ω Ω).free.X ?_;rintro _ E ⟨G,e,aN,gt,rfl,H,I⟩;rw[bo,bp];refine⟨rfl,(z i _ E hi ⟨j.W e,q.W e,Y2 y e.size⟩ ⟨aN,gt,rfl,Y2 y H,I⟩ (r _ _ _ e G.b f)).X ?_⟩;rintro _ R (⟨rfl,⟨K,L,M⟩,N⟩|⟨rfl,O⟩)
  .simp only[bA,Y6,aX,aM];exact hk _ ⟨N.1,K,L,M⟩
  .simp only[bA,X4,bY];exact .inr ⟨i,hi,O⟩
 .rintro V k ⟨f,j,q,_⟩;simp only[aP,ai];exact⟨λh=>Ω,λ_=>.inl f⟩
theorem p1:aj x7 Jt [.agg #[sv]] w λr I=>Ext w I/\∃g,r= .func (.func kt) #[] #[Γ g]/\w.heap.size<=g/\ag I g bn [sv]:=by
 refine az func101 ?_;refine bm λg J f a e=>?_;rw[j1];exact⟨a,g,rfl,Ω,e⟩
end Go.Proofs.YtkcigodpbndobaaGreatDoor
namespace Go.Vc
open Go Go.RowKit
set_option maxRecDepth 100000
section
variable{P:X5}{w:x3}
theorem aC.cD{α:Type}{s:Sem α}{K:α->x3->Prop}(h:aC P s w λv I=>cC w I->K v I):aC P s w K:=by
 obtain⟨v,I,h1,a,e⟩:=h;exact⟨v,I,h1,a,e a⟩
structure Keys(P:X5)(k:r9)(G:x1->Prop):Prop where
 check:∀(w:x3)(em:Bool){v:x1},G v->(Instr.checkKey em 10000 k v).run P w= .ok () w
 find:∀(w:x3){x:x1},G x->∀es:List MapEntry,(∀e∈es,G e.key)->
  ((Instr.findKey k x es).run P w= .ok ν w/\∀e∈es,e.key≠x)\/∃j e,(Instr.findKey k x es).run P w= .ok (σ (j,e.val)) w/\es[j]?=σ e/\e.key=x
 stays:∀(w:x3){v:x1},G v->(Instr.keyThatStays v v).run P w= .ok v w
theorem Keys.law{k:r9}(K:WideMaps.KeyLaw P k):Keys P k λv=>∃l,keyOf P k v=σ l:=
 ⟨λw a _ ⟨_,h⟩=>K.check w a h,λw _ ⟨_,h⟩ e f=>K.find w h e f,λw _ ⟨_,h⟩=>K.stays w h⟩
theorem Keys.int{k:r9}{a:o5}(hk:P.underlying k=σ (.int a)):Keys P k λv=>∃n,v= .int a n:=by
 have key:∀n,MapKept.IsKey (.int a) (.int a n):=λn=>rfl;refine⟨λw e v ⟨n,h⟩=>?_,λw x ⟨n,h⟩ f j=>?_,λw v ⟨n,h⟩=>?_⟩
 all_goals grind [MapKept.run_checkKey,MapKept.findNow_spec,MapKept.run_findKey,MapKept.run_keyThatStays]
def ic(e:MapEntry):x1×x1:=(e.key,e.val)
def dg(w:x3)(m:Nat)(d:List (x1×x1)):Prop:=∃a e,w.heap[m]?=σ (.map a e)/\MapKept.Stamped a e/\a.toList.map ic=d
theorem dg.W{m:Nat}{d:List (x1×x1)}(h:dg w m d)(a:Ext w I):dg I m d:=by
 obtain⟨e,c,h1,f⟩:=h;exact⟨e,c,a.aZ m _ h1 rfl,f⟩
theorem dg.aa{m:Nat}{d:List (x1×x1)}(h:dg w m d)(a:af S w I)(e:¬S m):dg I m d:=by
 obtain⟨f,c,h1,j⟩:=h;exact⟨f,c,a.aZ m _ h1 rfl e,j⟩
theorem dg.lt{m:Nat}{d:List (x1×x1)}(h:dg w m d):m<w.heap.size:=by
 obtain⟨a,c,h1,e⟩:=h
 grind
theorem dg.nodup{m:Nat}{d:List (x1×x1)}(h:dg w m d):(d.map (·.1)).Nodup:=by
 obtain⟨e,c,_,⟨_,_,a⟩,rfl⟩:=h;rw[S4];exact a
theorem mV{α:Type}{l:List α}(h:l.Nodup){i:Nat}{x:α}(hi:l[i]?=σ x)(a:l[j]?=σ x):i=j:=by
 grind [X9]
theorem oS{α β:Type}(f:α->β):∀(l:List α)(i:Nat),(l.map f).eraseIdx i=(l.eraseIdx i).map f
 |[],_=>Ξ
 |_::_,0=>rfl
 |x::l,i+1=>by simp[oS f l i]
theorem dg.uniq{m:Nat}{d:List (x1×x1)}(h:dg w m d){i:Nat}{p q:x1×x1}(hi:d[i]?=σ p)(a:d[j]?=σ q)(he:p.1=q.1):i=j:=by
 have e:=h.nodup;have h1:(d.map (·.1))[i]?=σ p.1:=by grind
 have f:(d.map (·.1))[j]?=σ p.1:=by grind
 grind [mV]
theorem ve{m:Nat}{p:Array MapEntry}{c:Nat}(h:w.heap[m]?=σ (.map p c))(a:Array MapEntry)(e:Nat):
  af (λr=>r=m) w {w with heap:=w.heap.setIfInBounds m (.map a e)}/\cC w {w with heap:=w.heap.setIfInBounds m (.map a e)}/\({w with heap:=w.heap.setIfInBounds m (.map a e)}:x3).heap[m]?=σ (.map a e):=by
 have U:=MapKept.heap_set (o':=.map a e) h;refine⟨⟨Ξ,λr o f j s=>?_⟩,⟨rfl,.lK,rfl,Ξ,λr o f j=>?_⟩,U.1⟩
 .grind
 .show (w.heap.setIfInBounds m _)[r]?=σ o;by_cases q:r=m
  .subst q;rw[h]at f;cases f;cases j
  grind
theorem vf{t:r9}{K:x1->x3->Prop}(h:∀m I,m=w.heap.size->Ext w I->dg I m []->K (.map (σ m)) I):aC P (Instr.makeMap t ν) w K:=by
 refine .of (run_makeMap t w) (qQ w _) (h _ _ rfl (qP w _) ⟨#[],0,?_,MapKept.stamped_empty 0,rfl⟩);exact heap_alloc_new w _
variable{k e:r9}{G:x1->Prop}
theorem sM{t:r9}{c:Bool}{m:Nat}{d:List (x1×x1)}{x v:x1}(y:P.underlying t=σ (.map k e))(hk:Keys P k G)(hm:dg w m d)(z:∀p∈d,G p.1)(h:G x)(a:d[j]?=σ (x,v)):
  ab P (Instr.lookup t (.map (σ m)) x c) w K=K (if c then .tuple #[v,.bool ro]else v):=ab.of λI A=>by
 obtain⟨f,B,q,C,rfl⟩:=hm.W A;have E:∀e∈f.toList,G e.key:=λe he=>z (ic e) (o8.2 ⟨e,he,rfl⟩);rcases hk.find I h f.toList E with⟨_,r⟩|⟨i,s,h1,r,F⟩
 .rw[x8]at a;obtain⟨H,J,L⟩:=Y0.1 a;exact m6 (congrArg Prod.fst L) (r H (x5 J))
 .have M:s.val=v:=by
   have hi:(f.toList.map ic)[i]?=σ (ic s):=by grind
   have N:dg I m (f.toList.map ic):=⟨f,B,q,C,rfl⟩;have:=N.uniq hi a F;subst this;rw[hi]at a;exact congrArg Prod.snd (Z7 a)
  simp only[Instr.lookup,X8,run_underlying y,W3,MapKept.run_getObj_map q,W9,hk.check I _ h,h1,M]
theorem vg{t:r9}{c:Bool}{m:Nat}{d:List (x1×x1)}{x:x1}(r:P.underlying t=σ (.map k e))(hk:Keys P k G)(a:∃s b,aR P e s b z)(hm:dg w m d)(y:∀p∈d,G p.1)(f:G x)(A:∀p∈d,p.1≠x):
  ab P (Instr.lookup t (.map (σ m)) x c) w K=K (if c then .tuple #[z,.bool rs]else z):=ab.of λI B=>by
 obtain⟨h,J,C,L,rfl⟩:=hm.W B;have E:∀e∈h.toList,G e.key:=λe he=>y (ic e) (o8.2 ⟨e,he,rfl⟩);have F:(zeroValue e).run P I= .ok z I:=by
  obtain⟨s,b,i,hi,_,_,a⟩:=a;simp[zeroValue,typeInfo,hi,a]
 rcases hk.find I f h.toList E with⟨h1,j⟩|⟨i,q,h1,j,H⟩
 .simp only[Instr.lookup,X8,run_underlying r,W3,MapKept.run_getObj_map C,W9,hk.check I _ f,h1,F]
 .exact m6 H (A (ic q) (o8.2 ⟨q,x5 j,rfl⟩))
theorem Nn{a:Array MapEntry}{e:MapEntry}{f:MapEntry->MapEntry}(h:a[j]?=σ e):(a.modify j f).toList.map ic=(a.toList.map ic).set j (ic (f e)):=by
 refine j5 λi=>?_
 grind
theorem sN{t:r9}{m:Nat}{d:List (x1×x1)}{x v:x1}{K:Unit->x3->Prop}(B:P.underlying t=σ (.map k e))(hk:Keys P k G)(hm:dg w m d)(J:∀p∈d,G p.1)(h:G x)(h1:∀j v0 I,d[j]?=σ (x,v0)->dg I m (d.set j (x,v))->af (λr=>r=m) w I->K () I)(L:∀I,(∀p∈d,p.1≠x)->dg I m (d++[(x,v)])->af (λr=>r=m) w I->K () I):aC P (Instr.mapUpdate t (.map (σ m)) x v) w K:=by
 obtain⟨f,q,a,C,rfl⟩:=hm;have M:∀e∈f.toList,G e.key:=λe he=>J (ic e) (o8.2 ⟨e,he,rfl⟩);rcases hk.find w h f.toList M with⟨s,E⟩|⟨i,F,s,hi,he⟩
 .obtain⟨y,z,A⟩:=ve a (f.push {key:=x,val:=v,born:=q}) (q+1);refine .of ?_ z (L _ (λp N=>?_) ⟨_,_,A,MapKept.stamped_push C E,by simp[ic]⟩ y)
  .simp only[Instr.mapUpdate,X8,run_underlying B,W3,MapKept.run_getObj_map a,hk.check w _ h,s,MapKept.run_setObj_map _ a]
  .obtain⟨O,Q,rfl⟩:=o8.1 N;exact E O Q
 .have H:f[i]?=σ F:=by grind
  obtain⟨y,z,A⟩:=ve a (f.modify i λe=>{e with key:=x,val:=v}) q;refine .of ?_ z (h1 i F.val _ (by grind [ic]) ⟨_,_,A,MapKept.stamped_modify C _ _ (λ_ _=>rfl) (by grind),Nn H⟩ y);simp only[Instr.mapUpdate,X8,run_underlying B,W3,MapKept.run_getObj_map a,hk.check w _ h,s,H,Z4,Option.getD_some,he,hk.stays w h,MapKept.run_setObj_map _ a]
theorem No{t E F:r9}{m:Nat}{d:List (x1×x1)}{x:x1}{K:x1->x3->Prop}(A:P.underlying t=σ (.map k e))(hk:Keys P k G)(hm:dg w m d)(H:∀p∈d,G p.1)(h:G x)(h1:∀j v0 I,d[j]?=σ (x,v0)->dg I m (d.eraseIdx j)->af (λr=>r=m) w I->K (.tuple #[]) I)(J:∀I,(∀p∈d,p.1≠x)->dg I m d->af (λr=>r=m) w I->K (.tuple #[]) I):aC P (j9.delete_ #[t,E] F #[.map (σ m),x]) w K:=by
 obtain⟨f,B,a,C,rfl⟩:=hm;have L:∀e∈f.toList,G e.key:=λe he=>H (ic e) (o8.2 ⟨e,he,rfl⟩);rcases hk.find w h f.toList L with⟨q,M⟩|⟨i,N,q,hi,he⟩
 .obtain⟨s,y,z⟩:=ve a f B;refine .of ?_ y (J _ (λp O=>?_) ⟨_,_,z,C,rfl⟩ s)
  .simp only[j9.delete_,List.getElem?_toArray,List.getElem?_cons_zero,List.getElem?_cons_succ,X8,run_underlying A,W3,MapKept.run_getObj_map a,hk.check w _ h,q,MapKept.run_setObj_map _ a,W9]
  .obtain⟨Q,R,rfl⟩:=o8.1 O;exact M Q R
 .obtain⟨s,y,z⟩:=ve a (f.eraseIdxIfInBounds i) B;refine .of ?_ y (h1 i N.val _ (by grind [ic]) ⟨_,_,z,MapKept.stamped_erase C _,by rw[oS];simp⟩ s);simp only[j9.delete_,List.getElem?_toArray,List.getElem?_cons_zero,List.getElem?_cons_succ,X8,run_underlying A,W3,MapKept.run_getObj_map a,hk.check w _ h,q,MapKept.run_setObj_map _ a,W9]
theorem Np{t a:r9}{m:Nat}{d:List (x1×x1)}(f:P.underlying t=σ (.map k e))(hm:dg w m d):ab P (W0 #[t] a #[.map (σ m)]) w K=K (Δ d.length):=ab.of λI h=>by
 obtain⟨p,q,j,r,rfl⟩:=hm.W h;simp[W0,run_underlying f,MapKept.run_getObj_map j,goInt]
def iU(w:x3)(j m:Nat)(d left:List (x1×x1))(q:Option (x1×x1)):Prop:=∃a f seen iw,w.heap[m]?=σ (.map a f)/\MapKept.Stamped a f/\a.toList.map ic=d/\
 w.heap[j]?=σ (.mapIter (σ m) f seen iw)/\f<=iw/\(leftOf a seen).toList.map ic=left/\∀p,q=σ p->iw=f/\∃h,a.toList.find? (λe=>e.born == seen.back?.getD 0)=σ h/\seen.back? =σ h.born/\ic h=p
theorem iU.map{a m:Nat}{d left:List (x1×x1)}{e:Option (x1×x1)}(h:iU w a m d left e):dg w m d:=by
 obtain⟨f,c,_,_,h1,j,p,_⟩:=h;exact⟨f,c,h1,j,p⟩
theorem iU.aZ{a m:Nat}{d left:List (x1×x1)}{e:Option (x1×x1)}(h:iU w a m d left e)(f:af S w I)(hm:¬S m)(hi:fc w I):iU I a m d left e:=by
 obtain⟨j,c,s,iw,h1,p,q,r,x⟩:=h;exact⟨j,c,s,iw,f.aZ m _ h1 rfl hm,p,q,hi a _ r rfl,x⟩
theorem iU.W{a m:Nat}{d left:List (x1×x1)}{e:Option (x1×x1)}(h:iU w a m d left e)(f:Ext w I)(hi:fc w I):iU I a m d left e:=
 h.aZ (f.aa λ_=>False) (λh=>h) hi
theorem Nq(a:Array MapEntry):leftOf a #[]=a:=by
 grind [leftOf,Array.filter_eq_self]
theorem DD{t:r9}{m:Nat}{d:List (x1×x1)}{K:x1->x3->Prop}(r:P.underlying t=σ (.map k e))(hm:dg w m d)(h:∀a I,a=w.heap.size->Ext w I->fc w I->iU I a m d d ν->K (Γ a) I):aC P (Instr.range t (.map (σ m))) w K:=by
 obtain⟨j,f,p,q,rfl⟩:=hm;refine .of (by grind [run_range_map]) (qQ w _) (h _ _ rfl (qP w _) (qQ w _).lL ⟨j,f,#[],f,(qP w _).aZ m _ p rfl,q,rfl,heap_alloc_new w _,p9 _,by rw[Nq],by grind⟩)
theorem DE:∀(l:List MapEntry)(j:Nat)(a:MapEntry),(l.map (·.born)).Nodup->l[j]?=σ a->l.filter (λx=>!(x.born == a.born))=l.eraseIdx j
 |[],j,a,_,h=>by simp at h
 |x::l,0,a,e,h=>by
  grind [List.filter_eq_self]
 |x::l,j+1,a,e,h=>by
  simp at h;have f:=List.nodup_cons.1 (by simpa using e:(x.born::l.map (·.born)).Nodup);have p:x.born≠a.born:=λhe=>f.1 (he▸o8.2 ⟨a,x5 h,rfl⟩);have q:=DE l j a f.2 h
  grind
theorem DF{free:fM}{a m:Nat}{d left:List (x1×x1)}{M:Option (x1×x1)}{K:x1->x3->Prop}(h:iU w a m d left M)(z:free.1=rs->free.2<=a)(N:left=[]->K (.tuple #[.bool rs]) w)(h1:∀j p I,left[j]?=σ p->Ext w I->cL a w I->iU I a m d (left.eraseIdx j) (σ p)->K (.tuple #[.bool ro,p.1,p.2]) I):tO P free (Instr.next (Γ a) rs 0) w K:=by
 obtain⟨f,s,seen,iw,O,A,rfl,hi,Q,rfl,_⟩:=h;have F:∀x∈f.toList,x.born<s:=A.1;have ag:=A.2.1;have ah:∀x∈(leftOf f seen).toList,x.born<s:=λx R=>F x (mem_left R).1;have ai:∀(J:x3)(o':Obj),J.heap=w.heap->(setObj a o').run P J= .ok () {J with heap:=J.heap.setIfInBounds a o'}:=by grind [setObj,Sem.run]
 unfold tO;simp only[Instr.next,getObj,X8,Sem.run,hi,O,W3,next_test_false seen f s iw F Q,Bool.false_eq_true,if_false];have S:Array.filter (λe=>!seen.contains e.born) f=leftOf f seen:=rfl;rw[S];have T:((leftOf f seen).toList.map (·.born)).Nodup:=by
  grind
 have U:∀B:MapEntry,leftOf f (seen.push B.born)=(leftOf f seen).filter λx=>!(x.born == B.born):=λB=>by
  unfold leftOf;rw[Array.filter_filter]
  grind
 generalize V:leftOf f seen=L at*;have W:L.filter (λx=>decide (x.born<s))=L:=by grind [Array.filter_eq_self]
 have X:L.filter (λx=>decide (x.born≥s))= #[]:=by
  grind [Array.filter_eq_empty_iff]
 simp only[W,X,Array.append_empty];by_cases Y:L.size=0
 .have Z:=Array.eq_empty_of_size_eq_zero Y;subst Z;refine⟨.tuple #[.bool rs],w,?_,λ_=>cL.refl _ _,N rfl⟩;simp[choose,Sem.run,Question.forced]
 .have aa:L.isEmpty=rs:=by grind
  simp only[aa,Bool.false_eq_true,if_false,Array.empty_append,Array.size_map];have ab:∃(j:Nat)(n:Nat),j<L.size/\w.drawn<=n/\(choose (Question.mapNext L.size)).run P w= .ok j {w with drawn:=n}:=by
   by_cases z:L.size<=1
   .exact⟨0,w.drawn,Ω,p9 _,by simp[choose,Sem.run,Question.forced,z]⟩
   .exact⟨_,w.drawn+1,Nat.mod_lt _ Ω,Nat.le_succ _,by
     simp only[choose,Sem.run,Question.forced,pl,z,if_false,Question.cut];rfl⟩
  obtain⟨j,n,G,H,aj⟩:=ab;have ac:L.toList[j]?=σ L[j]:=by simp[G]
  have ak:=(mem_left (by rw[V];exact Array.mem_toList_iff.2 (Array.getElem_mem G))).1;refine⟨.tuple #[.bool ro,L[j].key,L[j].val],{w with drawn:=n,heap:=w.heap.setIfInBounds a (.mapIter (σ m) s (seen.push L[j].born) s)},?_,?_,?_⟩
  .grind [X8,W3,W9]
  .intro ad;have:=z ad;refine⟨rfl,⟨rfl,H⟩,rfl,Ξ,λr o q C=>?_,λr o ae q E=>?_⟩
   .show (w.heap.setIfInBounds a _)[r]?=σ o;by_cases y:r=a
    .subst y;rw[hi]at q;cases q;cases C
    grind
   grind
  .refine h1 j (ic L[j]) _ (by grind) ⟨Ξ,λr o q E=>?_⟩ ⟨rfl,⟨rfl,H⟩,rfl,Ξ,λr o q C=>?_,λr o ae q E=>?_⟩ ⟨f,s,seen.push L[j].born,s,?_,A,rfl,?_,p9 _,?_,λp af=>⟨rfl,L[j],?_,Ξ,Z7 af⟩⟩
   .show (w.heap.setIfInBounds a _)[r]?=σ o;by_cases y:r=a
    .subst y;rw[hi]at q;cases q;cases E
    grind
   .show (w.heap.setIfInBounds a _)[r]?=σ o;by_cases y:r=a
    .subst y;rw[hi]at q;cases q;cases C
    grind
   .grind
   .grind
   .grind
   .rw[U,Array.toList_filter,DE _ _ _ T ac,oS]
   grind [find_born]
theorem DG{a m:Nat}{d left:List (x1×x1)}{p:x1×x1}{K:x1->x3->Prop}(h:iU w a m d left (σ p))(f:K (.tuple #[p.1,p.2]) w):aC P (Instr.entry (Γ a)) w K:=by
 obtain⟨r,s,seen,iw,j,x,rfl,hi,y,rfl,q⟩:=h;obtain⟨rfl,z,h1,e,rfl⟩:=q p rfl;refine .of ?_ (cC.refl _) f;rw[e]at h1;simp only[Instr.entry,getObj,X8,Sem.run,hi,j,W3,e,bne_self_eq_false,Bool.false_eq_true,if_false,<-Array.find?_toList];simp only[Option.getD_some]at h1;rw[h1];rfl
end
end Go.Vc
namespace Go.Proofs.YtkcigodpbndobaaGreatDoor
open Go Go.Vc Go.RowKit Go.Proofs Go.Proofs.Tryz
set_option maxRecDepth 100000
def en(a:Λ):x1:=.agg (ints .i8 a).toArray
def nZ(a:Λ):Prop:=a.length=6/\∀x∈a,0<=x/\x<32
theorem Nr{b:Λ}(h:en a=en b):a=b:=by
 unfold en at h;have h:ints .i8 a=ints .i8 b:=by grind
 have e:∀l:Λ,(ints .i8 l).map valOf=l:=λl=>by
  unfold ints;rw[S4];exact List.map_id l
 grind
theorem DH(a:Λ):(en a).cells.toList=ints .i8 a:=by simp[en,T9]
theorem Ns:WideMaps.ArrKey x7 cH gd 6:=⟨cH.u,Ψ,Ψ,Ψ⟩
theorem keys:Keys x7 cH λv=>∃l,keyOf x7 cH v=σ l:=Keys.law Ns.law
theorem yp{p:Λ}(h:nZ p):∃l,keyOf x7 cH (en p)=σ l:=by
 obtain⟨r,j⟩:=h
 match p,r with
 |[a,b,c,d,e,f],_=>
  have s:=j a Ξ;have w:=j b Ξ;have y:=j c Ξ;have rd:=j d Ξ;have z:=j e Ξ;have lK:=j f Ξ;have wf:∀x:Int,0<=x/\x<32->(Lit.int .i8 x).wf=ro:=λx A=>by
   simp only[Lit.wf,V9,pl];have I:o5.i8.min= -128:=Φ
   have J:o5.i8.max=127:=Φ
   omega
  have q:decide (0<x7.types.size)=ro:=Ψ
  have q:=rc q;obtain⟨n,B⟩:∃n,x7.types.size=n+1:=⟨x7.types.size-1,Ω⟩;have one:∀x:Int,0<=x/\x<32->x7.keyLits (n+1) gd [.int .i8 x]=σ [.int .i8 x]:=λx A=>by
   unfold X5.keyLits
   grind [gd.u]
  unfold keyOf;rw[cH.u];simp only;have C:x7.keyType cH=ro:=Ψ
  have E:x7.cellsOf gd=1:=Ψ
  have F:x7.cellsOf cH=6:=Ψ
  have G:(en [a,b,c,d,e,f]).formed x7 cH=ro:=by
   grind [en,x1.formed,cH.u]
  rw[C,G,DH,B];simp only[Bool.and_self,if_true];unfold X5.keyLits;rw[cH.u];simp only[F,E,ints];have H:Z2 6=[0,1,2,3,4,5]:=Φ
  simp[H,one a s,one b w,one c y,one d rd,one e z,one f lK]
def pad(t:Λ):Λ:=t++r8 (6-t.length) 0
theorem Nt(f:t.length<=6)(a:∀x∈t,0<=x/\x<32):nZ (pad t):=
 ⟨by simp[pad];omega,λx e=>by
  rcases o9.1 e with h|h
  .exact a x h
  .have:=(List.mem_replicate.1 h).2;omega⟩
theorem Nu{b:Λ}(e:a.length=b.length)(h:pad a=pad b):a=b:=by
 grind [pad,List.append_inj]
theorem DI:(pad t).take t.length=t:=by simp[pad]
theorem p2{b o:Nat}(e:a.length=6)(h:w.rangeAt b o (ints .i8 a)):ab x7 (u4 cH (.pointer (σ ⟨b,o,ν⟩))) w K=K (en a):=
 B8 cH.u rfl cH.i (by simp[e]) h
theorem Nv{b o:Nat}(e:a.length=6)(h:w.rangeAt b o (ints .i8 a)):ab x7 (do loadVar cH (<-asAddr (.pointer (σ ⟨b,o,ν⟩)))) w K=K (en a):=ab.of λI f=>by
 have:=run_loadVar_mid I b o cH (ints .i8 a) (.array 6 gd) (pG f h) cH.u rfl (by rw[cH.i.size];simp[e]);simp only[asAddr,X8,W9,Result.andThen_ok,this];rfl
theorem sO{g:Nat}{cs:List x1}{K:Unit->x3->Prop}(e:a.length=6)(f:cs.length=6)(j:ag w g cH cs)(h:∀I,af (λr=>r=g) w I->I.heap.size=w.heap.size->ag I g cH (ints .i8 a)->K () I):aC x7 (o7 cH (Γ g) (en a)) w K:=
 cb (vs:=ints .i8 a) cH.i (by simp[e]) f (λv p=>by obtain⟨x,_,rfl⟩:=o8.1 p;rfl) j h
def vh:List x1:=[.int .i8 0,.int .i8 0,.int .i8 0,.int .i8 0,.int .i8 0,.int .i8 0]
theorem Nw{x:Int}:aj x7 uy [Δ x] w λv I=>v= .bool (decide (¬jE x))/\Ext w I:=by
 refine az func208 ?_;simp only[cz,aP,bL,ai];refine⟨λh=>⟨?_,Ext.refl _⟩,λh=>⟨?_,Ext.refl _⟩⟩
 .rw[m7];intro a;have:=a.1;omega
 .congr 1;have:(32<x)=(¬jE x):=propext ⟨λe a=>by have:=a.2;omega,λe=>by
   by_cases f:32<x
   .exact f
   .exact m6 ⟨Ω,Ω⟩ e⟩
  simp only[this]
theorem Nx(h:aI .i64 w sv l):
  aj x7 xC [sv,.func (.func uy) #[] #[]] w λv I=>Ext w I/\∃n:Int,v=Δ n/\((0<=n)=¬∀x∈l,jE x):=by
 have z:=h.le;refine az func239 ?_;rw[aS al.u h];refine⟨λ_ t J=>Ext w J/\∃i:Nat,t=Δ i/\i<=l.length/\∀x∈l.take i,jE x,λ_ t _=>l.length-(b0 t).toNat,⟨Ext.refl _,0,rfl,X7 _,Ξ⟩,?_⟩;rintro _ _ J ⟨e,i,rfl,hi,f⟩;simp only[aP,ai];refine⟨λA=>?_,λB=>⟨e,-1,rfl,?_⟩⟩
 .obtain⟨x,j⟩:=aF (l:=l) (i:=i) Ω;rw[be al.u ae.i Ψ (h.W e) j];show aj x7 uy [Δ x] J _;refine Nw.X ?_;rintro _ V _ ⟨rfl,p⟩;simp only[ai,aM];refine⟨λq=>⟨e.F p,i,rfl,?_⟩,λr=>?_⟩
  .exact propext ⟨λ_ s=>q (s x (x5 j)),λ_=>Ω⟩
  .rw[lm Ω Ω];refine⟨⟨e.F p,i+1,rfl,Ω,λy a=>?_⟩,?_⟩
   .rw[u7,j]at a;rcases o9.1 a with a|a
    .exact f y a
    .simp at a;subst a;exact Z6.1 r
   .simp only[b0];omega
 .have:i=l.length:=Ω
  rw[this,o6]at f;exact propext ⟨λh=>Ω,λh=>m6 f h⟩
theorem DJ(h:aI .i64 w sv l):
  aj x7 uw [sv,.func (.func uy) #[] #[]] w λv I=>v= .bool (decide (¬∀x∈l,jE x))/\Ext w I:=by
 refine az func163 ?_;refine(Nx h).X ?_;rintro _ J _ ⟨a,n,rfl,e⟩;simp only[cI];exact⟨by congr 1;simp only[e],a⟩
abbrev Told:=List (Λ×Int)
def lq(p:Λ×Int):x1×x1:=(en (pad p.1),Δ p.2)
def e2(w:x3)(g m:Nat)(szs:Λ)(k o:Int)(D:Told):Prop:=
 (∃sv gs,ag w g fP [sv,Δ k,Δ o,.map (σ m)]/\ao .i64 ae w gs sv szs)/\dg w m (D.map lq)/\bS szs/\cJ o k/\∀p∈D,cX szs p.1/\cJ p.2 k/\p.2≠o
theorem e2.W{g m:Nat}{o:Int}{D:Told}(h:e2 w g m szs k o D)(a:Ext w I):e2 I g m szs k o D:=by
 obtain⟨⟨sv,gs,h1,e⟩,f,j⟩:=h;exact⟨⟨sv,gs,h1.W a,e.W a⟩,f.W a,j⟩
theorem yq(U:bS szs)(h:cX szs t):t.length=szs.length/\∀x∈t,0<=x/\x<32:=by
 obtain⟨h1,f⟩:=oQ.1 h;refine⟨h1.symm,λx j=>?_⟩;obtain⟨i,hi,rfl⟩:=List.getElem_of_mem j;obtain⟨a,e⟩:=aF (l:=szs) (i:=i) Ω;have p:=f i a _ e (x6 hi);have q:=(U.2 a (x5 e)).2;omega
theorem sP(U:bS szs)(h:cX szs t):nZ (pad t):=by
 obtain⟨h1,a⟩:=yq U h;exact Nt (by rw[h1];exact U.1) a
theorem e2.rp{g m:Nat}{o:Int}{D:Told}(h:e2 w g m szs k o D):∀p∈D.map lq,∃l,keyOf x7 cH p.1=σ l:=λp a=>by
 obtain⟨q,e,rfl⟩:=o8.1 a;exact yp (sP h.2.2.1 (h.2.2.2.2 q e).1)
theorem DK{s:Λ}(U:cX szs s)(a:cX szs t)(h:en (pad s)=en (pad t)):s=t:=
 Nu ((sF U).symm.F (sF a)) (Nr h)
theorem e2.nodup{g m:Nat}{o:Int}{D:Told}(h:e2 w g m szs k o D):(D.map (·.1)).Nodup:=by
 have e:=h.2.1.nodup;rw[S4]at e;refine List.Pairwise.of_map (S:=λa b=>a≠b) (λt=>en (pad t)) (λa b h he=>h (by rw[he])) ?_;rw[S4];exact e
def Ny(w:x3)(l:Λ)(k o:Int)(v:x1)(I:x3):Prop:=
 Ext w I/\(¬bS l->v= .tuple #[.pointer ν,Δ 1])/\(bS l->¬cJ o k->v= .tuple #[.pointer ν,Δ 3])/\
  (bS l->cJ o k->∃g m,v= .tuple #[Γ g,Δ 0]/\w.heap.size<=g/\w.heap.size<=m/\e2 I g m l k o [])
theorem DL{o:Int}(h:aI .i64 w sv l):aj x7 qT [sv,Δ k,Δ o] w (Ny w l k o):=by
 refine az func125 ?_;refine aV (λv J=>Ext w J/\∃c,v= .bool c/\(c=ro↔¬bS l)) ?_ ?_
 .rintro _ J ⟨e,c,rfl,f⟩;rw[bU];refine⟨λs=>⟨e,λ_=>rfl,λh=>m6 h (f.1 s),λh=>m6 h (f.1 s)⟩,λz=>?_⟩;have U:=Classical.byContradiction λh=>by have:=f.2 h;rw[z]at this;cases this
  have G:=U.1;refine lk.X ?_;rintro _ V _ ⟨rfl,a⟩;by_cases hi:cJ o k
  rotate_left
  .simp only[hi,decide_false,bA,X4,bY];exact⟨e.F a,λh=>m6 U h,λ_ _=>rfl,λ_ h=>m6 h hi⟩
  simp only[hi,decide_true,bA,Y6,aX];refine(j3 ((h.W e).W a) Ω).X ?_;rintro aN H _ ⟨x,A,I,hm⟩;have K:=hm.ls.cells;refine vf λm L M j B=>?_;rw[dw (cs:=#[aN,Δ k,Δ o,.map (σ m)]) (by obtain⟨_,_,_,_,_,rfl,_⟩:=hm.ls;kernel_rfl)];refine bm λg N O q C=>?_;have s1:=e.size;have s2:=a.size;have P:=x.size;have Q:=j.size;exact⟨((((e.F a).F x).F j).F q),λh=>m6 U h,λ_ h=>m6 hi h,λ_ _=>⟨g,m,rfl,Ω,Ω,⟨aN,A,C,(hm.W j).W q⟩,B.W q,U,hi,λp E=>by cases E⟩⟩
 .intro ay y;rw[aS al.u h];simp only[bL,ai];refine⟨λR=>y _ _ ⟨Ext.refl _,ro,rfl,λ_ U=>by have:=U.1;omega,λ_=>rfl⟩,λS=>?_⟩;refine(DJ h).X ?_;rintro _ V _ ⟨rfl,a⟩;refine y _ _ ⟨a,_,rfl,?_⟩;rw[pl];exact⟨λr U=>r U.2,λr U=>r ⟨Ω,U⟩⟩
def kJ(t:Λ)(i:Nat):Λ:=t.take i++r8 (6-i) 0
theorem Nz{i:Nat}(hi:i<=t.length)(a:t.length<=6):(kJ t i).length=6:=by simp[kJ];omega
theorem NA{i:Nat}{x:Int}(a:t[i]?=σ x)(f:t.length<=6):(kJ t i).set i x=kJ t (i+1):=by
 have hi:=(x4.1 a).1;unfold kJ;have e:(t.take i).length=i:=by rw[c7];omega
 rw[Q1 _ _ Ω,e,U5,u7,a];have:6-i=(6-(i+1))+1:=Ω
 rw[this,List.replicate_succ];simp
theorem NB(t:Λ):kJ t t.length=pad t:=by simp[kJ,pad]
def DM(w:x3)(szs t:Λ)(v:x1)(I:x3):Prop:=Ext w I/\∃a e,v= .tuple #[en a,Δ e]/\a.length=6/\(cX szs t->a=pad t/\e=0)/\(¬cX szs t->e=3)
theorem NC{g m:Nat}{o:Int}{D:Told}{aN:x1}(h:e2 w g m szs k o D)(I:aI .i64 w aN t):aj x7 KD [Γ g,aN] w (DM w szs t):=by
 obtain⟨⟨sv,gs,K,hm⟩,_,U,_⟩:=h;have aH:=U.1;refine az func209 ?_;refine bx cH.i λB J aJ X C=>?_;refine bx cH.i λak V aL L M=>?_;have y:=X.F L;have s1:=X.size;have s2:=L.size;have aO:=C.lt;have aQ:=M.lt;have aR:=K.lt;have C:=C.W L;have am:=K.W y;rw[cW fd.u];simp only[j0,aX];have N:∀{f:x3}{E:Λ}{e:Int},Ext w f->ag f ak cH (ints .i8 E)->ag f B cH vh->E.length=6->(cX szs t->E=pad t/\e=0)->(¬cX szs t->e=3)->
   ab x7 (u4 cH (Γ ak)) f λao=>aC x7 (o7 cH (Γ B) ao) f λ(_:Unit)O=>ab x7 (do loadVar cH (<-asAddr (Γ B))) O λap=>DM w szs t (.tuple #[ap,Δ e]) O:=by
  intro f E e q r z H G P;rw[p2 H r.range];refine sO H rfl z λO aq aT au=>?_;rw[Nv H au.range];exact⟨q.put aq Ω,E,e,rfl,H,G,P⟩
 rw[aS al.u (I.W y),aK fP.p 0 am rfl,aS al.u (hm.ls.W y)];simp only[bJ,ai];have Y:ints .i8 (kJ t 0)=vh:=by simp[kJ,vh,ints]
 refine⟨λav=>N y (by rw[Y];exact M) C (by simp[kJ]) (λG=>m6 (by rw[sF G]) av) (λ_=>rfl),λZ=>?_⟩;have Z:t.length=szs.length:=Ω
 rw[aS al.u (I.W y)];refine b2.range t.length (λi _ f=>Ext w f/\ag f ak cH (ints .i8 (kJ t i))/\ag f B cH vh/\∀(j:Nat)(a x:Int),j<i->szs[j]?=σ a->t[j]?=σ x->0<=x/\x<a) Ω
  ⟨y,by rw[Y];exact M,C,λj a x aw=>Ω⟩ ?_ ?_
 .rintro i _ f ax hi ⟨q,r,z,Q⟩ aA;simp only[aP,ai];refine⟨λ_=>?_,λh=>Ω⟩;obtain⟨x,s⟩:=aF (l:=t) hi;obtain⟨a,A⟩:=aF (l:=szs) (i:=i) Ω;have aU:=U.2 a (x5 A);rw[be al.u ae.i Ψ (I.W q) s];have ac:=Nz (t:=t) (i:=i) Ω Ω;refine aV (λv aB=>f=aB/\v= .bool (decide (¬(0<=x/\x<a)))) ?_ ?_
  .rintro _ _ ⟨rfl,rfl⟩;simp only[ai];refine⟨λaD=>N q r z ac (λG=>m6 ((oQ.1 G).2 i a x A s) aD) (λ_=>rfl),λR=>?_⟩;have R:=Z6.1 R;rw[e1 ae.u gd.u,LH Ω Ω,xK cH.u gd.i Ω];refine bt gd.i rfl rfl r (by simp[ac];omega) λaW ad aY af=>?_;simp only[aM];refine aA _ _ ⟨q.put ad Ω,?_,z.aa ad (by show¬(B=ak);omega),λj a' aE aw S W=>?_⟩
   .have e:(ints .i8 (kJ t i)).set (0+i*1) (.int .i8 x)=ints .i8 (kJ t (i+1)):=by
     rw[<-NA s Ω];simp[ints,V3]
    rw[e]at af;exact af
   .by_cases aG:j=i
    .subst aG;rw[A]at S;rw[s]at W;cases S;cases W;exact R
    .exact Q j a' aE Ω S W
  .intro ay ah;simp only[aP,ai];refine⟨λaZ=>ah _ _ ⟨rfl,by rw[m7];omega⟩,λa1=>?_⟩;rw[aK fP.p 0 (K.W q) rfl,be al.u ae.i Ψ (hm.ls.W q) A,cI];refine ah _ _ ⟨rfl,?_⟩;congr 1;exact decide_eq_decide.2 ⟨λh an=>Ω,λh=>Ω⟩
 .rintro _ f ax ⟨q,r,z,Q⟩;simp only[aP,ai];refine⟨λh=>Ω,λ_=>?_⟩;rw[NB]at r;exact N q r z (by simp[pad];omega) (λ_=>⟨rfl,rfl⟩) (λP=>m6 (oQ.2 ⟨Z.symm,λj a x A s=>Q j a x (x4.1 s).1 A s⟩) P)
def jI(D:Told)(o:Int)(t:Λ):Int:=match D.find? (λp=>decide (p.1=t))with
 |some p=>p.2
 |none=>o
theorem DN{D:Told}(e:(D.map (·.1)).Nodup){p q:Λ×Int}(f:p∈D)(r:q∈D)(h:p.1=q.1):p=q:=by
 obtain⟨i,hi⟩:=c9.1 f;obtain⟨j,a⟩:=c9.1 r;have h1:(D.map (·.1))[i]?=σ p.1:=by rw[x8,hi];rfl
 have s:(D.map (·.1))[j]?=σ p.1:=by rw[x8,a,h];rfl
 have:=mV e h1 s;subst this;rw[hi]at a;exact Z7 a
theorem sQ{D:Told}{o:Int}(e:(D.map (·.1)).Nodup)(h:(t,c)∈D):jI D o t=c:=by
 unfold jI;cases a:D.find? (λp=>decide (p.1=t))with
 |none=>
  have:=List.find?_eq_none.1 a _ h;simp at this
 |some p=>
  have h1:=List.find?_some a;have h1:p.1=t:=by simpa using h1
  have:=DN e (List.mem_of_find?_eq_some a) h h1;rw[this]
theorem sR{D:Told}{o:Int}(h:∀p∈D,p.1≠t):jI D o t=o:=by
 unfold jI;cases a:D.find? (λp=>decide (p.1=t))with
 |none=>rfl
 |some p=>
  have h1:=List.find?_some a;have h1:p.1=t:=by simpa using h1
  exact m6 h1 (h p (List.mem_of_find?_eq_some a))
def mW(D:Told)(t:Λ)(c o:Int)(D':Told):Prop:=(∀p,p∈D'↔(c≠o/\p=(t,c))\/(p∈D/\p.1≠t))/\D'.length<=D.length+1
theorem mW.cost{D D':Told}{o:Int}(h:mW D t c o D')(r:(D.map (·.1)).Nodup)(f:(D'.map (·.1)).Nodup)(s:Λ):jI D' o s=if s=t then c else jI D o s:=by
 by_cases U:s=t
 .subst U;rw[m3 rfl];by_cases j:c=o
  .subst j;exact sR λp a he=>by
    rcases(h.1 p).1 a with e|e
    .exact e.1 rfl
    .exact e.2 he
  .exact sQ f ((h.1 _).2 (.inl ⟨j,rfl⟩))
 .rw[m5 U];by_cases he:∃p∈D,p.1=s
  .obtain⟨p,a,rfl⟩:=he;rw[sQ r a];exact sQ f ((h.1 _).2 (.inr ⟨a,U⟩))
  .have q:∀p∈D,p.1≠s:=λp a h=>he ⟨p,a,h⟩;rw[sR q];exact sR λp a e=>by
    rcases(h.1 p).1 a with⟨_,rfl⟩|⟨w,_⟩
    .exact U e.symm
    .exact q p w e
theorem ND{D:Told}{o v0:Int}(q:(D.map (·.1)).Nodup)(f:D[j]?=σ (t,v0))(r:c≠o):mW D t c o (D.set j (t,c)):=by
 have h:=(x4.1 f).1;refine⟨λp=>⟨λa=>?_,λa=>?_⟩,Ξ⟩
 .obtain⟨i,hi⟩:=c9.1 a;by_cases e:j=i
  .subst e;rw[Z3 h]at hi;exact .inl ⟨r,(Z7 hi).symm⟩
  .rw[X3 e]at hi;refine .inr ⟨x5 hi,λhe=>e ?_⟩;exact mV q (by rw[x8,f];rfl) (by rw[x8,hi,Z4,he])
 .rcases a with⟨_,rfl⟩|⟨a,s⟩
  .exact x5 (Z3 h)
  .obtain⟨i,hi⟩:=c9.1 a;have e:j≠i:=λhe=>by subst he;rw[f]at hi;cases hi;exact s rfl
   exact x5 (by rw[X3 e];exact hi)
theorem DO{D:Told}{o:Int}(a:∀p∈D,p.1≠t)(e:c≠o):mW D t c o (D++[(t,c)]):=by
 refine⟨λp=>?_,Ξ⟩;rw[o9,b8];exact⟨λh=>h.elim (λh=>.inr ⟨h,a p h⟩) (λh=>.inl ⟨e,h⟩),λh=>h.elim (λh=>.inr h.2) (λh=>.inl h.1)⟩
theorem NE{D:Told}{o v0:Int}(f:(D.map (·.1)).Nodup)(e:D[j]?=σ (t,v0)):mW D t o o (D.eraseIdx j):=by
 refine⟨λp=>⟨λa=>?_,λa=>?_⟩,by have:=List.length_eraseIdx_le D j;omega⟩
 .refine .inr ?_;obtain⟨i,q,hi⟩:=List.mem_eraseIdx_iff_getElem?.1 a;refine⟨x5 hi,λhe=>q ?_⟩;exact mV f (by rw[x8,hi,Z4,he]) (by rw[x8,e];rfl)
 .rcases a with⟨h,_⟩|⟨a,r⟩
  .exact m6 rfl h
  .obtain⟨i,hi⟩:=c9.1 a;exact List.mem_eraseIdx_iff_getElem?.2 ⟨i,λhe=>by subst he;rw[e]at hi;cases hi;exact r rfl,hi⟩
theorem NF{D:Told}{o:Int}(a:∀p∈D,p.1≠t):mW D t o o D:=
 ⟨λp=>⟨λh=>.inr ⟨h,a p h⟩,λh=>h.elim (λh=>m6 rfl h.1) (λh=>h.1)⟩,Ω⟩
theorem DP{g m:Nat}{o:Int}{D:Told}(h:e2 w g m szs k o D)(f:cX szs t){v:x1}(a:(D.map lq)[j]?=σ (en (pad t),v)):∃c,D[j]?=σ (t,c)/\v=Δ c:=by
 rw[x8]at a;obtain⟨p,e,he⟩:=Y0.1 a;have h1:=DK (h.2.2.2.2 p (x5 e)).1 f (congrArg Prod.fst he);exact⟨p.2,by rw[e,<-h1],(congrArg Prod.snd he).symm⟩
theorem DQ{g m:Nat}{o:Int}{D:Told}(h:e2 w g m szs k o D)(a:∀p∈D.map lq,p.1≠en (pad t)):∀p∈D,p.1≠t:=λp e he=>a (lq p) (o8.2 ⟨p,e,rfl⟩) (by rw[lq,he])
def NG(w:x3)(g m:Nat)(szs t:Λ)(k o c:Int)(D:Told)(v:x1)(I:x3):Prop:=
 (¬(cX szs t/\cJ c k)->v=Δ 3/\Ext w I)/\(cX szs t/\cJ c k->v=Δ 0/\af (λr=>r=m) w I/\∃D',mW D t c o D'/\e2 I g m szs k o D')
theorem DR{g m:Nat}{o:Int}{D:Told}{aN:x1}(h:e2 w g m szs k o D)(ag:aI .i64 w aN t):aj x7 JL [Γ g,aN,Δ c] w (NG w g m szs t k o c D):=by
 refine az func126 ?_;refine(NC h ag).X ?_;rintro _ J _ ⟨X,aF,e,rfl,N,ah,al⟩;rw[bo,bp];refine bx cH.i λak V aG Y Z=>?_;refine sO N rfl Z λab am aH ac=>?_;have s1:=X.size;have s2:=Y.size;have aJ:=Z.lt;have H:=(X.F Y).put am Ω;refine aV (λv O=>v=Δ 0/\(cX szs t/\cJ c k)/\af (λr=>r=m) w O/\∃D',mW D t c o D'/\e2 O g m szs k o D') ?_ ?_
 .rintro _ O ⟨_,h1,E⟩;exact⟨λh=>m6 h1 h,λ_=>⟨rfl,E⟩⟩
 intro ay ao;simp only[bJ,ai];by_cases A:cX szs t
 rotate_left
 .have he:=al A;subst he;exact⟨λ_=>⟨λ_=>⟨rfl,H⟩,λh=>m6 h.1 A⟩,λh=>by simp at h⟩
 obtain⟨rfl,rfl⟩:=ah A;refine⟨λh=>m6 rfl h,λ_=>?_⟩;have x:=h.W H;obtain⟨⟨sv,gs,y,hm⟩,I,U,ap,aq⟩:=id x;rw[aK fP.p 1 y rfl];refine lk.X ?_;rintro _ au _ ⟨rfl,z⟩;have av:=H.F z;by_cases hi:cJ c k
 rotate_left
 .simp only[hi,decide_false,bA,X4,bY];exact⟨λ_=>⟨rfl,av⟩,λh=>m6 h.2 hi⟩
 simp only[hi,decide_true,bA,Y6,aX];rw[aK fP.p 2 (y.W z) rfl];simp only[bh,ai,eu];have ad:=yp (sP U A);have aw:∀{D':Told},mW D t c o D'->∀p∈D',cX szs p.1/\cJ p.2 k/\p.2≠o:=λK p ax=>by
  rcases(K.1 p).1 ax with⟨C,rfl⟩|⟨h1,_⟩
  .exact⟨A,hi,C⟩
  .exact aq p h1
 have L:∀{G B:x3}{D':Told},Ext au G->af (λr=>r=m) G B->dg B m (D'.map lq)->mW D t c o D'->ay (Δ 0) B:=by
  intro G B D' f q aA K;have aB:g≠m:=λhe=>by
   obtain⟨aC,aD,an,_⟩:=I;have y:ab.heap[g]?=_:=y;rw[he,an]at y;cases y
  have aE:∀r,li sv r->r≠m:=λr ae he=>by
   subst he;obtain⟨aC,aD,an,_⟩:=I;obtain⟨_,⟨rfl,_⟩|⟨cap,cs,rfl,M,_⟩⟩:=hm
   .obtain⟨a,n,c,h1,_⟩:=ae;cases h1
   .obtain⟨a,n,c,h1,E⟩:=ae;cases h1;have M:ab.heap[gs]?=_:=M;have E:gs=r:=E;rw[E,an]at M;cases M
  have P:=z.F f;exact ao _ _ ⟨rfl,⟨A,hi⟩,((H.F P).aa _).F q,D',K,⟨sv,gs,(y.W P).aa q aB,bk (hm.W P) q aE⟩,aA,U,ap,aw K⟩
 refine⟨λC G f _ _=>?_,λC G f _ _=>?_⟩
 .rw[aK fP.p 3 ((y.W z).W f) rfl,p2 N ((ac.W z).W f).range];subst C;refine No jX.u keys ((I.W z).W f) x.rp ad (λj v0 B Q s q=>?_) (λB R s q=>?_)
  .obtain⟨iw,S,_⟩:=DP x A Q;rw[oS]at s;exact L f q s (NE x.nodup S)
  .exact L f q s (NF (DQ x R))
 .rw[aK fP.p 3 ((y.W z).W f) rfl,p2 N ((ac.W z).W f).range];refine sN jX.u keys ((I.W z).W f) x.rp ad (λj v0 B Q s q=>?_) (λB R s q=>?_)
  .obtain⟨iw,S,_⟩:=DP x A Q;have W:(D.map lq).set j (en (pad t),Δ c)=(D.set j (t,c)).map lq:=by rw[V3];rfl
   rw[W]at s;exact L f q s (ND x.nodup S C)
  .have W:D.map lq++[(en (pad t),Δ c)]=(D++[(t,c)]).map lq:=by rw[l7];rfl
   rw[W]at s;exact L f q s (DO (DQ x R) C)
theorem NH{g m:Nat}{o:Int}{D:Told}{b:Bool}(h:e2 w g m szs k o D)(e:cX szs t)(h1:∀c,(t,c)∈D->K (if b then .tuple #[Δ c,.bool ro]else Δ c))(s:(∀p∈D,p.1≠t)->K (if b then .tuple #[Δ 0,.bool rs]else Δ 0)):
  ab x7 (Instr.lookup jX (.map (σ m)) (en (pad t)) b) w K:=by
 have f:=yp (sP h.2.2.1 e);by_cases he:∃p∈D,p.1=t
 .obtain⟨p,a,rfl⟩:=he;obtain⟨j,x⟩:=c9.1 a;rw[sM jX.u keys h.2.1 h.rp f (j:=j) (v:=Δ p.2) (by rw[x8,x];rfl)];exact h1 p.2 a
 .have r:∀p∈D,p.1≠t:=λp a h=>he ⟨p,a,h⟩;rw[vg jX.u keys ⟨_,_,ap.i⟩ h.2.1 h.rp f (λq y hk=>by
   obtain⟨p,a,rfl⟩:=o8.1 y;exact r p a (DK (h.2.2.2.2 p a).1 e hk))]
  exact s r
theorem NI{g m:Nat}{o:Int}{D:Told}(h:e2 w g m szs k o D):aj x7 KH [Γ g] w λv I=>v=Δ D.length/\Ext w I:=by
 obtain⟨⟨sv,gs,a,hm⟩,e,_⟩:=h;refine az func215 ?_;rw[cW fd.u];simp only[j0,aX];rw[aK fP.p 3 a rfl,Np jX.u e];exact⟨Ξ,Ext.refl _⟩
theorem NJ{g m:Nat}{o:Int}{D:Told}(h:e2 w g m szs k o D):aj x7 Lv [Γ g] w λv I=>v=Δ k/\Ext w I:=by
 obtain⟨⟨sv,gs,a,hm⟩,_⟩:=h;refine az func308 ?_;rw[cW fd.u];simp only[j0,aX];rw[aK fP.p 1 a rfl];exact⟨rfl,Ext.refl _⟩
theorem yr{g m:Nat}{o:Int}{D:Told}(h:e2 w g m szs k o D):aj x7 KI [Γ g] w λv I=>Ext w I/\∃a,w.heap.size<=a/\ao .i64 ae I a v szs:=by
 obtain⟨⟨sv,gs,e,hm⟩,_,U,_⟩:=h;have f:=U.1;refine az func216 ?_;rw[cW fd.u];simp only[j0,aX];rw[aK fP.p 0 e rfl];exact j3 hm.ls Ω
theorem NK{g m:Nat}{o:Int}{D:Told}(h:e2 w g m szs k o D):aj x7 Lw [Γ g] w λv I=>v=Δ szs.length/\Ext w I:=by
 refine az func309 ?_;refine(yr h).X ?_;rintro v J _ ⟨a,e,_,hm⟩;rw[aS al.u hm.ls];exact⟨rfl,a⟩
end Go.Proofs.YtkcigodpbndobaaGreatDoor
namespace Go.Vc
open Go Go.RowKit
set_option maxRecDepth 100000
def lc(v:x1)(r:Nat):Prop:=∃a n c,v= .slice (σ a) n c/\a.block=r
theorem gm(h:lc (.slice ν 0 0) r):False:=by
 obtain⟨a,n,c,h,_⟩:=h;cases h
section
variable{α:Type}{f:α->List x1}{k:Nat}
theorem lr:∀{L:List α},(∀a∈L,(f a).length=k)->(L.flatMap f).length=L.length*k
 :=by
 intro a;induction a<;>grind
theorem sS:∀{L:List α}(i:Nat),(∀a∈L,(f a).length=k)->(L.flatMap f).take (i*k)=(L.take i).flatMap f
 |[],i,_=>Ξ
 |a::L,0,_=>Ξ
 |a::L,i+1,h=>by
  have e:=h a (.head _);rw[U7,List.take_succ_cons,U7,<-sS i (by grind),T7,Nat.one_mul,Nat.add_comm,List.take_append,e]
  grind
theorem vi:∀{L:List α}(i:Nat),(∀a∈L,(f a).length=k)->(L.flatMap f).drop (i*k)=(L.drop i).flatMap f
 |[],i,_=>Ξ
 |a::L,0,_=>Ξ
 |a::L,i+1,h=>by
  have e:=h a (.head _);rw[U7,List.drop_succ_cons,<-vi i (by grind),T7,Nat.one_mul,Nat.add_comm,List.drop_append,e]
  grind [List.drop_of_length_le]
theorem rq{L:List α}{i:Nat}{a:α}(h:∀a∈L,(f a).length=k)(hi:L[i]?=σ a){v:x1}(e:(f a)[j]?=σ v):(L.flatMap f)[i*k+j]?=σ v:=by
 have p:=(x4.1 e).1;rw[<-List.getElem?_drop,vi i h]
 grind [X1]
theorem ys{L:List α}{i:Nat}{a:α}(h:∀a∈L,(f a).length=k)(e:(f a).length=k)(hi:i<L.length):over (L.flatMap f) (i*k) (f a)=(L.set i a).flatMap f:=by
 have j:=lr h;have p:(i+1)*k<=L.length*k:=V5 _ hi
 grind [T7,nN,sS,vi,List.set_eq_take_append_cons_drop]
theorem yt{cs vs:List x1}{o m:Nat}(h1:o+vs.length<=m)(a:m<=cs.length):(over cs o vs).take m=over (cs.take m) o vs:=by
 rw[nN Ω,nN (by rw[c7];omega),X0,X0,List.take_append,List.take_append,List.take_take,List.take_take,List.drop_take,c7]
 grind [n9]
def bj(f:α->List x1)(k:Nat)(e:r9)(w:x3)(g:Nat)(v:x1)(L:List α):Prop:=bZ w g e k v L.length (L.flatMap f)/\∀a∈L,(f a).length=k
variable{P:X5}{w:x3}{e:r9}{g:Nat}{v:x1}{L:List α}
theorem bj.nil(f:α->List x1)(k:Nat)(e:r9)(w:x3)(g:Nat):bj f k e w g (.slice ν 0 0) []:=⟨bZ.nil w g e k,λa h=>by cases h⟩
theorem bj.li(h:bj f k e w g v L)(j:lc v r):r=g/\g<w.heap.size:=by
 obtain⟨_,⟨rfl,_⟩|⟨cap,cs,rfl,p,_⟩⟩:=h.1
 .grind [gm]
 .obtain⟨a,n,c,h1,q⟩:=j;cases h1;exact⟨q.symm,p.lt⟩
theorem bj.aa(h:bj f k e w g v L)(a:af S w I)(j:∀r,lc v r->¬S r):bj f k e I g v L:=
 ⟨⟨h.1.1,h.1.2.imp id λ⟨cap,cs,h1,p,q⟩=>⟨cap,cs,h1,p.aa a (j g ⟨_,_,_,h1,rfl⟩),q⟩⟩,h.2⟩
theorem bj.W(h:bj f k e w g v L)(a:Ext w I):bj f k e I g v L:=h.aa (a.aa λ_=>False) λ_ _ h=>h
theorem bj.sl(h:bj f k e w g v L):b4 w k v L.length (L.flatMap f):=h.1.sl
theorem bj.le(h:bj f k e w g v L):L.length<=9223372036854775807:=by
 have:=b4.le h.sl
 grind [maxLen]
theorem e3{t a:r9}(j:P.underlying t=σ (.slice e))(h:bj f k e w g v L):ab P (W0 #[t] a #[v]) w K=K (Δ L.length):=by
 obtain⟨_,_,_,_,_,rfl,_⟩:=h.sl;exact iv j
theorem dm{t:r9}{q:o5}{b:Nat}{i:Nat}(a:y=(i:Int))(j:P.underlying t=σ (.slice e))(hi:aR P e k b z)(h:bj f k e w g v L)(p:i<L.length):
  ab P (j4 t v (.int q y)) w K=K (.pointer (σ ⟨g,i*k,ν⟩)):=by
 subst a;obtain⟨_,⟨rfl,r⟩|⟨cap,cs,rfl,s,x⟩⟩:=h.1
 .omega
 .rw[fv j hi p (λ_=>rfl),W7]
theorem bj.range{i:Nat}{a:α}(h:bj f k e w g v L)(hi:L[i]?=σ a):w.rangeAt g (i*k) (f a):=λj u q=>by
 have h1:=rq h.2 hi q;have x:=(x4.1 hi).1;obtain⟨_,⟨rfl,y⟩|⟨cap,cs,rfl,r,_,_,z,s⟩⟩:=h.1
 .omega
 .have p:=(x4.1 h1).1;rw[lr h.2]at p;rw[<-s,Y5 p]at h1;exact r.cell h1
theorem NL{t:r9}{b:Nat}{i:Nat}{a:α}{K:Unit->x3->Prop}(hi:aR P t k b z)(h:bj f k e w g v L)(j:(f a).length=k)(h1:∀u∈f a,u.oneCell'=ro)(p:i<L.length)(q:∀I,af (λr=>lc v r) w I->I.heap.size=w.heap.size->bj f k e I g v (L.set i a)->K () I):aC P (o7 t (.pointer (σ ⟨g,i*k,ν⟩)) (.agg (f a).toArray)) w K:=by
 have E:=lr h.2;have s:(i+1)*k<=L.length*k:=V5 _ p;rw[T7,Nat.one_mul]at s;obtain⟨⟨F,⟨rfl,G⟩|⟨cap,cs,rfl,x,H,y,A,J⟩⟩,M⟩:=h
 .omega
 .have N:L.length*k<=cs.length:=by grind
  refine Cc hi j h1 x Ω λI B U C=>q I (B.X λr _ he=>⟨_,_,_,rfl,he.symm⟩) U ⟨⟨?_,.inr ⟨cap,_,Ξ,C,by grind,y,by rw[gf,A],?_⟩⟩,λb O=>?_⟩
  all_goals grind [lr,ys,yt]
theorem rr{t:r9}{b:Nat}{u:x1}{i:Nat}{a a':α}{K:Unit->x3->Prop}(hi:aR P t 1 b z)(A:u.cells= #[u])(h1:u.oneCell'=ro)(h:bj f k e w g v L)(q:L[i]?=σ a)(B:f a'=(f a).set j u)(Q:j<k)(C:∀I,af (λr=>lc v r) w I->I.heap.size=w.heap.size->bj f k e I g v (L.set i a')->K () I):aC P (o7 t (.pointer (σ ⟨g,i*k+j,ν⟩)) u) w K:=by
 have s:=(x4.1 q).1;have R:=lr h.2;have E:(i+1)*k<=L.length*k:=V5 _ s;rw[T7,Nat.one_mul]at E;have S:(f a).length=k:=h.2 a (x5 q);have x:(f a').length=k:=by grind
 have T:(L.flatMap f).set (i*k+j) u=(L.set i a').flatMap f:=by
  rw[<-ys h.2 x s];refine j5 λp=>?_;rw[kw _ _ _ Ω,Y4,x];by_cases F:i*k<=p/\p<i*k+k
  .rw[m3 F,B,Y4];by_cases G:i*k+j=p
   .grind
   .rw[m5 G,m5 Ω];obtain⟨y,H⟩:∃y,(f a)[p-i*k]?=σ y:=⟨_,x6 Ω⟩;have:=rq h.2 q H
    grind
  grind
 obtain⟨⟨V,⟨rfl,W⟩|⟨cap,cs,rfl,J,X,M,Y,Z⟩⟩,aa⟩:=h
 .omega
 .have ab:L.length*k<=cs.length:=by grind
  refine bt hi A h1 J Ω λI N U O=>C I (N.X λr _ he=>⟨_,_,_,rfl,he.symm⟩) U ⟨⟨?_,.inr ⟨cap,_,Ξ,O,by grind,M,by grind,?_⟩⟩,λb ac=>?_⟩
  all_goals grind [List.take_set]
theorem jo{t M:r9}{b:Nat}{x:x1}{a:α}{K:x1->x3->Prop}(y:P.underlying t=σ (.slice e))(hi:aR P e k b z)(G:z.cells.size=k)(h:bj f k e w g v L)(E:b4 w k x 1 (f a))(h1:∀u∈f a,u.oneCell'=ro)(H:(L.length+1)*b<=140737488355328)(O:L.length+1<=9223372036854775807)(J:∀j p I,bj f k e I p j (L++[a])->(∀r,lc j r->lc v r\/w.heap.size<=r)->af (λr=>lc v r) w I->K j I):aC P (j6 #[t,t] M #[v,x]) w K:=by
 have Q:(f a).length=k:=by have:=E.1;omega
 have A:∀j p I,bZ I p e k j (L.length+1) (L.flatMap f++f a)->bj f k e I p j (L++[a]):=λj p I hm=>⟨by grind,λb H=>by
  rcases o9.1 H with bi|bi
  .exact h.2 b bi
  grind⟩
 rcases h.1.2 with⟨q,N⟩|⟨cap,cs,q,R,_⟩
 .have hm:bZ w w.heap.size e k v L.length (L.flatMap f):=⟨h.1.1,.inl ⟨q,N⟩⟩;subst q;refine pH y y hi G hm E h1 Ω (by grind [maxLen]) λj p I B s F=>J j p I (A _ _ _ s) (λr C=>.inr ?_) (F.X Ω);have:=((A _ _ _ s).li C).1;omega
 .refine pH y y hi G h.1 E h1 Ω (by grind [maxLen]) λj p I B s F=>J j p I (A _ _ _ s) (λr C=>?_) (F.X λr C h=>⟨_,_,_,q,h.symm⟩);have:=((A _ _ _ s).li C).1;rcases B with B|B
  .exact .inl ⟨_,_,_,q,by show g=r;omega⟩
  omega
theorem NM{t p:r9}{b:Nat}{x:x1}{a:α}{K:x1->x3->Prop}(q:P.underlying t=σ (.slice e))(hi:aR P e k b z)(s:z.cells.size=k)(h:bj f k e w g v L)(y:b4 w k x 1 (f a))(h1:∀a,∀u∈f a,u.oneCell'=ro)(A:(L.length+1)*b<=140737488355328)(B:L.length+1<=9223372036854775807)(C:∀j E I,bj f k e I E j (L++[a])->(∀r,lc j r->lc v r\/w.heap.size<=r)->af (λr=>lc v r) w I->K j I):aC P (j6 #[t,t] p #[v,x]) w K:=jo q hi s h y (h1 a) A B C
theorem iV{t:r9}{b:Nat}{a:α}{x:x1}{K:x1->x3->Prop}(h:P.underlying t=σ (.slice e))(hi:aR P e k b z)(s:k<=100000)(y:x.cells=(f a).toArray)(A:(f a).length=k)(j:∀v g I,g=w.heap.size->Ext w I->bj f k e I g v [a]->K v I):aC P (Y1 t 1 #[(0,x)]) w K:=
 lU h hi Ω (cs:=x.cells) (Ck Ξ (by grind)) λg I p q r=>by
  have r:ag I g e (f a):=by grind
  exact j _ g I p q ⟨by simpa using(by grind [bZ.full,maxLen]),by grind⟩
end
end Go.Vc
namespace Go.Proofs.YtkcigodpbndobaaGreatDoor
open Go Go.Vc Go.RowKit Go.Proofs Go.Proofs.Tryz
set_option maxRecDepth 100000
theorem yu{α:Type}:∀{l:List α}{j:Nat}{x:α},l[j]?=σ x->(x::l.eraseIdx j).Perm l
 |[],j,x,h=>by simp at h
 |a::l,0,x,h=>by simp at h;subst h;exact List.Perm.refl _
 |a::l,j+1,x,h=>by
  simp at h;rw[List.eraseIdx_cons_succ];exact(List.Perm.swap a x _).F ((yu h).cons a)
theorem DS{α:Type}{l:List α}(h:j<l.length):(l.eraseIdx j).length+1=l.length:=by
 rw[List.length_eraseIdx,m3 h];omega
def rt(w:x3)(a:Nat):Nat:=match w.heap[a]? with
 |some (.mapIter (σ m) _ seen _)=>(match w.heap[m]? with
  |some (.map e _)=>(leftOf e seen).size
  |_=>0)
 |_=>0
theorem vj{a m:Nat}{d left:List (x1×x1)}{e:Option (x1×x1)}(h:iU w a m d left e):rt w a=left.length:=by
 obtain⟨j,p,seen,iw,h1,_,_,f,_,rfl,_⟩:=h;unfold rt;rw[f];simp only;rw[h1];simp
theorem NN{w0:x3}{a m:Nat}{d d0 left:List (x1×x1)}{e:Option (x1×x1)}(h:iU w a m d left e)(hm:dg w0 m d0)(h1:Ext w0 w)(j:Ext w0 I)(hi:fc w I):iU I a m d left e:=by
 obtain⟨p,c,s,iw,q,r,x,y,z⟩:=h;obtain⟨A,B,f1,_⟩:=hm;have g1:=h1.aZ m _ f1 rfl;have f:=j.aZ m _ f1 rfl;rw[q]at g1;rw[<-g1]at f;exact⟨p,c,s,iw,f,r,x,hi a _ y rfl,z⟩
abbrev p3(w:x3)(g:Nat)(v:x1)(L:List (Λ)):Prop:=bj (ints .i8) 6 cH w g v L
theorem DT{k:o5}:∀u∈ints k l,u.oneCell'=ro:=λu a=>by
 obtain⟨x,_,rfl⟩:=o8.1 a;rfl
theorem keysIter{m:Nat}{d:List (x1×x1)}{e:List (Λ)}{w0:x3}(S:ag w0 dx jX [.map (σ m)])(hm:dg w0 m d)(U:d.map (·.1)=e.map en)(W:∀a∈e,a.length=6):
  qN x7 ro nE [Γ dx] ([]:List (Λ)) (λh=>h.Perm e) (λh vs bi _=>∃a∈e,h.length<e.length/\vs=[en a]/\bi=h++[a]) (λw=>Ext w0 w):=by
 refine⟨nE.enters,λl ay aG w r _ X s Y=>?_⟩;refine sq func288 ?_;rw[ax Ψ ((S.W s).cell rfl)];refine aC.cD (DD jX.u (hm.W s) λC J Z x aH aa ab=>?_);refine⟨λV=>∃h f left E,ay h V/\Ext w0 V/\w.heap.size<=V.heap.size/\iU V C m d left E/\left.map (·.1)=f.map en/\(h++f).Perm e,λV=>rt V C,
  ⟨[],e,d,ν,r _ _ _ x ab.b Y,s.F x,x.size,aa,U,List.Perm.refl _⟩,?_⟩
 rintro V ⟨h,f,left,E,G,ac,aI,H,y,q⟩;have ad:left.length=f.length:=by have:=congrArg List.length y;simpa using this
 refine DF H (λh=>by cases h) (λae=>?_) (λj p aJ I K af L=>?_)
 .rw[jZ (v:=.bool rs) rfl,aX];subst ae;have:f=[]:=Z0 (by rw[<-ad];rfl);subst this;rw[V1]at q;exact .inl ⟨h,q,G⟩
 .rw[jZ (v:=.bool ro) rfl,bY];refine DG L ?_;obtain⟨a,z,ah⟩:∃a,f[j]?=σ a/\p.1=en a:=by
   have h1:(left.map (·.1))[j]?=σ p.1:=by rw[x8,I];rfl
   rw[y,x8]at h1;obtain⟨a,M,ai⟩:=Y0.1 h1;exact⟨a,M,ai.symm⟩
  have N:=q.mem_iff.1 (o9.2 (.inr (x5 z)));have O:=W a N;rw[jZ (v:=p.1) rfl,ah];refine aC.cD (bx cH.i λaK aL aM aj ak al=>?_);refine aC.cD (sO O rfl ak λam an aN ao ap=>?_);rw[p2 O ao.range];have A:=aj.put an Ω;have P:=al.F ap;have Q:=(ac.F K).F A;have aq:=r _ _ _ K (by rw[<-Z];exact af) G;have au:=r _ _ _ A P.b aq;have av:=L.W A P.lL;have aw:h.length<e.length:=by
   have h1:=q.length_eq;have M:=(x4.1 z).1;rw[p8]at h1;omega
  refine⟨rfl,(X h (h++[a]) _ am Q ⟨a,N,aw,rfl,rfl⟩ au).X ?_⟩;rintro _ az (⟨rfl,R,aA,aB⟩|⟨rfl,aD⟩)
  .simp only[bA,Y6,aX];have B:=NN av hm Q R (aB rfl).lL;have aE:w.heap.size<=az.heap.size:=by
    obtain⟨_,_,_,_,_,_,_,aF,_⟩:=B;have:=(Z5.1 aF).1;omega
   refine⟨⟨h++[a],f.eraseIdx j,left.eraseIdx j,σ p,aA,R,aE,B,?_,?_⟩,?_⟩
   .rw[<-oS,y,oS]
   .refine List.Perm.trans ?_ q;rw[X0];exact List.Perm.append_left h (yu z)
   .rw[vj B,vj H];have:=DS (x4.1 I).1;omega
  .simp only[bA,X4,bY];exact .inr ⟨h,aD⟩
theorem NO{m:Nat}:aj x7 KS [.map (σ m)] w λr I=>Ext w I/\∃g,r= .func (.func nE) #[] #[Γ g]/\w.heap.size<=g/\ag I g jX [.map (σ m)]:=by
 refine az func234 ?_;refine bm λg J f a e=>?_;rw[j1];exact⟨a,g,rfl,Ω,e⟩
theorem NP{m:Nat}{d:List (x1×x1)}{s:List (Λ)}(Z:ag w dx jX [.map (σ m)])(hm:dg w m d)(ab:d.map (·.1)=s.map en)(H:∀j∈s,j.length=6)(aE:s.length<=1000000):
  aj x7 Ly [.slice ν 0 0,.func (.func nE) #[] #[Γ dx]] w λv I=>Ext w I/\∃g L,(∀r,lc v r->w.heap.size<=r)/\L.Perm s/\p3 I g v L:=by
 refine jj func316 ?_;refine bm λgs J aF K x=>?_;have x:=x;have aG:=x.lt;refine mz.old ⟨List (Λ),ro,_,_,_,_,_,_,λh I=>af (λr=>w.heap.size<=r) w I/\∃v g,ag I gs lg [v]/\(∀r,lc v r->w.heap.size<=r/\r≠gs)/\p3 I g v h,λ_ _ _=>False,rfl,keysIter Z hm ab H,?_,λ_ _ p h=>h.F p,
  λ_ _ _ p h=>⟨h.1.F (p.aa _),by obtain⟨v,g,h1,ac,ad⟩:=h.2;exact⟨v,g,h1.W p,ac,ad.W p⟩⟩,λ_ _ _ _ _ h=>h,K,⟨K.aa _,_,0,x,λr h=>(gm h).elim,bj.nil _ _ _ _ _⟩,?_,?_,λ_ _ h=>h.elim,λ_ _ _ h=>h.elim⟩
 .rintro h _ bi I ⟨j,_,_,rfl,_⟩;rfl
 .rintro a h bi V ae ⟨j,ah,aH,ai,rfl⟩ ⟨M,v,g,A,bD,B⟩;cases ai;have C:=H j ah;have aI:h.length<=1000000:=Ω
  refine aC.cD (bx cH.i λaJ aK aL ak N al=>?_);refine aC.cD (sO C rfl N λaM am aN an ao=>?_);intro aO O _ ap;have aP:=N.lt;have aq:=ak.put am Ω;have q:=aq.F O;rw[ax Ψ ((A.W q).cell rfl),p2 C (an.W O).range];refine aC.cD (iV (f:=ints .i8) (a:=j) lg.u cH.i Ω (by simp[en,T9]) (by simp[C]) λa ga aQ aR y au av=>?_);have P:=au.sl;rw[U7,List.flatMap_nil,V1]at P;refine aC.cD (NM lg.u cH.i rfl ((B.W q).W y) P (λa=>DT) Ω Ω λQ aw R E ay z az=>?_);have s2:=M.size;have aS:=q.size;have aT:=y.size;have aU:=A.lt;have S:∀r,lc Q r->w.heap.size<=r/\r≠gs:=λr e=>by
   rcases ay r e with h|h
   .exact bD r h
   .omega
  have G:ag R gs lg [v]:=((A.W q).W y).aa z (λh=>(bD gs h).2 rfl);refine aC.cD (bt lg.i (by obtain⟨_,_,_,_,_,rfl,_⟩:=E.sl;rfl) (by obtain⟨_,_,_,_,_,rfl,_⟩:=E.sl;rfl) G Ξ λU W aV aA aB=>?_);have X:af (λr=>w.heap.size<=r) V U:=(((q.F y).aa _).F (z.X λr _ h=>(bD r h).1)).F (W.X λr _ h=>by show w.heap.size<=r;omega);refine⟨ae.then X (λr e h=>by have h:=h;omega),⟨M.F X,Q,aw,aA,S,E.aa W λr e h=>(S r e).2 h⟩,λ_=>?_⟩;exact((((al.lL.F ao.lL).F ap).F av.lL).F az.lL).F aB.lL
 .rintro h R aD ⟨z,v,g,G,bD,B⟩;rw[ax Ψ (G.cell rfl)];intro U Y _;exact⟨(z.W λr e h=>by have:w.heap.size<=r:=h;omega).F Y,g,h,λr e=>(bD r e).1,aD,B.W Y⟩
theorem NQ{m:Nat}{d:List (x1×x1)}{a:List (Λ)}(e:ag w dx jX [.map (σ m)])(hm:dg w m d)(f:d.map (·.1)=a.map en)(j:∀p∈a,p.length=6)(q:a.length<=1000000):
  aj x7 Lm [.func (.func nE) #[] #[Γ dx]] w λv I=>Ext w I/\∃g L,(∀r,lc v r->w.heap.size<=r)/\L.Perm a/\p3 I g v L:=by
 refine az func286 ?_;exact(NP e hm f j q).X λ_ _ _ h=>h
def ie:Λ->Int
 |[]=>0
 |x::l=>x*32 ^ l.length+ie l
theorem yv(n:Nat):(0:Int)<32 ^ n:=Int.pow_pos Ω
theorem vk:∀(l:Λ),(∀x∈l,0<=x/\x<32)->0<=ie l/\ie l<32 ^ l.length
 |[],_=>by simp[ie]
 |x::l,h=>by
  have j:=vk l λy a=>h y (.tail _ a);have f:=h x (.head _);have p:=yv l.length;simp only[ie,Y3];have e:(32:Int) ^ (l.length+1)=32*32 ^ l.length:=by rw[Int.pow_succ,Int.mul_comm]
  have h1:x*32 ^ l.length<=31*32 ^ l.length:=V6 Ω Ω;have q:0<=x*32 ^ l.length:=Int.mul_nonneg f.1 Ω;rw[e];omega
def kb:Λ->Λ->Int
 |x::a,y::b=>if x<y then-1 else if y<x then 1 else kb a b
 |_,_=>0
theorem DU:∀(a b:Λ),a.length=b.length->(∀x∈a,0<=x/\x<32)->(∀x∈b,0<=x/\x<32)->(kb a b<0↔ie a<ie b)/\(ie a=ie b->a=b)
 |[],[],_,_,_=>by simp[kb]
 |[],_::_,h,_,_=>by simp at h
 |_::_,[],h,_,_=>by simp at h
 |x::a,y::b,h,s,w=>by
  have j:a.length=b.length:=by simpa using h
  have p:∀x∈a,0<=x/\x<32:=λz e=>s z (.tail _ e);have q:∀x∈b,0<=x/\x<32:=λz e=>w z (.tail _ e);have r:=DU a b j p q;have A:=vk a p;have C:=vk b q;have E:=yv b.length;simp only[kb,ie];rw[j]at A ⊢;have step:∀u v:Int,u<v->u*32 ^ b.length+32 ^ b.length<=v*32 ^ b.length:=λu v F=>by
   have:=V6 (show u+1<=v by omega) (show(0:Int)<=32 ^ b.length by omega);rw[Int.add_mul,Int.one_mul]at this;exact this
  by_cases h1:x<y
  .rw[m3 h1];have:=step x y h1;exact⟨⟨λ_=>Ω,λ_=>Ω⟩,λh=>Ω⟩
  .rw[m5 h1];by_cases f:y<x
   .rw[m3 f];have:=step y x f;exact⟨⟨λh=>Ω,λh=>Ω⟩,λh=>Ω⟩
   .rw[m5 f];have B:x=y:=Ω
    subst B;exact⟨r.1.F ⟨λh=>Ω,λh=>Ω⟩,λh=>by rw[r.2 Ω]⟩
theorem yw:∀{a b:Λ}{i:Nat},(∀(j:Nat)(x y:Int),j<i->a[j]?=σ x->b[j]?=σ y->x=y)->i<=a.length->i<=b.length->kb a b=kb (a.drop i) (b.drop i)
 |_,_,0,_,_,_=>Ξ
 |[],_,i+1,_,h,_=>by simp at h
 |_::_,[],i+1,_,_,h=>by simp at h
 |x::a,y::b,i+1,he,h1,e=>by
  have f:=he 0 x y Ω rfl rfl;subst f;simp only[kb,Int.lt_irrefl,if_false,List.drop_succ_cons];exact yw (λj u v r p q=>he (j+1) u v Ω p q) (by simpa using h1) (by simpa using e)
theorem DV{x:Int}:aj x7 Lx [.int .i8 x] w λv I=>v= .bool rs/\Ext w I:=by
 refine az func315 ?_;simp only[bJ];exact⟨Ξ,Ext.refl _⟩
theorem NR{x:Int}:aj x7 Ll [.int .i8 x,.int .i8 y] w λv I=>v=Δ (if x<y then-1 else if y<x then 1 else 0)/\Ext w I:=by
 refine az func285 ?_;refine DV.X ?_;rintro _ J _ ⟨rfl,a⟩;refine DV.X ?_;rintro _ V _ ⟨rfl,e⟩;simp only[aX,aP,bL,ai];exact⟨λh=>⟨by rw[m3 h],a.F e⟩,λh=>⟨λf=>⟨by rw[m5 h,m3 f],a.F e⟩,λf=>⟨by rw[m5 h,m5 f],a.F e⟩⟩⟩
theorem NS{bw bv:x1}{b:Λ}(q:aI .i8 w bw a)(s:aI .i8 w bv b)(U:a.length=b.length):aj x7 KQ [bw,bv] w λv I=>v=Δ (kb a b)/\Ext w I:=by
 refine az func232 ?_;have W:=q.le;rw[aS mH.u q];refine b2.range a.length (λi _ J=>Ext w J/\∀(j:Nat)(x y:Int),j<i->a[j]?=σ x->b[j]?=σ y->x=y) Ω ⟨Ext.refl _,λj x y K=>Ω⟩ ?_ ?_
 .rintro i _ J L hi ⟨e,r⟩ M;simp only[aP,ai];refine⟨λ_=>?_,λh=>Ω⟩;obtain⟨x,z⟩:=aF (l:=a) hi;obtain⟨y,A⟩:=aF (l:=b) (i:=i) Ω;rw[be mH.u gd.i Ψ (q.W e) z,aS mH.u (s.W e)];simp only[cI,ai];refine⟨λh=>Ω,λ_=>?_⟩;rw[be mH.u gd.i Ψ (s.W e) A];refine NR.X ?_;rintro _ V _ ⟨rfl,E⟩;have f:kb a b=kb (a.drop i) (b.drop i):=yw r Ω Ω;have N:a.drop i=x::a.drop (i+1):=by rw[X1 hi,(x4.1 z).2]
  have O:b.drop i=y::b.drop (i+1):=by rw[X1 Ω,(x4.1 A).2]
  rw[N,O]at f;simp only[kb]at f;simp only[bJ,ai,aM];refine⟨λG=>⟨?_,e.F E⟩,λP=>M _ _ ⟨e.F E,λj Q R K B C=>?_⟩⟩
  .rw[f];by_cases h1:x<y
   .rw[m3 h1,m3 h1]
   .by_cases p:y<x
    .rw[m5 h1,m3 p,m5 h1,m3 p]
    .rw[m5 h1,m5 p]at G;exact m6 rfl G
  .by_cases S:j=i
   .subst S;rw[z]at B;rw[A]at C;cases B;cases C;have H:=Z6.1 P;by_cases h1:x<y
    .rw[m3 h1]at H;omega
    .by_cases p:y<x
     .rw[m5 h1,m3 p]at H;omega
     .omega
   .exact r j Q R Ω B C
 .rintro _ J L ⟨e,r⟩;simp only[aP,show decide ((a.length:Int)<(a.length:Int))=rs from ms Ω,aX];rw[aS mH.u (q.W e),aS mH.u (s.W e)];simp only[aP,ai];refine⟨λh=>Ω,λ_=>⟨?_,e⟩⟩;have f:kb a b=kb (a.drop a.length) (b.drop a.length):=yw r Ω Ω;rw[f,List.drop_length];cases b.drop a.length<;>rfl
theorem NT{b:Λ}(p:nZ a)(q:nZ b):aj x7 BX [en a,en b] w λv I=>Ext w I/\v=Δ (kb a b):=by
 have B:∀{c:Λ},nZ c->(ints .i8 c).length=6:=λh=>by simp[h.1]
 refine az func231 ?_;refine bm λg1 J C y e=>?_;refine bm λE V G r f=>?_;rw[DH]at e f;intro s j _ _;have e:=(e.W r).W j;have f:=f.W j;rw[uG cH.u gd.i (l:=0) (h:=6) (m:=6) iP gW dZ Ω Ω Ω,uG cH.u gd.i (l:=0) (h:=6) (m:=6) iP gW dZ Ω Ω Ω];rw[m5 Ω,m5 Ω];have ls:∀{g:Nat}{c:Λ},nZ c->ag s g cH (ints .i8 c)->aI .i8 s (.slice (σ ⟨g,0+0*1,ν⟩) (6-0) (6-0)) c:=λ{g c}x z=>by
  unfold aI;refine⟨Ξ,g,0,_,6,by rw[x.1],by rw[x.1];omega,by simp[maxLen],λ_=>rfl,z.range⟩
 refine(NS (ls p e) (ls q f) (by rw[p.1,q.1])).X ?_;rintro _ H _ ⟨rfl,A⟩;exact⟨((y.F r).F j).F A,rfl⟩
end Go.Proofs.YtkcigodpbndobaaGreatDoor
namespace Go.Vc
open Go Go.RowKit Go.Shelf Go.Proofs Go.Sort
theorem grown_of(f:Ext w I)(a:cC w I):∃q os,I=grow (w.drewN q) os:=by
 refine⟨I.drawn-w.drawn,I.heap.extract w.heap.size I.heap.size,?_⟩;have hk:∀k,k<w.heap.size->I.heap[k]?=w.heap[k]?:=λk hk=>by
  have e:=Array.getElem?_eq_getElem hk;rw[e];cases U:fK w.heap[k]with
  |true=>exact f.aZ k _ e U
  |false=>exact a.aZ k _ e U
 have an:I.heap=w.heap++I.heap.extract w.heap.size I.heap.size:=by
  apply Array.ext_getElem?
  grind
 have h1:=a.os;have h:=a.tape.1;have j:=a.output;have p:w.drawn+(I.drawn-w.drawn)=I.drawn:=by have:=a.tape.2;omega
 cases I
 grind [Sort.grow,x3.drewN]
section
variable{α:Type}[Inhabited α]
theorem DW(enc:α->List x1)(k:Nat)(hk:∀x,(enc x).length=k)(d:Array α):(flatK enc k d).toList=d.toList.flatMap enc:=by
 apply j5;intro t;by_cases h:t<d.size*k
 .have e:0<k:=by
   grind
  have f:=(Nat.div_lt_iff_lt_mul e).2 h;have j:=Nat.mod_lt t e;have p:(flatK enc k d).toList[t]?=σ ((enc d[t / k]!)[t % k]!):=by
   rw[Array.getElem?_toList,Array.getElem?_eq_getElem (by simpa using h)];have:=get_flatK enc k d t h
   grind
  have q:d.toList[t / k]?=σ d[t / k]!:=by
   grind
  grind [rq,Nat.mul_comm,Nat.div_add_mod]
 .rw[Z9 (by simpa using h),Z9];rw[lr λa _=>hk a]
  grind
theorem DX(enc:α->List x1)(k:Nat)(hk:∀x,(enc x).length=k){g m:Nat}{e:r9}{cs:List x1}{d:Array α}{os:Array Obj}(a:ag w g e cs)(p:d.size*k<=cs.length):
  ag (sortWorldK enc k w g 0 m d os) g e (d.toList.flatMap enc++cs.drop (d.size*k))/\∀r,r<w.heap.size->r≠g->(sortWorldK enc k w g 0 m d os).heap[r]?=w.heap[r]?:=by
 have f:=a.lt;have h:∀r,r<w.heap.size->(sortWorldK enc k w g 0 m d os).heap[r]?=(w.heap.modify g (onCells (putCells id 0 (flatK enc k d))))[r]?:=λr j=>by
  show((w.heap.modify g (onCells (putCells id 0 (flatK enc k d))))++os)[r]?=_
  grind
 refine⟨?_,λr j q=>?_⟩
 .unfold ag at a ⊢;rw[h g f,Array.getElem?_modify,m3 rfl,a];show σ (Obj.cells (putCells id 0 (flatK enc k d) cs.toArray) e (0,0))=_;refine congrArg σ (congrArg (λc=>Obj.cells c e (0,0)) ?_)
  grind [Array.size,lr,Sort.putCells,DW]
 grind
end
theorem DY{P:X5}{E:Ren}(J:SlLaysF0.n6 P E){α:Type}{f:α->List x1}{k:Nat}{e:r9}{G:α->Prop}{num:α->Int}{A:α->α->Int}{B:Q2}{cap:Array x1}(ai:∀w,(isAgg (E.t 24)).run P w= .ok ro w)(ak:∀w,(Go.sizeOf (E.t 24)).run P w= .ok k w)(h1:∀a,G a->∀u∈f a,u.oneCell'=ro)(hk:∀a,G a->(f a).length=k)(aJ:∀a b,G a->G b->(A a b<0↔num a<num b))(R:Enters P B){w:x3}{g:Nat}{v:x1}{L:List α}(h:bj f k e w g v L)(K:∀a∈L,G a)(al:L.length<65536)(am:∀N a b,af (λr=>r=g) w N->G a->G b->aj P B ([.agg (f a).toArray,.agg (f b).toArray]++cap.toList) N λu an=>Ext N an/\u=Δ (A a b)):
  aj P (E.f 6) [v,.func (.func B) #[] cap] w λ_ I=>af (λr=>lc v r) w I/\∃M,M.Perm L/\(∀(p q:Nat)(x y:α),p<q->M[p]?=σ x->M[q]?=σ y->num x<=num y)/\bj f k e I g v M:=by
 have S:=λargs w=>J.f6.enters rfl args w;obtain⟨⟨aK,ao⟩,aL⟩:=id h;have T:∀p c,v= .slice p 0 c->L=[]->aj P (E.f 6) [v,.func (.func B) #[] cap] w λ_ I=>af (λr=>lc v r) w I/\∃M,M.Perm L/\(∀(p q:Nat)(x y:α),p<q->M[p]?=σ x->M[q]?=σ y->num x<=num y)/\bj f k e I g v M:=λp c V al=>by
  refine .code S ?_;rw[V];refine(AnyF.slices_SortFunc_none J p c _ w).X ?_;rintro aM I ⟨rfl,rfl⟩;refine⟨_,rfl,cC.refl _,af.refl _ _,L,.refl _,by grind,by grind⟩
 rcases ao with⟨rfl,ap⟩|⟨c,cs,rfl,C,aN,hm,aO,aP⟩
 .exact T _ _ rfl (Z0 ap)
 cases W:L with
 |nil=>subst W;exact T _ _ rfl rfl
 |cons a0 aQ=>
 rw[<-W];let β:={a:α // G a};have:Inhabited β:=⟨⟨a0,by grind⟩⟩;let enc:β->List x1:=λx=>f x.1;let d:Array β:=(L.attach.map λx=>(⟨x.1,K x.1 x.2⟩:β)).toArray;have aR:d.toList.map Subtype.val=L:=by
  show(L.attach.map λx=>(⟨x.1,K x.1 x.2⟩:β)).map Subtype.val=L;rw[S4];exact List.attach_map_subtype_val L
 have aq:d.size=L.length:=by simp[d]
 have F:∀x:β,(enc x).length=k:=by grind
 have aS:d.toList.flatMap enc=L.flatMap f:=by
  grind [List.flatMap_map]
 have X:d.size*k<=cs.length:=by grind
 have au:HoldsK enc k w g 0 d:=by
  intro j av;rw[size_flatK]at av;have aT:j<cs.length:=Ω
  have aw:(flatK enc k d)[j]! =cs[j]:=by
   have aU:(flatK enc k d).toList[j]?=σ cs[j]:=by
    grind [DW]
   grind
  refine⟨?_,?_⟩
  .show w.cell? ⟨g,0+j,ν⟩=σ ((flatK enc k d)[j]!);rw[aw];exact C.cell (by grind)
  grind [x3.frozen?,ag]
 have aV:∀x y:β,ltOf (λx y:β=>A x.1 y.1) x y=decide (num x.1<num y.1):=λx y=>by
  unfold ltOf
  grind
 have ax:SWO (ltOf λx y:β=>A x.1 y.1):=
  ⟨by grind,by grind,by grind⟩
 have Y:∀m (d2:Array β) os,d2.size=d.size->af (λr=>r=g) w (sortWorldK enc k w g 0 m d2 os)/\cC w (sortWorldK enc k w g 0 m d2 os):=λm d2 os U=>by
  obtain⟨aW,ay⟩:=DX enc k F C (by rw[U];exact X);have Z:w.heap.size<=(sortWorldK enc k w g 0 m d2 os).heap.size:=by
   show w.heap.size<=((w.heap.modify g _)++os).size;simp
  refine⟨⟨Z,λr o s _ aa=>?_⟩,rfl,⟨rfl,Nat.le_add_right _ _⟩,rfl,Z,λr o s U=>?_⟩
  .rw[ay r (Z5.1 s).1 aa];exact s
  .have aa:r≠g:=λhe=>by subst he;unfold ag at C;rw[C]at s;cases s;cases U
   grind
 have az:CmpLays P B cap enc k (λx y:β=>A x.1 y.1) g 0 d.size w:=λm os aA U x y=>by
  have H:=(am _ x.1 y.1 (Y m aA os U).1 x.2 y.2).calls R;have O:([x1.agg (f x.1).toArray,.agg (f y.1).toArray]++cap.toList).toArray= #[.agg (enc x).toArray,.agg (enc y).toArray]++cap:=by
   apply Array.ext';simp[enc]
  rw[O]at H;refine H.X ?_
  grind [grown_of]
 have ab:=AnyQ.slices_SortFunc J k ai ak enc F (by grind) (λx y:β=>A x.1 y.1) ax B cap g 0 c d w (λargs w=>R args w) az au C.lt Ω;rw[aq]at ab;refine .code S (ab.X ?_);rintro _ I ⟨rfl,z,n,os,⟨aB,_,V⟩,aC,rfl⟩;have ac:=aB;obtain⟨aD,aE⟩:=Y n z os ac;obtain⟨aF,_⟩:=DX enc k F C (by rw[ac];exact X);have Q:(z.toList.map Subtype.val).Perm L:=by
  grind [Array.extract_size]
 have aG:=Q.length_eq;refine⟨_,rfl,aE,aD.X λr _ s=>⟨_,_,_,rfl,s.symm⟩,z.toList.map Subtype.val,Q,λp q x y aH H ad=>?_,⟨?_,.inr ⟨c,_,by rw[aG],aF,Ω,hm,?_,?_⟩⟩,by grind⟩
 .rw[x8,Y0]at H ad;obtain⟨aX,ae,rfl⟩:=H;obtain⟨aY,ah,rfl⟩:=ad;rw[Array.getElem?_toList]at ae ah;have aZ:=(Z5.1 ae);have a1:=(Z5.1 ah);have:=aC p q (X7 _) aH (by grind)
  grind
 .rw[lr λa O=>hk a (K a (Q.mem_iff.1 O))]
 .have aI:(z.toList.flatMap enc).length=z.size*k:=by rw[lr λa _=>F a];rfl
  grind [Nat.add_sub_cancel']
 .have aI:(z.toList.flatMap enc).length=z.size*k:=by rw[lr λa _=>F a];rfl
  grind [List.flatMap_map]
end Go.Vc
namespace Go.Proofs
open Go.Shelf
def Tryz.yx:Go.Shelf.Ren:=⟨λ|6=>287|15=>226|14=>317|28=>282|29=>283|20=>330|21=>331|22=>332|23=>333|24=>334|25=>335|26=>336|27=>337|46=>343|47=>311|48=>312|49=>344|50=>345|57=>347|n=>n,λ|22=>335|24=>314|25=>334|3=>3|39=>329|0=>0|53=>373|55=>169|4=>4|46=>366|45=>365|50=>370|5=>5|9=>9|66=>395|70=>399|76=>410|77=>411|n=>n,λ|n=>n⟩
theorem Tryz.NU:Go.Proofs.SlLaysF0.n6 Tryz.prog Tryz.yx:={
 mixed:=Ψ,
 f6:=⟨Tryz.f287.name,Φ,Tryz.func287.F (congrArg σ Ψ)⟩,
 f14:=⟨Tryz.f317.name,Φ,Tryz.func317.F (congrArg σ Ψ)⟩,
 f15:=Tryz.func226.F (congrArg σ Ψ),
 f20:=⟨Tryz.f330.name,Φ,Tryz.func330.F (congrArg σ Ψ)⟩,
 f21:=⟨Tryz.f331.name,Φ,Tryz.func331.F (congrArg σ Ψ)⟩,
 f22:=⟨Tryz.f332.name,Φ,Tryz.func332.F (congrArg σ Ψ)⟩,
 f23:=⟨Tryz.f333.name,Φ,Tryz.func333.F (congrArg σ Ψ)⟩,
 f24:=⟨Tryz.f334.name,Φ,Tryz.func334.F (congrArg σ Ψ)⟩,
 f25:=⟨Tryz.f335.name,Φ,Tryz.func335.F (congrArg σ Ψ)⟩,
 f26:=⟨Tryz.f336.name,Φ,Tryz.func336.F (congrArg σ Ψ)⟩,
 f27:=⟨Tryz.f337.name,Φ,Tryz.func337.F (congrArg σ Ψ)⟩,
 f28:=Tryz.func282.F (congrArg σ Ψ),
 f29:=Tryz.func283.F (congrArg σ Ψ),
 f46:=⟨Tryz.f343.name,Φ,Tryz.func343.F (congrArg σ Ψ)⟩,
 f47:=Tryz.func311.F (congrArg σ Ψ),
 f48:=Tryz.func312.F (congrArg σ Ψ),
 f49:=⟨Tryz.f344.name,Φ,Tryz.func344.F (congrArg σ Ψ)⟩,
 f50:=⟨Tryz.f345.name,Φ,Tryz.func345.F (congrArg σ Ψ)⟩,
 f57:=⟨Tryz.f347.name,Φ,Tryz.func347.F (congrArg σ Ψ)⟩,
 t0:=Tryz.underlying0,
 a0:=Tryz.isAgg0,
 z0:=Tryz.sizeOf0,
 v0:=Tryz.zeroValue0,
 t3:=Tryz.underlying3,
 a3:=Tryz.isAgg3,
 z3:=Tryz.sizeOf3,
 v3:=Tryz.zeroValue3,
 t4:=Tryz.underlying4,
 a4:=Tryz.isAgg4,
 z4:=Tryz.sizeOf4,
 v4:=Tryz.zeroValue4,
 t5:=Tryz.underlying5,
 a5:=Tryz.isAgg5,
 z5:=Tryz.sizeOf5,
 v5:=Tryz.zeroValue5,
 t9:=Tryz.underlying9,
 a9:=Tryz.isAgg9,
 z9:=Tryz.sizeOf9,
 v9:=Tryz.zeroValue9,
 t22:=Tryz.underlying335,
 a22:=Tryz.isAgg335,
 z22:=Tryz.sizeOf335,
 v22:=Tryz.zeroValue335,
 t25:=Tryz.underlying334,
 a25:=Tryz.isAgg334,
 z25:=Tryz.sizeOf334,
 v25:=Tryz.zeroValue334,
 t39:=Tryz.underlying329,
 a39:=Tryz.isAgg329,
 z39:=Tryz.sizeOf329,
 v39:=Tryz.zeroValue329,
 t45:=Tryz.underlying365,
 a45:=Tryz.isAgg365,
 z45:=Tryz.sizeOf365,
 v45:=Tryz.zeroValue365,
 t46:=Tryz.underlying366,
 a46:=Tryz.isAgg366,
 z46:=Tryz.sizeOf366,
 v46:=Tryz.zeroValue366,
 t50:=Tryz.underlying370,
 a50:=Tryz.isAgg370,
 z50:=Tryz.sizeOf370,
 v50:=Tryz.zeroValue370,
 t53:=Tryz.underlying373,
 a53:=Tryz.isAgg373,
 z53:=Tryz.sizeOf373,
 v53:=Tryz.zeroValue373,
 t55:=Tryz.underlying169,
 a55:=Tryz.isAgg169,
 z55:=Tryz.sizeOf169,
 v55:=Tryz.zeroValue169,
 t66:=Tryz.underlying395,
 a66:=Tryz.isAgg395,
 z66:=Tryz.sizeOf395,
 v66:=Tryz.zeroValue395,
 t70:=Tryz.underlying399,
 a70:=Tryz.isAgg399,
 z70:=Tryz.sizeOf399,
 v70:=Tryz.zeroValue399,
 t76:=Tryz.underlying410,
 a76:=Tryz.isAgg410,
 z76:=Tryz.sizeOf410,
 v76:=Tryz.zeroValue410,
 t77:=Tryz.underlying411,
 a77:=Tryz.isAgg411,
 z77:=Tryz.sizeOf411,
 v77:=Tryz.zeroValue411}
def Tryz.yy:Go.Shelf.Ren:=⟨λ|6=>138|15=>226|14=>225|28=>282|29=>283|20=>274|21=>275|22=>276|23=>277|24=>278|25=>279|26=>280|27=>281|46=>310|47=>311|48=>312|49=>313|50=>314|57=>329|n=>n,λ|22=>237|24=>242|25=>251|3=>3|39=>329|0=>0|53=>373|55=>169|4=>4|46=>366|45=>365|50=>370|5=>5|9=>9|66=>395|70=>399|76=>410|77=>411|n=>n,λ|n=>n⟩
theorem Tryz.NV:Go.Proofs.SlLaysF0.n6 Tryz.prog Tryz.yy:={
 mixed:=Ψ,
 f6:=⟨Tryz.f138.name,Φ,Tryz.func138.F (congrArg σ Ψ)⟩,
 f14:=⟨Tryz.f225.name,Φ,Tryz.func225.F (congrArg σ Ψ)⟩,
 f15:=Tryz.func226.F (congrArg σ Ψ),
 f20:=⟨Tryz.f274.name,Φ,Tryz.func274.F (congrArg σ Ψ)⟩,
 f21:=⟨Tryz.f275.name,Φ,Tryz.func275.F (congrArg σ Ψ)⟩,
 f22:=⟨Tryz.f276.name,Φ,Tryz.func276.F (congrArg σ Ψ)⟩,
 f23:=⟨Tryz.f277.name,Φ,Tryz.func277.F (congrArg σ Ψ)⟩,
 f24:=⟨Tryz.f278.name,Φ,Tryz.func278.F (congrArg σ Ψ)⟩,
 f25:=⟨Tryz.f279.name,Φ,Tryz.func279.F (congrArg σ Ψ)⟩,
 f26:=⟨Tryz.f280.name,Φ,Tryz.func280.F (congrArg σ Ψ)⟩,
 f27:=⟨Tryz.f281.name,Φ,Tryz.func281.F (congrArg σ Ψ)⟩,
 f28:=Tryz.func282.F (congrArg σ Ψ),
 f29:=Tryz.func283.F (congrArg σ Ψ),
 f46:=⟨Tryz.f310.name,Φ,Tryz.func310.F (congrArg σ Ψ)⟩,
 f47:=Tryz.func311.F (congrArg σ Ψ),
 f48:=Tryz.func312.F (congrArg σ Ψ),
 f49:=⟨Tryz.f313.name,Φ,Tryz.func313.F (congrArg σ Ψ)⟩,
 f50:=⟨Tryz.f314.name,Φ,Tryz.func314.F (congrArg σ Ψ)⟩,
 f57:=⟨Tryz.f329.name,Φ,Tryz.func329.F (congrArg σ Ψ)⟩,
 t0:=Tryz.underlying0,
 a0:=Tryz.isAgg0,
 z0:=Tryz.sizeOf0,
 v0:=Tryz.zeroValue0,
 t3:=Tryz.underlying3,
 a3:=Tryz.isAgg3,
 z3:=Tryz.sizeOf3,
 v3:=Tryz.zeroValue3,
 t4:=Tryz.underlying4,
 a4:=Tryz.isAgg4,
 z4:=Tryz.sizeOf4,
 v4:=Tryz.zeroValue4,
 t5:=Tryz.underlying5,
 a5:=Tryz.isAgg5,
 z5:=Tryz.sizeOf5,
 v5:=Tryz.zeroValue5,
 t9:=Tryz.underlying9,
 a9:=Tryz.isAgg9,
 z9:=Tryz.sizeOf9,
 v9:=Tryz.zeroValue9,
 t22:=Tryz.underlying237,
 a22:=Tryz.isAgg237,
 z22:=Tryz.sizeOf237,
 v22:=Tryz.zeroValue237,
 t25:=Tryz.underlying251,
 a25:=Tryz.isAgg251,
 z25:=Tryz.sizeOf251,
 v25:=Tryz.zeroValue251,
 t39:=Tryz.underlying329,
 a39:=Tryz.isAgg329,
 z39:=Tryz.sizeOf329,
 v39:=Tryz.zeroValue329,
 t45:=Tryz.underlying365,
 a45:=Tryz.isAgg365,
 z45:=Tryz.sizeOf365,
 v45:=Tryz.zeroValue365,
 t46:=Tryz.underlying366,
 a46:=Tryz.isAgg366,
 z46:=Tryz.sizeOf366,
 v46:=Tryz.zeroValue366,
 t50:=Tryz.underlying370,
 a50:=Tryz.isAgg370,
 z50:=Tryz.sizeOf370,
 v50:=Tryz.zeroValue370,
 t53:=Tryz.underlying373,
 a53:=Tryz.isAgg373,
 z53:=Tryz.sizeOf373,
 v53:=Tryz.zeroValue373,
 t55:=Tryz.underlying169,
 a55:=Tryz.isAgg169,
 z55:=Tryz.sizeOf169,
 v55:=Tryz.zeroValue169,
 t66:=Tryz.underlying395,
 a66:=Tryz.isAgg395,
 z66:=Tryz.sizeOf395,
 v66:=Tryz.zeroValue395,
 t70:=Tryz.underlying399,
 a70:=Tryz.isAgg399,
 z70:=Tryz.sizeOf399,
 v70:=Tryz.zeroValue399,
 t76:=Tryz.underlying410,
 a76:=Tryz.isAgg410,
 z76:=Tryz.sizeOf410,
 v76:=Tryz.zeroValue410,
 t77:=Tryz.underlying411,
 a77:=Tryz.isAgg411,
 z77:=Tryz.sizeOf411,
 v77:=Tryz.zeroValue411}
def Tryz.NW:Go.Shelf.Ren:=⟨λ|189=>176|125=>226|257=>255|128=>282|129=>283|294=>295|295=>296|296=>297|297=>298|298=>299|299=>300|216=>301|300=>302|301=>303|328=>321|329=>311|330=>312|331=>322|332=>323|215=>227|343=>338|n=>n,λ|28=>27|3=>3|46=>329|0=>0|51=>373|53=>169|4=>4|183=>366|182=>365|131=>370|5=>5|9=>9|218=>395|222=>399|228=>410|229=>411|n=>n,λ|n=>n⟩
theorem Tryz.NX:Go.Proofs.Lays.n189 Tryz.prog Tryz.NW:={
 mixed:=Ψ,
 f125:=Tryz.func226.F (congrArg σ Ψ),
 f128:=Tryz.func282.F (congrArg σ Ψ),
 f129:=Tryz.func283.F (congrArg σ Ψ),
 f189:=Tryz.func176.F (congrArg σ Ψ),
 f215:=Tryz.func227.F (congrArg σ Ψ),
 f216:=Tryz.func301.F (congrArg σ Ψ),
 f257:=Tryz.func255.F (congrArg σ Ψ),
 f294:=Tryz.func295.F (congrArg σ Ψ),
 f295:=Tryz.func296.F (congrArg σ Ψ),
 f296:=Tryz.func297.F (congrArg σ Ψ),
 f297:=Tryz.func298.F (congrArg σ Ψ),
 f298:=Tryz.func299.F (congrArg σ Ψ),
 f299:=Tryz.func300.F (congrArg σ Ψ),
 f300:=Tryz.func302.F (congrArg σ Ψ),
 f301:=Tryz.func303.F (congrArg σ Ψ),
 f328:=Tryz.func321.F (congrArg σ Ψ),
 f329:=Tryz.func311.F (congrArg σ Ψ),
 f330:=Tryz.func312.F (congrArg σ Ψ),
 f331:=Tryz.func322.F (congrArg σ Ψ),
 f332:=Tryz.func323.F (congrArg σ Ψ),
 f343:=Tryz.func338.F (congrArg σ Ψ),
 t0:=Tryz.underlying0,
 a0:=Tryz.isAgg0,
 z0:=Tryz.sizeOf0,
 v0:=Tryz.zeroValue0,
 t3:=Tryz.underlying3,
 a3:=Tryz.isAgg3,
 z3:=Tryz.sizeOf3,
 v3:=Tryz.zeroValue3,
 t4:=Tryz.underlying4,
 a4:=Tryz.isAgg4,
 z4:=Tryz.sizeOf4,
 v4:=Tryz.zeroValue4,
 t5:=Tryz.underlying5,
 a5:=Tryz.isAgg5,
 z5:=Tryz.sizeOf5,
 v5:=Tryz.zeroValue5,
 t9:=Tryz.underlying9,
 a9:=Tryz.isAgg9,
 z9:=Tryz.sizeOf9,
 v9:=Tryz.zeroValue9,
 t28:=Tryz.underlying27,
 a28:=Tryz.isAgg27,
 z28:=Tryz.sizeOf27,
 v28:=Tryz.zeroValue27,
 t46:=Tryz.underlying329,
 a46:=Tryz.isAgg329,
 z46:=Tryz.sizeOf329,
 v46:=Tryz.zeroValue329,
 t51:=Tryz.underlying373,
 a51:=Tryz.isAgg373,
 z51:=Tryz.sizeOf373,
 v51:=Tryz.zeroValue373,
 t53:=Tryz.underlying169,
 a53:=Tryz.isAgg169,
 z53:=Tryz.sizeOf169,
 v53:=Tryz.zeroValue169,
 t131:=Tryz.underlying370,
 a131:=Tryz.isAgg370,
 z131:=Tryz.sizeOf370,
 v131:=Tryz.zeroValue370,
 t182:=Tryz.underlying365,
 a182:=Tryz.isAgg365,
 z182:=Tryz.sizeOf365,
 v182:=Tryz.zeroValue365,
 t183:=Tryz.underlying366,
 a183:=Tryz.isAgg366,
 z183:=Tryz.sizeOf366,
 v183:=Tryz.zeroValue366,
 t218:=Tryz.underlying395,
 a218:=Tryz.isAgg395,
 z218:=Tryz.sizeOf395,
 v218:=Tryz.zeroValue395,
 t222:=Tryz.underlying399,
 a222:=Tryz.isAgg399,
 z222:=Tryz.sizeOf399,
 v222:=Tryz.zeroValue399,
 t228:=Tryz.underlying410,
 a228:=Tryz.isAgg410,
 z228:=Tryz.sizeOf410,
 v228:=Tryz.zeroValue410,
 t229:=Tryz.underlying411,
 a229:=Tryz.isAgg411,
 z229:=Tryz.sizeOf411,
 v229:=Tryz.zeroValue411}
theorem Tryz.NY(w:x3):(isAgg (Tryz.yx.t 24)).run Tryz.prog w= .ok ro w:=Tryz.isAgg314 w
theorem Tryz.NZ(w:x3):(Go.sizeOf (Tryz.yx.t 24)).run Tryz.prog w= .ok 6 w:=Tryz.sizeOf314 w
theorem Tryz.N0:Tryz.prog.funcs[231]?=σ Tryz.f231:=Tryz.func231
theorem Tryz.N1(w:x3):(isAgg (Tryz.yy.t 24)).run Tryz.prog w= .ok ro w:=Tryz.isAgg242 w
theorem Tryz.N2(w:x3):(Go.sizeOf (Tryz.yy.t 24)).run Tryz.prog w= .ok 2 w:=Tryz.sizeOf242 w
theorem Tryz.N3:Tryz.prog.funcs[139]?=σ Tryz.f139:=Tryz.func139
end Go.Proofs
namespace Go.Proofs.YtkcigodpbndobaaGreatDoor
open Go Go.Vc Go.RowKit Go.Proofs Go.Proofs.Tryz
set_option maxRecDepth 100000
def vl{α:Type}(f:α->Int)(L:List α)(a i:Nat):Prop:=∀(p q:Nat)(x y:α),a<=p->p<q->q<i->L[p]?=σ x->L[q]?=σ y->f x<=f y
def ru(L:List (Λ)):Prop:=∀a∈L,nZ a
theorem ru.perm{L M:List (Λ)}(h:ru L)(a:M.Perm L):ru M:=λe hk=>h e (a.mem_iff.1 hk)
theorem N4{g:Nat}{v:x1}{L:List (Λ)}{i:Nat}(e:y=(i:Int))(h:p3 w g v L)(hi:L[i]?=σ a):
  ab x7 (j4 lg v (Δ y)) w (λp=>ab x7 (u4 cH p) w K)=K (en a):=by
 have f:a.length=6:=by have:=h.2 a (x5 hi);simpa using this
 rw[dm e lg.u cH.i h (x4.1 hi).1,p2 f (h.range hi)]
abbrev DZ:x1:=.func (.func BX) #[] #[]
theorem vm{P:X5}{t:r9}{k:o5}{s:ByteArray}{i:Nat}(a:P.underlying t=σ .string)(hi:i<s.size):
  ab P (Instr.index t (.string s) (.int k (i:Int))) w K=K (.int .u8 (s[i].toNat:Int)):=ab.of λI _=>by
 simp[Instr.index,asIntOf,run_underlying a,hi]
def ew(n:Nat):Nat:=if n=0 then 0 else Nat.log2 n+1
theorem D0(h:n<256):ew n<=8:=by
 unfold ew;by_cases a:n=0
 .rw[m3 a];omega
 .rw[m5 a];have e:Nat.log2 n<8:=(Nat.log2_lt a).2 Ω;omega
theorem N5{g:Nat}{v:x1}{L:List (Λ)}(h:p3 w g v L)(j:ru L)(s:L.length<65536):
  aj x7 Ln [v,DZ] w λ_ I=>af (λr=>lc v r) w I/\∃M,M.Perm L/\vl ie M 0 M.length/\p3 I g v M:=by
 refine(DY NU NY NZ (λa _=>DT) (λa e=>by simp[e.1]) (λa b e f=>(DU a b (by rw[e.1,f.1]) e.2 f.2).1) (Enters.of x7 N0 rfl Ψ) h j s λH a b _ e f=>NT e f).X ?_;rintro _ I _ ⟨z,M,A,B,hm⟩;exact⟨z,M,A,λp q x y _ C _ E G=>B p q x y C E G,hm⟩
end Go.Proofs.YtkcigodpbndobaaGreatDoor
namespace Go.Vc
open Go Go.RowKit
set_option maxRecDepth 100000
theorem Keys.str{P:X5}{k:r9}(hk:P.underlying k=σ .string):Keys P k λv=>∃s,v= .string s:=by
 have key:∀s,MapKept.IsKey .string (.string s):=λs=>trivial;refine⟨λw f v ⟨n,h⟩=>?_,λw x ⟨n,h⟩ p q=>?_,λw v ⟨n,h⟩=>?_⟩
 .subst h;exact MapKept.run_checkKey hk (key n) f 9999
 .subst h;rcases MapKept.findNow_spec (key n) p 0 (λe he=>by obtain⟨m,h⟩:=q e he;rw[h];exact key m)with⟨h1,a⟩|⟨j,e,h1,a,r⟩
  .exact .inl ⟨MapKept.run_findKey hk h1,a⟩
  .exact .inr ⟨j,e,by have:=MapKept.run_findKey (P:=P) (w:=w) hk h1;simpa using this,a,r⟩
 .subst h;exact MapKept.run_keyThatStays (d:=.string) (key n)
section
variable{P:X5}{w:x3}
theorem kK{s:Sem x1}{v:x1}(h:∀K:x1->Prop,ab P s w K=K v):cE P s v w:=by
 have h1:ab P s w (λu=>u=v):=(h λu=>u=v).mpr rfl;obtain⟨u,a,rfl⟩:=h1;exact a
variable{k e:r9}{G:x1->Prop}
end
end Go.Vc
namespace Go.Proofs.YtkcigodpbndobaaGreatDoor
open Go Go.Vc Go.RowKit Go.Proofs Go.Proofs.Tryz
set_option maxRecDepth 100000
def ig:Nat->Nat->Λ
 |0,_=>[]
 |n+1,u=>ig n (u / 10)++[48+((u % 10:Nat):Int)]
theorem sT:∀(n u:Nat),(ig n u).length=n
 |0,_=>rfl
 |n+1,u=>by rw[ig,p8,sT n];rfl
theorem N6(n u:Nat):ig (n+2) u=ig n (u / 100)++[48+((u / 10 % 10:Nat):Int),48+((u % 10:Nat):Int)]:=by
 rw[ig,ig,X0];rw[show u / 10 / 10=u / 100 by omega];rfl
theorem D1:∀(n u:Nat),10 ^ n<=u->u<10 ^ (n+1)->ig (n+1) u=gg u
 |0,u,h1,a=>by
  rw[pS,m3 (by simpa using a)];simp[ig]
 |n+1,u,h1,a=>by
  have e:(10:Nat) ^ (n+1)=10*10 ^ n:=by rw[Nat.pow_succ,Nat.mul_comm]
  have f:(10:Nat) ^ (n+1+1)=10*10 ^ (n+1):=by rw[Nat.pow_succ,Nat.mul_comm]
  have h:1<=10 ^ n:=Nat.one_le_iff_ne_zero.2 Ξ;rw[pS,m5 Ω,ig,D1 n (u / 10) Ω Ω]
def gL(a C:Λ)(e u:Nat):Prop:=e<=a.length/\C.length=a.length/\∃t,C.drop e=t/\a=ig e u++t
theorem gL.two{e:Λ}{a u:Nat}(h:gL e C (a+2) u):gL e ((C.set (a+1) (48+((u % 10:Nat):Int))).set a (48+((u / 10 % 10:Nat):Int))) a (u / 100):=by
 obtain⟨h1,f,t,j,p⟩:=h;refine⟨Ω,by simp[f],_,rfl,?_⟩;rw[p,N6,X0];congr 1;rw[List.drop_set,m5 Ω,List.drop_set,m5 Ω,<-j];have q:a<C.length:=Ω
 have r:a+1<C.length:=Ω
 rw[X1 q,X1 r,U5,Nat.add_sub_cancel_left];rfl
theorem gL.one{u:Nat}(h:gL a C 1 u):C.set 0 (48+((u % 10:Nat):Int))=a:=by
 obtain⟨h1,e,t,f,j⟩:=h;rw[j,ig,ig,List.nil_append,<-f];cases C with
 |nil=>simp at e;omega
 |cons c C=>simp
theorem gL.zero{u:Nat}(h:gL a C 0 u):C=a:=by
 obtain⟨h1,j,t,e,f⟩:=h;rw[f,ig,List.nil_append,<-e,List.drop_zero]
def lu:ByteArray:=⟨#[48,48,48,49,48,50,48,51,48,52,48,53,48,54,48,55,48,56,48,57,49,48,49,49,49,50,49,51,49,52,49,53,49,54,49,55,49,56,49,57,50,48,50,49,50,50,50,51,50,52,50,53,50,54,50,55,50,56,50,57,51,48,51,49,51,50,51,51,51,52,51,53,51,54,51,55,51,56,51,57,52,48,52,49,52,50,52,51,52,52,52,53,52,54,52,55,52,56,52,57,53,48,53,49,53,50,53,51,53,52,53,53,53,54,53,55,53,56,53,57,54,48,54,49,54,50,54,51,54,52,54,53,54,54,54,55,54,56,54,57,55,48,55,49,55,50,55,51,55,52,55,53,55,54,55,55,55,56,55,57,56,48,56,49,56,50,56,51,56,52,56,53,56,54,56,55,56,56,56,57,57,48,57,49,57,50,57,51,57,52,57,53,57,54,57,55,57,56,57,57]⟩
theorem D2:lu.size=200:=by decide+kernel
theorem N7:∀q:Fin 100,lu.data.toList[2*q.val]?=σ (UInt8.ofNat (48+q.val / 10))/\lu.data.toList[2*q.val+1]?=σ (UInt8.ofNat (48+q.val % 10)):=by decide+kernel
theorem yz{q:Nat}(e:q<100):(∀h,(lu[2*q]'h).toNat=48+q / 10)/\∀h,(lu[2*q+1]'h).toNat=48+q % 10:=by
 obtain⟨h1,f⟩:=N7 ⟨q,e⟩;refine⟨λh=>?_,λh=>?_⟩
 .have a:=(x4.1 h1).2;have:lu[2*q]=UInt8.ofNat (48+q / 10):=a;rw[this,UInt8.toNat_ofNat'];omega
 .have a:=(x4.1 f).2;have:lu[2*q+1]=UInt8.ofNat (48+q % 10):=a;rw[this,UInt8.toNat_ofNat'];omega
theorem wrap_u32{x:Int}(h1:0<=x)(a:x<4294967296):o5.u32.wrap x=x:=by
 simp[o5.wrap,o5.bits,o5.signed];omega
def lv(w:x3)(g o:Nat)(a C e:Λ):Prop:=ag w g oF (ints .u8 (a++C++e))/\a.length=o
theorem yA{g o c i:Nat}{a:o5}(e:y=(i:Int))(hi:i<n):
  ab x7 (j4 cS (.slice (σ ⟨g,o,ν⟩) n c) (.int a y)) w K=K (.pointer (σ ⟨g,o+i,ν⟩)):=by
 subst e;rw[fv cS.u cM.i hi (λ_=>rfl),V0]
theorem yB{g o i:Nat}{x:Int}{f:Λ}{K:Unit->x3->Prop}(h:lv w g o a C f)(hi:i<C.length)(p:∀I,af (λr=>r=g) w I->lv I g o a (C.set i x) f->K () I):aC x7 (o7 cM (.pointer (σ ⟨g,o+i,ν⟩)) (.int .u8 x)) w K:=by
 obtain⟨h,rfl⟩:=h;refine bt (g:=g) (o:=a.length+i) cM.i rfl rfl h Θ λI q U j=>p I q ⟨?_,rfl⟩;have e:(ints .u8 (a++C++f)).set (a.length+i) (.int .u8 x)=ints .u8 (a++C.set i x++f):=by
  unfold ints;rw[<-V3,X0,Q1 _ _ Ω,Nat.add_sub_cancel_left,List.set_append_left _ _ hi,X0]
 rw[e]at j;exact j
theorem p4{g o c a q i:Nat}{x f t:Int}{h j:Λ}{K:x3->Prop}(y:lv w g o h C j)(Y:C.length=n)(Z:n<=1000)(ac:a<=n)(h1:(a:Int)-x=((i+1:Nat):Int))(E:(a:Int)-f=(i:Int))(F:i+1<n)(G:t=((2*q:Nat):Int))(p:q<100)(H:∀I,af (λr=>r=g) w I->lv I g o h ((C.set (i+1) (48+((q % 10:Nat):Int))).set i (48+((q / 10:Nat):Int))) j->K I):
  eu w λV=>
  ab x7 (aO .sub ae rs ro (Δ (a:Int)) (Δ x)) V λJ=>
  ab x7 (aO .sub ae rs ro (Δ (a:Int)) (Δ f)) V λz=>
  ab x7 (aO .add qX rs ro (.int .u32 t) (.int .u32 1)) V λL=>
  ab x7 (Instr.index dd (.string lu) L) V λt50=>
  ab x7 (Instr.index dd (.string lu) (.int .u32 t)) V λA=>
  ab x7 (j4 cS (.slice (σ ⟨g,o,ν⟩) n c) J) V λt53=>
  aC x7 (o7 cM t53 t50) V λ(_:Unit)e=>
   (Ext V e\/cE x7 (Instr.index dd (.string lu) (.int .u32 t)) A e/\cE x7 (aO .sub ae rs ro (Δ (a:Int)) (Δ f)) z e/\True)/\
  ab x7 (j4 cS (.slice (σ ⟨g,o,ν⟩) n c) z) e λM=>
   aC x7 (o7 cM M A) e λ(_:Unit)s=>K s:=by
 subst G;intro V B _ _;have N:af (λr=>r=g) w V:=B.aa _;have O:lv V g o h C j:=⟨y.1.W B,y.2⟩;rw[dR,lm Ω Ω,dR,lm Ω Ω,aM,wrap_u32 Ω Ω];rw[show((2*q:Nat):Int)+1=((2*q+1:Nat):Int) by omega];have U:=D2;rw[vm dd.u (by rw[U];omega),vm dd.u (by rw[U];omega)];rw[(yz p).1,(yz p).2,yA h1 F];refine yB O Ω λe P Q=>⟨.inr ⟨kK λK=>?_,kK λK=>?_,trivial⟩,?_⟩
 .rw[vm dd.u (by rw[U];omega),(yz p).1]
 .rw[dR,lm Ω Ω]
 .rw[yA E Ω];refine yB Q Θ λs R S=>H s ((N.F P).F R) ?_;have W:48+((q % 10:Nat):Int)=((48+q % 10:Nat):Int):=Ω
  have X:48+((q / 10:Nat):Int)=((48+q / 10:Nat):Int):=Ω
  rw[W,X];exact S
theorem gL.pair{e:Λ}{a u q:Nat}(h:gL e C (a+2) u)(f:q=u % 100):gL e ((C.set (a+1) (48+((q % 10:Nat):Int))).set a (48+((q / 10:Nat):Int))) a (u / 100):=by
 have:=h.two;rw[show u % 10=q % 10 by omega,show u / 10 % 10=q / 10 by omega]at this;exact this
theorem p5{t:r9}{k:o5}{a b:Nat}(e:b≠0):ab x7 (aO .rem t cx cy (.int k (a:Int)) (.int k (b:Int))) w K=K (.int k ((a % b:Nat):Int)):=by
 rw[sr Ω,Int.tmod_eq_emod_of_nonneg Ω,Int.natCast_emod]
theorem u32_quo{t:r9}{a b:Nat}(e:b≠0)(f:a<4294967296):ab x7 (aO .quo t cx cy (.int .u32 (a:Int)) (.int .u32 (b:Int))) w K=K (.int .u32 ((a / b:Nat):Int)):=by
 have:=Nat.div_le_self a b;rw[uD Ω,Int.tdiv_eq_ediv_of_nonneg Ω,<-Int.natCast_ediv];generalize a / b=m at this ⊢;rw[wrap_u32 Ω Ω]
theorem u64_quo{t:r9}{a b:Nat}(e:b≠0)(f:a<18446744073709551616):ab x7 (aO .quo t cx cy (.int .u64 (a:Int)) (.int .u64 (b:Int))) w K=K (.int .u64 ((a / b:Nat):Int)):=by
 have:=Nat.div_le_self a b;rw[uD Ω,Int.tdiv_eq_ediv_of_nonneg Ω,<-Int.natCast_ediv];generalize a / b=m at this ⊢;rw[lw Ω Ω]
theorem p6{t:r9}{a b:Nat}(f:a*b<4294967296):ab x7 (aO .mul t cx cy (.int .u32 (a:Int)) (.int .u32 (b:Int))) w K=K (.int .u32 ((a*b:Nat):Int)):=by
 have e:(a:Int)*(b:Int)=((a*b:Nat):Int):=Ξ
 rw[iO,e];generalize a*b=m at f ⊢;rw[wrap_u32 Ω Ω]
theorem gL.start{u:Nat}(h:C.length=N):gL (ig N u) C N u:=⟨by rw[sT];omega,by rw[sT,h],[],by rw[List.drop_eq_nil_iff];omega,Ξ⟩
theorem N8{g o c u:Nat}{E G:Λ}(ak:lv w g o E C G)(al:C.length=N)(aA:N<=19)(am:u<10 ^ N):
  aj x7 LC [.slice (σ ⟨g,o,ν⟩) N c,.int .u64 (u:Int)] w λv I=>v= .tuple #[]/\af (λr=>r=g) w I/\lv I g o E (ig N u) G:=by
 have s:=sT N u;refine az func327 ?_;rw[iv cS.u];refine⟨λan S J=>∃eR e:Nat,an= .int .u64 (eR:Int)/\S=Δ (e:Int)/\eR<10 ^ e/\e<=N/\af (λr=>r=g) w J/\∃H,lv J g o E H G/\gL (ig N u) H e eR,
  λ_ S _=>(b0 S).toNat,⟨u,N,rfl,rfl,am,p9 _,af.refl _ _,C,ak,gL.start al⟩,?_⟩
 rintro _ _ J ⟨eR,e,rfl,rfl,K,x,U,H,W,P⟩;have ad:H.length=N:=by rw[P.2.1,s]
 have aB:(10:Nat) ^ e<=10 ^ 19:=T6 Ω Ω;have ao:eR<18446744073709551616:=Ω
 have aC:(8:Int)=((8:Nat):Int):=rfl;rw[cI,ai];refine⟨λap=>?_,λap=>?_⟩
 .obtain⟨m,rfl⟩:∃m,e=m+8:=⟨e-8,Ω⟩;have aD:eR % 100000000<100000000:=Nat.mod_lt _ Ω;rw[show X2 .u64 100000000=X2 .u64 ((100000000:Nat):Int)from rfl,p5 Ω,e1 fN.u qX.u,wrap_u32 Ω Ω,u64_quo Ω ao];rw[show X2 .u32 10000=X2 .u32 ((10000:Nat):Int)from rfl,show X2 .u32 100=X2 .u32 ((100:Nat):Int)from rfl,show X2 .u32 2=X2 .u32 ((2:Nat):Int)from rfl];rw[u32_quo Ω Ω,p5 Ω,u32_quo Ω Ω,p6 Ω,p5 Ω,p6 Ω,u32_quo Ω Ω,p6 Ω,p5 Ω,p6 Ω];refine p4 (i:=m+6) (q:=eR % 100000000 % 10000 % 100) W ad Ω x Ω Ω Ω Ω Ω λV z A=>?_;have h:=P.pair (q:=eR % 100000000 % 10000 % 100) Ω;have L:=h.2.1.F s;refine p4 (i:=m+4) (q:=eR % 100000000 % 10000 / 100) A L Ω x Ω Ω Ω Ω Ω λB p j=>?_;have f:=gL.pair (q:=eR % 100000000 % 10000 / 100) h Ω;have ae:=f.2.1.F s;refine p4 (i:=m+2) (q:=eR % 100000000 / 10000 % 100) j ae Ω x Ω Ω Ω Ω Ω λaq X Q=>?_;have ag:=gL.pair (q:=eR % 100000000 / 10000 % 100) f Ω;have au:=ag.2.1.F s;refine p4 (i:=m) (q:=eR % 100000000 / 10000 / 100) Q au Ω x Ω Ω Ω Ω Ω λaE av aw=>?_;have ah:=gL.pair (q:=eR % 100000000 / 10000 / 100) ag Ω;rw[dR,lm Ω Ω];refine⟨⟨eR / 100000000,m,rfl,by congr 1;omega,?_,Ω,(((U.F z).F p).F X).F av,_,aw,?_⟩,by simp only[b0];omega⟩
  .rw[Nat.pow_add]at K;exact Nat.div_lt_of_lt_mul (by rw[Nat.mul_comm];exact K)
  .rw[show eR / 100 / 100 / 100 / 100=eR / 100000000 by omega]at ah;exact ah
 .have aF:e<8:=Ω
  have aG:(10:Nat) ^ e<=10 ^ 7:=T6 Ω Ω;rw[e1 fN.u qX.u,wrap_u32 Ω Ω];refine jA (λa b V=>∃e4 m:Nat,a=Δ (m:Int)/\b= .int .u32 (e4:Int)/\e4<10 ^ m/\m<4/\m<=N/\af (λr=>r=g) w V/\∃R,lv V g o E R G/\gL (ig N u) R m e4) ?_ ?_
  rotate_left
  .intro ay M;rw[cI,ai];refine⟨λY=>?_,λY=>M _ _ _ ⟨eR,e,rfl,rfl,K,Ω,x,U,H,W,P⟩⟩;obtain⟨m,rfl⟩:∃m,e=m+4:=⟨e-4,Ω⟩;rw[show X2 .u32 10000=X2 .u32 ((10000:Nat):Int)from rfl,show X2 .u32 100=X2 .u32 ((100:Nat):Int)from rfl,show X2 .u32 2=X2 .u32 ((2:Nat):Int)from rfl];rw[p5 Ω,u32_quo Ω Ω,u32_quo Ω Ω,p6 Ω,p5 Ω,p6 Ω];refine p4 (i:=m+2) (q:=eR % 10000 % 100) W ad Ω x Ω Ω Ω Ω Ω λV z A=>?_;have h:=P.pair (q:=eR % 10000 % 100) Ω;have L:=h.2.1.F s;refine p4 (i:=m) (q:=eR % 10000 / 100) A L Ω x Ω Ω Ω Ω Ω λB p j=>?_;have f:=gL.pair (q:=eR % 10000 / 100) h Ω;rw[dR,lm Ω Ω];refine M _ _ _ ⟨eR / 10000,m,by congr 1;omega,rfl,?_,Ω,Ω,(U.F z).F p,_,j,?_⟩
   .rw[Nat.pow_add]at K;exact Nat.div_lt_of_lt_mul (by rw[Nat.mul_comm];exact K)
   .rw[show eR / 100 / 100=eR / 10000 by omega]at f;exact f
  rintro _ _ V ⟨e4,m,rfl,rfl,Z,aH,aa,z,R,A,h⟩;have L:=h.2.1.F s;have aI:(10:Nat) ^ m<=10 ^ 3:=T6 Ω Ω;refine jA (λa b B=>∃O m:Nat,a=Δ (m:Int)/\b= .int .u32 (O:Int)/\O<10 ^ m/\m<2/\m<=N/\af (λr=>r=g) w B/\∃ab,lv B g o E ab G/\gL (ig N u) ab m O) ?_ ?_
  rotate_left
  .intro ay M;rw[cI,ai];refine⟨λY=>?_,λY=>M _ _ _ ⟨e4,m,rfl,rfl,Z,Ω,aa,z,R,A,h⟩⟩;obtain⟨m,rfl⟩:∃bK,m=bK+2:=⟨m-2,Ω⟩;rw[show X2 .u32 100=X2 .u32 ((100:Nat):Int)from rfl,show X2 .u32 2=X2 .u32 ((2:Nat):Int)from rfl];rw[p5 Ω,p6 Ω,u32_quo Ω Ω];refine p4 (i:=m) (q:=e4 % 100) A L Ω aa Ω Ω Ω Ω Ω λB p j=>?_;have f:=h.pair rfl;rw[dR,lm Ω Ω];refine M _ _ _ ⟨e4 / 100,m,by congr 1;omega,rfl,?_,Ω,Ω,z.F p,_,j,f⟩;rw[Nat.pow_add]at Z;exact Nat.div_lt_of_lt_mul (by rw[Nat.mul_comm];exact Z)
  rintro _ _ B ⟨O,m,rfl,rfl,ac,aJ,aa,p,ab,j,f⟩;have ae:=f.2.1.F s;rw[bL,ai];refine⟨λax=>?_,λax=>?_⟩
  .obtain rfl:m=1:=Ω
   have ac:O<10:=by simpa using ac
   rw[aM,wrap_u32 Ω Ω,e1 qX.u cM.u,wrap_u8 Ω Ω,yA (y:=0) (i:=0) rfl Ω];refine yB j Ω λaq X Q=>?_;have:=f.one;rw[Nat.mod_eq_of_lt ac]at this;rw[this]at Q;exact⟨rfl,p.F X,Q⟩
  .obtain rfl:m=0:=Ω
   rw[f.zero]at j;exact⟨rfl,p,j⟩
def sU:Λ:=[1,10,100,1000,10000,100000,1000000,10000000,100000000,1000000000,10000000000,100000000000,1000000000000,10000000000000,100000000000000,1000000000000000,10000000000000000,100000000000000000,1000000000000000000,10000000000000000000]
def fj(w:x3):Prop:=w.rangeAt 1 0 (ints .u64 sU)
theorem fj.W(h:fj w)(a:Ext w I):fj I:=pG a h
theorem N9:∀k:Nat,k<20->sU[k]?=σ (((10 ^ k:Nat)):Int):=Φ
theorem D3{s:Nat}(h:2 ^ s<=n):ew n=s+ew (n / 2 ^ s):=by
 have U:=Nat.two_pow_pos s;have h1:n / 2 ^ s≠0:=by have:=Nat.div_pos h U;omega
 have f:n≠0:=Ω
 unfold ew;rw[m5 f,m5 h1];have e:Nat.log2 n=Nat.log2 (n / 2 ^ s)+s:=by
  refine(Nat.log2_eq_iff f).2 ⟨?_,?_⟩
  .rw[Nat.pow_add];have:=V5 (2 ^ s) (Nat.log2_self_le h1);have:=Nat.div_mul_le_self n (2 ^ s);omega
  .have j:=Nat.lt_log2_self (n:=n / 2 ^ s);rw[show Nat.log2 (n / 2 ^ s)+s+1=(Nat.log2 (n / 2 ^ s)+1)+s by omega,Nat.pow_add];have:=V5 (2 ^ s) (show n / 2 ^ s+1<=2 ^ (Nat.log2 (n / 2 ^ s)+1) by omega);have p:=Nat.lt_div_mul_add U (a:=n)
   grind
 omega
def sV:ByteArray:=⟨#[0,1,2,2,3,3,3,3,4,4,4,4,4,4,4,4,5,5,5,5,5,5,5,5,5,5,5,5,5,5,5,5,6,6,6,6,6,6,6,6,6,6,6,6,6,6,6,6,6,6,6,6,6,6,6,6,6,6,6,6,6,6,6,6,7,7,7,7,7,7,7,7,7,7,7,7,7,7,7,7,7,7,7,7,7,7,7,7,7,7,7,7,7,7,7,7,7,7,7,7,7,7,7,7,7,7,7,7,7,7,7,7,7,7,7,7,7,7,7,7,7,7,7,7,7,7,7,7,8,8,8,8,8,8,8,8,8,8,8,8,8,8,8,8,8,8,8,8,8,8,8,8,8,8,8,8,8,8,8,8,8,8,8,8,8,8,8,8,8,8,8,8,8,8,8,8,8,8,8,8,8,8,8,8,8,8,8,8,8,8,8,8,8,8,8,8,8,8,8,8,8,8,8,8,8,8,8,8,8,8,8,8,8,8,8,8,8,8,8,8,8,8,8,8,8,8,8,8,8,8,8,8,8,8,8,8,8,8,8,8,8,8,8,8,8,8,8,8,8,8,8,8,8,8,8,8]⟩
theorem Oa:sV.size=256:=by decide+kernel
theorem Ob:∀q:Fin 256,sV.data.toList[q.val]?=σ (UInt8.ofNat (ew q.val)):=by decide+kernel
theorem Oc{q:Nat}(a:q<256):∀h,(sV[q]'h).toNat=ew q:=λh=>by
 have h1:=Ob ⟨q,a⟩;have e:=(x4.1 h1).2;have:sV[q]=UInt8.ofNat (ew q):=e
 grind [D0,UInt8.toNat_ofNat']
theorem Od(E:n<18446744073709551616):aj x7 Lj [.int .u64 (n:Int)] w λv I=>v=Δ (ew n:Int)/\Ext w I:=by
 refine az func283 ?_;have step:∀{s x m:Nat}{ay:x1->x1->x3->Prop}{y c:Int},s<64->x<18446744073709551616->m+ew x=ew n->m<=64->y=(2 ^ s:Nat)->c=(s:Int)->2 ^ s<=18446744073709551615->(∀a bK:Nat,a<2 ^ s\/(a=x / 2 ^ s/\bK=m+s)->a<=x->bK+ew a=ew n->bK<=m+s->ay (.int .u64 (a:Int)) (Δ (bK:Int)) w)->
   ab x7 (aO .geq fN rs ro (.int .u64 (x:Int)) (.int .u64 y)) w λt4=>
    Split t4 (ab x7 (aO .shr fN rs ro (.int .u64 (x:Int)) (.int .u64 c)) w λr=>ab x7 (aO .add ae rs ro (Δ (m:Int)) (Δ c)) w λz=>ay r z w) (ay (.int .u64 (x:Int)) (Δ (m:Int)) w):=by
  intro s x m ay y c U f hm G A B p e;subst A B;rw[cI,ai];refine⟨λh=>?_,by grind⟩;rw[mQ U,aM,lm Ω Ω];have:=D3 (n:=x) (s:=s) Ω;have:=e (x / 2 ^ s) (m+s) Ω (Nat.div_le_self _ _) Ω Ω;exact this
 refine jA (λx m J=>w=J/\∃a bK:Nat,x= .int .u64 (a:Int)/\m=Δ (bK:Int)/\a<4294967296/\bK+ew a=ew n/\bK<=32) ?_ ?_
 rotate_left
 .intro ay e;rw[cI,ai];refine⟨λh=>?_,by grind⟩;rw[show X2 .u64 32=X2 .u64 ((32:Nat):Int)from rfl,mQ Ω];have:=D3 (n:=n) (s:=32) Ω;exact e _ _ _ ⟨rfl,n / 2 ^ 32,32,rfl,rfl,Ω,Ω,Ω⟩
 rintro _ _ _ ⟨rfl,x,m,rfl,rfl,f,hm,q⟩;refine jA (λx m J=>w=J/\∃a bK:Nat,x= .int .u64 (a:Int)/\m=Δ (bK:Int)/\a<65536/\bK+ew a=ew n/\bK<=48) ?_ ?_
 rotate_left
 .intro ay e;refine step (s:=16) Ω Ω hm Ω Ω Ω Ω λa bK h1 p j C=>e _ _ _ ⟨rfl,a,bK,rfl,rfl,?_,j,Ω⟩;omega
 rintro _ _ _ ⟨rfl,x,m,rfl,rfl,f,hm,q⟩;refine jA (λx m J=>w=J/\∃a bK:Nat,x= .int .u64 (a:Int)/\m=Δ (bK:Int)/\a<256/\bK+ew a=ew n/\bK<=56) ?_ ?_
 rotate_left
 .intro ay e;refine step (s:=8) Ω Ω hm Ω Ω Ω Ω λa bK h1 p j C=>e _ _ _ ⟨rfl,a,bK,rfl,rfl,?_,j,Ω⟩;omega
 rintro _ _ _ ⟨rfl,x,m,rfl,rfl,f,hm,q⟩;have U:=Oa;have H:=D0 f;rw[e1 fN.u cM.u,wrap_u8 Ω Ω];refine(vm (s:=sV) dd.u Ω).mpr ?_;rw[Oc f,e1 cM.u ae.u,lm Ω Ω,aM,lm Ω Ω]
 grind [Ext.refl]
theorem D4{t:r9}{k:o5}{a:Nat}(f:n<64):ab x7 (aO .shr t cx cy (Δ (a:Int)) (.int k (n:Int))) w K=K (Δ ((a / 2 ^ n:Nat):Int)):=ab.of λI _=>by
 have e:(a:Int).fdiv (2 ^ min n Y7.bits)=((a / 2 ^ n:Nat):Int):=by
  grind [o5.bits]
 simp only[aO,eqGuard,binOp,Op.shift,u9,e];rfl
theorem Oe:∀L:Fin 64,7<=L.val->2 ^ L.val<=10 ^ (L.val*78913 / 262144+1)/\10 ^ (L.val*78913 / 262144)<=10*2 ^ (L.val-1)/\1<=L.val*78913 / 262144/\L.val*78913 / 262144<19:=by decide+kernel
theorem Of{d:Nat}(r:fj w)(h1:100<=d)(B:d<9223372036854775808):aj x7 LB [.int .u64 (d:Int)] w λv I=>Ext w I/\∃n:Nat,v=Δ ((n+1:Nat):Int)/\n<19/\10 ^ n<=d/\d<10 ^ (n+1):=by
 have C:d≠0:=Ω
 have E:ew d=Nat.log2 d+1:=by grind [ew]
 have G:2 ^ (ew d-1)<=d:=by grind [Nat.log2_self_le]
 have H:d<2 ^ ew d:=by grind [Nat.lt_log2_self]
 have x:7<=ew d:=by
  by_cases h:7<=ew d
  .exact h
  .have:2 ^ ew d<=2 ^ 6:=T6 Ω Ω;omega
 have y:ew d<64:=by
  by_cases h:ew d<64
  .exact h
  .have:2 ^ 63<=2 ^ (ew d-1):=T6 Ω Ω;omega
 obtain⟨z,j,t3,t4⟩:=Oe ⟨ew d,y⟩ x;simp only at z j t3 t4;refine az func326 ?_;refine(Od Ω).X ?_;rintro _ J _ ⟨rfl,a⟩;generalize ew d=L at*;refine aj.X (K:=λv V=>v=Δ ((L*78913 / 262144:Nat):Int)/\Ext J V) ?_ ?_
 .refine az func339 ?_;rw[iO,lm Ω Ω,show X2 .u64 18=X2 .u64 ((18:Nat):Int)from rfl,show(L:Int)*78913=((L*78913:Nat):Int) by omega,D4 Ω]
  grind [Ext.refl]
 rintro _ V _ ⟨rfl,e⟩;generalize L*78913 / 262144=t at*;have A:=N9 t Ω;rw[xK xH.u fN.i Ω,ax Ψ (by rw[V0];exact((r.W a).W e) _ _ (mK A)),cI];refine aj.X (K:=λv p=>v=Δ ((if 10 ^ t<=d then 1 else 0:Nat):Int)/\Ext V p) ?_ ?_
 .refine az func340 ?_
  grind [ai,Ext.refl]
 rintro _ p _ ⟨rfl,q⟩;rw[aM];by_cases f:10 ^ t<=d
 .rw[m3 f,lm Ω Ω];exact⟨(a.F e).F q,t,by congr 1,t4,f,Ω⟩
 .rw[m5 f,lm Ω Ω];obtain⟨s,rfl⟩:∃s,t=s+1:=⟨t-1,Ω⟩;rw[Nat.pow_succ]at j;exact⟨(a.F e).F q,s,by congr 1,Ω,Ω,Ω⟩
theorem D5{t:r9}{k a:o5}{x:Int}{i:Nat}{s:ByteArray}(e:x=(i:Int))(f:y=(j:Int))(p:x7.underlying t=σ .string)(q:i<=j)(r:j<=s.size):
  ab x7 (V4 t (.string s) (σ (.int k x)) (σ (.int a y)) ν) w K=K (.string (s.extract i j)):=ab.of λI _=>by
 subst e f;have z:=uF (P:=x7) I (sl:=rs) (n:=s.size) (c:=s.size) (low:=σ (.int k (i:Int))) (high:=σ (.int a (j:Int))) (mx:=ν) (l:=i) (h:=j) (m:=s.size) ⟨k,rfl⟩ ⟨a,rfl⟩ dZ q r (p9 _);simp[V4,Instr.slice,run_underlying p,z]
theorem Og:∀q:Fin 100,lu.extract (2*q.val) (2*q.val+2)=strOfNums [48+((q.val / 10:Nat):Int),48+((q.val % 10:Nat):Int)]:=by decide+kernel
def D6:ByteArray:=⟨#[48,49,50,51,52,53,54,55,56,57,97,98,99,100,101,102,103,104,105,106,107,108,109,110,111,112,113,114,115,116,117,118,119,120,121,122]⟩
theorem Oh:∀q:Fin 10,D6.extract q.val (q.val+1)=strOfNums [48+(q.val:Int)]:=by decide+kernel
theorem D7(h:n<10):gg n=[48+(n:Int)]:=by rw[pS,m3 h,Nat.mod_eq_of_lt h];rfl
theorem Oi(h1:10<=n)(a:n<100):gg n=[48+((n / 10:Nat):Int),48+((n % 10:Nat):Int)]:=by
 rw[pS,m5 Ω,D7 Ω];rfl
theorem Oj(a:n<100):aj x7 LA [Δ (n:Int)] w λv I=>v=cc (gg n)/\Ext w I:=by
 refine az func325 ?_;rw[aP,ai];refine⟨λh=>?_,λh=>?_⟩
 .rw[aM,lm Ω Ω];refine(D5 (s:=D6) (i:=n) (j:=n+1) rfl Ω dd.u Ω (by show n+1<=36;omega)).mpr ?_;rw[Oh ⟨n,Ω⟩,D7 Ω];exact⟨rfl,Ext.refl _⟩
 .rw[iO,lm Ω Ω,iO,lm Ω Ω,aM,lm Ω Ω];refine(D5 (s:=lu) (i:=2*n) (j:=2*n+2) Ω Ω dd.u Ω (by rw[D2];omega)).mpr ?_;rw[Og ⟨n,a⟩,Oi Ω a];exact⟨rfl,Ext.refl _⟩
theorem Ol{g:Nat}{f h:Λ}(a:lv w g 1 f C h)(p:C.length<=23):aI .u8 w (.slice (σ ⟨g,1,ν⟩) C.length 23) C:=by
 obtain⟨a,q⟩:=a;refine⟨Ξ,g,1,_,23,rfl,p,by simp[maxLen],λ_=>rfl,λj v e=>?_⟩;have r:j<C.length:=by have:=(x4.1 e).1;simpa using this
 refine a.cell ?_;rw[ints,l7,l7,W8 Θ,Y9 Θ,o4,q,Nat.add_sub_cancel_left];exact e
theorem D8{g m:Nat}(a:y=((m+2:Nat):Int))(hm:m<=22):
  ab x7 (V4 oF (Γ g) (σ (Δ 1)) (σ (Δ y)) ν) w K=K (.slice (σ ⟨g,1,ν⟩) (m+1) 23):=by
 subst a;have:=uG (w:=w) (b:=g) (o:=0) (low:=σ (Δ 1)) (high:=σ (Δ ((m+2:Nat):Int))) (mx:=ν) (l:=1) (h:=m+2) (m:=24) (K:=K) oF.u cM.i ⟨_,rfl⟩ ⟨_,rfl⟩ dZ Ω Ω Ω;rw[this,m5 Ω];rfl
theorem Om(q:fj w)(s:n<9223372036854775808):aj x7 Lu [Δ (n:Int),Δ 10] w λv I=>v=cc (gg n)/\Ext w I:=by
 refine az func307 ?_;rw[bh];refine(ai).mpr ⟨λ_=>?_,λh=>m6 rfl h⟩;refine aV (λv J=>w=J/\v= .bool (decide (n<100))) ?_ ?_
 rotate_left
 .intro ay a;rw[oG,ai];refine⟨λ_=>?_,λh=>Ω⟩;rw[aP];exact a _ _ ⟨rfl,by congr 1;rw[T1,pl,pl];omega⟩
 rintro _ _ ⟨rfl,rfl⟩;rw[ai];refine⟨λh=>?_,λh=>?_⟩
 .exact (Oj h).X λ_ _ _ h=>h
 refine bx oF.i λg J E f x=>?_;rw[e1 ap.u fN.u,lw Ω Ω];refine aV (λv V=>J=V/\v= .int .u64 (n:Int)) ?_ ?_
 rotate_left
 .intro ay a;rw[aP,ai];exact⟨λh=>Ω,λ_=>a _ _ ⟨rfl,rfl⟩⟩
 rintro _ _ ⟨rfl,rfl⟩;refine(Of (q.W f) Ω s).X ?_;rintro _ V _ ⟨j,m,rfl,hm,y,p⟩;rw[aM,lm Ω Ω];rw[D8 (m:=m) Ω Ω];have z:lv V g 1 [0] (r8 (m+1) 0) (r8 (22-m) 0):=by
  refine⟨?_,rfl⟩;have e:[0]++r8 (m+1) (0:Int)++r8 (22-m) 0=r8 24 0:=by
   rw[show[(0:Int)]=r8 1 0 from rfl,List.replicate_append_replicate,List.replicate_append_replicate];congr 1;omega
  rw[e];exact x.W j
 refine(N8 (N:=m+1) z Ξ Ω p).X ?_;rintro _ G _ ⟨rfl,A,B⟩;refine ci Ω ?_;rw[aM,lm Ω Ω];rw[D8 (m:=m) Ω Ω];have C:=sT (m+1) n;have U:=Ol B Ω;rw[C]at U;rw[xV cS.u cM.u dd.u U,D1 m n y p];refine⟨rfl,(f.F j).then A λr H he=>?_⟩;have he:r=g:=he;omega
theorem On(a:fj w)(e:n<9223372036854775808):aj x7 xy [Δ (n:Int)] w λv I=>v=cc (gg n)/\Ext w I:=by
 refine az func207 ?_;refine aj.X (K:=λv I=>v=cc (gg n)/\Ext w I) ?_ (λ_ _ _ h=>h);refine az func268 ?_;exact(Om a e).X λ_ _ _ h=>h
theorem fj.aa(h:fj w)(a:af S w I)(e:¬S 1):fj I:=gH a e h
def dy(w:x3)(g gs:Nat)(A:ah)(B:ah)(a:Bool)(s:Option aG):Prop:=match s with
 |some s=>ek w g gs A B s a
 |none=>fq w g gs A B
theorem gl.of{g:Nat}{A:ah}{B:ah}{a:Bool}{s:Option aG}(h:gl w g gs A B a s I):af (bG g gs A) w I/\dy I g gs A B a s:=h
theorem gl.mk{g:Nat}{A:ah}{B:ah}{a:Bool}{s:Option aG}(h:af (bG g gs A) w I)(e:dy I g gs A B a s):gl w g gs A B a s I:=⟨h,e⟩
theorem dy.aa{g:Nat}{A:ah}{B:ah}{a:Bool}{s:Option aG}(h:dy w g gs A B a s)(e:af S w I)(f:∀r,bG g gs A r->¬S r)(j:∀r,cT g gs A B r->¬S r):dy I g gs A B a s:=by
 cases s with
 |none=>exact fq.aa h e f j
 |some s=>exact ek.aa h e f j
theorem dy.W{g:Nat}{A:ah}{B:ah}{a:Bool}{s:Option aG}(h:dy w g gs A B a s)(e:Ext w I):dy I g gs A B a s:=h.aa (e.aa λ_=>False) (λ_ _ h=>h) λ_ _ h=>h
theorem dy.side{g:Nat}{A:ah}{B:ah}{a:Bool}{s:Option aG}(h:dy w g gs A B a s):mU w g gs A B:=by
 cases s with
 |none=>exact h.1
 |some s=>exact h.1
def bb(lo hi:Int)(s:Option aG):Option (Int×aG):=s.bind (bc lo hi)
theorem n0{g:Nat}{A:ah}{B:ah}{s:Option aG}{a:Bool}(h:dy w g gs A B a s):aj x7 py [Γ g,Δ lo,Δ hi] w λv I=>gl w g gs A B a ((bb lo hi s).map (·.2)) I/\∃n at_:Int,v= .tuple #[Δ n,Δ at_]/\(∀q,bb lo hi s=σ q->n=q.1)/\(bb lo hi s=ν->n=0):=by
 cases s with
 |none=>
  refine(Nc h).X ?_;rintro _ J _ ⟨e,rfl⟩;exact⟨⟨e.aa _,fq.W h e⟩,0,0,rfl,λq h=>(by cases h),λ_=>rfl⟩
 |some s=>exact yl h
theorem rv{g:Nat}{A:ah}{B:ah}{s:Option aG}{a:Bool}(h:dy w g gs A B a s):aj x7 mF [Γ g] w λv I=>v= .bool s.isSome/\Ext w I:=by
 cases s with
 |none=>exact pZ h
 |some s=>exact rk h
theorem Oo{g:Nat}{A:ah}{B:ah}{s:Option aG}{a:Bool}(h:dy w g gs A B a s)(he:e≠0):aj x7 pz [Γ g,Δ e,Δ at_] w λ_ I=>gl w g gs A B a ν I:=by
 cases s with
 |none=>
  refine(Na h).X ?_;rintro _ J _ f;exact⟨f.aa _,fq.W h f⟩
 |some s=>
  refine(u3 h he).X ?_;rintro _ J _ ⟨j,p⟩;exact⟨j.X λr _ h=>.inl h,p⟩
theorem sW{g:Nat}{A:ah}{B:ah}{s:Option aG}{a b:Bool}(h:dy w g gs A B a s):aj x7 sj [Γ g,.bool b,Δ at_] w λ_ I=>gl w g gs A B a (s.map (ba b)) I:=by
 cases s with
 |none=>
  refine(Dx h).X ?_;rintro _ J _ e;exact⟨e.aa _,fq.W h e⟩
 |some s=>
  refine(va h).X ?_;rintro _ J _ ⟨f,j⟩;exact⟨f.X λr _ h=>.inl h,j⟩
theorem oT{n:Int}{s:Option aG}{s':aG}(h:bb lo hi s=σ (n,s')):lo<=n/\n<=hi:=by
 cases s with
 |none=>cases h
 |some s=>exact(jl h).1
def gn(a acc:Λ)(s:Option aG):Option (Λ×aG):=s.bind (kC a acc)
theorem D9{acc:Λ}{s:Option aG}:gn (k::a) acc s=match bb 0 (k-1) s with
  |none=>ν
  |some (v,s)=>kC a (acc++[v]) s:=by
 cases s with
 |none=>rfl
 |some s=>
  show kC (k::a) acc s=_;rw[kC];show _=match bc 0 (k-1) s with|none=>ν|some (v,s)=>kC a (acc++[v]) s
  cases bc 0 (k-1) s<;>rfl
theorem Ea:∀(t:Λ),(∀x∈t,0<=x/\x<=au)->(eQ t).length<=20*t.length
 |[],_=>by simp[eQ]
 |x::t,h=>by
  have j:=Ea t λy a=>h y (.tail _ a);have f:=h x (.head _);have p:=xY 19 x.toNat (by unfold au at f;omega) Ω;have e:eQ (x::t)=gg x.toNat++[32]++eQ t:=by simp[eQ]
  rw[e];simp only[p8,Y3,List.length_nil];omega
theorem Oq{g ak:Nat}{A B:ah}{s:Option aG}{U:Bool}{al:x1->x3->Prop}(h:dy w g gs A B U s)(am:aI .i64 w sv co)(aK:∀r,li sv r->¬bG g gs A r/\r≠ak)(aL:∀z∈co,1<=z/\z<=au)(bP:co.length<=100001)(aP:fj w)(h1:cT g gs A B 1)(an:ag w ak ev [.slice ν 0 0,Δ 0])(aq:¬bG g gs A ak)(av:¬B ak)(ax:∀t I aN gt,t.length=co.length->(∀x∈t,0<=x/\x<=au)->af (λr=>bG g gs A r\/r=ak) w I->ag I ak ev [aN,Δ 0]->ao .i64 ap I gt aN t->w.heap.size<=gt->
   dy I g gs A B U ((gn co [] s).map (·.2))->(∀q,gn co [] s=σ q->t=q.1)->al (cc (eQ t)) I):
  b2 (.string ⟨#[]⟩) (Δ 0) w λkey W C aR=>
   ab x7 (aO .lss ae rs rs W (Δ (co.length:Int))) C λaS=>
   Split aS (ab x7 (j4 aw sv W) C λaU=>
   ab x7 (u4 ap aU) C λaV=>
   ab x7 (aO .sub ap rs ro aV (Δ 1)) C λaW=>
   aj x7 py [Γ g,(Δ 0),aW] C λay G=>
   ab x7 (c8 ay 0) G λaz=>
   ab x7 (c8 ay 1) G λbQ=>
   ab x7 (u6 ev (Γ ak) 0) G λaX=>
   ab x7 (u4 aw aX) G λaY=>
   aC x7 (Y1 aw 1 #[(0,az)]) G λaZ a1=>
   aC x7 (j6 #[aw,aw] aw #[aY,aZ]) a1 λa2 aA=>
   ab x7 (u6 ev (Γ ak) 0) aA λa6=>
   aC x7 (o7 aw a6 a2) aA λ(_:Unit)a7=>
   aj x7 xy [az] a7 λa8 L=>
   ab x7 (aO .add dd rs ro a8 (.string ⟨#[32]⟩)) L λba=>
   ab x7 (aO .add dd rs rs key ba) L λbc=>
   ab x7 (aO .add ae rs ro W (Δ 1)) L λbd=>
   aR bc bd L) (al key C):=by
 have bR:=an.lt;have bf:=h.side;obtain⟨bS,bT,bU,bg,bh⟩:=bf;refine b2.range co.length (λj key J=>∃t aN gt s1,key=cc (eQ t)/\t.length=j/\(∀x∈t,0<=x/\x<=au)/\af (λr=>bG g gs A r\/r=ak) w J/\ag J ak ev [aN,Δ 0]/\ao .i64 ap J gt aN t/\w.heap.size<=gt/\
  dy J g gs A B U s1/\gn co [] s=gn (co.drop j) t s1) am.le ⟨[],_,w.heap.size,s,rfl,rfl,λx y=>(by cases y),af.refl _ _,an,ao.nil _ _ _ _,p9 _,h,rfl⟩ ?_ ?_
 rotate_left
 .rintro _ J bi ⟨t,aN,gt,s1,rfl,M,H,E,N,O,X,P,he⟩;refine ci Ω ?_;rw[List.drop_length]at he;cases s1 with
  |none=>
   have he:=he;exact ax t J aN gt M H E N O X (by rw[he];exact P) (λq e=>by rw[he]at e;cases e)
  |some s1=>
   have he:=he;exact ax t J aN gt M H E N O X (by rw[he];exact P) (λq e=>by rw[he]at e;cases e;rfl)
 rintro j _ J bi aB ⟨t,aN,gt,s1,rfl,M,H,E,N,O,X,P,he⟩ bj;obtain⟨z,Y⟩:=aF (l:=co) aB;have bk:=aL z (x5 Y);have bV:z<=4611686018427387904:=bk.2;have bl:=jk am E λr f a n c bm bn=>by
  have:=aK r ⟨a,n,c,bm,bn⟩;exact f.elim this.1 this.2
 have ad:∀r,bG g gs A r->r<w.heap.size:=bg;refine bC Ω ?_;rw[be aw.u ap.i Ψ bl Y,dR,lm Ω Ω];refine(n0 P).X ?_;rintro _ V _ ⟨bq,n,at_,rfl,aD,br⟩;obtain⟨Q,bs⟩:=bq.of;have aE:0<=n/\n<=au:=by
  cases e:bb 0 (z-1) s1 with
  |none=>rw[br e];exact⟨Ω,by unfold au;omega⟩
  |some q=>
   rw[aD q e];have:=oT e;exact⟨this.1,by unfold au;omega⟩
 rw[bo,bp];have aH:=N.aa Q aq;have bu:=O.aa Q λ_ bw=>by have:=ad _ bw;omega
 rw[aQ ev.p 0 aH rfl];refine dr aw.u ap.i rfl λa ga bx bW K bz=>?_;refine jD aw.u ap.i rfl (bu.W K) bz.ls Θ Θ λbA bB bD bX Z R=>?_;have bY:=E.size;have bZ:=Q.size;have z3:=K.size;have z4:=R.size;rw[aT ev.p rfl];have bE:=(aH.W K).aa R (λhe=>by have he:=he;omega);refine bt (g:=ak) (o:=0) aw.i Z.ls.cells.1 Z.ls.cells.2 bE Ξ λbF ac b0 ai=>?_;have ai:=ai;have bH:af (λr=>bG g gs A r\/r=ak) w bx:=(E.F (Q.X λr _ h=>.inl h)).F (K.aa _);have bI:af (λr=>bG g gs A r\/r=ak) w bD:=iS bH R λr f he=>by have he:r=gt:=he;omega
 have aJ:af (λr=>bG g gs A r\/r=ak) w bF:=bI.F (ac.X λr _ h=>.inr h);have bJ:¬(λr=>bG g gs A r\/r=ak) 1:=λh=>h.elim h1.1 λh=>av (h▸h1.2);obtain⟨m,rfl⟩:∃m:Nat,n=(m:Int):=⟨n.toNat,Ω⟩;unfold au at aE;refine(On (aP.aa aJ bJ) Ω).X ?_;rintro _ b1 _ ⟨rfl,S⟩;have b3:=xY 19 m Ω Ω;have b4:=Ea t H;rw[show(ByteArray.mk #[32])=strOfNums [32]from rfl,xU Θ,xU Θ,aM];refine bj _ _ ⟨t++[(m:Int)],bA,bB,(bb 0 (z-1) s1).map (·.2),?_,by simp[M],λx y=>?_,aJ.F (S.aa _),ai.W S,(Z.aa ac (λ_ he=>by have he:=he;omega)).W S,Ω,?_,?_⟩
 .rw[Mt,u9]
 .rcases o9.1 y with y|y
  .exact H x y
  .rw[b8.1 y];exact aE
 .refine dy.W ?_ S;have bK:=bs.W K;have bL:∀r,bG g gs A r->¬(λr=>r=gt) r:=λr f he=>by have:=ad r f;have he:r=gt:=he;omega
  have bM:∀r,cT g gs A B r->¬(λr=>r=gt) r:=λr f he=>by have:=bh r f.2;have he:r=gt:=he;omega
  have bN:∀r,bG g gs A r->¬(λr=>r=ak) r:=λr f he=>by have he:r=ak:=he;exact aq (he▸f)
  have bO:∀r,cT g gs A B r->¬(λr=>r=ak) r:=λr f he=>by have he:r=ak:=he;exact av (he▸f.2)
  exact(bK.aa R bL bM).aa ac bN bO
 .rw[he,X1 aB,show co[j]=z from(x4.1 Y).2,D9];cases e:bb 0 (z-1) s1 with
  |none=>rfl
  |some q=>
   rw[aD q e];rfl
def eb(s:aG):Prop:=s.big=rs->s.m1<=16384
def lx(n:Int)(s:aG):aG:=ba (decide (16384<min (s.m1+n) au)) {s with m1:=min (s.m1+n) au}
theorem Ot(n:Int)(s:aG):eb (lx n s):=λh=>by
 have h:(s.big||decide (16384<min (s.m1+n) au))=rs:=h;have:=of_decide_eq_false (Bool.or_eq_false_iff.1 h).2;show min (s.m1+n) au<=16384;omega
theorem Ou{g:Nat}{A B:ah}{s:Option aG}{z:Bool}{n:Int}{K:x3->Prop}(h:dy w g gs A B z s)(P:∀t,s=σ t->0<=n/\n<=au/\eb t)(L:∀I,af (bG g gs A) w I->dy I g gs A B z (s.map (lx n))->K I):
  ab x7 (bQ (Γ g)) w λQ=>
  ab x7 (u6 cF Q 2) w λR=>
  ab x7 (u4 ap R) w λS=>
  ab x7 (aO .add ap rs rs S (Δ n)) w λW=>
  ab x7 (j9.min_ #[ap,ap] ap #[W,(Δ 4611686018427387904)]) w λX=>
  ab x7 (bQ (Γ g)) w λY=>
  ab x7 (u6 cF Y 2) w λZ=>
  aC x7 (o7 ap Z X) w λ(_:Unit)q=>
  ab x7 (bQ (Γ g)) q λt77=>
  ab x7 (u6 cF t77 2) q λac=>
  ab x7 (u4 ap ac) q λad=>
  ab x7 (aO .gtr ap rs ro ad (Δ 16384)) q λae=>
  aj x7 sj [Γ g,ae,Δ at_] q λ_ ag=>K ag:=by
 cases s with
 |none=>
  obtain⟨U,e,big,C,E,m1,sv,l,x,y,G⟩:=id h;rw[aK cF.p 2 x rfl,aM,nJ,bR,aT cF.p rfl];refine bt (g:=g) (o:=5) ap.i rfl rfl x (by simp[jn]) λJ a ai f=>?_;rw[aK cF.p 2 f rfl,bL];have M:fq J g gs A B:=⟨U.aa a,e,big,C,E,_,sv,l,f,y,aq.aa G a λr _ h H=>u1 h U.2.1 H⟩;refine(Dx M).X ?_;rintro _ V _ N;exact L _ ((a.X λr _ h=>.inl h).F (N.aa _)) (M.W N)
 |some s=>
  obtain⟨aw,ak,hi⟩:=P s rfl;obtain⟨U,al,am,big,C,E,m1,sv,x,y,G⟩:=id h;rw[aK cF.p 2 x rfl,aM,nJ,bR,aT cF.p rfl];refine bt (g:=g) (o:=5) ap.i rfl rfl x (by simp[jn]) λJ a ai f=>?_;have f:=f;rw[aK cF.p 2 f rfl,bL];have key:s.big=rs->min (Y7.wrap (m1+n)) 4611686018427387904=min (s.m1+n) au:=λj=>by
   rw[y.2 j];have:=hi j;unfold au at ak ⊢;rw[lm Ω Ω]
  have an:ek J g gs A B {s with m1:=min (s.m1+n) au} z:=⟨U.aa a,al.aa a (λhe=>U.1 he.symm) (λr ao he=>ao.1 (.inl he)),⟨by show 0<=min _ _;unfold au;omega,by show min _ _<=_;omega,am.2.2⟩,big,C,E,_,sv,f,⟨y.1,key⟩,aq.aa G a λr _ h H=>u1 h U.2.1 H⟩;refine(va an).X ?_;rintro _ V _ ⟨av,O⟩;refine L _ ((a.F av).X λr _ h=>.inl h) ?_;have e:ba (decide (16384<min (Y7.wrap (m1+n)) 4611686018427387904)) {s with m1:=min (s.m1+n) au}=lx n s:=by
   cases j:s.big with
   |false=>rw[key j,<-j];rfl
   |true=>simp[lx,ba,j]
  rw[e]at O;exact O
def kc(co:Λ)(s:Option aG):Option (List (Λ×Int)×aG):=s.bind (dM co)
def mX(w:x3)(m:Nat)(acc:List (Λ×Int)):Prop:=dg w m (acc.map λp=>(cc (eQ p.1),Δ 1))
def l2(w:x3)(m:Nat):Prop:=∃d,dg w m d/\∀p∈d,∃(k:ByteArray)(c:Int),p=(.string k,Δ c)
theorem mX.any{m:Nat}{acc:List (Λ×Int)}(h:mX w m acc):l2 w m:=⟨_,h,λp a=>by
 obtain⟨q,_,rfl⟩:=o8.1 a;exact⟨_,_,rfl⟩⟩
theorem Ov{m:Nat}{k:ByteArray}(h:l2 w m)(f:∀c:Int,K (Δ c)):ab x7 (Instr.lookup iu (.map (σ m)) (.string k) rs) w K:=by
 obtain⟨d,hm,q⟩:=h;have hk:=Keys.str dd.u;have r:∀p∈d,∃s,p.1=x1.string s:=λp a=>by obtain⟨s,c,rfl⟩:=q p a;exact⟨s,rfl⟩
 by_cases he:∃p∈d,p.1=x1.string k
 .obtain⟨p,a,e⟩:=he;obtain⟨j,x⟩:=c9.1 a;obtain⟨s,c,rfl⟩:=q p a;have e:x1.string s=x1.string k:=e;rw[e]at x;rw[sM iu.u hk hm r ⟨k,rfl⟩ x];exact f c
 .have y:∀p∈d,p.1≠x1.string k:=λp a h=>he ⟨p,a,h⟩;rw[vg iu.u hk ⟨_,_,ae.i⟩ hm r ⟨k,rfl⟩ y];exact f 0
theorem Ow{m:Nat}{k:ByteArray}{K:Unit->x3->Prop}(h:l2 w m)(x:∀I,af (λr=>r=m) w I->l2 I m->K () I):aC x7 (Instr.mapUpdate iu (.map (σ m)) (.string k) (Δ c)) w K:=by
 obtain⟨d,hm,e⟩:=h;have y:∀p∈d,∃s,p.1=x1.string s:=λp a=>by obtain⟨s,c,rfl⟩:=e p a;exact⟨s,rfl⟩
 refine sN iu.u (Keys.str dd.u) hm y ⟨k,rfl⟩ (λj v0 I z f q=>x I q ⟨_,f,λp a=>?_⟩) (λI A f q=>x I q ⟨_,f,λp a=>?_⟩)
 .rcases T8 a with a|rfl
  .exact e p a
  .exact⟨_,_,rfl⟩
 .rcases o9.1 a with a|a
  .exact e p a
  .rw[b8.1 a];exact⟨_,_,rfl⟩
theorem Eb{b:Λ}(e:∀x∈a,0<=x)(f:∀x∈b,0<=x)(h:cc (eQ a)=cc (eQ b)):a=b:=by
 have h:=x1.string.inj h;exact CQ e f (str_inj (CR a) (CR b) h)
theorem yC{acc:List (Λ×Int)}:∀p∈acc.map λp=>(cc (eQ p.1),X2 .i64 1),∃s,p.1=x1.string s:=λp a=>by
 obtain⟨q,_,rfl⟩:=o8.1 a;exact⟨_,rfl⟩
theorem Ec{m:Nat}{acc:List (Λ×Int)}(h:mX w m acc)(f:∀p∈acc,∀x∈p.1,0<=x)(r:∀x∈t,0<=x):
  ab x7 (Instr.lookup iu (.map (σ m)) (cc (eQ t)) rs) w K=K (Δ (if t∈acc.map (·.1)then 1 else 0)):=by
 have hk:=Keys.str dd.u;by_cases he:t∈acc.map (·.1)
 .rw[m3 he];obtain⟨p,a,rfl⟩:=o8.1 he;obtain⟨j,s⟩:=c9.1 a;rw[sM iu.u hk h yC ⟨_,rfl⟩ (by rw[x8,s];rfl)];simp
 .rw[m5 he];rw[vg iu.u hk ⟨_,_,ae.i⟩ h yC ⟨_,rfl⟩ (λp a y=>?_)]
  .simp
  .obtain⟨q,e,rfl⟩:=o8.1 a;have:=Eb (f q e) r y;exact he (o8.2 ⟨q,e,this⟩)
theorem Ox{m:Nat}{acc:List (Λ×Int)}{K:Unit->x3->Prop}(h:mX w m acc)(z:∀p∈acc,∀x∈p.1,0<=x)(A:∀x∈t,0<=x)(B:t∉acc.map (·.1))(C:∀I,af (λr=>r=m) w I->mX I m (acc++[(t,c)])->K () I):aC x7 (Instr.mapUpdate iu (.map (σ m)) (cc (eQ t)) (Δ 1)) w K:=by
 refine sN iu.u (Keys.str dd.u) h yC ⟨_,rfl⟩ (λj v0 I e f s=>?_) (λI _ f s=>C I s ?_)
 .rw[x8]at e;obtain⟨q,y,a⟩:=Y0.1 e;have a:=congrArg Prod.fst a;have:=Eb (z q (x5 y)) A a;exact m6 (o8.2 ⟨q,x5 y,this⟩) B
 .unfold mX;rw[l7];exact f
theorem Oy{m:Nat}{acc:List (Λ×Int)}{ok:Prop}{K:Unit->x3->Prop}(e:l2 w m)(z:ok->mX w m acc/\(∀p∈acc,∀x∈p.1,0<=x)/\(∀x∈t,0<=x)/\t∉acc.map (·.1))(f:∀I,af (λr=>r=m) w I->l2 I m->(ok->mX I m (acc++[(t,c)]))->K () I):
  ab x7 (Instr.lookup iu (.map (σ m)) (cc (eQ t)) rs) w λA=>
  ab x7 (aO .add ae rs ro A (Δ 1)) w λB=>
  aC x7 (Instr.mapUpdate iu (.map (σ m)) (cc (eQ t)) B) w K:=by
 by_cases j:ok
 .obtain⟨h1,q,s,y⟩:=z j;rw[Ec h1 q s,m5 y,aM,lm Ω Ω];exact Ox h1 q s y λI a U=>f I a U.any λ_=>U
 .refine Ov e λiw=>?_;rw[aM];exact Ow e λI a U=>f I a U λh=>m6 h j
def fG{α:Type}(f:List α->aG->Option (α×aG))(n:Nat)(acc:List α)(o:Option aG):Option (List α×aG):=o.bind (c3 f n acc)
theorem l2.aa{m:Nat}(h:l2 w m)(a:af S w I)(e:¬S m):l2 I m:=by
 obtain⟨d,h1,f⟩:=h;exact⟨d,h1.aa a e,f⟩
theorem dy.words{g:Nat}{A:ah}{B:ah}{a:Bool}{s:aG}(h:dy w g gs A B a (σ s)):s.d8.length<=100000:=by
 have h:=h;exact h.2.1.words.1
theorem Ed{acc:List (Λ×Int)}{st:aG}(j:∀q,gn co [] (σ st)=σ q->t=q.1)(a:∀q,bb 0 au ((gn co [] (σ st)).map (·.2))=σ q->c=q.1):
  (bb 0 au ((gn co [] (σ st)).map (·.2))=ν->eP co acc st=ν)/\∀q,bb 0 au ((gn co [] (σ st)).map (·.2))=σ q->eP co acc st=if t∈acc.map (·.1)then ν else σ ((t,c),q.2):=by
 have e:gn co [] (σ st)=kC co [] st:=rfl;rw[e]at j a ⊢;unfold eP;cases h1:kC co [] st with
 |none=>exact⟨λ_=>rfl,λq f=>(by cases f)⟩
 |some q=>
  obtain⟨t',s1⟩:=q;rw[h1]at j a;have:=j _ rfl;subst this;have p:bb 0 au ((σ (t,s1)).map (·.2))=bc 0 au s1:=rfl;rw[p]at a ⊢;simp only;cases r:bc 0 au s1 with
  |none=>exact⟨λ_=>rfl,λq f=>(by cases f)⟩
  |some q=>
   obtain⟨s,s2⟩:=q;rw[r]at a;have:=a _ rfl;subst this;exact⟨λh=>(by cases h),λq f=>(by cases f;rfl)⟩
theorem Oz{g:Nat}{A B:ah}{s:Option aG}{Z:Bool}{Q:x1->x3->Prop}(h:dy w g gs A B Z s)(bW:aI .i64 w sv co)(aY:∀r,li sv r->¬bG g gs A r/\r<w.heap.size)(bX:∀z∈co,1<=z/\z<=au)(bZ:co.length<=100001)(b1:fj w)(h1:cT g gs A B 1)(b3:(N:Int)<=au)(br:∀v I l,gl w g gs A B Z ((fG (eP co) N [] s).map (·.2)) I->bM (fF w.heap.size) bT I [v] (show List (Λ×Int)from l)->(∀q,fG (eP co) N [] s=σ q->l=q.1)->Q v I):
  aC x7 (Instr.makeMap iu ν) w λaZ y=>
 b2 (.slice ν 0 0) (Δ 0) y λout i H k=>
  cz (α:=x1->x3->Prop) (λ(b4:x1)(U:x3)=>
   Split b4 (aC x7 (S5 ev ro (.tuple #[])) U λx j=>
  ab x7 (W0 #[aw] ae #[sv]) j λb5=>
  b2 (.string ⟨#[]⟩) (Δ 0) j λkey a1 V b7=>
   ab x7 (aO .lss ae rs rs a1 b5) V λb9=>
   Split b9 (ab x7 (j4 aw sv a1) V λca=>
   ab x7 (u4 ap ca) V λcb=>
   ab x7 (aO .sub ap rs ro cb (Δ 1)) V λcc=>
   aj x7 py [Γ g,(Δ 0),cc] V λbs ac=>
   ab x7 (c8 bs 0) ac λbu=>
   ab x7 (c8 bs 1) ac λdu=>
   ab x7 (u6 ev x 0) ac λcd=>
   ab x7 (u4 aw cd) ac λce=>
   aC x7 (Y1 aw 1 #[(0,bu)]) ac λcf J=>
   aC x7 (j6 #[aw,aw] aw #[ce,cf]) J λcg bw=>
   ab x7 (u6 ev x 0) bw λch=>
   aC x7 (o7 aw ch cg) bw λ(_:Unit)ci=>
   aj x7 xy [bu] ci λcj aE=>
   ab x7 (aO .add dd rs ro cj (.string ⟨#[32]⟩)) aE λck=>
   ab x7 (aO .add dd rs rs key ck) aE λcl=>
   ab x7 (aO .add ae rs ro a1 (Δ 1)) aE λcm=>
   b7 cl cm aE)
    (aj x7 py [Γ g,(Δ 0),(Δ 4611686018427387904)] V λbz aF=>
  ab x7 (c8 bz 0) aF λcn=>
  ab x7 (c8 bz 1) aF λcp=>
  ab x7 (u6 ev x 1) aF λcq=>
  aC x7 (o7 ap cq cn) aF λ(_:Unit)cr=>
  cz (α:=x3->Prop) (λ(W:x3)=>
   ab x7 (Instr.lookup iu aZ key rs) W λct=>
   ab x7 (aO .add ae rs ro ct (Δ 1)) W λcu=>
   aC x7 (Instr.mapUpdate iu aZ key cu) W λ(_:Unit)al=>
   ab x7 (u4 ev x) al λcw=>
   aC x7 (Y1 jW 1 #[(0,cw)]) al λcA az=>
   aC x7 (j6 #[jW,jW] jW #[out,cA]) az λcB aH=>
   ab x7 (aO .add ap rs ro i (Δ 1)) aH λcC=>
  k cB cC aH) λbA=>
  cz (α:=x1->x3->Prop) (λ(cD:x1)(O:x3)=>
   Split cD (aj x7 pz [Γ g,(Δ 4),cp] O λdv bC=>
    bA bC)
    (bA O)) λbD=>
  aj x7 mF [Γ g] cr λcE am=>
  Split cE (ab x7 (Instr.lookup iu aZ key rs) am λcF=>
  ab x7 (aO .gtr ae rs ro cF (Δ 0)) am λt131=>
  bD t131 am)
   (bD (.bool rs) am)))
    (Q out U)) λbE=>
  ab x7 (aO .lss ap rs rs i (Δ (N:Int))) H λcG=>
  Split cG (aj x7 mF [Γ g] H λcH cI=>
  bE cH cI)
   (bE (.bool rs) H):=by
 obtain⟨dw,dx,dz,cJ,aJ⟩:=h.side;have ad:∀r,bG g gs A r->r<w.heap.size:=cJ;unfold au at b3;refine vf λC y dA a2 a6=>?_;have dC:=a2.size;have dD:=a6.lt;generalize E:fG (eP co) N [] s=bF at br;refine⟨λout a7 H=>∃(i:Nat)(acc:List (Λ×Int))(so:Option aG),a7=Δ (i:Int)/\i<=N/\af (bG g gs A) w H/\y.heap.size<=H.heap.size/\bM (fF y.heap.size) bT H [out] acc/\dy H g gs A B Z so/\
   bF=fG (eP co) (N-i) acc so/\l2 H C/\acc.length<=100001/\∀st,so=σ st->mX H C acc/\(∀p∈acc,∀x∈p.1,0<=x)/\acc.length+st.d8.length<=100000,
  λ_ a7 _=>N-(b0 a7).toNat,⟨0,[],s,rfl,X7 _,a2.aa _,p9 _,iQ,h.W a2,E.symm,⟨[],a6,λp M=>(by cases M)⟩,Ξ,λst cK=>⟨a6,λp M=>(by cases M),?_⟩⟩,?_⟩
 .subst cK;have:=h.words;simpa using this
 rintro out _ H ⟨i,acc,so,rfl,dE,bH,z9,bI,a8,aK,cL,dF,ba⟩;refine aV (λv U=>Ext H U/\((v= .bool ro/\i<N/\∃st,so=σ st)\/(v= .bool rs/\(so=ν\/i=N)))) ?_ ?_
 rotate_left
 .intro ay bc;rw[aP,ai];refine⟨λcM=>?_,λdG=>bc _ _ ⟨Ext.refl _,.inr ⟨rfl,.inr Ω⟩⟩⟩;refine(rv a8).X ?_;rintro _ U _ ⟨rfl,P⟩;cases so with
  |none=>exact bc _ _ ⟨P,.inr ⟨rfl,.inl rfl⟩⟩
  |some st=>exact bc _ _ ⟨P,.inl ⟨rfl,Ω,st,rfl⟩⟩
 rintro _ U ⟨P,cN⟩;rcases cN with⟨rfl,cM,st,rfl⟩|⟨rfl,cO⟩
 rotate_left
 .rw[aX];have bJ:bF=so.map λst=>(acc,st):=by
   rcases cO with rfl|rfl
   .exact aK
   .rw[U5]at aK;rw[aK];cases so<;>rfl
  refine br out U acc (gl.mk (bH.F (P.aa _)) ?_) (b6 (aq.X bI (λr _ h=>by have h:y.heap.size<=r:=h;show w.heap.size<=r;omega) λ_ _ h=>h) P) (λq K=>?_)
  .rw[bJ,Option.map_map];have e:W6 ((λx=>x.2)∘λst=>(acc,st)) so=so:=by cases so<;>rfl
   rw[e];exact a8.W P
  .rw[bJ]at K;cases so with
   |none=>cases K
   |some st=>cases K;rfl
 rw[bY];obtain⟨ba,bd,dH⟩:=ba st rfl;have dI:=P.size;refine bx ev.i λak j dJ bK bN=>?_;have aA:=P.F bK;have be:af (bG g gs A) w j:=bH.F (aA.aa _);have bO:aI .i64 j sv co:=jk bW be λr f a n c cP cQ=>(aY r ⟨a,n,c,cP,cQ⟩).1 f;rw[aS aw.u bO];have aL:¬bG g gs A ak:=λE=>by have:=ad _ E;omega
 refine Oq (s:=σ st) (a8.W aA) bO (λr f=>⟨(aY r f).1,by have:=(aY r f).2;omega⟩) bX bZ (b1.aa be h1.1) h1 bN aL (λcR=>by have:=aJ _ cR;omega) λt V aN gt dK cS bP cU cV cW cX cY=>?_;have dL:=bK.size;have z12:=bP.size;have dM:=bN.lt;have bf:∀x∈t,0<=x:=λx cZ=>(cS x cZ).1;refine(n0 cX).X ?_;rintro _ ac _ ⟨bg,c,dN,rfl,c0,dO⟩;obtain⟨aQ,c1⟩:=bg.of;have dP:=aQ.size;rw[bo,bp,aT ev.p rfl];refine bt (g:=ak) (o:=1) ap.i rfl rfl (cU.aa aQ aL) Ξ λJ aR dQ bh=>?_;have bh:ag J ak ev [aN,Δ c]:=bh;have c2:ao .i64 ap J gt aN t:=(cV.aa aQ (λ_ E=>by have:=ad _ E;omega)).aa aR (λ_ he=>by have he:gt=ak:=he;omega);have bj:af (λr=>bG g gs A r\/r=ak) j J:=(bP.F (aQ.X λr _ h=>.inl h)).F (aR.X λr _ h=>.inr h);have X:dy J g gs A B Z ((bb 0 au ((gn co [] (σ st)).map (·.2))).map (·.2)):=c1.aa aR (λr f he=>by have he:r=ak:=he;exact aL (he▸f)) (λr f he=>by have:=aJ r f.2;have he:r=ak:=he;omega);have bQ:¬(λr=>bG g gs A r\/r=ak) C:=λh=>h.elim (λh=>by have:=ad _ h;omega) (λh=>Ω);have c3:l2 J C:=(cL.aa (aA.aa (λ_=>False)) (λh=>h)).aa bj bQ;have bR:mX J C acc:=(dg.W ba aA).aa bj bQ;obtain⟨bk,bl⟩:=Ed (acc:=acc) cY c0;refine dk (λW=>af (bG g gs A) J W/\dy W g gs A B Z ((eP co acc st).map (·.2))) ?_ ?_
 .rintro W ⟨an,c4⟩;have bm:¬bG g gs A C:=λh=>by have:=ad _ h;omega
  have dR:=aR.size;have dS:=an.size;refine Oy (acc:=acc) (t:=t) (c:=c) (ok:=∃q,eP co acc st=σ q) (c3.aa an bm) (λ⟨q,K⟩=>⟨dg.aa bR an bm,bd,bf,λS=>?_⟩) λal aB c5 c6=>?_
  .cases L:bb 0 au ((gn co [] (σ st)).map (·.2))with
   |none=>rw[bk L]at K;cases K
   |some av=>rw[bl av L,m3 S]at K;cases K
  have dT:=aB.size;have c7:ag al ak ev [aN,Δ c]:=(bh.aa an aL).aa aB (λhe=>by have he:ak=C:=he;omega);have c9:ao .i64 ap al gt aN t:=(c2.aa an (λ_ E=>by have:=ad _ E;omega)).aa aB (λ_ he=>by have he:gt=C:=he;omega);rw[bB ev.p ev.i rfl c7.range];have bS:bM (fF j.heap.size) bT al [aN,Δ c] (t,c):=⟨[aN],[Δ c],fF j.heap.size,bT,rfl,λ_ h=>h,λ_ h=>h.elim,λ_ _ _ h=>h,aq.X (pN c9) (λr _ h=>by subst h;exact cW) (λ_ _ h=>h),rfl⟩;refine lX (α:=Λ×Int) (a:=(t,c)) (cs:=[aN,Δ c]) (A:=fF j.heap.size) (R:=bT) jW.u ev.i Φ rfl bS λu az ax _ da=>?_;have z22:=ax.size;have db:bM (λr=>fF y.heap.size r/\r<j.heap.size/\r≠ak) bT j [out] acc:=b6 (aq.X (oH bI) (λr _ h=>⟨h.1,by have:=h.2;omega,by have:=h.2;omega⟩) λ_ _ h=>h) aA;have bU:af (λr=>bG g gs A r\/r=ak\/r=C) j az:=(((bj.X λr _ h=>h.elim .inl λh=>.inr (.inl h)).F (an.X λr _ h=>.inl h)).F (aB.X λr _ h=>.inr (.inr h))).F (ax.aa _);have dc:=aq.aa db bU λr f h E=>by
   rcases h with h|h
   .have aU:y.heap.size<=r:=h.1;rcases E with E|E|E
    .have:=ad _ E;omega
    .exact h.2.2 E
    .omega
   .exact h
  refine pM (α:=Λ×Int) (a:=(t,c)) (A:=fF j.heap.size) jW.u ev.i rfl dc da (b6 bS ax) (λr _ h bi=>?_) Ω Ω λdU aH de aD=>?_
  .rcases bi with bi|bi
   .have:=h.2;have:j.heap.size<=r:=bi;omega
   .exact bi
  have dV:=aD.size;rw[aM,lm Ω Ω];have df:af (bG g gs A) w az:=iS be bU λr f h=>by
   rcases h with h|h|h
   .exact h
   .omega
   .omega
  have dh:af (bG g gs A) w aH:=iS df aD λr f h=>by have aU:y.heap.size<=r:=h.1;omega
  have di:dy az g gs A B Z ((eP co acc st).map (·.2)):=(c4.aa aB (λr f he=>by have he:r=C:=he;exact bm (he▸f)) (λr f he=>by have:=aJ r f.2;have he:r=C:=he;omega)).W ax;have dj:∀r,bG g gs A r->¬(fF y.heap.size r/\r<j.heap.size/\r≠ak):=λr f he=>by have:=ad _ f;have aU:y.heap.size<=r:=he.1;omega
  have dl:∀r,cT g gs A B r->¬(fF y.heap.size r/\r<j.heap.size/\r≠ak):=λr f he=>by have:=aJ r f.2;have aU:y.heap.size<=r:=he.1;omega
  have bV:¬(fF y.heap.size C/\C<j.heap.size/\C≠ak):=λhe=>by have aU:y.heap.size<=C:=he.1;omega
  refine⟨⟨i+1,acc++[(t,c)],(eP co acc st).map (·.2),rfl,Ω,dh,Ω,?_,di.aa aD dj dl,?_,(c5.aa (ax.aa (λ_=>False)) (λh=>h)).aa aD bV,Θ,λdm dn=>?_⟩,by simp only[b0];omega⟩
  .refine aq.X de (λr _ h=>?_) λ_ _ h=>h;show y.heap.size<=r;rcases h with h|h|h
   .exact h.1
   .have h:j.heap.size<=r:=h;omega
   .omega
  .rw[aK,show N-i=(N-(i+1))+1 by omega];cases G:eP co acc st with
   |none=>exact rl G
   |some q=>
    obtain⟨a,dm⟩:=q;have dp:a=(t,c):=by
     cases L:bb 0 au ((gn co [] (σ st)).map (·.2))with
     |none=>rw[bk L]at G;cases G
     |some av=>
      rw[bl av L]at G;split at G
      .cases G
      .cases G;rfl
    subst dp;exact vc G
  .obtain⟨q,K,rfl⟩:=Y0.1 dn;have dW:=(pY K).2.2.2.1;refine⟨dg.aa ((dg.W (c6 ⟨q,K⟩) ax)) aD bV,λp M=>?_,by simp only[p8,T4];omega⟩;rcases o9.1 M with M|M
   .exact bd p M
   .rw[b8.1 M];exact bf
 .intro dX bn;cases L:bb 0 au ((gn co [] (σ st)).map (·.2))with
  |none=>
   rw[L]at X;have G:=bk L;refine aV (λv O=>Ext J O/\v= .bool rs) ?_ ?_
   .rintro _ O ⟨Y,rfl⟩;rw[aX];exact bn _ ⟨Y.aa _,by rw[G];exact X.W Y⟩
   .intro dq bq;refine(rv X).X ?_;rintro _ am _ ⟨rfl,aW⟩;rw[show((ν:Option (Int×aG)).map (·.2)).isSome=rs from rfl,aX];exact bq _ _ ⟨aW,rfl⟩
  |some av=>
   rw[L]at X;have G:=bl av L;refine aV (λv O=>Ext J O/\v= .bool (decide (t∈acc.map (·.1)))) ?_ ?_
   .rintro _ O ⟨Y,rfl⟩;rw[ai];refine⟨λS=>?_,λdr=>?_⟩
    .refine (Oo (X.W Y) Ω).X ?_;rintro _ bC _ bg;obtain⟨ds,dt⟩:=bg.of;exact bn _ ⟨(Y.aa _).F ds,by rw[G,m3 S];exact dt⟩
    .exact bn _ ⟨Y.aa _,by rw[G,m5 dr];exact X.W Y⟩
   .intro dq bq;refine(rv X).X ?_;rintro _ am _ ⟨rfl,aW⟩;rw[show((σ av:Option (Int×aG)).map (·.2)).isSome=ro from rfl,bY,Ec (dg.W bR aW) bd bf,bL];refine bq _ _ ⟨aW,?_⟩;congr 1;by_cases S:t∈acc.map (·.1)
    .rw[m3 S,m7 S];rfl
    .rw[m5 S,ms S];rfl
theorem Ee(co:Λ)(s:Option aG):kc co s=match bb (-au) au s with
 |none=>ν
 |some (n,s)=>
  if n<0 then match s.m2[(-n-1).toNat]? with
   |none=>ν
   |some (z,l)=>if z=co then σ (l,s)else ν
  else c3 (eP co) n.toNat [] (lx n s):=by
 cases s with
 |none=>rfl
 |some s=>
  show dM co s=_;unfold dM;show _=match bc (-au) au s with
   |none=>ν
   |some (n,s)=>
    if n<0 then match s.m2[(-n-1).toNat]? with
     |none=>ν
     |some (z,l)=>if z=co then σ (l,s)else ν
    else c3 (eP co) n.toNat [] (lx n s)
  cases bc (-au) au s<;>rfl
theorem Ef{m:Bool}{S R:ah}{cs:List x1}{a:l0}(h:aq.rep (α:=l0) m S R w cs a):∃u v,cs=[u,v]/\aq.rep (α:=Λ) rs bT R w [u] a.1/\aq.rep (α:=List (Λ×Int)) rs bT R w [v] a.2:=by
 obtain⟨c,d,f,j,rfl,_,_,_,h1,e⟩:=h;have h1:=h1;have e:=e;obtain⟨u,rfl⟩:=X6.1 (show c.length=1 from aq.len h1);obtain⟨v,rfl⟩:=X6.1 (show d.length=1 from aq.len e);exact⟨u,v,rfl,h1,e⟩
theorem OA{g:Nat}{A B:ah}{s:Option aG}{O:Bool}(h:dy w g gs A B O s)(hi:∀t,s=σ t->eb t)(av:aI .i64 w sv co)(ae:∀r,li sv r->¬bG g gs A r/\r<w.heap.size)(aw:∀z∈co,1<=z/\z<=au)(aA:co.length<=100001)(aB:fj w)(h1:cT g gs A B 1):
  aj x7 JH [Γ g,sv] w λv I=>gl w g gs A B O ((kc co s).map (·.2)) I/\∃l,Seen (λr=>cT g gs A B r\/w.heap.size<=r) I [v] (show List (Λ×Int)from l)/\∀q,kc co s=σ q->l=q.1:=by
 have aC:=h.side;obtain⟨a8,ba,bc,aD,bd⟩:=id aC;have ad:∀r,bG g gs A r->r<w.heap.size:=aD;refine az func121 ?_;refine(n0 (lo:=-au) (hi:=au) h).X ?_;rintro _ J _ ⟨aE,n,at_,rfl,P,be⟩;obtain⟨H,ag⟩:=aE.of;have bf:=H.size;have j:=Ee co s;rw[bo,bp];have ak:=jk av H λr Q a n c K R=>(ae r ⟨a,n,c,K,R⟩).1 Q;have bg:∀r,li sv r->¬bG g gs A r/\r<J.heap.size:=by grind
 have rest:∀V,Ext J V->(∀q,bb (-au) au s=σ q->¬n<0)->∀N:Nat,n=(N:Int)->(N:Int)<=au->∀x,af (bG g gs A) V x->dy x g gs A B O (((bb (-au) au s).map (·.2)).map (lx n))->
   ∀v I l,gl x g gs A B O ((fG (eP co) N [] (((bb (-au) au s).map (·.2)).map (lx n))).map (·.2)) I->bM (fF x.heap.size) bT I [v] (show List (Λ×Int)from l)->(∀q,fG (eP co) N [] (((bb (-au) au s).map (·.2)).map (lx n))=σ q->l=q.1)->
   gl w g gs A B O ((kc co s).map (·.2)) I/\∃l,Seen (λr=>cT g gs A B r\/w.heap.size<=r) I [v] (show List (Λ×Int)from l)/\∀q,kc co s=σ q->l=q.1:=by
  intro V y L N S U x E W v I l aF aH aJ;obtain⟨aL,aM⟩:=aF.of;have aN:=y.size;have z3:=E.size;have e:kc co s=fG (eP co) N [] (((bb (-au) au s).map (·.2)).map (lx n)):=by
   rw[j];cases f:bb (-au) au s with
   |none=>rfl
   |some q=>
    obtain⟨aO,s1⟩:=q;have:=P _ f;subst this;simp only;rw[m5 (L _ f),S,u9];rfl
  rw[e];refine⟨gl.mk (((H.F (y.aa _)).F E).F aL) aM,l,ss aH λr _ h=>?_,aJ⟩
  grind
 refine aV (λv V=>Ext J V/\v= .bool (decide (n<0/\(bb (-au) au s).isSome=ro))) ?_ ?_
 rotate_left
 .intro ay X;refine(rv ag).X ?_;rintro _ V _ ⟨rfl,y⟩;cases f:bb (-au) au s with
  |none=>
   rw[show((ν:Option (Int×aG)).map (·.2)).isSome=rs from rfl,aX]
   grind
  |some q=>
   rw[show((σ q:Option (Int×aG)).map (·.2)).isSome=ro from rfl,bY,aP]
   grind
 rintro _ V ⟨y,rfl⟩;have G:=ag.W y;have aN:=y.size;rw[ai];refine⟨λL=>?_,λbh=>?_⟩
 rotate_left
 .have L:∀q,bb (-au) au s=σ q->¬n<0:=by grind
  obtain⟨N,S,U⟩:∃N:Nat,n=(N:Int)/\(N:Int)<=au:=by
   cases f:bb (-au) au s with
   |none=>grind [au]
   |some q=>
    have h1:=L q f;have aQ:=oT f
    grind
  refine Ou G (λt aR=>?_) λx E W=>?_
  .obtain⟨q,f,rfl⟩:=Y0.1 aR;have aQ:=oT f;have bi:=P q f;refine⟨Ω,Ω,?_⟩;cases s with
   |none=>cases f
   |some s0=>
    have al:=(ds f).eqs;have am:=hi s0 rfl;intro an;rw[al.1];rw[al.2.1]at an;exact am an
  .have z3:=E.size;have aS:af (bG g gs A) w x:=(H.F (y.aa _)).F E;subst S;refine Oz W ((jk (ak.W y) E λr Q a n c K R=>(ae r ⟨a,n,c,K,R⟩).1 Q)) (by grind) aw aA (aB.aa aS h1.1) h1 U λv I l a b c=>?_;exact rest V y L N rfl U x E W v I l a b c
 .obtain⟨aU,aW⟩:=L;obtain⟨⟨aO,s1⟩,f⟩:=Option.isSome_iff_exists.1 aW;have:=P _ f;subst this;have bj:=oT f;rw[f]at j G;simp only at j;rw[m3 aU]at j;have G:=G;obtain⟨_,am,bk,big,bl,bm,m1,bn,Y,bq,Z⟩:=id G;have br:au=4611686018427387904:=rfl;refine aV (λv x=>Ext V x/\v= .bool (decide (kc co s=ν))) ?_ ?_
  .rintro _ x ⟨C,rfl⟩;rw[ai];refine⟨λaY=>?_,λaZ=>?_⟩
   .refine (u3 (G.W C) Ω).X ?_;rintro _ bs _ ⟨a1,a2⟩;rw[aY];refine⟨gl.mk (((H.F (y.aa _)).F (C.aa _)).F (a1.X λr _ h=>.inl h)) a2,[],iQ,by grind⟩
   .cases M:s1.m2[(-n-1).toNat]? with
    |none=>rw[M]at j;exact m6 j aZ
    |some q=>
     obtain⟨z,l⟩:=q;rw[M]at j;simp only at j;have a6:z=co:=by
      grind
     rw[m3 a6]at j;rw[aK cF.p 3 (Y.W C) rfl,nI,lm Ω Ω,dR,lm Ω Ω];refine nR (i:=(-n-1).toNat) Ω iM.u ld.i (b6 Z C) M λb o cs ab ac=>?_;obtain⟨u,v,rfl,ao,K⟩:=Ef ac;rw[aT ld.p rfl,ax Ψ (ab 1 v rfl)];rw[j];refine⟨gl.mk ((H.F (y.aa _)).F (C.aa _)) (G.W C),l,ss K λr _ h=>?_,by grind⟩
     grind
  .intro ay X;rw[nI,lm Ω Ω,aK cF.p 3 Y rfl,kB iM.u Z,bL,ai];refine⟨λap=>X _ _ ⟨Ext.refl _,?_⟩,λaq=>?_⟩
   .have ap:(s1.m2.length:Int)<0-n:=ap;rw[Z9 Ω]at j;rw[m7 j]
   .have aq:¬(s1.m2.length:Int)<0-n:=aq;have a7:(-n-1).toNat<s1.m2.length:=Ω
    obtain⟨⟨z,l⟩,M⟩:∃q,s1.m2[(-n-1).toNat]?=σ q:=⟨_,x6 a7⟩;rw[aK cF.p 3 Y rfl,nI,lm Ω Ω,dR,lm Ω Ω];refine nR (i:=(-n-1).toNat) Ω iM.u ld.i Z M λb o cs ab ac=>?_;obtain⟨u,v,rfl,ao,K⟩:=Ef ac;rw[aT ld.p rfl,ax Ψ (ab 0 u rfl)];refine(Cq (fw ao) (ak.W y)).X ?_;rintro _ x _ ⟨rfl,C⟩;rw[bA];refine X _ _ ⟨C,?_⟩;rw[M]at j;simp only at j;by_cases bt:z=co
    all_goals grind
abbrev rx(n:Nat):ah:=λr=>r<n
def sX(n:Int)(k:Nat)(s:Option aG):Option (Λ×aG):=s.bind (ff n k)
theorem OB{g k:Nat}{A B:ah}{s:Option aG}{m:Int}(h:dy w g gs A B f s)(hk:k<=4611686018427387904)(hm:0<=m/\m<=1000000):
  aj x7 BJ [Γ g,Δ (k:Int),Δ m] w λv I=>gl w g gs A B f ((sX m k s).map (·.2)) I/\
   ∃gr l,ao .i64 ap I gr v l/\(∀r,li v r->w.heap.size<=r)/\l.length<=100001/\∀q,sX m k s=σ q->l=q.1:=by
 cases s with
 |some s=>exact Ng h hk hm
 |none=>
  have h:=h;refine az func119 ?_;refine⟨λout p J=>w=J/\out= .slice ν 0 0/\p=Δ 0,λ_ _ _=>0,⟨rfl,rfl,rfl⟩,?_⟩;rintro _ _ _ ⟨rfl,rfl,rfl⟩;refine aV (λv V=>Ext w V/\v= .bool rs) ?_ ?_
  .rintro _ V ⟨e,rfl⟩;rw[aX];exact⟨gl.mk (e.aa _) (h.W e),0,[],ao.nil _ _ _ _,λr x=>m6 x (λh=>by obtain⟨a,n,c,h,_⟩:=h;cases h),Ξ,λq y=>by cases y⟩
  .intro ay j;rw[aP,ai];refine⟨λ_=>?_,λ_=>j _ _ ⟨Ext.refl _,rfl⟩⟩;refine(pZ h).X ?_;rintro _ V _ ⟨rfl,e⟩;exact j _ _ ⟨e,rfl⟩
def vn(z:Λ)(l:List (Λ×Int))(s:aG):aG:={s with m2:=s.m2++[(z,l)]}
def Eg(w:x3)(g gs:Nat):Prop:=∃(e big a f m1:Int)(sv:x1),ag w g cF (jn gs e big a f m1 sv)/\e≠0
def iW(w:x3)(g gs:Nat)(A:ah)(B:ah)(a:Bool)(s:Option aG):Prop:=match s with
 |some s=>ek w g gs A B s a
 |none=>Eg w g gs
theorem dy.q{g:Nat}{A:ah}{B:ah}{a:Bool}{s:Option aG}(h:dy w g gs A B a s):iW w g gs A B a s:=by
 cases s with
 |some s=>exact h
 |none=>
  obtain⟨_,e,big,f,j,m1,sv,l,p,r,_⟩:=h;exact⟨e,big,f,j,m1,sv,p,r.1⟩
theorem iW.aa{g:Nat}{A:ah}{B:ah}{a:Bool}{s:Option aG}(h:iW w g gs A B a s)(f:af S w I)(p:¬S g)(q:∀r,bG g gs A r->r<w.heap.size->¬S r)(x:∀r,cT g gs A B r->¬S r):iW I g gs A B a s:=by
 cases s with
 |some s=>
  have h:=h;exact ek.aa h f (λr j=>q r j (h.1.2.2.2.1 r j)) x
 |none=>
  obtain⟨e,big,y,z,m1,sv,C,E⟩:=h;exact⟨e,big,y,z,m1,sv,C.aa f p,E⟩
theorem iW.W{g:Nat}{A:ah}{B:ah}{a:Bool}{s:Option aG}(h:iW w g gs A B a s)(e:Ext w I):iW I g gs A B a s:=h.aa (e.aa λ_=>False) (λh=>h) (λ_ _ _ h=>h) (λ_ _ h=>h)
theorem Eh{g:Nat}{A:ah}{B:ah}{s:Option aG}{a:Bool}(h:iW w g gs A B a s):aj x7 mF [Γ g] w λv I=>v= .bool s.isSome/\Ext w I:=by
 cases s with
 |none=>
  obtain⟨e,big,q,r,m1,sv,f,j⟩:=h;refine(yk f).X ?_;rintro _ J _ ⟨rfl,p⟩;exact⟨by rw[ms j];rfl,p⟩
 |some s=>exact rk h
theorem iT.aZ{g:Nat}{R':Nat->Prop}(h:iT w g R d8 f)(j:af S w I)(s:¬S g)(x:∀r,R r->¬S r)(y:∀r,R r->R' r):iT I g R' d8 f:=by
 obtain⟨z,p,a,⟨h1,A,B,C,bu,E⟩,q,F⟩:=h;exact⟨z,p,a,⟨h1,A,B,C.aa j s,bu,bk E j λr e=>x r (q r e)⟩,λr e=>y r (q r e),F⟩
theorem n1{α:Type}[aq α]{m:Bool}{S R:ah}{v:x1}{l:List α}(h:aq.rep m S R w [v] l):∃a n c,v= .slice a n c:=by
 obtain⟨vs,e,F,f,he,U,hm⟩:=kA h;obtain⟨j,b,o,base,cap,rfl,_⟩:=U;exact⟨_,_,_,rfl⟩
def n2(w:x3)(g gs:Nat)(A:ah)(B:ah)(R:ah)(a:Bool)(s:Option aG):Prop:=match s with
 |some s=>mU w g gs A B/\iT w gs R s.d8 a/\(0<=s.m1/\s.m1<=au/\s.m2.length+s.d8.length<=100000)/\
  ∃big e f m1 sv,ag w g cF (jn gs 0 big e f m1 sv)/\((s.big=ro↔big≠0)/\(s.big=rs->m1=s.m1))/\bM A R w [sv] (show List l0 from s.m2)
 |none=>Eg w g gs
theorem n2.aa{g:Nat}{A R:ah}{B:ah}{x:Bool}{s:Option aG}(h:n2 w g gs A B R x s)(a:af S w I)(y:¬S g)(z:∀r,bG g gs A r->r<w.heap.size->¬S r)(C:∀r,R r->¬S r):n2 I g gs A B R x s:=by
 cases s with
 |some s=>
  obtain⟨h1,E,F,big,f,j,m1,sv,p,q,G⟩:=h;have H:=h1.2.2.2.1;exact⟨h1.aa a,E.aa a (z gs (.inr (.inl rfl)) (H _ (.inr (.inl rfl)))) C,F,big,f,j,m1,sv,p.aa a y,q,aq.aa G a λr J h=>h.elim (λh=>z r (.inr (.inr h)) J) (C r)⟩
 |none=>
  obtain⟨e,big,f,j,m1,sv,p,q⟩:=h;exact⟨e,big,f,j,m1,sv,p.aa a y,q⟩
theorem n2.out{g:Nat}{A R B e:ah}{s:Option aG}(h:n2 w g gs A B R f s)(j:∀r,R r->cT g gs A e r)(q:∀r,e r->r<w.heap.size):iW w g gs A e f s:=by
 cases s with
 |some s=>
  obtain⟨⟨x,y,z,C,P⟩,⟨E,p,a,F,G,H⟩,I,big,J,K,m1,sv,L,M,N⟩:=h;exact⟨⟨x,y,z,C,q⟩,⟨E,p,a,F,λr O=>j r (G r O),H⟩,I,big,J,K,m1,sv,L,M,aq.X N (λ_ _ h=>h) λr _ h=>j r h⟩
 |none=>exact h
theorem dy.qr{g:Nat}{A R:ah}{B:ah}{y:Bool}{s:Option aG}(h:dy w g gs A B y s)(z:∀r,cT g gs A B r->R r):n2 w g gs A B R y s:=by
 cases s with
 |some s=>
  obtain⟨h1,⟨C,p,a,E,F,G⟩,H,big,f,j,m1,sv,q,x,I⟩:=h;exact⟨h1,⟨C,p,a,E,λr J=>z r (F r J),G⟩,H,big,f,j,m1,sv,q,x,aq.X I (λ_ _ h=>h) λr _ h=>z r h⟩
 |none=>
  obtain⟨_,e,big,f,j,m1,sv,l,q,x,_⟩:=h;exact⟨e,big,f,j,m1,sv,q,x.1⟩
theorem OC{g:Nat}{A B R:ah}{s:Option aG}{O:Bool}{aJ aA u v:x1}{z:Λ}{l:List (Λ×Int)}{K:x3->Prop}(h:dy w g gs A B O s)(P:∀r,cT g gs A B r->R r)(aj:∀r,R r->cT g gs A (rx w.heap.size) r)(ak:∀t,s=σ t->t.m2.length+1+t.d8.length<=100000)(al:ag w N cn [aJ,u,aA,v])(am:aq.rep (α:=Λ) rs bT R w [u] z)(ao:aq.rep (α:=List (Λ×Int)) rs bT R w [v] l)(aB:∀I aH,af (bG g gs A) w I->(∀r,aH r->A r\/w.heap.size<=r)->n2 I g gs aH (rx w.heap.size) R O (s.map (vn z l))->K I):
  ab x7 (bQ (Γ g)) w λQ=>
  ab x7 (u6 cF Q 3) w λS=>
  ab x7 (u4 iM S) w λap=>
  ab x7 (u6 cn (Γ N) 1) w λt76=>
  ab x7 (u4 aw t76) w λt77=>
  ab x7 (u6 cn (Γ N) 3) w λaD=>
  ab x7 (u4 jW aD) w λaE=>
  ab x7 (Instr.build ld #[(0,t77),(1,aE)]) w λaF=>
  aC x7 (Y1 iM 1 #[(0,aF)]) w λaI F=>
   (Ext w F\/cE x7 (u4 iM S) ap F/\cE x7 (u6 cF Q 3) S F/\cE x7 (bQ (Γ g)) Q F/\True)/\
   aC x7 (j6 #[iM,iM] iM #[ap,aI]) F λaL W=>
    ab x7 (bQ (Γ g)) W λaM=>
    ab x7 (u6 cF aM 3) W λaN=>
    aC x7 (o7 iM aN aL) W λ(_:Unit)aO=>K aO:=by
 obtain⟨aP,e,big,j,q,m1,sv,H,y,L,a7,aR⟩:mU w g gs A B/\∃e big j q m1 sv,∃H:List l0,ag w g cF (jn gs e big j q m1 sv)/\bM A R w [sv] H/\H.length<=100000/\
   ∀I aH C,mU I g gs aH (rx w.heap.size)->af (λr=>A r\/r=g) w I->ag I g cF (jn gs e big j q m1 C)->bM aH R I [C] (H++[((z,l):l0)])->n2 I g gs aH (rx w.heap.size) R O (s.map (vn z l)):=by
  cases s with
  |none=>
   obtain⟨h1,e,big,j,q,m1,sv,fx,X,M,Y⟩:=h;exact⟨h1,e,big,j,q,m1,sv,fx,X,aq.X Y (λ_ _ h=>h) λr _ h=>P r h,M.2,λI aH C U _ y L=>⟨e,big,j,q,m1,C,y,M.1⟩⟩
  |some s=>
   obtain⟨h1,aS,au,big,j,q,m1,sv,X,M,Y⟩:=h;have ak:=ak s rfl;refine⟨h1,0,big,j,q,m1,sv,s.m2,X,aq.X Y (λ_ _ h=>h) λr _ h=>P r h,(show s.m2.length<=100000 by omega),λI aH C U aU y L=>⟨U,?_,⟨au.1,au.2.1,?_⟩,big,j,q,m1,C,y,M,L⟩⟩
   .exact iT.aZ aS aU (λhe=>he.elim h1.2.2.1 λh=>h1.1 h.symm) (λr f he=>he.elim (λh=>f.1 (.inr (.inr h))) λh=>f.1 (.inl h)) P
   .show (s.m2++[(z,l)]).length+s.d8.length<=100000;simp;omega
 obtain⟨aV,Z,aW,av,a8⟩:=id aP;rw[aK cF.p 3 y rfl,aQ cn.p 1 al rfl,aQ cn.p 3 al rfl];rw[dw (cs:=#[u,v]) (by obtain⟨_,_,_,rfl⟩:=n1 am;obtain⟨_,_,_,rfl⟩:=n1 ao;kernel_rfl)];have ax:bM (λ_=>False) R w [u,v] ((z,l):l0):=⟨[u],[v],bT,bT,rfl,λ_ h=>h,λ_ h=>h,λ_ _ h _=>h,am,ao⟩;refine lX (α:=l0) (a:=(z,l)) (R:=R) iM.u ld.i Φ rfl ax λx J E _ aX=>?_;have ba:=E.size;refine⟨.inl E,?_⟩;refine pM iM.u ld.i rfl (b6 L E) aX (b6 ax E) (λr _ aY G=>?_) Ω Ω λa1 V ac ad=>?_
 .rcases G with G|G
  .exact G
  .exact (aj r G).1 (.inr (.inr aY))
 have bb:=ad.size;have a2:=(y.W E).aa ad Z;rw[bR,aT cF.p rfl];refine bt (g:=g) (o:=6) iM.i (su ac) (nQ ac) a2 (by simp[jn]) λae ay bc ai=>?_;have ai:=ai;have az:af (λr=>A r\/r=g) w ae:=((E.aa _).F (ad.X λr _ h=>.inl h)).F (ay.X λr _ h=>.inr h);let aH:ah:=λr=>(A r\/w.heap.size<=r)/\r<V.heap.size;have bd:g<w.heap.size:=av g (.inl rfl);have be:=av gs (.inr (.inl rfl));have a6:=aq.X (S':=aH) (R':=R) ac (λr f h=>⟨h.elim .inl λh=>h.elim False.elim λh=>.inr Ω,f⟩) (λr f h=>h);refine aB ae aH (az.X λr _ h=>h.elim (λh=>.inr (.inr h)) .inl) (λr f=>f.1) (aR ae aH a1 ⟨aV,λh=>h.1.elim Z λh=>Ω,λh=>h.1.elim aW λh=>Ω,λr f=>?_,?_⟩ az ai (aq.aa a6 ay λr f an he=>?_))
 .rcases f with rfl|rfl|f
  .omega
  .omega
  .have:=f.2;omega
 .intro r f;have f:r<w.heap.size:=f;omega
 .have he:r=g:=he;subst he;rcases an with an|an
  .exact an.1.elim Z λh=>Ω
  .exact (aj _ an).1 (.inl rfl)
theorem OD{e:Nat}{aJ E:x1}{all:Λ}{N:x3->Prop}(O:ag w e cn [aJ,.slice ν 0 0,Δ 0,.slice ν 0 0])(P:aI .i64 w aJ scope)(Y:∀r,li aJ r->r≠e)(Z:aI .i64 w E all)(ac:∀r,li E r->r≠e)(ad:∀v∈scope,0<=v/\v<all.length)(aH:scope.length<=100001)(ah:∀I d9 gz,af (λr=>r=e) w I->ag I e cn [aJ,d9,Δ 0,.slice ν 0 0]->ao .i64 ap I gz d9 (scope.map λv=>all.getD v.toNat 0)->w.heap.size<=gz->N I):
 cm (Δ 0) w λF s k=>
  ab x7 (aO .lss ae rs rs F (Δ (scope.length:Int))) s λaj=>
  Split aj (ab x7 (j4 aw aJ F) s λak=>
  ab x7 (u4 ap ak) s λal=>
  eu s λf=>
  ab x7 (u6 cn (Γ e) 1) f λt39=>
  ab x7 (u4 aw t39) f λQ=>
  ab x7 (j4 aw E al) f λam=>
  ab x7 (u4 ap am) f λan=>
  aC x7 (Y1 aw 1 #[(0,an)]) f λt45 z=>
   (Ext f z\/cE x7 (u4 aw t39) Q z/\cE x7 (u6 cn (Γ e) 1) t39 z/\True)/\
  aC x7 (j6 #[aw,aw] aw #[Q,t45]) z λt46 R=>
   ab x7 (u6 cn (Γ e) 1) R λaq=>
   aC x7 (o7 aw aq t46) R λ(_:Unit)S=>
    ab x7 (aO .add ae rs ro F (Δ 1)) S λau=>
  k au S) (N s):=by
 have aK:=O.lt;refine cm.range scope.length (λi J=>af (λr=>r=e) w J/\∃d9 gz,ag J e cn [aJ,d9,Δ 0,.slice ν 0 0]/\ao .i64 ap J gz d9 ((scope.take i).map λv=>all.getD v.toNat 0)/\w.heap.size<=gz) P.le ⟨af.refl _ _,_,w.heap.size,O,ao.nil _ _ _ _,p9 _⟩ ?_ ?_
 rotate_left
 .rintro J av ⟨j,d9,gz,A,B,U⟩;rw[o6]at B;rw[aP,ai];exact⟨λh=>Ω,λ_=>ah J d9 gz j A B U⟩
 rintro i J av hi ⟨j,d9,gz,A,B,U⟩ ax;obtain⟨v,G⟩:=aF (l:=scope) hi;have aL:=ad v (x5 G);have ay:all[v.toNat]?=σ (all.getD v.toNat 0):=by
  rw[u5,x6 Ω];rfl
 have az:=jk P j λr C a n c H K=>Y r ⟨a,n,c,H,K⟩ C;have aA:=jk Z j λr C a n c H K=>ac r ⟨a,n,c,H,K⟩ C;refine bC Ω ?_;rw[be aw.u ap.i Ψ az G];intro V q _ _;have aN:=j.size;have aR:=q.size;rw[aQ cn.p 1 (A.W q) rfl];rw[fm (y:=v) (i:=v.toNat) Ω aw.u ap.i Ψ (aA.W q) ay];refine dr aw.u ap.i rfl λa ga aS aU x aB=>?_;refine⟨.inl x,?_⟩;have z3:=x.size;refine jD aw.u ap.i rfl ((B.W q).W x) aB.ls Θ Θ λaD aE aV aW L W=>?_;rw[aT cn.p rfl];have aG:=((A.W q).W x).aa W (λhe=>by have he:=he;omega);refine bt (g:=e) (o:=1) aw.i L.ls.cells.1 L.ls.cells.2 aG Ξ λaX X aY M=>?_;have M:=M;rw[aM];refine ax _ ⟨(iS (j.F ((q.F x).aa _)) W λr C he=>by have he:r=gz:=he;omega).F X,aD,aE,M,?_,Ω⟩;rw[u7,G,l9,l7];exact L.aa X (λ_ he=>by have he:=he;omega)
abbrev jJ:Type:=Rd (Λ)×Rd (Λ)×Int×Rd (List (Λ×Int))
def iX(f:cq):jJ:=(f.scope,f.co,f.other,f.lines)
theorem Ei{R:ah}{aJ d9 cr:x1}{o:Int}{sc:Λ}{l:List (Λ×Int)}(h1:aq.rep (α:=Λ) rs bT R w [aJ] sc)(e:aq.rep (α:=Λ) rs bT R w [d9] a)(f:aq.rep (α:=List (Λ×Int)) rs bT R w [cr] l):
  Seen R w [aJ,d9,Δ o,cr] ((sc,a,o,l):jJ):=
 ⟨[aJ],[d9,Δ o,cr],bT,bT,rfl,λ_ h=>h,λ_ h=>h,λ_ _ h _=>h,h1,[d9],[Δ o,cr],bT,bT,rfl,λ_ h=>h,λ_ h=>h,λ_ _ h _=>h,e,[Δ o],[cr],bT,bT,rfl,λ_ h=>h,λ_ h=>h,λ_ _ h _=>h,rfl,f⟩
theorem sY{R:ah}{g:Nat}{v:x1}{e:r9}(h:ao .i64 e w g v l)(q:∀r,li v r->R r):aq.rep (α:=Λ) rs bT R w [v] l:=by
 have h1:bM (λr=>r=g) bT w [v] l:=pN h;obtain⟨vs,s,F,E,he,U,hm⟩:=kA h1;refine⟨v,rfl,vs,s,λ_ _=>False,⟨λ_ _ h=>h,λh=>(by cases h),λh=>by cases h⟩,⟨he.1,λi c a x y=>?_⟩,?_,λh=>by cases h⟩
 .exact he.2 i c a x y
 .obtain⟨f,b,o,base,cap,rfl,z,A,j,G,B⟩:=U;refine⟨f,b,o,base,cap,rfl,z,A,j,λp=>.inr (q b ?_),B⟩;have C:0<l.length:=by
   rw[f]at p;rcases Nat.eq_zero_or_pos l.length with h|h
   .rw[h,Nat.zero_mul]at p;omega
   .exact h
  exact⟨⟨b,o,ν⟩,l.length,cap,by rw[j C],rfl⟩
theorem Ej{α:Type}[aq α]{R R':ah}{cs:List x1}{a:α}(h:Seen R w cs a)(e:∀r,r<w.heap.size->R r->R' r):Seen R' w cs a:=aq.X h (λ_ _ h=>h) e
theorem Ek{f a:Nat}{cs:List x1}{K:x1->x3->Prop}(e:cs.length=4)(h1:∀v∈cs,v.oneCell'=ro)(q:ag w f cn cs){h:List x1}(s:h.length=4)(x:ag w a cn h)(y:∀I,af (λr=>r=a) w I->K (.agg cs.toArray) I):
  ab x7 (u4 cn (Γ f)) w λz=>
  aC x7 (o7 cn (Γ a) z) w λ(_:Unit)j=>
  ab x7 (do loadVar cn (<-asAddr (Γ a))) j λA=>K A j:=by
 rw[bB cn.p cn.i e q.range];refine cb cn.i e s h1 x λI B _ C=>?_;rw[fD cn.p cn.i e C.range];exact y I B
theorem El{s s':aG}{l:List (Λ×Int)}(h:dM co s=σ (l,s')):s'.m2=s.m2/\s'.d8.length<=s.d8.length:=by
 unfold dM at h;cases e:bc (-au) au s with
 |none=>rw[e]at h;cases h
 |some q=>
  obtain⟨n,s1⟩:=q;rw[e]at h;simp only at h;have h1:=ds e;obtain⟨r,w,f⟩:=h1.eqs;split at h
  .cases U:s1.m2[(-n-1).toNat]? with
   |none=>rw[U]at h;cases h
   |some q=>
    obtain⟨z,fx⟩:=q;rw[U]at h;simp only at h;split at h
    .simp only[Y8,T2]at h;obtain⟨rfl,rfl⟩:=h;exact⟨f,by have:=h1.1;omega⟩
    .cases h
  .have:=kH (λacc t=>t.m2=s.m2/\t.d8.length<=s.d8.length) (λacc t a t' ⟨p,x⟩ g=>by
    obtain⟨y,A,B,j⟩:=pY g;obtain⟨f1,f2,f3⟩:=j.eqs;exact⟨by rw[f3,p],by have:=j.1;omega⟩) n.toNat [] (ba (decide (16384<min (s1.m1+n) au)) {s1 with m1:=min (s1.m1+n) au}) l s' ⟨f,by have:=h1.1;show s1.d8.length<=_;omega⟩ h
   exact this.1
theorem OE{g:Nat}{A B:ah}{s:aG}{U:Bool}{a8:x1}{all:Λ}(h:ek w g gs A B s U)(hi:eb s)(bJ:aI .i64 w a8 all)(bd:∀r,li a8 r->¬bG g gs A r/\r<w.heap.size)(ch:∀z∈all,1<=z/\z<=au)(dg:all.length<=100001)(ci:fj w)(h1:cT g gs A B 1):
  aj x7 BA [Γ g,a8] w λv I=>∃aH W cs,∃bK:jJ,v= .agg cs.toArray/\cs.length=4/\af (bG g gs A) w I/\(∀r,aH r->A r\/w.heap.size<=r)/\(∀r,W r->(B r\/w.heap.size<=r)/\r<I.heap.size)/\(∀r,B r->W r)/\iW I g gs aH W U ((dl all s).map (·.2))/\
   Seen (cT g gs aH W) I cs bK/\∀q,dl all s=σ q->bK=iX q.1:=by
 have cj:=h.1;obtain⟨dh,di,be,ck,R⟩:=id cj;have ad:∀r,bG g gs A r->r<w.heap.size:=ck;have dj:au=4611686018427387904:=rfl;have dm:=h.2.2.1.2.2;refine az func52 ?_;refine bx cn.i λE J dn bf aN=>?_;have aN:=aN;have dp:=bf.size;have dq:=aN.lt;have L:¬bG g gs A E:=λj=>by have:=ad _ j;omega
 refine(yl (h.W bf)).X ?_;rintro _ V _ ⟨X,a,at_,rfl,bM,cl⟩;obtain⟨bg,bh⟩:=X.of;have dr:=bg.size;rw[bo,bp,aP,nI];have dt: -au<=a/\a<=au:=by
  cases C:bc (-au) au s with
  |none=>rw[cl C];unfold au;omega
  |some q=>rw[bM q C];exact(jl C).1
 rw[lm Ω Ω,xJ,show max a (0-a)=((a.natAbs:Nat):Int) by omega];have bN:=(bf.aa _).F bg;have cm:=jk bJ bN λr f a n c H bj=>(bd r ⟨a,n,c,H,bj⟩).1 f;rw[aS aw.u cm];refine(OB bh Ω Ω).X ?_;rintro aJ du _ ⟨X,gr,scope,aC,cp,dv,ct⟩;obtain⟨bl,cu⟩:=X.of;have z3:=bl.size;rw[dw (cs:=#[aJ,.slice ν 0 0,Δ 0,.slice ν 0 0]) (by obtain⟨_,_,_,_,_,rfl,_⟩:=aC.ls;kernel_rfl)];refine bx cn.i λy dx dz aD aO=>?_;have aO:=aO;have z4:=aD.size;have dA:=aO.lt;have bm:=aC.ls.cells;refine cb (vs:=[aJ,.slice ν 0 0,Δ 0,.slice ν 0 0]) cn.i rfl rfl (by intro v H;simp at H;rcases H with rfl|rfl|rfl|rfl<;>first|exact bm.2|rfl) aO λaR aE dC cw=>?_;have al:¬bG g gs A y:=λj=>by have:=ad _ j;omega
 have bO:dy aR g gs A B U ((sX all.length a.natAbs ((bc (-au) au s).map (·.2))).map (·.2)):=(cu.W aD).aa aE (λr f he=>by have he:r=y:=he;exact al (he▸f)) (λr f he=>by have:=R r f.2;have he:r=y:=he;omega);have bP:af (bG g gs A) w aR:=iS ((bN.F bl).F (aD.aa _)) aE λr f he=>by have he:r=y:=he;omega
 have cz:ag aR E cn [.slice ν 0 0,.slice ν 0 0,Δ 0,.slice ν 0 0]:=(((aN.aa bg L).aa bl L).W aD).aa aE (λhe=>by have he:E=y:=he;omega);have cA:ao .i64 ap aR gr aJ scope:=bk (aC.W aD) aE λr f he=>by
  obtain⟨cB,bh⟩:=bE aC f;have he:r=y:=he;omega
 refine(rv bO).X ?_;rintro _ bQ _ ⟨rfl,Y⟩;have am:=bO.W Y;have aF:=cA.W Y;have bn:=cw.W Y;have bR:=cz.W Y;have dE:=Y.size;have z5:=aE.size;have O:∀r,li aJ r->V.heap.size<=r/\r≠y/\r≠E:=λr f=>by
  obtain⟨cB,bh⟩:=bE aC f;have:=cp r f;exact⟨this,Ω,Ω⟩
 have K:dl all s=match sX all.length a.natAbs ((bc (-au) au s).map (·.2))with
   |none=>ν
   |some (sc,s2)=>(kc (sc.map λv=>all.getD v.toNat 0) ((bb 0 au (σ (ba (decide (6<a.natAbs)||dD (sc.map λv=>all.getD v.toNat 0)) s2))).map (·.2))).map λq=>((⟨sc,sc.map λv=>all.getD v.toNat 0,((bc 0 au (ba (decide (6<a.natAbs)||dD (sc.map λv=>all.getD v.toNat 0)) s2)).map (·.1)).getD 0,q.1⟩:cq),if a<0 then vn (sc.map λv=>all.getD v.toNat 0) q.1 q.2 else q.2):=by
  unfold dl;cases C:bc (-au) au s with
  |none=>rfl
  |some q=>
   obtain⟨a',s1⟩:=q;have:=bM _ C;subst this;simp only;show _=match ff all.length a.natAbs s1 with
    |none=>ν
    |some (sc,s2)=>_
   cases ff all.length a.natAbs s1 with
   |none=>rfl
   |some q=>
    obtain⟨sc,s2⟩:=q;simp only;show _=W6 _ (kc _ ((bc 0 au _).map (·.2)));cases bc 0 au (ba (decide (6<a.natAbs)||dD (sc.map λv=>all.getD v.toNat 0)) s2)with
    |none=>rfl
    |some q=>
     obtain⟨o,G⟩:=q;simp only;show _=W6 _ (dM _ G);cases dM (sc.map λv=>all.getD v.toNat 0) G with
     |none=>rfl
     |some q=>rfl
 rw[bA,bU];cases Z:sX all.length a.natAbs ((bc (-au) au s).map (·.2))with
 |none=>
  rw[Z]at am K;simp only at K;refine⟨λ_=>?_,λh=>by simp at h⟩;refine Ek rfl (by intro v H;simp at H;rcases H with rfl|rfl|rfl|rfl<;>first|exact bm.2|rfl) bn rfl bR λab M=>?_;have cC:=M.size;refine⟨A,λr=>(B r\/w.heap.size<=r)/\r<ab.heap.size,_,(scope,[],0,[]),rfl,rfl,iS (bP.F (Y.aa _)) M λr f he=>by have he:r=E:=he;omega,λr f=>.inl f,λr f=>f,λr f=>⟨.inl f,by have:=R r f;omega⟩,?_,?_,λq C=>by rw[K]at C;cases C⟩
  .rw[K];have cD:iW ab g gs A B U (W6 (λx=>x.2) (ν:Option (Λ×aG))):=am.q.aa M (λhe=>by have:=ad g (.inl rfl);have he:g=E:=he;omega) (λr f _ he=>by have he:r=E:=he;exact L (he▸f)) (λr f he=>by have:=R r f.2;have he:r=E:=he;omega);exact cD
  .refine Ei (sY (bk aF M λr f he=>(O r f).2.2 he) λr f=>?_) iQ iQ;have N:=O r f;have an:=(bE aF f);exact⟨λj=>by have:=ad _ j;omega,.inr Ω,Ω⟩
 |some q=>
  obtain⟨sc,s2⟩:=q;have:=ct _ Z;subst this;rw[Z]at am K;simp only at K;refine⟨λh=>by simp at h,λ_=>?_⟩;have am:=am;obtain⟨s1,cE,cF⟩:∃s1,(bc (-au) au s).map (·.2)=σ s1/\ff all.length a.natAbs s1=σ (scope,s2):=by
   cases C:(bc (-au) au s).map (·.2)with
   |none=>rw[C]at Z;cases Z
   |some s1=>rw[C]at Z;exact⟨s1,rfl,Z⟩
  obtain⟨dF,cG,rfl⟩:=Y0.1 cE;have bS:=ds cG;obtain⟨bV,dG,dH,bW⟩:=u0 cF;have bq:=bS.eqs;have br:=bV.eqs;have cH:eb s2:=λP=>by rw[br.1,bq.1];rw[br.2.1,bq.2.1]at P;exact hi P
  have cI:s2.m2.length+1+s2.d8.length<=100000:=by rw[br.2.2,bq.2.2];have:=bS.1;have:=bV.1;omega
  generalize bs:(scope.map λv=>all.getD v.toNat 0)=co at K;have bX:∀z∈co,1<=z/\z<=au:=λz aU=>by
   rw[<-bs]at aU;obtain⟨v,H,rfl⟩:=o8.1 aU;have:=bW v H;refine ch _ ?_;rw[u5,x6 Ω];exact Q4 _
  have dI:co.length=scope.length:=by rw[<-bs,o4]
  have bY:af (bG g gs A) w bQ:=bP.F (Y.aa _);have cJ:=jk bJ bY λr f a n c H bj=>(bd r ⟨a,n,c,H,bj⟩).1 f;rw[aQ cn.p 0 bn rfl,aS aw.u aF.ls];refine OD bn aF.ls (λr f=>(O r f).2.1) cJ (λr f=>by have:=(bd r f).2;omega) bW Ω λab d9 gz M bZ aV dJ=>?_;rw[bs]at aV;have cC:=M.size;have bu:∀r,cT g gs A B r->¬(λr=>r=y) r:=λr f he=>by have:=R r f.2;have he:r=y:=he;omega
  have bw:∀r,bG g gs A r->¬(λr=>r=y) r:=λr f he=>by have he:r=y:=he;exact al (he▸f)
  have b0:=am.aa M bw bu;have cK:af (bG g gs A) w ab:=iS bY M λr f he=>by have he:r=y:=he;omega
  refine dk (λaW=>af (bG g gs A) ab aW/\ek aW g gs A B (ba (decide (6<a.natAbs)||dD co) s2) U) ?_ ?_
  rotate_left
  .intro ay aK;rw[bL,ai];refine⟨λdK=>?_,λdL=>?_⟩
   .refine (va b0).X ?_;rintro _ cL _ ⟨cM,cN⟩;refine aK _ ⟨cM.X λr _ h=>.inl h,?_⟩;rw[m7 Ω,Bool.true_or];exact cN
   .rw[aQ cn.p 1 bZ rfl];refine(Dz aV.ls λz aU=>(bX z aU).1).X ?_;rintro _ cL _ ⟨rfl,b1⟩;refine(va (b0.W b1)).X ?_;rintro _ dN _ ⟨cO,cP⟩;refine aK _ ⟨(b1.aa _).F (cO.X λr _ h=>.inl h),?_⟩;rw[ms Ω,Bool.false_or];exact cP
  rintro aW ⟨aX,aY⟩;have dO:=aX.size;generalize be:ba (decide (6<a.natAbs)||dD co) s2=G at K aY;have cQ:eb G:=λP=>by
   subst be;have P:(s2.big||_)=rs:=P;exact cH (Bool.or_eq_false_iff.1 P).1
  have dP:G.m2.length+1+G.d8.length<=100000:=by subst be;exact cI
  have aY:dy aW g gs A B U (σ G):=aY;refine(n0 (lo:=0) (hi:=au) aY).X ?_;rintro _ b2 _ ⟨X,o,dQ,rfl,cR,dR⟩;obtain⟨aZ,cS⟩:=X.of;have dS:=aZ.size;rw[bo,bp,aT cn.p rfl];have cU:=(bZ.aa aX al).aa aZ al;refine bt (g:=y) (o:=2) ap.i rfl rfl cU Ξ λcV av dT a1=>?_;have a1:=a1;rw[aQ cn.p 1 a1 rfl];have cW:=cS.aa av bw bu;have bz:af (bG g gs A) ab b2:=aX.F aZ;have cX:af (bG g gs A) w b2:=cK.F bz;have b3:af (bG g gs A) w cV:=iS cX av λr f he=>by have he:r=y:=he;omega
  have ac:∀r,li d9 r->bQ.heap.size<=r/\r<ab.heap.size:=λr f=>by have:=bE aV f;omega
  have b4:=bk (bk aV bz λr f j=>by have:=ad _ j;have:=ac r f;omega) av λr f he=>by have he:r=y:=he;have:=ac r f;omega
  have cY:=bk (bk (bk aF M λr f he=>(O r f).2.1 he) bz λr f j=>by have:=ad _ j;have:=O r f;omega) av λr f he=>(O r f).2.1 he;have dU:=av.size;refine(OA cW (λt bB=>?_) b4.ls (λr f=>⟨λj=>by have:=ad _ j;have:=ac r f;omega,by have:=ac r f;omega⟩) bX Ω (ci.aa b3 h1.1) h1).X ?_
  .obtain⟨q,C,rfl⟩:=Y0.1 bB;have b5:=(ds C).eqs;intro P;rw[b5.1];rw[b5.2.1]at P;exact cQ P
  rintro cr cZ _ ⟨X,l,bC,b7⟩;obtain⟨ax,c0⟩:=X.of;have dV:=ax.size;have bD:cr.cells= #[cr]/\cr.oneCell'=ro:=⟨su bC,nQ bC⟩;rw[aT cn.p rfl];have c1:=a1.aa ax al;refine bt (g:=y) (o:=3) jW.i bD.1 bD.2 c1 Ξ λQ ae dW a2=>?_;have a2:=a2;have dX:=ae.size;have b8:=c0.aa ae bw bu;have c2:af (bG g gs A) w cZ:=b3.F ax;have c3:af (bG g gs A) w Q:=iS c2 ae λr f he=>by have he:r=y:=he;omega
  have b9:=bk (bk cY ax λr f j=>by have:=ad _ j;have:=O r f;omega) ae λr f he=>(O r f).2.1 he;have a6:=bk (bk b4 ax λr f j=>by have:=ad _ j;have:=ac r f;omega) ae λr f he=>by have he:r=y:=he;have:=ac r f;omega
  have c4:ag Q E cn [.slice ν 0 0,.slice ν 0 0,Δ 0,.slice ν 0 0]:=((((((bR.aa M (λhe=>by have he:=he;omega)).aa aX L).aa aZ L).aa av (λhe=>by have he:=he;omega)).aa ax L).aa ae (λhe=>by have he:=he;omega));let S:ah:=λr=>(B r\/w.heap.size<=r)/\r<Q.heap.size;have ca:aq.rep rs bT (λr=>cT g gs A S r/\r≠y/\r≠E) Q [cr] l:=by
   refine Ej (aq.aa bC ae λr f h he=>?_) λr f h=>?_
   .have he:r=y:=he;rcases h with h|h
    .exact h
    .rcases h with h|h
     .have:=R r h.2;omega
     .omega
   .rcases h with h|h
    .have:=R r h.2;exact⟨⟨h.1,.inl h.2,f⟩,Ω,Ω⟩
    .exact⟨⟨λj=>by have:=ad _ j;omega,.inr Ω,f⟩,Ω,Ω⟩
  have c5:∀r,li aJ r->cT g gs A S r/\r≠y/\r≠E:=λr f=>by
   have N:=O r f;have an:=(bE b9 f);exact⟨⟨λj=>by have:=ad _ j;omega,.inr Ω,Ω⟩,N.2⟩
  have cc:∀r,li d9 r->cT g gs A S r/\r≠y/\r≠E:=λr f=>by
   have N:=ac r f;have an:=(bE a6 f);exact⟨⟨λj=>by have:=ad _ j;omega,.inr Ω,Ω⟩,Ω,Ω⟩
  have c6:Seen (λr=>cT g gs A S r/\r≠y/\r≠E) Q [aJ,d9,Δ o,cr] ((scope,co,o,l):jJ):=Ei (sY b9 c5) (sY a6 cc) ca;have c7:∀q,dl all s=σ q->((scope,co,o,l):jJ)=iX q.1:=λq C=>by
   rw[K]at C;obtain⟨dY,bF,rfl⟩:=Y0.1 C;have N:=b7 _ bF;cases aA:bc 0 au G with
   |none=>have e:bb 0 au (σ G)=ν:=aA;rw[e]at bF;cases bF
   |some ak=>
    have an:=cR ak aA;rw[N,an];rfl
  have c8:∀v∈[aJ,d9,X2 .i64 o,cr],v.oneCell'=ro:=by
   intro v H;simp at H;rcases H with rfl|rfl|rfl|rfl
   .exact bm.2
   .exact a6.ls.cells.2
   .rfl
   .exact bD.2
  have cd:∀r,cT g gs A B r->cT g gs A S r/\r≠y/\r≠E:=λr f=>by
   have:=R r f.2;exact⟨⟨f.1,.inl f.2,Ω⟩,Ω,Ω⟩
  refine dk (λbH=>∃aH,af (bG g gs A) Q bH/\(∀r,aH r->A r\/Q.heap.size<=r)/\∃W,n2 bH g gs aH W (λr=>cT g gs A S r/\r≠y/\r≠E) U ((dl all s).map (·.2))) ?_ ?_
  .rintro bH ⟨aH,aL,aM,W,c9⟩;have dZ:=aL.size;refine Ek rfl c8 (a2.aa aL al) rfl (c4.aa aL L) λce a7=>?_;have ea:=a7.size;have cf:∀r,bG g gs aH r->¬(λr=>r=E) r:=λr f he=>by
    have he:r=E:=he;subst he;rcases f with f|f|f
    .exact L (.inl f)
    .exact L (.inr (.inl f))
    .rcases aM _ f with f|f
     .exact L (.inr (.inr f))
     .omega
   have cg:∀r,(cT g gs A S r/\r≠y/\r≠E)->cT g gs aH (λr=>(B r\/w.heap.size<=r)/\r<ce.heap.size/\(r<Q.heap.size\/B r)) r:=λr h=>⟨λj=>h.1.1 (j.imp id (Or.imp id λj=>(aM r j).elim id λbi=>by have:=h.1.2.2;omega)),h.1.2.1,by have:=h.1.2.2;omega,.inl h.1.2.2⟩;have da:=c9.aa a7 (cf g (.inl rfl)) (λr f _=>cf r f) (λr f=>f.2.2);refine⟨aH,λr=>(B r\/w.heap.size<=r)/\r<ce.heap.size/\(r<Q.heap.size\/B r),_,(scope,co,o,l),rfl,rfl,iS (c3.F aL) a7 λr f he=>by have he:r=E:=he;omega,λr f=>(aM r f).imp id λh=>Ω,λr f=>⟨f.1,f.2.1⟩,λr f=>⟨.inl f,by have:=R r f;omega,.inr f⟩,da.out cg λr f=>f.2.1,?_,c7⟩;refine Ej (aq.aa (aq.aa c6 aL λr _ h j=>?_) a7 λr _ h he=>?_) λr _ h=>cg r h
   .rcases h with h|h
    .exact h
    .exact h.1.1 j
   .rcases h with h|h
    .exact h
    .exact h.2.2 he
  .intro ay aK;rw[ai];refine⟨λdb=>?_,λdc=>?_⟩
   .intro bI aB _ _;have ec:=aB.size;have dd:∀r,(cT g gs A S r/\r≠y/\r≠E)->cT g gs A (rx bI.heap.size) r:=λr h=>⟨h.1.1,by have:=h.1.2.2;show r<bI.heap.size;omega⟩;refine OC (b8.W aB) cd dd (λt bB=>?_) (a2.W aB) (sY (a6.W aB) cc) (b6 ca aB) λed aH de aM df=>?_
    .obtain⟨q,C,rfl⟩:=Y0.1 bB;cases aA:bc 0 au G with
     |none=>have e:bb 0 au (σ G)=ν:=aA;rw[e]at C;cases C
     |some ak=>
      have e:bb 0 au (σ G)=σ ak:=aA;rw[e]at C;have h1:q.2.m2=ak.2.m2/\q.2.d8.length<=ak.2.d8.length:=El (l:=q.1) (s':=q.2) C;have N:=ds (n:=ak.1) (s':=ak.2) aA;have an:=N.eqs.2.2;have ee:=N.1;rw[h1.1,an];have:=h1.2;omega
    .refine aK _ ⟨aH,(aB.aa _).F de,λr f=>(aM r f).imp id λh=>Ω,rx bI.heap.size,?_⟩;have e:(dl all s).map (·.2)=((kc co ((bb 0 au (σ G)).map (·.2))).map (·.2)).map (vn co l):=by
      rw[K];cases C:kc co ((bb 0 au (σ G)).map (·.2))with
      |none=>rfl
      |some q=>
       have N:=b7 _ C;simp only[Z4,m3 db,N]
     rw[e];exact df
   .refine aK _ ⟨A,af.refl _ _,λr f=>.inl f,B,?_⟩;have e:(dl all s).map (·.2)=(kc co ((bb 0 au (σ G)).map (·.2))).map (·.2):=by
     rw[K];cases C:kc co ((bb 0 au (σ G)).map (·.2))with
     |none=>rfl
     |some q=>simp only[Z4,m5 dc]
    rw[e];exact b8.qr cd
def n3(l:Λ):Prop:=∀v∈l,0<=v/\v<64
theorem Em(h:n3 l):v∈bz l↔v∈l:=by
 unfold bz;rw[U8,pl];refine⟨λh=>h.2,λa=>⟨?_,a⟩⟩;obtain⟨h1,e⟩:=h v a;exact o8.2 ⟨v.toNat,by grind,Ω⟩
theorem OF(l:Λ):n3 (bz l):=λv a=>by
 obtain⟨n,e,rfl⟩:=o8.1 (U8.1 a).1
 grind
theorem yD(l:Λ):(bz l).Pairwise (·< ·):=by
 grind [bz,List.pairwise_lt_range]
theorem En(l:Λ):(bz l).Nodup:=(yD l).imp Ω
where
 nodup_le' {a b:Λ} (h:a.Nodup) (U:∀x∈a,x∈b):a.length<=b.length:=by
  induction a generalizing b with
  |nil=>grind
  |cons x a ih=>
   have bi:=List.nodup_cons.1 h;have hx:=U x (.head _);have:=ih bi.2 λy hy=>(List.mem_erase_of_ne (λ(he:y=x)=>bi.1 (by rw[<-he];exact hy))).2 (U y (.tail _ hy))
   grind
theorem Eo(n:Nat):(0:Int)<64 ^ n:=Int.pow_pos Ω
theorem vo:∀(l:Λ),n3 l->0<=kI l/\kI l<64 ^ l.length
 |[],_=>by simp[kI]
 |x::l,h=>by
  have j:=vo l λy a=>h y (.tail _ a);have f:=h x (.head _);have p:=Eo l.length;simp only[kI,Y3];have e:(64:Int) ^ (l.length+1)=64*64 ^ l.length:=Ω
  have h1:x*64 ^ l.length<=63*64 ^ l.length:=V6 Ω Ω;have q:0<=x*64 ^ l.length:=Int.mul_nonneg f.1 Ω;omega
def jK:Λ->Λ->Int
 |x::a,y::b=>if x<y then-1 else if y<x then 1 else jK a b
 |[],[]=>0
 |[],_::_=>-1
 |_::_,[]=>1
theorem Ep:∀(a b:Λ),a.length=b.length->n3 a->n3 b->(jK a b<0↔kI a<kI b)/\(jK a b=0↔a=b)/\(kI a=kI b->a=b)
 |[],[],_,_,_=>by simp[jK]
 |[],_::_,h,_,_=>by simp at h
 |_::_,[],h,_,_=>by simp at h
 |x::a,y::b,h,r,s=>by
  have f:a.length=b.length:=by grind
  have j:=λz e=>r z (.tail _ e);have p:=λz e=>s z (.tail _ e);have A:=Ep a b f j p;have w:=vo a j;have B:=vo b p;have C:=Eo b.length;simp only[jK,kI];rw[f]at w ⊢;have step:∀u v:Int,u<v->u*64 ^ b.length+64 ^ b.length<=v*64 ^ b.length:=λu v E=>by
   have:=V6 (show u+1<=v by omega) (show(0:Int)<=64 ^ b.length by omega)
   grind
  by_cases h1:x<y
  .grind
  .rw[m5 h1];by_cases q:y<x
   .rw[m3 q];have:=step y x q
    grind
   grind
def l3(l:Λ):Prop:=n3 l/\l.length<=6
theorem Er(h:l3 l):0<=kI l/\kI l<64 ^ 6:=by
 have:=vo l h.1;have e:(64:Int) ^ l.length<=64 ^ 6:=by
  have a:=h.2
  match l.length,a with
  |0,_=>decide
  |1,_=>decide
  |2,_=>decide
  |3,_=>decide
  |4,_=>decide
  |5,_=>decide
  |6,_=>decide
  |n+7,h=>omega
 omega
theorem yE{b:Λ}(f:l3 a)(h:l3 b):(dt a<dt b↔a.length<b.length\/(a.length=b.length/\jK a b<0))/\(dt a=dt b->a=b):=by
 have h1:=Er f;have j:=Er h;have e:(64:Int) ^ 6=68719476736:=Φ
 rw[e]at h1 j;unfold dt;rw[e];by_cases p:a.length=b.length
 .have:=Ep a b p f.1 h.1
  grind
 omega
theorem yF(g:c4):∀l:List c4,(jm g l).Perm (g::l)
 :=by
 intro a;induction a<;>grind [jm]
theorem OG{g:c4}:∀{l:List c4},l.Pairwise (λa b=>dt a.1<dt b.1)->(∀h∈l,dt h.1≠dt g.1)->(jm g l).Pairwise (λa b=>dt a.1<dt b.1)
 :=by
 intro a;induction a<;>grind [jm,List.pairwise_cons,yF]
theorem Es:∀(l acc:List c4),acc.Pairwise (λa b=>dt a.1<dt b.1)->l.Pairwise (λa b=>dt a.1≠dt b.1)->(∀a∈acc,∀b∈l,dt a.1≠dt b.1)->
  (l.foldl (λl g=>jm g l) acc).Pairwise (λa b=>dt a.1<dt b.1)/\(l.foldl (λl g=>jm g l) acc).Perm (acc++l)
 |[],acc,h,_,_=>by grind
 |g::l,acc,h,e,j=>by
  have f:=List.pairwise_cons.1 e;have:=Es l (jm g acc) (by grind [OG]) f.2 (by grind [yF])
  grind [yF]
theorem yG{α:Type}{f:α->Int}:∀{L M:List α},L.Pairwise (λa b=>f a<f b)->M.Pairwise (λa b=>f a<f b)->(∀x,x∈L↔x∈M)->L=M
 |[],M,_,_,h=>by
  cases M with
  |nil=>rfl
  |cons y M=>exact m6 ((h y).2 (.head _)) Ξ
 |x::L,[],_,_,h=>m6 ((h x).1 (.head _)) Ξ
 |x::L,y::M,h1,e,h=>by
  have j:=List.pairwise_cons.1 h1;have p:=List.pairwise_cons.1 e;have q:x=y:=by
   grind
  subst q;rw[yG j.2 p.2 λz=>⟨λr=>?_,λr=>?_⟩]
  all_goals grind
structure ey(co:Λ)(k:Int)(g:c4):Prop where
 scope:l3 g.1
 up:g.1.Pairwise (·< ·)
 d6:∀v∈g.1,v<co.length
 len:g.2.length=(aA (aB co g.1)).toNat
 small:aA (aB co g.1)<=4096
 gM:∀c∈g.2,0<=c/\c<=k
theorem kd{sc:Λ}(a:∀z∈co,1<=z/\z<=32)(e:∀v∈sc,0<=v/\v<co.length):∀z∈aB co sc,1<=z/\z<=32:=λz h=>by
 obtain⟨v,f,rfl⟩:=o8.1 h
 grind [Q4]
theorem OH{b:Λ}(h:a.Perm b):aA a=aA b:=by
 induction h<;>grind [aA]
theorem OI{b:Λ}(h:a.length=b.length):(bV k a b).length=b.length:=by simp[bV,h]
theorem yH{b:Λ}(hk:0<=k)(f:∀c∈a,0<=c/\c<=k)(h:∀c∈b,0<=c/\c<=k):∀c∈bV k a b,0<=c/\c<=k:=by
 induction a generalizing b with
 |nil=>intro c e;simp[bV]at e
 |cons x a j=>
  cases b with
  |nil=>intro c e;simp[bV]at e
  |cons y b=>
   intro c e;have p:=f x (.head _);have q:=h y (.head _);rcases T5.1 (show c∈min (x+y) k::bV k a b from e)with rfl|e
   .omega
   .exact j (by grind) (by grind) c e
def kL(l:List c4):Prop:=(l.map (·.1)).Nodup
theorem OJ{acc:List c4}{g:c4}(hk:0<=k)(f:∀h∈acc,ey co k h)(j:kL acc)(a:ey co k g):(∀h∈jH k acc g,ey co k h)/\kL (jH k acc g)/\(jH k acc g).length<=acc.length+1:=by
 unfold jH;split
 .refine⟨λh an=>?_,?_,Ξ⟩
  .obtain⟨e,hm,rfl⟩:=o8.1 an;have h1:=f e hm;split
   .rename_i he;have p:e.2.length=g.2.length:=by rw[h1.len,a.len,he]
    exact⟨h1.scope,h1.up,h1.d6,by grind [OI,ey.len],h1.small,yH hk h1.gM a.gM⟩
   .exact h1
  grind [kL]
 grind [kL]
theorem yI{co:Λ}{k:Int}(hk:0<=k):∀{l acc:List c4},(∀h∈acc,ey co k h)->kL acc->(∀g∈l,ey co k g)->(∀h∈l.foldl (jH k) acc,ey co k h)/\kL (l.foldl (jH k) acc)/\(l.foldl (jH k) acc).length<=acc.length+l.length
 |[],acc,a,e,_=>by grind
 |g::l,acc,a,e,f=>by
  obtain⟨h1,j,q⟩:=OJ hk a e (f g (.head _));obtain⟨r,s,w⟩:=yI hk h1 j λx p=>f x (.tail _ p)
  grind
theorem vp(h:n3 l)(a:l.Nodup):(bz l).Perm l:=by grind [En,Em]
theorem yJ:∀{l:Λ},(∀z∈l,1<=z/\z<=32)->l.map (λz=>min z 4097)=l
 |[],_=>rfl
 |z::l,h=>by
  have a:=h z (.head _);rw[U3,yJ (by grind)]
  grind
theorem OK{x:cq}(hk:0<=k)(a:0<=x.other)(e:∀p∈x.lines,0<=p.2):0<=lp x k t/\lp x k t<=k:=by
 grind [lp]
theorem vq{all:Λ}{x:cq}(h:sI all N x)(e:all.length<=64):n3 x.scope:=λv a=>by
 have:=h.scope.2 v a;omega
theorem ry{f:b5}{x:cq}(a:fh N f)(q:x∈f.d7):ey f.co f.k (jG f.co f.k x):=by
 obtain⟨h1,r,B⟩:=a.d7 x q;have s:=a.co.2.1;have w:=vq h1 s;have e:=vp w h1.scope.1;have h:∀v∈bz x.scope,0<=v/\v<f.co.length:=λv hm=>h1.scope.2 v (by grind);have y:=kd a.co.2.2 h;have C:aA (aB f.co (bz x.scope))=aA x.co:=by rw[h1.co];exact OH (e.map _)
 refine⟨⟨OF _,?_⟩,yD _,λv hm=>(h v hm).2,?_,?_,λc A=>?_⟩
 .show (bz x.scope).length<=6;rw[e.length_eq];exact r
 .show ((bl _).map _).length=_;rw[o4,j2 y];rfl
 .show aA (aB f.co (bz x.scope))<=4096;have E:∀z∈x.co,1<=z/\z<=32:=λz j=>by
   rw[h1.co]at j;exact kd a.co.2.2 (by grind) z j
  grind [dD,yJ]
 .obtain⟨t,_,rfl⟩:=o8.1 A;exact OK (by have:=a.k.1;omega) h1.other λp e=>(h1.lines.2 p e).2
theorem mY{f:b5}(a:fh N f):(∀g∈gj f,ey f.co f.k g)/\kL (gj f)/\(gj f).length<=f.d7.length:=by
 have:=yI (k:=f.k) (by have:=a.k.1;omega) (acc:=[]) (by grind) List.nodup_nil λg h=>by
  obtain⟨x,j,rfl⟩:=o8.1 h;exact ry a j
 refine⟨this.1,this.2.1,?_⟩;have e:=this.2.2;rw[List.length_nil,o4,W7]at e;exact e
theorem Et{l:List c4}(e:∀g∈l,ey co k g)(p:kL l):l.Pairwise λa b=>dt a.1≠dt b.1:=by
 have h1:l.Pairwise λa b=>a.1≠b.1:=by
  grind [kL]
 exact h1.imp_of_mem λ{a b}f h j he=>j ((yE (e a f).scope (e b h).scope).2 he)
theorem sZ{f:b5}(h:fh N f):(gk f).Pairwise (λa b=>dt a.1<dt b.1)/\(gk f).Perm ((gj f).filter gi):=by
 obtain⟨h1,j,_⟩:=mY h;have p:∀g∈(gj f).filter gi,ey f.co f.k g:=by grind
 have q:kL ((gj f).filter gi):=(List.Sublist.map _ List.filter_sublist).nodup j;have:=Es ((gj f).filter gi) [] List.Pairwise.nil (Et p q) (by grind);refine⟨this.1,?_⟩;have e:=this.2;rw[List.nil_append]at e;exact e
theorem vr{f:b5}(a:fh N f):∀g∈gk f,ey f.co f.k g:=by grind [mY,sZ]
theorem OL{f:b5}(e:fh N f){M:List c4}(h:M.Perm ((gj f).filter gi))(U:M.Pairwise λa b=>dt a.1<=dt b.1):M=gk f:=by
 obtain⟨h1,s⟩:=sZ e;have j:kL ((gj f).filter gi):=(List.Sublist.map _ List.filter_sublist).nodup (mY e).2.1;have p:=(h.map (λg:c4=>g.1)).nodup_iff.2 j;have q:∀g∈M,ey f.co f.k g:=by grind [mY]
 have r:=Et q p;refine yG ?_ h1 (by grind);exact U.imp₂ Ω r
structure kM(n:aD):Prop where
 k:1<=n.k/\n.k<=2147483648
 co:1<=n.co.length/\n.co.length<=64/\∀z∈n.co,1<=z/\z<=32
 zero:0<=n.zero/\n.zero<=n.k
 l4:n.unary.length=n.co.length
 unary:∀(i:Nat)(z:Int)(u:Λ),n.co[i]?=σ z->n.unary[i]?=σ u->u.length=z.toNat/\∀c∈u,0<=c/\c<=n.k
 d7:∀g∈n.d7,ey n.co n.k g/\2<=g.1.length
theorem OM(z:Int):aA [z]=z:=by simp[aA]
theorem vt:∀{l:List c4}{n:aD},kM n->(∀g∈l,ey n.co n.k g)->kM (l.foldl (λn g=>match g.1 with
 |[]=>{n with zero:=g.2.getD 0 0}
 |[v]=>{n with unary:=n.unary.set v.toNat g.2}
 |_=>{n with d7:=n.d7++[g]}) n)/\(l.foldl (λn g=>match g.1 with
 |[]=>{n with zero:=g.2.getD 0 0}
 |[v]=>{n with unary:=n.unary.set v.toNat g.2}
 |_=>{n with d7:=n.d7++[g]}) n).co=n.co
 |[],n,h,_=>⟨h,rfl⟩
 |g::l,n,h,q=>by
  have e:=q g (.head _);have p:∀x∈l,ey n.co n.k x:=by grind
  rw[List.foldl_cons];obtain⟨sc,cs⟩:=g
  match sc,e with
  |[],e=>
   have y:=e.len;refine vt ⟨h.k,h.co,?_,h.l4,h.unary,h.d7⟩ p;have h1:cs.length=1:=by grind [aB,aA]
   have s:cs[0]?=σ (cs.getD 0 0):=by grind
   exact e.gM _ (x5 s)
  |[v],e=>
   have A:=e.scope.1 v (.head _);have B:=e.d6 v (.head _);refine vt ⟨h.k,h.co,h.zero,by grind [kM.l4],λi z u w f=>?_,h.d7⟩ p;by_cases hi:v.toNat=i
   .subst hi;have C:=h.l4;rw[Z3 Ω]at f;cases f;have E:aB n.co [v]=[z]:=by
     grind [aB]
    refine⟨?_,e.gM⟩;have:=e.len
    grind [OM]
   .rw[X3 hi]at f;exact h.unary i z u w f
  |a::b::r,e=>
   refine vt ⟨h.k,h.co,h.zero,h.l4,h.unary,λx j=>?_⟩ p;rcases o9.1 j with j|j
   .exact h.d7 x j
   grind
theorem Eu{f:b5}(a:fh N f):kM (df f)/\(df f).co=f.co:=by
 unfold df;have h:=a.co;refine vt ⟨a.k,h,⟨by grind,by show(0:Int)<=f.k;have:=a.k.1;omega⟩,Ξ,λi z u h1 e=>?_,by grind⟩ (vr a);have e:(f.co.map λz=>r8 z.toNat (0:Int))[i]?=σ u:=e;have h1:=h1;rw[x8,h1]at e;cases e;refine⟨Ξ,λc j=>?_⟩;rw[(List.mem_replicate.1 j).2];have:=a.k.1
 grind
def mZ(x:cq)(k:Int)(i:Nat)(t:Λ):Int:=match(x.lines.take i).find? (λp=>decide (p.1=t))with
 |some p=>min p.2 k
 |none=>min x.other k
theorem Ev(x:cq)(k:Int)(t:Λ):mZ x k 0 t=min x.other k:=by simp[mZ]
theorem Ew(x:cq)(k:Int)(t:Λ):mZ x k x.lines.length t=lp x k t:=by
 unfold mZ lp;rw[o6]<;>cases x.lines.find? (λp=>decide (p.1=t))<;>rfl
theorem Ex{x:cq}{i:Nat}{p:Λ×Int}(a:(x.lines.map (·.1)).Nodup)(hi:x.lines[i]?=σ p)(t:Λ):mZ x k (i+1) t=if t=p.1 then min p.2 k else mZ x k i t:=by
 unfold mZ;rw[u7,hi,l9,List.find?_append];by_cases e:t=p.1
 all_goals grind [c9,X9]
theorem vu(h:v∈l):l[l.idxOf v]?=σ v:=by
 grind
theorem ON{i:Nat}(a:l.Nodup)(h:l[i]?=σ v):l.idxOf v=i:=by
 grind
def gp(scope a:Λ):Λ:=a.map λv=>((scope.idxOf v:Nat):Int)
theorem vv{q:Λ}(s:scope.Nodup)(a:q.Perm scope):Good (gp scope q) scope.length:=by
 have w:=a.nodup_iff.2 s;refine⟨by simp[gp,a.length_eq],λi p f=>?_⟩;unfold gp at f;rw[x8]at f;obtain⟨v,x,rfl⟩:=Y0.1 f;have hm:v∈scope:=a.mem_iff.1 (x5 x);have A:=List.idxOf_lt_length_iff.2 hm;refine⟨Ω,λj B h=>?_⟩;unfold gp at h;rw[x8]at h;obtain⟨u,r,he⟩:=Y0.1 h;have y:=a.mem_iff.1 (x5 r);have e:scope.idxOf u=scope.idxOf v:=Ω
 have h1:=vu y;rw[e,vu hm]at h1;have z:v=u:=Z7 h1;subst z;have C:=ON w r
 grind
theorem OO(e:a[j]?=σ v):(gp scope a)[j]?=σ ((scope.idxOf v:Nat):Int):=by
 grind [gp]
theorem OP(e:scope.Nodup)(f:a.Perm scope):fg (aB co scope) (gp scope a)=aB co a:=by
 refine j5 λj=>?_
 grind [uX,gp,aB,vv,Dk,u9,vu]
theorem Ey(f:scope.Nodup)(h:a.Perm scope)(q:t.length=scope.length):oP (gp scope a) t=rj scope a t:=by
 have r:=vv f h;refine(Dj r q (by simp[rj]) λj p e=>?_).symm;unfold gp at e;rw[x8]at e
 grind [Y0,List.Perm.length_eq,rj,u9]
theorem OQ{f:b5}{x:cq}(e:fh N f)(s:x∈f.d7)(G:cs.length=(aA x.co).toNat)(w:∀t,cX x.co t->bg x.co cs t=lp x f.k t):
  fg x.co (gp x.scope (bz x.scope))=aB f.co (bz x.scope)/\pX x.co cs (gp x.scope (bz x.scope))=(jG f.co f.k x).2:=by
 obtain⟨h1,H,I⟩:=e.d7 x s;have y:=vq h1 e.co.2.1;have a:=vp y h1.scope.1;have z:=h1.co;have h:fg x.co (gp x.scope (bz x.scope))=aB f.co (bz x.scope):=by rw[z];exact OP h1.scope.1 a
 have A:=vv h1.scope.1 a;have B:∀v∈bz x.scope,0<=v/\v<f.co.length:=λv hm=>h1.scope.2 v (by grind);have j:dh (aB f.co (bz x.scope)):=kd e.co.2.2 B;refine⟨h,?_⟩;have C:x.co.length=x.scope.length:=by grind
 unfold pX;rw[h];show _=(bl (aB f.co (bz x.scope))).map λt=>lp x f.k (rj x.scope (bz x.scope) t);refine j5 λq=>?_;rw[x8,x8];have J:=kF j;by_cases p:q<(aA (aB f.co (bz x.scope))).toNat
 .have E:=re j (i:=q) Ω;rw[E,List.getElem?_range p];simp only[Z4];have F:=rg j p;have r:(b1 (aB f.co (bz x.scope)) q).length=x.scope.length:=by rw[ix];simp[aB,a.length_eq]
  rw[Ey h1.scope.1 a r,w];have:=M4 A C (by rw[h];exact F);rw[Ey h1.scope.1 a r]at this;exact this
 grind [j2]
theorem OR{e:Λ}(U:dh szs)(h1:a.length=(aA szs).toNat)(f:e.length=(aA szs).toNat):
  bV k a e=(Z2 (aA szs).toNat).map λ(q:Nat)=>min (bg szs a (b1 szs q)+bg szs e (b1 szs q)) k:=by
 grind [ye,bV,List.zipWith_self]
theorem OS{m:Nat}{d:List (x1×x1)}{a:List (Λ)}(j:ag w dx jX [.map (σ m)])(hm:dg w m d)(p:d.map (·.1)=a.map en)(f:ru a)(C:a.length<65536):
  aj x7 KR [.func (.func nE) #[] #[Γ dx],DZ] w λv I=>Ext w I/\∃g M,M.Perm a/\vl ie M 0 M.length/\p3 I g v M:=by
 refine az func233 ?_;refine(NQ j hm p (λq h=>(f q h).1) Ω).X ?_;rintro v J _ ⟨s,g,L,bD,e,x⟩;refine(N5 x (f.perm e) (by rw[e.length_eq];omega)).X ?_;rintro _ V _ ⟨y,M,z,A,B⟩;exact⟨s.then y (λr E h=>by have:=bD r h;omega),g,M,z.F e,A,B⟩
theorem Ez{α β:Type}{f:α->β}:∀{M:List β}{D:List α},M.Perm (D.map f)->∃L:List α,L.Perm D/\L.map f=M
 |[],D,h=>by
  have h1:=h.length_eq;simp at h1;have:D=[]:=Z0 h1.symm;exact⟨[],by rw[this],rfl⟩
 |x::M,D,h=>by
  have a:x∈D.map f:=h.mem_iff.1 (.head _);obtain⟨p,e,rfl⟩:=o8.1 a;obtain⟨A,B,rfl⟩:=List.append_of_mem e;have j:(f p::M).Perm (f p::(A++B).map f):=h.F (by
   rw[l7,U3,l7];exact List.perm_middle)
  obtain⟨L,q,r⟩:=Ez (List.Perm.cons_inv j);exact⟨p::L,(q.cons p).F List.perm_middle.symm,by rw[U3,r]⟩
theorem EA{g:Nat}{cs:List x1}(r:a.length=6)(s:n<=6)(f:cs=ints .i8 a)(h:ag w g cH cs):aI .i8 w (.slice (σ (if 6=0 then⟨g,0,ν⟩else⟨g,0+0*1,ν⟩)) (n-0) (6-0)) (a.take n):=by
 subst f;rw[m5 Ω];unfold aI;have p:(a.take n).length=n:=by rw[c7];omega
 rw[p];refine⟨Θ,g,0,_,6,rfl,Ω,by simp[maxLen],λ_=>rfl,λj v e=>?_⟩;have q:=(x4.1 e).1;refine h.range j v ?_;rw[ints,S7,Y5 (by simp[ints]at q;omega)]at e;exact e
def OT(D L:Told):Prop:=L.Perm D/\vl (λp=>ie (pad p.1)) L 0 L.length
theorem OU{g m:Nat}{o:Int}{D:Told}(h:e2 w g m szs k o D)(a7:D.length<65536):aj x7 JX [Γ g] w λv I=>Ext w I/\∃L:Told,OT D L/\bM (fF w.heap.size) bT I [v] L:=by
 obtain⟨⟨sv,gs,Y,hm⟩,a8,U,bP,ax⟩:=id h;have ba:ru (D.map λp=>pad p.1):=λbQ hk=>by
  obtain⟨p,bb,rfl⟩:=o8.1 hk;exact sP U (ax p bb).1
 refine az func145 ?_;rw[cW fd.u];simp only[j0,aX];rw[aK fP.p 3 Y rfl];refine NO.X ?_;rintro _ J _ ⟨Z,dx,rfl,bR,bc⟩;refine(OS bc (a8.W Z) (by rw[S4,S4];rfl) ba (by simpa using a7)).X ?_;rintro bS V _ ⟨ay,bU,M,bd,bf,aA⟩;obtain⟨L,ab,K⟩:=Ez bd;have aB:M.length=L.length:=by rw[<-K];simp
 have bV:=ab.length_eq;have s1:=Z.size;have s2:=ay.size;have aC:=Z.F ay;rw[e3 lg.u aA];refine b2.range L.length (λi out e=>Ext V e/\bM (fF V.heap.size) bT e [out] (L.take i)) Ω ⟨Ext.refl _,by rw[List.take_zero];exact iQ⟩ ?_ ?_
 rotate_left
 .rintro out e bg ⟨B,N⟩;rw[aB];simp only[aP,ai];refine⟨λh=>Ω,λ_=>⟨aC.F B,L,⟨ab,λp q x y h1 bh bW bj bk=>?_⟩,?_⟩⟩
  .exact bf p q (pad x.1) (pad y.1) h1 bh Ω (by rw[<-K,x8,bj];rfl) (by rw[<-K,x8,bk];rfl)
  .rw[o6]at N;exact aq.X N (λr _ h=>by have h:=h;show w.heap.size<=r;omega) λ_ _ h=>h
 rintro i out e bg hi ⟨B,N⟩ bl;obtain⟨⟨t,c⟩,ac⟩:∃p,L[i]?=σ p:=⟨_,x6 hi⟩;have ad:(t,c)∈D:=ab.mem_iff.1 (x5 ac);have ah:=(ax _ ad).1;have aD:=yq U ah;have am:t.length=szs.length:=aD.1;have aE:=U.1;have bm:nZ (pad t):=sP U ah;have O:=bm.1;have bn:M[i]?=σ (pad t):=by rw[<-K,x8,ac];rfl
 rw[aB];simp only[aP,ai];refine⟨λ_=>?_,λh=>Ω⟩;rw[N4 rfl (aA.W B) bn];refine bx cH.i λak bX bY aG aH=>?_;refine sO O rfl aH λbo bp bZ P=>?_;have b0:=aG.size;have b1:=aH.lt;have bq:Ext e bo:=aG.put bp Ω;intro aI E _ _;have an:=bq.F E;have ap:=(aC.F B).F an;have aJ:=h.W ap;obtain⟨⟨b3,b4,b5,b7⟩,b8,_⟩:=id aJ;have b9:=an.size;rw[aK fP.p 3 (Y.W ap) rfl,p2 O (P.W E).range];refine NH aJ ah (λf br=>?_) (λbs=>m6 rfl (bs _ ad));have bu:f=c:=by
  have:=DN h.nodup br ad rfl;exact congrArg Prod.snd this
 subst bu;simp only[Bool.false_eq_true,if_false];rw[dw (cs:=#[.slice ν 0 0,Δ f]) Ψ];refine bx gG.i λQ ca cc au aL=>?_;refine⟨.inl au,?_⟩;refine cb (vs:=[.slice ν 0 0,Δ f]) gG.i rfl rfl (by intro v aO;simp at aO;rcases aO with rfl|rfl<;>rfl) aL λC bw cd aR=>?_;have ce:=au.size;have cf:=aL.lt;have S:Ext aI C:=au.put bw Ω;have aU:=an.F S;have aV:=ap.F S;rw[aK fP.p 0 (Y.W aV) rfl,aS al.u (hm.ls.W aV)];rw[uG cH.u gd.i (l:=0) (h:=szs.length) (m:=6) iP (nM _ _ rfl) dZ Ω Ω Ω];have aW:=EA O aE rfl ((P.W E).W S);rw[<-am,DI]at aW;rw[<-am,aS mH.u aW];have bz:=(P.W E).W S;have cg:ak<aI.heap.size:=(P.W E).lt;have ch:Q<C.heap.size:=aR.lt;refine cm.range t.length (λj s=>af (λr=>r=Q\/C.heap.size<=r) C s/\∃aN gt,C.heap.size<=gt/\ag s Q gG [aN,Δ f]/\ao .i64 ae s gt aN (t.take j)) Ω ⟨af.refl _ _,_,C.heap.size,p9 _,aR,ao.nil _ _ _ _⟩ ?_ ?_
 .rintro j s bA bC ⟨z,aN,gt,bD,W,X⟩ bE;obtain⟨x,av⟩:=aF (l:=t) bC;have ci:=aD.2 x (x5 av);have cj:Ext e s:=aU.then z (λr aY he=>by rcases he with rfl|he<;>omega);have aZ:=EA O aE rfl (bz.aa z (λhe=>by rcases he with he|he<;>omega));rw[<-am,DI]at aZ;simp only[aP,ai];refine⟨λ_=>?_,λh=>Ω⟩;rw[be mH.u gd.i Ψ aZ av,aQ gG.p 0 W rfl,e1 gd.u ae.u,lm Ω Ω];refine dr al.u ae.i rfl λa ga bF ck A bG=>?_;refine jD al.u ae.i rfl (X.W A) bG.ls Θ Θ λa1 bH bI cl G H=>?_;have bJ:=z.size;have bK:=A.size;have cn:=H.size;rw[aT gG.p rfl];refine bt (g:=Q) (o:=0) al.i G.ls.cells.1 G.ls.cells.2 ((W.W A).aa H (λhe=>by have he:=he;omega)) Ξ λcp a2 cq bL=>?_;simp only[aM];refine bE _ ⟨((z.F (A.aa _)).F (H.X λr _ he=>.inr (by have he:r=gt:=he;omega))).F (a2.X λr _ he=>.inl he),a1,bH,Ω,bL,?_⟩;rw[u7,av];exact G.aa a2 (λ_ he=>by have he:=he;omega)
 .rintro s bA ⟨z,aN,gt,bD,W,X⟩;simp only[aP,ai];refine⟨λh=>Ω,λ_=>?_⟩;rw[o6]at X;rw[bB gG.p gG.i rfl W.range];have bJ:=z.size;have bN:=aU.then z (λr aY he=>by rcases he with rfl|he<;>omega);have a6:bM (fF e.heap.size) bT s [aN,Δ f] (t,f):=⟨[aN],[Δ f],fF e.heap.size,bT,rfl,λ_ h=>h,λ_ h=>h.elim,λ_ _ _ h=>h,aq.X (pN X) (λr _ h=>by subst h;show e.heap.size<=r;omega) (λ_ _ h=>h),rfl⟩;refine lX (α:=Λ×Int) (R:=bT) qW.u gG.i Φ rfl a6 λu bF A _ bO=>?_;have aw:=bN.F A;have bK:=aw.size;refine pM qW.u gG.i rfl (b6 (oH N) aw) bO (b6 a6 A) (λr _ h bi=>?_) Θ Θ λa1 bI G H=>?_
  .rcases bi with bi|bi
   .have:=h.2;have:e.heap.size<=r:=bi;omega
   .exact bi
  simp only[aM];have cr:=B.size;refine bl _ _ ⟨(B.F aw).then H (λr aY h=>by have h:=h.1;have h:=h;omega),?_⟩;rw[u7,ac];refine aq.X G (λr _ h=>?_) λ_ _ h=>h;show V.heap.size<=r;rcases h with h|h|h
  .exact h.1
  .have h:=h;omega
  .omega
theorem EB{s:Λ}(U:dh s):t∈bl s↔cX s t:=by
 refine⟨λh=>?_,λ⟨n,h⟩=>x5 (oN U h)⟩;obtain⟨i,hi⟩:=c9.1 h;exact⟨_,kG U hi⟩
theorem EC:∀{s:Λ},dh s->(bl s).Pairwise λa b=>ie a<ie b
 |[],_=>by simp[bl]
 |k::s,U=>by
  have z:=EC U.tail;have f:∀t∈bl s,0<=ie t/\ie t<32 ^ s.length:=λt p=>by
   have A:=(EB U.tail).1 p;have h1:=oQ.1 A;have r:=vk t λx q=>by
    obtain⟨i,hi,rfl⟩:=List.getElem_of_mem q;obtain⟨a,e⟩:=aF (l:=s) (i:=i) Ω;have C:=h1.2 i a _ e (x6 hi);have E:=(U.tail a (x5 e)).2;omega
   rw[h1.1];exact r
  have j:∀t∈bl s,t.length=s.length:=λt p=>uJ p;show((Z2 k.toNat).flatMap λ(v:Nat)=>(bl s).map λt=>(v:Int)::t).Pairwise _;rw[List.pairwise_flatMap];refine⟨λv _=>?_,?_⟩
  .rw[List.pairwise_map];refine z.imp_of_mem λ{a b}e f h=>?_;simp only[ie,j a e,j b f];omega
  .refine List.pairwise_lt_range.imp λ{u v}F x q y B=>?_;obtain⟨a,e,rfl⟩:=o8.1 q;obtain⟨b,w,rfl⟩:=o8.1 B;simp only[ie,j a e,j b w];have h1:=f a e;have r:=f b w;have:=V6 (show(u:Int)+1<=v by omega) (show(0:Int)<=32 ^ s.length by have:=yv s.length;omega);rw[Int.add_mul,Int.one_mul]at this;omega
theorem OV{D L:Told}{o:Int}(f:(D.map (·.1)).Nodup)(a:L.Perm D)(t:Λ):jI L o t=jI D o t:=by
 have j:=(a.map (·.1)).nodup_iff.2 f;by_cases he:∃p∈D,p.1=t
 .obtain⟨p,h,rfl⟩:=he;rw[sQ f h,sQ j (a.mem_iff.2 h)]
 .rw[sR λp h1 e=>he ⟨p,h1,e⟩,sR λp h1 e=>he ⟨p,a.mem_iff.1 h1,e⟩]
def jL(szs:Λ)(f:Λ->Int)(cs:Λ):Prop:=cs.length=(aA szs).toNat/\∀t,cX szs t->bg szs cs t=f t
theorem jL.eq{f:Λ->Int}(U:dh szs)(h1:jL szs f cs)(e:jL szs f a):cs=a:=MU U h1.1 e.1 λt h=>by rw[h1.2 t h,e.2 t h]
theorem jL.congr{f a:Λ->Int}(h:jL szs f cs)(he:∀t,cX szs t->f t=a t):jL szs a cs:=⟨h.1,λt e=>by rw[h.2 t e,he t e]⟩
theorem yK(U:dh szs)(h:cX szs t):∃n:Nat,ct szs t 0=σ (n:Int)/\n<(aA szs).toNat:=by
 obtain⟨n,a⟩:=h;have:=mL U a;simp only[Int.zero_mul,Int.zero_add,Int.one_mul]at this;exact⟨n.toNat,by rw[a];congr 1;omega,Ω⟩
theorem OW(U:dh szs)(c:Int):jL szs (λ_=>c) (r8 (aA szs).toNat c):=⟨Ξ,λt a=>by
 obtain⟨n,e,f⟩:=yK U a;unfold bg;rw[e];simp only[u9,u5,List.getElem?_replicate,f,if_true,Option.getD_some]⟩
theorem jL.put{f:Λ->Int}(U:dh szs)(h:jL szs f cs)(q:cX szs t)(r:cJ c k):jL szs (λs=>if s=t then c else f s) (q3 szs t k c cs):=by
 obtain⟨n,e,w⟩:=yK U q;unfold q3;rw[e];simp only[r,if_true,u9];refine⟨by simp[h.1],λs p=>?_⟩;obtain⟨m,hm,x⟩:=yK U p;have a:=h.2 s p;unfold bg at a ⊢;rw[hm]at a ⊢;simp only[u9]at a ⊢;by_cases he:s=t
 .subst he;rw[e]at hm;have j:n=m:=by have:=Z7 hm;omega
  subst j;rw[m3 rfl,u5,Z3 (by rw[h.1];exact w)];rfl
 .rw[m5 he,u5,X3 (λj=>he ?_),<-u5,a];subst j;rw[<-yd U hm,<-yd U e]
def OX(w:x3)(szs:Λ)(k o:Int)(D:Told)(v:x1)(I:x3):Prop:=Ext w I/\(4096<aA szs->v= .tuple #[.pointer ν,Δ 5])/\
 (aA szs<=4096->∃g a sv cs,v= .tuple #[Γ g,Δ 0]/\w.heap.size<=g/\(w.heap.size<=a/\∀r,li sv r->w.heap.size<=r)/\ce I g a sv szs k cs/\jL szs (jI D o) cs)
theorem ED{g m:Nat}{o:Int}{D:Told}(h:e2 w g m szs k o D)(ab:D.length<65536):aj x7 I1 [Γ g] w (OX w szs k o D):=by
 obtain⟨⟨sv,gs,ac,hm⟩,aW,U,ad,ae⟩:=id h;have P:=h.nodup;refine az func64 ?_;rw[cW fd.u];simp only[j0,aX];intro J a _ _;have H:=ac.W a;rw[aK fP.p 0 H rfl,aK fP.p 1 H rfl,aK fP.p 2 H rfl];refine(sx (hm.ls.W a)).X ?_;rintro _ V _ ⟨x,_,ag,_,ah⟩;by_cases y:aA szs<=4096
 rotate_left
 .have:=ag U Ω;subst this;rw[bo,bp];simp only[bJ,ai];exact⟨λ_=>⟨a.F x,λ_=>rfl,λh=>m6 h y⟩,λh=>by simp at h⟩
 obtain⟨gt,f,aN,rfl,aY,aZ,ak,Q⟩:=ah U y ad;rw[bo,bp];simp only[bJ,ai];refine⟨λh=>m6 rfl h,λ_=>?_⟩;have s1:=a.size;have s2:=x.size;refine(OU ((h.W a).W x) ab).X ?_;rintro bD al _ ⟨I,L,z,R⟩;have a2:=I.size;have a6:f<V.heap.size:=by
  obtain⟨⟨a1,a7,_,_,am⟩,⟨_,_,a8⟩,an,ao⟩:=id Q;have ba:=kF an.2;obtain⟨_,⟨_,ap⟩|⟨cap,cs,_,au,_⟩⟩:=am
  .rw[ao]at ap;omega
  .exact au.lt
 have bb:=z.1.length_eq;rw[kB qW.u R];refine cm.range L.length (λi C=>af (λr=>r=f) al C/\∃cs,ce C gt f aN szs k cs/\jL szs (jI (L.take i) o) cs) Ω ⟨af.refl _ _,_,Q.W I,by rw[List.take_zero];exact OW U.2 o⟩ ?_ ?_
 .rintro i C av hi ⟨E,cs,K,G⟩ aw;simp only[aP,ai];refine⟨λ_=>?_,λh=>Ω⟩;obtain⟨⟨t,c⟩,q⟩:∃p,L[i]?=σ p:=⟨_,x6 hi⟩;have ax:(t,c)∈D:=z.1.mem_iff.1 (x5 q);obtain⟨ay,aB,aC⟩:=ae _ ax;have aD:=aq.aa R E λr S aE he=>by
   have he:r=f:=he;rcases aE with h|h
   .have h:=h;omega
   .exact h
  refine pL gG.p rfl qW.u gG.i aD q λus aF=>?_;obtain⟨bc,bd,A,B,rfl,be,bf,_,h1,aG⟩:=aF;have aH:=aG;subst aH;obtain⟨aI,rfl,_⟩:=id h1;have W:=fw h1;refine bx gG.i λbg bh bi aJ X=>?_;refine cb (vs:=[aI,Δ c]) gG.i rfl rfl (by intro v Y;simp at Y;rcases Y with rfl|rfl;exact W.cells.2;rfl) X λbj aL bk Z=>?_;have bl:=X.lt;have M:=aJ.put aL Ω;rw[aQ gG.p 0 Z rfl,aQ gG.p 1 Z rfl];refine(Cy (K.W M) (W.W M)).X ?_;rintro _ bm _ ⟨rfl,aO,aR⟩;simp only[aM];refine aw _ ⟨(E.F (M.aa _)).F aO,_,aR,(G.put U.2 ay aB).congr λs bn=>?_⟩;rw[u7,q];have N:=(z.1.map (·.1)).nodup_iff.2 P;have aS:∀p∈L.take i,p.1≠t:=λp y he=>by
   obtain⟨j,O⟩:=c9.1 y;have aT:j<i:=by have:=(x4.1 O).1;rw[c7]at this;omega
   rw[Y5 aT]at O;have:=mV N (by rw[x8,O,Z4,he]) (by rw[x8,q];rfl);omega
  have aU:((L.take i).map (·.1)).Nodup:=by rw[S7];exact(List.take_sublist _ _).nodup N
  have aV:((L.take i++[(t,c)]).map (·.1)).Nodup:=by
   have e:L.take i++[(t,c)]=L.take (i+1):=by rw[u7,q];rfl
   rw[e,S7];exact(List.take_sublist _ _).nodup N
  exact((DO aS aC).cost aU aV s).symm
 .rintro C av ⟨E,cs,K,G⟩;simp only[aP,ai];refine⟨λh=>Ω,λ_=>?_⟩;rw[o6]at G;exact⟨((a.F x).F I).put E Ω,λh=>Ω,λ_=>⟨gt,f,aN,cs,rfl,Ω,⟨Ω,λr S=>by have:=ak r S;omega⟩,K,G.congr λs _=>OV P z.1 s⟩⟩
theorem OY{s:Λ}(U:dh s)(a:cs.length=(aA s).toNat){i:Nat}(h:(bl s)[i]?=σ t):cs[i]?=σ (bg s cs t):=by
 have hi:=(x4.1 h).1;rw[j2 U,<-a]at hi;unfold bg;rw[kG U h];simp only[u9,u5,x6 hi,Option.getD_some]
end Go.Proofs.YtkcigodpbndobaaGreatDoor
