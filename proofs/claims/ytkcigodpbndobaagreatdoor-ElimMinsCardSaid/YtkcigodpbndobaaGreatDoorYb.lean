/- own texts, made small by a tool (wip/ holds them as they were written): no statement of the seat. -/
import Derived.Test.YtkcigodpbndobaaGreatDoorYa
set_option linter.unusedVariables false
set_option linter.unusedSimpArgs false
set_option linter.unnecessarySimpa false
open Array renaming getElem?_eq_some_iff→Z9
open BitVec renaming ofInt→U2
open Bool renaming false→sp,true→rs,not_true→Y2,not_false→X1,and_eq_true→V8,eq_iff_iff→U5
open Decidable renaming not_not→Z2
open Go renaming Value→x1,World→x3,TypeId→r8,IntKind→o4,Builtin→j5,Program→X2,Addr→S6,FuncId→S9
open Go.Addr renaming add_mid→W0
open Go.Builtin renaming append_→j4,len_→X7
open Go.Instr renaming loadAt→u4,fieldAt→u6,storeAt→o6,indexAt→j0,extract→c7,buildSlice→Z3,sliceAt→V6,alloc→S5
open Go.IntKind renaming i64→Y6,u64→V9
open Go.Proofs.Tryz renaming prog→x7
open Go.Result renaming andThen→X9
open Go.Sem renaming run_bind→X4,run_pure→W9
open Go.Value renaming int→Y9,cells→T5
open Int renaming toNat_natCast→u7,mul_le_mul_of_nonneg_right→W6
open List renaming getElem?_eq_some_iff→x4,mem_of_getElem?→x5,getElem?_eq_getElem→x6,getElem?_map→x8,getD_eq_getElem?_getD→v8,take_add_one→u5,replicate→u9,length_map→r9,take_length→p8,length_append→p9,take_of_length_le→o7,mem_map→o8,mem_append→o9,map_append→n9,length_take→j6,ext_getElem?→j9,mem_iff_getElem?→c8,eq_nil_of_length_eq_zero→c9,mem_singleton→b8,range→Z4,getElem?_set_self→Z5,getElem?_eq_none→Y0,getElem?_take_of_lt→Y3,length_cons→Y4,getElem?_append_right→Y5,append_assoc→Y7,getElem?_set→Y8,drop_eq_getElem_cons→X0,length_eq_one_iff→X3,pairwise_iff_getElem→X5,getElem?_set_ne→W5,getElem?_append_left→W8,append_nil→V2,map_congr_left→V3,mem_of_mem_take→V4,map_set→V5,flatMap_cons→U3,map_cons→U4,getElem_mem→T0,mem_filter→T2,mem_or_eq_of_mem_set→T4,map_map→T8,map_take→S0,set_append_right→S7
open Nat renaming le_refl→o5,le_trans→Y1,zero_le→X8,zero_add→V0,mul_one→V1,mul_le_mul_right→V7,sub_self→U1,pow_le_pow_right→T3,add_mul→T7
open Option renaming toList_some→l7,isNone_some→l9,some→b9,map_some→Z0,map_eq_some_iff→Z6,map→W3,getD_some→R3
open Option.some renaming inj→Z7,injEq→X6
set_option maxHeartbeats 16000000
open Option renaming some→σ,none→ν
variable{C a cs l scope co szs t:Λ}{I w:x3}{at_ c e hi k lo v y:Int}{sv z:x1}{N di gs j n r:Nat}{R S:Nat->Prop}{d8:List (Λ)}{cx cy f:Bool}{K:x1->Prop}
namespace Go.Proofs.YtkcigodpbndobaaGreatDoor
open Go Go.Vc Go.RowKit Go.Proofs Go.Proofs.Tryz
set_option maxRecDepth 100000
abbrev bO:ah:=λ_=>False
abbrev e0(n:Nat):ah:=λr=>n<=r
theorem Mm{b:Λ}{bp bv:x1}(f:aF .i64 w bp a)(s:aF .i64 w bv b):
  ak x7 JO [bp,bv] w λv I=>v= .bool (decide (a=b))/\Ext w I:=by
 refine ay func153 ?_;rw[aS ai.u f,aS ai.u s];simp only[bz,aj];refine⟨λp=>⟨?_,Ext.refl _⟩,λz=>?_⟩
 .rw[pl];rintro rfl;exact p rfl
 .have z:a.length=b.length:=Ω
  rw[aS ai.u f];refine bT.range a.length (λi _ J=>Ext w J/\a.take i=b.take i) f.le ⟨Ext.refl _,rfl⟩ ?_ ?_
  .rintro i t4 J k A ⟨e,q⟩ hk;simp only[aP,aj,eu];refine⟨λ_ V B _ _=>?_,λh=>Ω⟩;have e:=e.F B;obtain⟨x,r⟩:=aC A;obtain⟨y,j⟩:=aC (l:=b) (i:=i) Ω;rw[ba ai.u ae.i Ψ (f.W e) r,ba ai.u ae.i Ψ (s.W e) j];simp only[bz,aj,aL];refine⟨λp=>⟨?_,e⟩,λC=>hk _ _ ⟨e,xt q r j Ω⟩⟩;rw[pl];rintro rfl;rw[r]at j;cases j;exact p rfl
  .rintro _ J k ⟨e,q⟩;simp only[aP,aj];refine⟨λh=>Ω,λ_=>⟨?_,e⟩⟩;rw[ms];rwa [p8,z,p8]at q
def kB(rest:List (Λ))(i:Nat):List (Λ):=(Z4 i).flatMap λ(v:Nat)=>rest.map λt=>(v:Int)::t
theorem Mn(rest:List (Λ))(i:Nat):kB rest (i+1)=kB rest i++rest.map λt=>(i:Int)::t:=by
 simp[kB,List.range_succ]
theorem CN(rest:List (Λ))(i:Nat):(kB rest i).length=i*rest.length:=by
 simp only[kB,List.length_flatMap,r9];rw[List.map_const',List.length_range,List.sum_replicate_nat]
def sr(l:Λ):Prop:=l.length<=90/\(∀x∈l,1<=x/\x<=32)/\aB l<=1073741824
theorem bU.p(h:bU l):sr l:=⟨by have:=h.1;omega,h.2,(prod_bound h).2⟩
theorem sr.tail{s:Λ}(h:sr (k::s)):sr s:=by
 have h1:=h.2.1 k (.head _);have e:=(lP s λx a=>h.2.1 x (.tail _ a)).1;have f:k*aB s<=1073741824:=h.2.2;have j:=W6 h1.1 (show 0<=aB s by omega);refine⟨?_,λx a=>h.2.1 x (.tail _ a),Ω⟩;have:=h.1;rw[Y4]at this;omega
theorem xI:∀(s:Λ){sv:x1}{w:x3},aF .i64 w sv s->sr s->
  ak x7 Bi [sv] w λv I=>Ext w I/\bH (e0 w.heap.size) bO I [v] (bk s)
 |[],sv,w,h,U=>by
  refine ay func10 ?_;rw[aS ai.u h];simp only[bi,List.length_nil,Int.natCast_zero,decide_true,bZ];refine la (α:=Λ) (cs:=[.slice ν 0 0]) (A:=bO) dk.u ai.i Φ rfl iw λv I P f _=>⟨P,aq.X f (λr _ h=>?_) λ_ _ h=>h⟩;exact h.elim False.elim id
 |k::s,sv,w,h,U=>by
  have ap:1<=aB (k::s)/\aB (k::s)<=1073741824:=⟨(lP _ U.2.1).1,U.2.2⟩;have q:=U.tail;have hk:=U.2.1 k (.head _);have Q:=jz q.2.1;have au:1<=aB s/\aB s<=1073741824:=⟨(lP _ q.2.1).1,q.2.2⟩;obtain⟨kn,rfl⟩:∃kn:Nat,k=kn:=⟨k.toNat,Ω⟩;have av:kn*(bk s).length<=1073741824:=by
   have e:((kn*(bk s).length:Nat):Int)=aB ((kn:Int)::s):=by
    rw[Int.natCast_mul,Q,aB,Int.toNat_of_nonneg Ω]
   omega
  refine ay func10 ?_;rw[aS ai.u h];simp only[bi,aj];refine⟨λS=>by simp at S;omega,λ_=>?_⟩;refine uF rfl ai.u ae.i h Ξ λW bf=>?_;refine(xI s bf q).X ?_;rintro aw V _ ⟨E,z⟩;have ax:=nI z;refine bT.range kn (λi out J=>Ext V J/\bH (e0 V.heap.size) bO J [out] (kB (bk s) i)) Ω ⟨Ext.refl _,iw⟩ ?_ ?_
  .rintro i out X Y M ⟨p,f⟩ Z;have aa:=bN z p;rw[ew (y:=0) (i:=0) rfl ai.u ae.i Ψ (h.W (E.F p)) (by rfl)];simp only[aP,aj];refine⟨λ_=>?_,λh=>Ω⟩;rw[jf dk.u aa];refine bT.range (bk s).length (λj out J=>Ext V J/\bH (e0 V.heap.size) bO J [out] (kB (bk s) i++((bk s).take j).map λt=>(i:Int)::t)) Ω ⟨p,by simpa using f⟩ ?_ ?_
   .rintro j out B ab ac ⟨C,f⟩ ad;simp only[aP,aj];refine⟨λ_=>?_,λh=>Ω⟩;obtain⟨x,G⟩:=aC ac;have az:x.length<=100:=by
     have:=xw G;have:=q.1;omega
    refine kx rfl rfl dk.u ai.i Ψ (bN z C) G λu af=>?_;refine dl ai.u ae.i rfl λa ga aA aD H ag=>?_;refine iO ai.u ae.i rfl ag (eC (bN af H)) Θ Θ λb aE aG aH K ah=>?_;have aI:=H.size;have N:=H.then ah (by rintro r z rfl;omega);have aJ:=N.size;refine la (α:=Λ) (a:=(i:Int)::x) (R:=bO) dk.u ai.i Φ (qO (mD K (R:=bO))) (aq.X (mD K) (λr _ h=>by subst h;show B.heap.size<=r;omega) λ_ _ h=>h) λc aK L _ al=>?_;have O:=N.F L;have aM:=L.size;refine ox dk.u ai.i rfl (bN (nI f) O) al (bN (aq.X (mD K) (λr _ h=>by subst h;show B.heap.size<=r;omega) λ_ _ h=>h) L) (λr _ h bf=>?_) ?_ ?_ λW aN am an=>?_
    .rcases bf with bf|bf
     .have:=h.2;have:B.heap.size<=r:=bf;omega
     .exact bf
    .have ao:(kB (bk s) i++((bk s).take j).map λt=>(i:Int)::t).length+1<=kn*(bk s).length:=by
      simp only[p9,CN,r9,j6];have:(i+1)*(bk s).length<=kn*(bk s).length:=V7 _ M;rw[T7]at this;omega
     omega
    .have ao:(kB (bk s) i++((bk s).take j).map λt=>(i:Int)::t).length+1<=kn*(bk s).length:=by
      simp only[p9,CN,r9,j6];have:(i+1)*(bk s).length<=kn*(bk s).length:=V7 _ M;rw[T7]at this;omega
     omega
    .simp only[aL];have aO:=C.size;refine ad _ _ ⟨(C.F O).then an (λr z h=>?_),?_⟩
     .have:=h.1;have:V.heap.size<=r:=this;omega
     .have e:kB (bk s) i++((bk s).take (j+1)).map (λt=>(i:Int)::t)=(kB (bk s) i++((bk s).take j).map λt=>(i:Int)::t)++[(i:Int)::x]:=by
       rw[u5,G];simp
      rw[e];refine aq.X am (λr _ h=>?_) λ_ _ h=>h;show V.heap.size<=r;rcases h with h|h|h
      .exact h.1
      .have:B.heap.size<=r:=h;omega
      .omega
   .rintro out B ab ⟨C,f⟩;simp only[aP,aj,aL];refine⟨λh=>Ω,λ_=>Z _ _ ⟨C,?_⟩⟩;rw[Mn];simpa using f
  .rintro out X Y ⟨p,f⟩;rw[ew (y:=0) (i:=0) rfl ai.u ae.i Ψ (h.W (E.F p)) (by rfl)];simp only[aP,aj];refine⟨λh=>Ω,λ_=>⟨E.F p,?_⟩⟩;have s2:=E.size;have e:bk ((kn:Int)::s)=kB (bk s) kn:=by simp[bk,kB]
   rw[e];exact aq.X f (λr _ h=>by have:V.heap.size<=r:=h;show w.heap.size<=r;omega) λ_ _ h=>h
theorem CO(s:Λ)(h:aF .i64 w sv s)(U:bU s):ak x7 Bi [sv] w λv I=>Ext w I/\bH (e0 w.heap.size) bO I [v] (bk s):=xI s h U.p
theorem Mo:∀(x:Nat),0<x->∃k m,x=2 ^ k*(2*m+1):=by
 intro x;induction x using Nat.strongRecOn with
 |_ x a=>
  intro h;by_cases e:x % 2=1
  .exact⟨0,x / 2,Ω⟩
  .obtain⟨k,m,hk⟩:=a (x / 2) Ω Ω;refine⟨k+1,m,?_⟩;rw[Nat.pow_succ,Nat.mul_assoc,Nat.mul_comm 2,<-Nat.mul_assoc,<-hk];omega
theorem xJ{k m i:Nat}:(2 ^ k*(2*m+1)).testBit i=(decide (i=k)||decide (k<i)&&m.testBit (i-k-1)):=by
 rw[Nat.testBit_two_pow_mul];by_cases h:k<=i
 .obtain⟨d,rfl⟩:=Nat.exists_eq_add_of_le h;cases d with
  |zero=>simp
  |succ d=>
   have e:(2*m+1).testBit (d+1)=m.testBit d:=by rw[Nat.testBit_succ];congr 1;omega
   simp[e,show k+(d+1)-k=d+1 by omega]
 .simp[h,show i≠k by omega,show¬k<i by omega]
theorem Mp{k m:Nat}(p:2 ^ k*(2*m+1)<2 ^ 64):(2 ^ k*(2*m+1)) &&& (2 ^ 64-2 ^ k*(2*m+1))=2 ^ k:=by
 have q:=Nat.two_pow_pos k;have hk:k<64:=by
  rcases Nat.lt_or_ge k 64 with h|h
  .exact h
  .have:2 ^ 64<=2 ^ k:=T3 Ω h;have:2 ^ k*1<=2 ^ k*(2*m+1):=Nat.mul_le_mul_left _ Ω;omega
 have e:2 ^ k*(2*m+1)=(2 ^ k*(2*m)+(2 ^ k-1))+1:=by rw[Nat.mul_add];omega
 apply Nat.eq_of_testBit_eq;intro i;rw[Nat.testBit_and,xJ]
 conv=>lhs;rhs;rw[e]
 rw[Nat.testBit_two_pow_sub_succ Ω,Nat.testBit_two_pow_mul_add _ Ω,Nat.testBit_two_pow];by_cases h1:i=k
 .subst h1;simp[hk]
 .by_cases a:k<i
  .have f:(2*m).testBit (i-k)=m.testBit (i-k-1):=by
    obtain⟨d,j⟩:∃d,i-k=d+1:=⟨i-k-1,Ω⟩;rw[j,Nat.testBit_succ];congr 1;omega
   simp[h1,a,show¬i<k by omega,f,show k≠i by omega];intro h;simp[h]
  .simp[h1,a,show k≠i by omega]
def ld(a c:Nat):Nat:=(BitVec.ofNat 64 a &&& ~~~BitVec.ofNat 64 c).toNat
theorem CP(a c i:Nat):(ld a c).testBit i=(decide (i<64)&&(a.testBit i&& !c.testBit i)):=by
 unfold ld;rw[BitVec.testBit_toNat,BitVec.getLsbD_and,BitVec.getLsbD_not,BitVec.getLsbD_ofNat,BitVec.getLsbD_ofNat];by_cases h:i<64<;>simp[h]
theorem Mq(a c:Nat):ld a c<2 ^ 64:=BitVec.isLt _
theorem Mr{a:Nat}(h:∀i,n<=i->a.testBit i=sp):a<2 ^ n:=Nat.lt_pow_two_of_testBit a h
theorem CQ{a i:Nat}(h:a<2 ^ n)(hi:n<=i):a.testBit i=sp:=Nat.testBit_lt_two_pow (Nat.lt_of_lt_of_le h (T3 Ω hi))
def fh(b n:Nat):List Nat:=(Z4 n).filter λi=>b.testBit i
theorem CR(b n:Nat):(fh b n).Pairwise (·< ·):=List.Pairwise.filter _ List.pairwise_lt_range
theorem xK{b i:Nat}:i∈fh b n↔i<n/\b.testBit i=rs:=by simp[fh]
def pH:Option Nat->Int
 |some i=>(i:Int)
 |none=>-1
def lf(b n:Nat)(v:Int):Int:=pH ((Z4 n).find? (λi:Nat=>decide (v<(i:Int))&&b.testBit i))
theorem CS:∀{l:List Nat}{k x:Nat},l.Pairwise (·< ·)->l[k]?=σ x->l.filter (λi=>decide (x<i))=l.drop (k+1)
 |y::l,0,x,h,hk=>by
  simp at hk;subst hk;rw[List.pairwise_cons]at h;simp only[List.drop_succ_cons,List.drop_zero];rw[List.filter_cons_of_neg Ξ,List.filter_eq_self.2 λa e=>by simpa using h.1 a e]
 |y::l,k+1,x,h,hk=>by
  simp only[List.getElem?_cons_succ]at hk;rw[List.pairwise_cons]at h;have:y<x:=h.1 x (x5 hk);rw[List.filter_cons_of_neg Θ,List.drop_succ_cons];exact CS h.2 hk
theorem CT(b n:Nat)(v:Int):lf b n v=pH (((fh b n).filter (λi:Nat=>decide (v<i))).head?):=by
 unfold lf fh;rw[<-List.head?_filter,List.filter_filter]
theorem Ms(b n:Nat):lf b n (-1)=pH ((fh b n)[0]?):=by
 rw[CT,List.filter_eq_self.2 (λa _=>Θ),List.head?_eq_getElem?]
theorem CU{b k x:Nat}(h:(fh b n)[k]?=σ x):lf b n x=pH ((fh b n)[k+1]?):=by
 have e:(λi:Nat=>decide ((x:Int)<i))=λi=>decide (x<i):=by funext i;simp
 rw[CT,e,CS (CR b n) h,List.head?_eq_getElem?,List.getElem?_drop]
theorem Mt{b:Nat}(h:(n:Int)-1<=v):lf b n v= -1:=by
 unfold lf;rw[List.find?_eq_none.2 λi hi=>by simp at hi ⊢;omega];rfl
theorem Mu{b k m s:Nat}(y:n<=64)(f:b<2 ^ n)(e:∀i,r.testBit i=(decide (s<=i)&&b.testBit i))(hk:r=2 ^ k*(2*m+1))(z:v+1=s):lf b n v=k:=by
 have p:r.testBit k=rs:=by rw[hk,xJ];simp
 have q:∀i,i<k->r.testBit i=sp:=λi hi=>by rw[hk,xJ];simp[show i≠k by omega,show¬k<i by omega]
 have a:=p;rw[e]at a;simp at a;have w:k<n:=by
  rcases Nat.lt_or_ge k n with h|h
  .exact h
  .rw[CQ f h]at a;cases a.2
 unfold lf;have:(Z4 n).find? (λi:Nat=>decide (v<(i:Int))&&b.testBit i)=σ k:=by
  rw[List.find?_range_eq_some];refine⟨by simp[a.2];omega,by simpa using w,λj x=>?_⟩;have:=q j x;rw[e]at this;simp only[Bool.not_eq_true',Bool.and_eq_false_iff,decide_eq_false_iff_not]at this ⊢;rcases this with h|h
  .exact .inl Ω
  .exact .inr h
 rw[this];rfl
theorem Mv{b s:Nat}(a:∀i,r.testBit i=(decide (s<=i)&&b.testBit i))(hk:r=0)(e:v+1=s):lf b n v= -1:=by
 unfold lf;rw[List.find?_eq_none.2]
 .rfl
 .intro i hi;have:=a i;rw[hk,Nat.zero_testBit]at this;simp at hi this ⊢;intro h;exact this Ω
section
variable{P:X2}{w:x3}{t:r8}{cx cy:Bool}{a b:Nat}{K:x1->Prop}
theorem oC(a:Nat):U2 64 (a:Int)=BitVec.ofNat 64 a:=BitVec.ofInt_natCast _ _
theorem CV(x:BitVec 64):V9.wrap (x.toNat:Int)=(x.toNat:Int):=by
 have:=x.isLt;rw[lw Ω Ω]
theorem u64_and(f:a<2 ^ 64)(h:b<2 ^ 64):ab P (aQ .and t cx cy (.int .u64 a) (.int .u64 b)) w K=K (.int .u64 ((a &&& b:Nat):Int)):=ab.of λI _=>by
 have e:(U2 64 (a:Int) &&& U2 64 (b:Int)).toNat=a &&& b:=by
  rw[oC,oC,BitVec.toNat_and,BitVec.toNat_ofNat,BitVec.toNat_ofNat,Nat.mod_eq_of_lt f,Nat.mod_eq_of_lt h]
 have hw:V9.wrap ((a &&& b:Nat):Int)=((a &&& b:Nat):Int):=by rw[<-e];exact CV _
 have j:(U2 V9.bits (a:Int) &&& U2 V9.bits (b:Int)).toNat=a &&& b:=e;simp only[aQ,eqGuard,binOp,Op.intBits,j,hw];rfl
theorem CW:ab P (aQ .andNot t cx cy (.int .u64 a) (.int .u64 b)) w K=K (.int .u64 (ld a b:Int)):=ab.of λI _=>by
 have e:(U2 64 (a:Int) &&& ~~~U2 64 (b:Int)).toNat=ld a b:=by rw[oC,oC];rfl
 have hw:V9.wrap (ld a b:Int)=(ld a b:Int):=CV _;have f:(U2 V9.bits (a:Int) &&& ~~~U2 V9.bits (b:Int)).toNat=ld a b:=e;simp only[aQ,eqGuard,binOp,Op.intBits,f,hw];rfl
theorem mI{k:o4}(f:n<64):ab P (aQ .shr t cx cy (.int .u64 (a:Int)) (.int k (n:Int))) w K=K (.int .u64 ((a / 2 ^ n:Nat):Int)):=ab.of λI _=>by
 have e:(a:Int).fdiv (2 ^ min n V9.bits)=((a / 2 ^ n:Nat):Int):=by
  have:min n V9.bits=n:=Nat.min_eq_left (by show n<=64;omega);rw[this,Int.fdiv_eq_ediv_of_nonneg _ (by exact Int.le_of_lt (Int.pow_pos Ω))];simp
 simp only[aQ,eqGuard,binOp,Op.shift,u7,e];simp[show¬(n:Int)<0 by omega]
theorem xL{k:o4}(a:n<64):ab P (aQ .shl t cx cy (.int .u64 1) (.int k (n:Int))) w K=K (.int .u64 ((2 ^ n:Nat):Int)):=by
 rw[BV Ω];have e:min ((n:Int).toNat) V9.bits=n:=Nat.min_eq_left (by show n<=64;omega);have f:2 ^ n<2 ^ 64:=Nat.pow_lt_pow_right Ω a;rw[e,Int.one_mul,show((2:Int) ^ n)=((2 ^ n:Nat):Int) by simp];generalize 2 ^ n=q at f ⊢;rw[lw Ω Ω]
end
def uJ:Λ:=[0,1,56,2,57,49,28,3,61,58,42,50,38,29,17,4,62,47,59,36,45,43,51,22,53,39,33,30,24,18,12,5,63,55,48,27,60,41,37,16,46,35,44,21,52,32,23,11,54,26,40,15,34,20,31,10,25,14,19,9,13,8,7,6]
def Laid(w:x3):Prop:=w.rangeAt 0 0 (ints .u8 uJ)
theorem Laid.W(h:Laid w)(a:Ext w I):Laid I:=px a h
theorem Mw:∀k:Nat,k<64->uJ[(2 ^ k*285870213051353865 % 2 ^ 64) / 2 ^ 58]?=σ (k:Int):=Φ
theorem Mx{x k m:Nat}(f:Laid w)(j:x=2 ^ k*(2*m+1))(p:x<2 ^ 64):
  ak x7 KX [.int .u64 (x:Int)] w λv I=>v=Δ (k:Int)/\Ext w I:=by
 have z:=Nat.two_pow_pos k;have A:2 ^ k<=x:=by
  have:2 ^ k*1<=2 ^ k*(2*m+1):=Nat.mul_le_mul_left _ Ω;omega
 have hk:k<64:=by
  rcases Nat.lt_or_ge k 64 with h|h
  .exact h
  .have:2 ^ 64<=2 ^ k:=T3 Ω h;omega
 refine ay func263 ?_;simp only[bi,aj];refine⟨λh=>Ω,λ_=>?_⟩;rw[nB];have q:V9.wrap (0-(x:Int))=((2 ^ 64-x:Nat):Int):=by
  simp only[o4.wrap,o4.bits,o4.signed];simp;omega
 rw[q,u64_and p Ω,j,Mp Ω];simp only[fO];have r:V9.wrap (((2 ^ k:Nat):Int)*285870213051353865)=((2 ^ k*285870213051353865 % 2 ^ 64:Nat):Int):=by
  have e:((2 ^ k:Nat):Int)*285870213051353865=((2 ^ k*285870213051353865:Nat):Int):=Ξ
  rw[e];simp only[o4.wrap,o4.bits,o4.signed];simp
 have s:(58:Int)=((58:Nat):Int):=rfl;rw[r,s,mI Ω];have a:=Mw k hk;have y:=(x4.1 a).1;rw[xr xn.u cP.i y,av Ψ (by rw[V1];exact f _ _ (mC a)),e9 cP.u ae.u,lm Ω Ω];exact⟨rfl,Ext.refl _⟩
def j3(b n:Nat):x1:=.agg #[.int .u64 (b:Int),Δ (n:Int)]
def mJ(b n:Nat):Prop:=n<=32/\b<2 ^ n
theorem My(s i:Nat):(2 ^ s-1).testBit i=decide (i<s):=Nat.testBit_two_pow_sub_one s i
theorem CX{b:Nat}:ak x7 JU [j3 b n,Δ v] w λr I=>r= .bool (decide (0<=v/\v<n))/\Ext w I:=by
 refine ay func160 ?_;refine bj λg J f a e=>?_;simp only[ct,cJ,aj];refine⟨λh=>?_,λh=>⟨?_,a⟩⟩
 .rw[aK b3.p 1 e rfl];simp only[aP];exact⟨by simp[h],a⟩
 .rw[pl];omega
theorem uK{b:Nat}:ak x7 JS [j3 b n] w λr I=>r=Δ n/\Ext w I:=by
 refine ay func158 ?_;refine bj λg J f a e=>?_;rw[aK b3.p 1 e rfl];exact⟨rfl,a⟩
theorem Mz{n:Int}:ak x7 JQ [Δ n] w λr I=>Ext w I/\r=(if 1<=n/\n<=32 then .tuple #[j3 (2 ^ n.toNat-1) n.toNat,Δ 0]else .tuple #[j3 0 0,Δ 1]):=by
 refine ay func156 ?_;refine bu b3.i λg J A j q=>?_;refine aV (λv V=>v= .bool (decide (¬(1<=n/\n<=32)))/\J=V) ?_ ?_
 .rintro _ _ ⟨rfl,rfl⟩;simp only[aj];refine⟨λh=>?_,λh=>?_⟩
  .rw[dq (cs:=#[.int .u64 0,Δ 0]) Ψ];refine b4 (vs:=[.int .u64 0,Δ 0]) b3.i rfl rfl (by intro u a;simp at a;rcases a with rfl|rfl<;>rfl) q λx e y f=>?_;rw[fA b3.p b3.i rfl f.range,m6 h];exact⟨j.then e (by rintro r z rfl;omega),rfl⟩
  .have h:1<=n/\n<=32:=Z2.1 h;obtain⟨m,rfl⟩:∃m:Nat,n=m:=⟨n.toNat,Ω⟩;rw[xL Ω];have B:=Nat.two_pow_pos m;have C:2 ^ m<=2 ^ 32:=T3 Ω Ω;simp only[dN];rw[lw Ω Ω,show(((2 ^ m:Nat):Int)-1)=((2 ^ m-1:Nat):Int) by omega];rw[dq (cs:=#[.int .u64 ((2 ^ m-1:Nat):Int),Δ m]) Ψ];refine b4 (vs:=[.int .u64 ((2 ^ m-1:Nat):Int),Δ m]) b3.i rfl rfl (by intro u a;simp at a;rcases a with rfl|rfl<;>rfl) q λx e y f=>?_;rw[fA b3.p b3.i rfl f.range,m5 h];exact⟨j.then e (by rintro r z rfl;omega),rfl⟩
 .intro az s;simp only[aP,bG,aj];refine⟨λh=>s _ _ ⟨?_,rfl⟩,λh=>s _ _ ⟨?_,rfl⟩⟩
  .rw[ms];omega
  .congr 1;simp;omega
theorem CY{b:Nat}(y:mJ b n)(z:Laid w)(G: -1<=v):ak x7 Kh [j3 b n,Δ v] w λr I=>r=Δ (lf b n v)/\Ext w I:=by
 obtain⟨H,e⟩:=y;have f:b<2 ^ 64:=Nat.lt_of_lt_of_le e (T3 Ω Ω);refine ay func198 ?_;refine bj λg J K a j=>?_;rw[aK b3.p 1 j rfl];simp only[dN,cJ,aj];rw[lm Ω Ω];refine⟨λh=>⟨by rw[Mt h],a⟩,λL=>?_⟩;rw[aK b3.p 0 j rfl];refine aV (λu V=>J=V/\∃r s:Nat,u= .int .u64 (r:Int)/\r<2 ^ 64/\v+1=s/\∀i,r.testBit i=(decide (s<=i)&&b.testBit i)) ?_ ?_
 .rintro _ _ ⟨rfl,r,s,rfl,A,U,q⟩;simp only[bi,aj];refine⟨λB=>⟨by rw[Mv q Ω U],a⟩,λB=>?_⟩;obtain⟨k,m,hk⟩:=Mo r Ω;refine(Mx (z.W a) hk A).X ?_;rintro _ M _ ⟨rfl,C⟩;exact⟨by rw[Mu Ω e q hk U],a.F C⟩
 .intro az x;refine⟨λh=>?_,λh=>?_⟩
  .obtain⟨s,rfl⟩:∃s:Nat,v=s:=⟨v.toNat,Ω⟩;have N:0<2 ^ (s+1):=Nat.two_pow_pos _;have O:2 ^ (s+1)<=2 ^ 32:=T3 Ω Ω;simp only[aL];rw[lm Ω Ω,show((s:Int)+1)=((s+1:Nat):Int) by omega,xL Ω];simp only[dN];rw[lw Ω Ω,show(((2 ^ (s+1):Nat):Int)-1)=((2 ^ (s+1)-1:Nat):Int) by omega,CW];refine x _ _ ⟨rfl,_,s+1,rfl,Mq _ _,Ω,λi=>?_⟩;rw[CP,My];by_cases E:i<64
   .by_cases hi:s+1<=i
    .simp[E,hi,show¬i<s+1 by omega]
    .simp[hi,show i<s+1 by omega]
   .rw[CQ f Ω];simp
  .exact x _ _ ⟨rfl,b,0,rfl,f,Ω,λi=>Ξ⟩
theorem MA{b:Nat}(e:mJ b n)(f:Laid w):ak x7 Kg [j3 b n] w λr I=>r=Δ (lf b n (-1))/\Ext w I:=by
 refine ay func197 ?_;refine bj λg J q a h=>?_;rw[bC b3.p b3.i rfl h.range];refine(CY e (f.W a) Ω).X ?_;rintro _ V _ ⟨rfl,j⟩;exact⟨rfl,a.F j⟩
theorem MB{b:Nat}(K:mJ b n):ak x7 JT [j3 b n,Δ v] w λr I=>r=j3 (if 0<=v/\v<n then ld b (2 ^ v.toNat)else b) n/\Ext w I:=by
 refine ay func159 ?_;refine bj λg J U x y=>?_;refine bu b3.i λL V W z A=>?_;have s1:=x.size;have X:=y.lt;refine dh (λe=>∃f,ag e g b3 [.int .u64 ((f:Nat):Int),Δ (n:Int)]/\ag e L b3 [.int .u64 0,Δ 0]/\Ext w e/\f=(if 0<=v/\v<n then ld b (2 ^ v.toNat)else b)) ?_ ?_
 .rintro e ⟨f,M,N,O,rfl⟩;rw[bC b3.p b3.i rfl M.range];refine b4 (vs:=[_,_]) b3.i rfl rfl (by intro u B;simp at B;rcases B with rfl|rfl<;>rfl) N λY P Z Q=>?_;rw[fA b3.p b3.i rfl Q.range];exact⟨rfl,O.then P (by rintro r R rfl;omega)⟩
 .intro az C;have j:=y.W z;rw[bC b3.p b3.i rfl j.range];refine CX.X ?_;rintro _ ab _ ⟨rfl,a⟩;have E:=(x.F z).F a;simp only[aj,eu];refine⟨λh ac q _ _=>?_,λh=>C _ ⟨b,j.W a,A.W a,E,by rw[m6 h]⟩⟩;have G:=(j.W a).W q;rw[aK b3.p 0 G rfl];obtain⟨s,rfl⟩:∃s:Nat,v=s:=⟨v.toNat,Ω⟩;have ad:=K.1;rw[xL Ω,CW,aT b3.p rfl];refine bw fL.i rfl rfl G (by simp[j3,T5]) λae H af S=>?_;refine C _ ⟨_,S,((A.W a).W q).aa H Ω,(E.F q).then H (by rintro r R rfl;omega),?_⟩;rw[m5 h,u7]
def qX(v:Int):Nat:=if v<0 then 0 else 40-v.toNat
theorem xM(x:Nat):qX x=40-x:=by unfold qX;rw[m6 Ω];omega
theorem pI{b g:Nat}(e:mJ b n):
  qD x7 k4 [Γ g] (fh b n).length (λk vs _=>∃v:Nat,(fh b n)[k]?=σ v/\vs=[Δ (v:Int)])
   (λw=>ag w g b3 [.int .u64 (b:Int),Δ (n:Int)]/\Laid w):=by
 refine⟨k4.enters,λl az Q w r _ E ⟨s,z⟩ G=>?_⟩;have R:=e.1;refine r7 func196 ?_;rw[bC b3.p b3.i rfl s.range];refine(MA e z).free.X ?_;rintro _ J ⟨H,rfl,f⟩;refine⟨λv V=>∃k,k<=(fh b n).length/\v=Δ (pH (fh b n)[k]?)/\az k V/\ag V g b3 [.int .u64 (b:Int),Δ (n:Int)]/\Laid V,
  λv _=>qX (b0 v),⟨0,X8 _,by rw[Ms],r 0 _ _ f H.b G,s.W f,z.W f⟩,?_⟩
 rintro _ V ⟨k,hk,rfl,A,I,K⟩;cases a:(fh b n)[k]? with
 |none=>
  have:k=(fh b n).length:=by
   have:=List.getElem?_eq_none_iff.1 a;omega
  subst this;simp only[pH,cJ,aj];exact⟨λh=>Ω,λ_=>.inl A⟩
 |some x=>
  have j:=(x4.1 a).1;have S:=(xK.1 (x5 a)).1;simp only[pH,cJ,aj];refine⟨λ_=>?_,λh=>Ω⟩;refine⟨rfl,(E k _ V j ⟨I,K⟩ ⟨x,a,rfl⟩ A).X ?_⟩;rintro _ U (⟨rfl,⟨B,C⟩,L⟩|⟨rfl,M⟩)
  .simp only[bA,Y2,aW];rw[bC b3.p b3.i rfl B.range];refine(CY e C Ω).free.X ?_;rintro _ W ⟨N,rfl,q⟩;refine⟨⟨k+1,j,congrArg (Y9 .i64) (CU a),r _ _ _ q N.b L.1,B.W q,C.W q⟩,?_⟩;rw[CU a];cases O:(fh b n)[k+1]? with
   |none=>show 0<qX x;rw[xM];omega
   |some y=>
    have X:x<y:=by
     have h1:=(x4.1 a).2;have P:=(x4.1 O).2;rw[<-h1,<-P];exact X5.1 (CR b n) k (k+1) _ _ Ω
    show qX y<qX x;rw[xM,xM];omega
  .simp only[bA,X1,bZ];exact .inr ⟨k,j,M⟩
theorem pJ{b:Nat}:ak x7 Jb [j3 b n] w λr I=>Ext w I/\∃g,r= .func (.func k4) #[] #[Γ g]/\w.heap.size<=g/\ag I g b3 [.int .u64 (b:Int),Δ (n:Int)]:=by
 refine ay func99 ?_;refine bj λg J f a e=>?_;rw[jX];exact⟨a,g,rfl,Ω,e⟩
abbrev dd(s:Λ):Prop:=∀x∈s,1<=x/\x<=32
theorem dd.tail{s:Λ}(h:dd (k::s)):dd s:=λx a=>h x (.tail _ a)
theorem kC{s:Λ}(h:dd s):1<=aB s:=(lP s h).1
theorem qY:∀(s t:Λ)(m:Int),cc s t m=(cc s t 0).map λn=>n+m*aB s
 |[],[],m=>by simp[cc,aB]
 |k::s,v::t,m=>by
  unfold cc;split
  .rw[qY s t (m*k+v),qY s t (0*k+v)];simp only[Option.map_map,aB];congr 1;funext n;simp only[Function.comp];rw[Int.add_mul,Int.add_mul,<-Int.mul_assoc];simp;omega
  .rfl
 |[],_::_,_=>rfl
 |_::_,[],_=>rfl
theorem xN{L j:Nat}{rest:List (Λ)}(p:rest.length=L):∀{kn v:Nat},v<kn->∀{x:Λ},rest[j]?=σ x->
  ((Z4 kn).flatMap λ(v:Nat)=>rest.map λt=>(v:Int)::t)[v*L+j]?=σ ((v:Int)::x)
 |0,v,h,_,_=>Ω
 |kn+1,v,h,x,e=>by
  have q:=(x4.1 e).1;have f:((Z4 kn).flatMap λ(v:Nat)=>rest.map λt=>(v:Int)::t).length=kn*L:=by
   simp only[List.length_flatMap,r9,p];rw[List.map_const',List.length_range,List.sum_replicate_nat]
  rw[List.range_succ,List.flatMap_append];by_cases a:v<kn
  .have:(v+1)*L<=kn*L:=V7 _ a;rw[T7]at this;rw[W8 (by rw[f];omega)];exact xN p a e
  .have a:v=kn:=Ω
   subst a;rw[Y5 (by rw[f];omega),f,show v*L+j-v*L=j by omega];simp[e]
theorem kD:∀{s:Λ},dd s->∀{i:Nat}{t:Λ},(bk s)[i]?=σ t->cc s t 0=σ (i:Int)
 |[],_,i,t,h=>by
  cases i with
  |zero=>simp[bk]at h;subst h;rfl
  |succ i=>simp[bk]at h
 |k::s,U,i,t,h=>by
  have hk:=U k (.head _);have a:=jz U.tail;have w:=kC U.tail;obtain⟨kn,rfl⟩:∃kn:Nat,k=kn:=⟨k.toNat,Ω⟩;have hi:=(x4.1 h).1;rw[jz U,aB,Int.toNat_mul Ω Ω,<-a,u7]at hi;have p:0<(bk s).length:=Ω
  have e:i / (bk s).length<kn:=Nat.div_lt_of_lt_mul (by rw[Nat.mul_comm];exact hi);have q:i % (bk s).length<(bk s).length:=Nat.mod_lt _ p;obtain⟨x,f⟩:∃x,(bk s)[i % (bk s).length]?=σ x:=⟨_,x6 q⟩;have j:=xN rfl e f;rw[Nat.mul_comm,Nat.div_add_mod]at j;have bf:((Z4 ((kn:Int).toNat)).flatMap λ(v:Nat)=>(bk s).map λt=>(v:Int)::t)[i]?=σ t:=h;rw[u7,j]at bf;cases bf;unfold cc;rw[m5 ⟨Int.natCast_nonneg _,Int.ofNat_lt.2 e⟩,qY,kD U.tail f];simp only[Z0,X6,Int.zero_mul,Int.zero_add];have r:aB s=((bk s).length:Int):=by rw[a];omega
  rw[r,<-Int.natCast_mul,<-Int.natCast_add];congr 1;rw[Nat.mul_comm,Nat.add_comm,Nat.div_add_mod]
theorem oD:∀{s:Λ},dd s->∀{t:Λ}{n:Int},cc s t 0=σ n->(bk s)[n.toNat]?=σ t
 |[],_,[],n,h=>by simp[cc]at h;subst h;rfl
 |k::s,U,v::t,n,h=>by
  have hk:=U k (.head _);have j:=jz U.tail;have w:=kC U.tail;obtain⟨kn,rfl⟩:∃kn:Nat,k=kn:=⟨k.toNat,Ω⟩;unfold cc at h;split at h
  .rename_i x;rw[qY]at h;cases f:cc s t 0 with
   |none=>rw[f]at h;cases h
   |some q=>
    rw[f]at h;simp only[Z0,X6,Int.zero_mul,Int.zero_add]at h;have p:=ky U.tail f;simp only[Int.zero_mul,Int.zero_add,Int.one_mul]at p;obtain⟨a,rfl⟩:∃a:Nat,v=a:=⟨v.toNat,Ω⟩;have r:=xN (kn:=kn) (v:=a) rfl Ω (oD U.tail f);have e:n.toNat=a*(bk s).length+q.toNat:=by
     rw[<-h,j];have:((a*(aB s).toNat:Nat):Int)=(a:Int)*aB s:=by rw[Int.natCast_mul,Int.toNat_of_nonneg Ω]
     omega
    rw[e];show((Z4 ((kn:Int).toNat)).flatMap λ(v:Nat)=>(bk s).map λt=>(v:Int)::t)[_]?=_;rw[u7];exact r
  .cases h
 |[],_,_::_,_,h=>by cases h
 |_::_,_,[],_,h=>by cases h
theorem CZ:∀(s:Λ),dd s->∀(n c:Int),b1 s (n+c*aB s)=b1 s n
 |[],_,_,_=>rfl
 |k::s,U,n,c=>by
  have a:=kC U.tail;simp only[b1,aB];rw[<-Int.mul_assoc,CZ s U.tail,Int.add_mul_ediv_right _ _ Ω,Int.add_mul_emod_self_right]
theorem qZ:∀{s:Λ},dd s->∀{n:Int},0<=n->n<aB s->cc s (b1 s n) 0=σ n
 |[],_,n,a,h1=>by simp[aB]at h1;simp[b1,cc];omega
 |k::s,U,n,a,h1=>by
  have hk:=U k (.head _);have j:=kC U.tail;simp only[b1,aB]at h1 ⊢;have f:=Int.ediv_lt_of_lt_mul Ω h1;have h:0<=n / aB s:=Int.ediv_nonneg a Ω;have hm:n / aB s % k=n / aB s:=Int.emod_eq_of_lt h f;rw[hm];unfold cc;rw[m5 ⟨h,f⟩,qY];have e:b1 s n=b1 s (n % aB s):=by
   have:=CZ s U.tail (n % aB s) (n / aB s);rw[<-this];congr 1;have:=Int.emod_add_mul_ediv n (aB s);rw[Int.mul_comm (n / aB s)];omega
  rw[e,qZ U.tail (Int.emod_nonneg _ Ω) (Int.emod_lt_of_pos _ Ω)];simp only[Z0,X6,Int.zero_mul,Int.zero_add];have:=Int.emod_add_mul_ediv n (aB s);rw[Int.mul_comm (n / aB s)];omega
theorem q0{s:Λ}(U:dd s){i:Nat}(h:(i:Int)<aB s):(bk s)[i]?=σ (b1 s i):=by
 have:=oD U (qZ U Ω h);simpa using this
theorem C0:∀{s:Λ}{i:Nat}{x:Int},s[i]?=σ x->aB s=x*aB (s.take i++s.drop (i+1))
 |y::s,0,x,h=>by simp at h;subst h;simp[aB]
 |y::s,i+1,x,h=>by
  simp only[List.getElem?_cons_succ]at h;simp only[aB,List.take_succ_cons,List.drop_succ_cons,List.cons_append,C0 h];rw[<-Int.mul_assoc,<-Int.mul_assoc,Int.mul_comm y x]
theorem bU.erase{s:Λ}(h:bU s)(i:Nat):bU (s.take i++s.drop (i+1)):=
 ⟨by have:=h.1;simp;omega,λx a=>by
  rcases o9.1 a with a|a
  .exact h.2 x (V4 a)
  .exact h.2 x (List.mem_of_mem_drop a)⟩
theorem MC{s:Λ}(h:bU s){i:Nat}(hi:i<s.length):aB (s.take i++s.drop (i+1))<=aB s:=by
 have a:=h.2 s[i] (T0 hi);have e:=prod_bound (h.erase i);rw[C0 (x6 hi)];have:=W6 a.1 (show 0<=aB (s.take i++s.drop (i+1)) by omega);omega
def bd(s cs t:Λ):Int:=match cc s t 0 with
 |some n=>cs.getD n.toNat 0
 |none=>0
def q1(x:Λ)(i:Nat)(v:Int):Λ:=x.take i++[v]++x.drop i
def oE(f:Int->Int)(a:Int×Int)(v:Int):Int×Int:=if a.1<0\/f v<a.2 then(v,f v)else a
def ss(s cs:Λ)(k:Int)(i:Nat)(bP:Λ)(x:Λ):Int×Int:=bP.foldl (oE λv=>bd s cs (q1 x i v)) (-1,k)
def gg(s:Λ)(i:Nat):Λ:=s.take i++s.drop (i+1)
def nO(s cs:Λ)(k:Int)(i:Nat)(bP:Λ):List (Int×Int):=(Z4 (aB (gg s i)).toNat).map λ(q:Nat)=>ss s cs k i bP (b1 (gg s i) q)
def upto{α:Type}(l:List α)(d:α)(i:Nat):List α:=l.take i++u9 (l.length-i) d
theorem lg{α:Type}(l:List α)(d:α)(i:Nat):(upto l d i).length=l.length:=by simp[upto];omega
theorem mK{α:Type}(l:List α)(d:α):upto l d 0=u9 l.length d:=by simp[upto]
theorem mL{α:Type}(l:List α)(d:α):upto l d l.length=l:=by simp[upto]
theorem C1{α:Type}{l:List α}{d:α}{i:Nat}(h:i<l.length):(upto l d i)[i]?=σ d:=by
 unfold upto;rw[Y5 Θ,List.getElem?_replicate,m5 Θ]
theorem mM{α:Type}{l:List α}{d x:α}{i:Nat}(h:l[i]?=σ x):(upto l d i).set i x=upto l d (i+1):=by
 have hi:=(x4.1 h).1;unfold upto;rw[S7 _ _ Θ,u5,h];have e:i-(l.take i).length=0:=Θ
 obtain⟨m,hm⟩:∃m,l.length-i=m+1:=⟨l.length-i-1,Ω⟩;rw[e,hm,show l.length-(i+1)=m by omega];simp[List.replicate_succ]
theorem pK{α:Type}{l:List α}{i:Nat}{x:α}(h:l[i]?=σ x):l.set i x=l:=by
 apply j9;intro j;rw[Y8];split
 .rename_i a;subst a;rw[m5 (x4.1 h).1,h]
 .rfl
def xO:Λ->Int
 |[]=>0
 |x::l=>l.foldl min x
def C2(P:Int->Prop)(m:Int):Prop:=P m/\∀x,P x->m<=x
def cW(s t:Λ):Prop:=∃n,cc s t 0=σ n
theorem MD(k v:Int)(s t:Λ):cc (k::s) (v::t) 0=if 0<=v/\v<k then(cc s t 0).map (λn=>n+(0*k+v)*aB s)else ν:=by
 conv=>lhs;unfold cc
 rw[qY]
theorem xP{s:Λ}:cW (k::s) (v::t)↔(0<=v/\v<k)/\cW s t:=by
 unfold cW;rw[MD];constructor
 .rintro⟨n,h⟩;split at h
  .rename_i a;cases e:cc s t 0 with
   |none=>rw[e]at h;cases h
   |some q=>exact⟨a,q,rfl⟩
  .cases h
 .rintro⟨a,q,e⟩;rw[m5 a,e];exact⟨_,rfl⟩
theorem C3:cW [] t↔t=[]:=by
 cases t with
 |nil=>exact⟨λ_=>rfl,λ_=>⟨0,rfl⟩⟩
 |cons v t=>
  constructor
  .rintro⟨_,h⟩;cases h
  .intro h;cases h
theorem su{s:Λ}(h:cW s t):s.length=t.length:=by
 obtain⟨n,h⟩:=h;rcases Nat.decEq s.length t.length with a|a
 .rw[xv s t 0 a]at h;cases h
 .exact a
theorem xQ{s:Λ}(U:dd s){n:Int}(h:cc s t 0=σ n):b1 s n=t:=by
 have f:=ky U h;have h1:=oD U h;simp only[Int.zero_mul,Int.zero_add,Int.one_mul]at f;have a:=q0 U (i:=n.toNat) Ω;rw[h1]at a;have e:((n.toNat:Nat):Int)=n:=Ω
 rw[e]at a;exact(Z7 a).symm
theorem ME{s:Λ}(U:dd s){f:Λ->Int}(h:cW s t):bd s ((Z4 (aB s).toNat).map λ(q:Nat)=>f (b1 s q)) t=f t:=by
 obtain⟨n,a⟩:=h;have j:=ky U a;simp only[Int.zero_mul,Int.zero_add,Int.one_mul]at j;unfold bd;rw[a];simp only;rw[v8,x8,List.getElem?_range Ω];simp only[Z0,R3];have e:((n.toNat:Nat):Int)=n:=Ω
 rw[e,xQ U a]
theorem xR{s:Λ}(U:dd s)(a:cs.length=(aB s).toNat):cs=(Z4 (aB s).toNat).map λ(q:Nat)=>bd s cs (b1 s q):=by
 apply List.ext_getElem
 .simp[a]
 .intro i h1 e;rw[List.getElem_map,List.getElem_range];have f:=kC U;have hi:(i:Int)<aB s:=Ω
  unfold bd;rw[qZ U Ω hi];simp only[u7];rw[v8,x6 h1];rfl
theorem q2{s:Λ}(U:dd s){q:Nat}(a:q<(aB s).toNat):cW s (b1 s q):=⟨_,qZ U Ω (by have:=kC U;omega)⟩
theorem MF{s:Λ}(U:dd s)(e:cs.length=(aB s).toNat)(f:a.length=(aB s).toNat)(h:∀t,cW s t->bd s cs t=bd s a t):cs=a:=by
 rw[xR U e,xR U f];apply V3;intro q j;exact h _ (q2 U (by simpa using j))
theorem MG(h:l≠[]):C2 (λc=>c∈l) (xO l):=by
 obtain⟨x,r,rfl⟩:∃v r,l=v::r:=by cases l with
  |nil=>exact m7 rfl h
  |cons v r=>exact⟨v,r,rfl⟩
 clear h;show C2 (λc=>c∈x::r) (r.foldl min x);induction r generalizing x with
 |nil=>exact⟨.head _,λy f=>by simp at f;simp[f]⟩
 |cons y r j=>
  rw[List.foldl_cons];obtain⟨h1,e⟩:=j (min x y);refine⟨?_,λz a=>?_⟩
  .rcases List.mem_cons.1 h1 with h1|h1
   .rw[h1];rcases Int.le_total x y with h|h
    .rw[Int.min_eq_left h];exact .head _
    .rw[Int.min_eq_right h];exact .tail _ (.head _)
   .exact .tail _ (.tail _ h1)
  .rcases List.mem_cons.1 a with rfl|a
   .have:=e _ (.head _);omega
   .rcases List.mem_cons.1 a with rfl|a
    .have:=e _ (.head _);omega
    .exact e _ (.tail _ a)
def q3(m:Λ)(i j:Nat):Prop:=∀(p q:Nat)(x y:Int),p<q->q<=i->q≠j->m[p]?=σ x->m[q]?=σ y->x<=y
def sw(m:Λ)(i:Nat):Prop:=∀(p q:Nat)(x y:Int),p<q->q<i->m[p]?=σ x->m[q]?=σ y->x<=y
theorem MH{m:Λ}{i:Nat}(h:sw m i):q3 m i i:=λp q x y h1 f j a e=>h p q x y h1 Ω a e
theorem MI{m:Λ}{i:Nat}(h:q3 m i 0):sw m (i+1):=λp q x y h1 f a e=>h p q x y h1 Ω Ω a e
theorem MJ{m:Λ}{i:Nat}{a b:Int}(h:q3 m i j)(B:0<j)(r:m[j-1]?=σ a)(w:m[j]?=σ b)(z:a<=b):sw m (i+1):=by
 intro p q x y h1 C e f;by_cases s:q=j
 .subst s;rw[w]at f;cases f;by_cases A:p=q-1
  .subst A;rw[r]at e;cases e;exact z
  .have:=h p (q-1) x a Ω Ω Ω e r;omega
 .exact h p q x y h1 Ω s e f
theorem MK{m:Λ}{i:Nat}{a b:Int}(h:q3 m i j)(H:0<j)(hi:j<=i)(z:m[j-1]?=σ a)(A:m[j]?=σ b)(I:b<a):q3 ((m.set j a).set (j-1) b) i (j-1):=by
 intro p q x y h1 w B e f;have C:=(x4.1 A).1;have E:∀(r:Nat),((m.set j a).set (j-1) b)[r]?=if r=j-1 then σ b else if r=j then σ a else m[r]?:=λr=>by
  by_cases h:r=j-1
  .subst h;rw[Z5 Θ,m5 rfl]
  .rw[W5 (Ne.symm h),m6 h];by_cases bf:r=j
   .subst bf;rw[Z5 C,m5 rfl]
   .rw[W5 (Ne.symm bf),m6 bf]
 rw[E]at e f;rw[m6 B]at f;by_cases s:q=j
 .rw[m5 s]at f;cases f;split at e
  .cases e;omega
  .split at e
   .omega
   .exact h p (j-1) x a Ω Ω Ω e z
 .rw[m6 s]at f;split at e
  .cases e;have:=h j q b y;by_cases F:j<q
   .exact this F w s A f
   .omega
  .split at e
   .rename_i G;subst G;cases e;exact h (p-1) q a y Ω w s z f
   .exact h p q x y h1 w s e f
theorem swap_perm{m:Λ}{i:Nat}{a b:Int}(q:i<j)(h:m[i]?=σ a)(f:m[j]?=σ b):((m.set j a).set i b).Perm m:=by
 induction m generalizing i j with
 |nil=>simp at h
 |cons x m p=>
  cases j with
  |zero=>omega
  |succ j=>
   cases i with
   |zero=>
    simp at h f ⊢;subst h;obtain⟨r,f⟩:=x4.1 f;rw[show m=m.take j++m[j]::m.drop (j+1) by simp];rw[S7 _ _ Θ];have e:j-(m.take j).length=0:=Θ
    rw[e,f];simp only[List.set_cons_zero];refine(List.Perm.cons b (List.perm_middle)).F ?_;refine(List.Perm.swap x b _).F ?_;exact List.Perm.cons x List.perm_middle.symm
   |succ i=>
    simp at h f ⊢;exact p Ω h f
theorem ML{m:Λ}(h:sw m m.length):m.Pairwise (·<= ·):=by
 rw[X5];intro i j hi a e;exact h i j _ _ e a (x6 hi) (x6 a)
def Good(o:Λ)(n:Nat):Prop:=o.length=n/\∀(i:Nat)(p:Int),o[i]?=σ p->(0<=p/\p<n)/\∀j,j<i->o[j]? ≠σ p
theorem Good.inj{o:Λ}{i:Nat}{p:Int}(h:Good o n)(hi:o[i]?=σ p)(a:o[j]?=σ p):i=j:=by
 rcases Nat.lt_trichotomy i j with h1|h1|h1
 .exact m7 hi ((h.2 j p a).2 i h1)
 .exact h1
 .exact m7 a ((h.2 i p hi).2 j h1)
def C4(m:Λ):Prop:=∀i:Nat,i<m.length->m[i]?=σ (i:Int)
theorem C5{o m:Λ}(h:Good o n)(a:m.Perm o)(U:m.Pairwise (·<= ·)):C4 m:=by
 have s:o.Nodup:=X5.2 λi j hi w C he=>by
  have:=h.inj (i:=i) (j:=j) (p:=o[j]) (by rw[x6 hi,he]) (x6 w);omega
 have y:=a.nodup_iff.2 s;have E:m.length=n:=by rw[a.length_eq,h.1]
 have q:∀x∈m,0<=x/\x<(n:Int):=λx z=>by
  obtain⟨i,hi,he⟩:=List.getElem_of_mem (a.mem_iff.1 z);exact(h.2 i x (by rw[x6 hi,he])).1
 have r:∀(i:Nat)(hi:i+1<m.length),m[i]<m[i+1]:=λi hi=>by
  have h1:=X5.1 U i (i+1) Ω hi Ω;have e:=X5.1 y i (i+1) Ω hi Ω;omega
 have A:∀(i:Nat)(hi:i<m.length),(i:Int)<=m[i]:=by
  intro i;induction i with
  |zero=>intro hi;exact(q _ (T0 hi)).1
  |succ i f=>
   intro hi;have h1:=f Ω;have e:=r i hi;omega
 have B:∀(d i:Nat)(hi:i<m.length),i+d+1=m.length->m[i]<=(i:Int):=by
  intro d;induction d with
  |zero=>
   intro i hi he;have:=(q _ (T0 hi)).2;omega
  |succ d f=>
   intro i hi he;have h1:=f (i+1) Ω Ω;have e:=r i Ω;omega
 intro i hi;rw[x6 hi];have h1:=A i hi;have e:=B (m.length-i-1) i hi Ω;congr 1;omega
theorem MM{o m:Λ}(h:C4 m)(e:m.Perm o):Good o m.length:=by
 have s:m.Nodup:=X5.2 λi j hi a x he=>by
  have h1:=h i hi;have f:=h j a;rw[x6 hi]at h1;rw[x6 a]at f;have h1:=Z7 h1;have f:=Z7 f;omega
 have w:=e.nodup_iff.1 s;refine⟨e.length_eq.symm,λi p hi=>⟨?_,λj a q=>?_⟩⟩
 .obtain⟨k,hk,he⟩:=List.getElem_of_mem (e.mem_iff.2 (x5 hi));have h1:=h k hk;rw[x6 hk,he]at h1;cases h1;omega
 .have r:=(x4.1 hi).1;have:=X5.1 w j i Ω r a;rw[x6 r]at hi;rw[x6 (show j<o.length by omega)]at q;exact this ((Z7 q).F (Z7 hi).symm)
theorem Good.C6{o:Λ}{p:Nat}(h:Good o n)(f:p<n):∃j:Nat,o[j]?=σ (p:Int):=by
 let le:Int->Int->Bool:=λa b=>decide (a<=b);have h1:(o.mergeSort le).Perm o:=List.mergeSort_perm o le;have e:(o.mergeSort le).Pairwise (·<= ·):=by
  refine(List.pairwise_mergeSort (λa b c h1 e=>?_) (λa b=>?_) o).imp λh=>by simpa[le]using h
  .simp[le]at*;omega
  .simp[le];omega
 have q:=C5 h h1 e p (by rw[h1.length_eq,h.1];exact f);obtain⟨j,r,he⟩:=List.getElem_of_mem (h1.mem_iff.1 (x5 q));exact⟨j,by rw[x6 r,he]⟩
def oF(o x:Λ):Λ:=(Z4 o.length).map λ(p:Nat)=>x.getD (o.idxOf (p:Int)) 0
theorem C7(o x:Λ):(oF o x).length=o.length:=by simp[oF]
theorem C8{o x:Λ}{p:Int}(h:Good o n)(r:x.length=n)(a:o[j]?=σ p):(oF o x)[p.toNat]?=x[j]?:=by
 have h1:=(h.2 j p a).1;have s:=(x4.1 a).1;have hm:=x5 a;have e:=List.idxOf_lt_length_of_mem hm;have f:=h.inj (by rw[x6 e,List.getElem_idxOf e]) a;have q:((p.toNat:Nat):Int)=p:=Ω
 have w:=h.1;unfold oF;rw[x8,List.getElem?_range Ω];simp only[Z0,q,f];rw[v8,x6 (show j<x.length by omega)];rfl
theorem C9{o x y:Λ}(h:Good o n)(f:x.length=n)(s:y.length=n)(q:∀(j:Nat)(p:Int),o[j]?=σ p->y[p.toNat]?=x[j]?):y=oF o x:=by
 refine j9 λp=>?_;have w:=h.1;by_cases r:p<n
 .obtain⟨j,a⟩:=h.C6 r;have h1:=q j p a;have e:=C8 h f a;rw[u7]at h1 e;rw[h1,e]
 .rw[Y0 Ω,Y0 (by rw[C7];omega)]
theorem oG:∀{s t:Λ},cW s t↔s.length=t.length/\∀(i:Nat)(a v:Int),s[i]?=σ a->t[i]?=σ v->0<=v/\v<a
 |[],t=>by
  rw[C3];exact⟨λh=>⟨by rw[h],λi a v h _=>by simp at h⟩,λh=>c9 h.1.symm⟩
 |k::s,[]=>⟨λh=>m7 (su h) Ξ,λh=>m7 h.1 Ξ⟩
 |k::s,v::t=>by
  rw[xP,oG];refine⟨λ⟨h1,j,p⟩=>⟨by simp[j],λi a u e f=>?_⟩,λ⟨h1,j⟩=>⟨j 0 k v rfl rfl,by simpa using h1,λi a u e f=>j (i+1) a u (by simpa using e) (by simpa using f)⟩⟩;cases i with
  |zero=>simp at e f;subst e;subst f;exact h1
  |succ i=>exact p i a u (by simpa using e) (by simpa using f)
def fa(s o:Λ):Λ:=o.map λp=>s.getD p.toNat 0
theorem uL(s o:Λ):(fa s o).length=o.length:=by simp[fa]
theorem Da{s o:Λ}{p:Int}(h:Good o n)(U:s.length=n)(a:o[j]?=σ p):(fa s o)[j]?=s[p.toNat]?:=by
 have h1:=(h.2 j p a).1;unfold fa;rw[x8,a,Z0,v8,x6 (show p.toNat<s.length by omega)];rfl
theorem MN{s o:Λ}(h:Good o n)(U:s.length=n){x:Int}(a:x∈fa s o):x∈s:=by
 obtain⟨p,e,rfl⟩:=o8.1 a;obtain⟨j,f,he⟩:=List.getElem_of_mem e;have h1:=(h.2 j p (by rw[x6 f,he])).1;rw[v8,x6 (show p.toNat<s.length by omega)];exact T0 _
theorem bU.MO{s o:Λ}(a:bU s)(h:Good o n)(U:s.length=n):bU (fa s o):=
 ⟨by rw[uL,h.1,<-U];exact a.1,λx e=>a.2 x (MN h U e)⟩
theorem MP{s o x:Λ}(h:Good o n)(U:s.length=n)(w:cW (fa s o) x):cW s (oF o x):=by
 obtain⟨h1,y⟩:=oG.1 w;rw[uL,h.1]at h1;refine oG.2 ⟨by rw[C7,h.1,U],λp a v e z=>?_⟩;have A:p<n:=by have:=(x4.1 e).1;omega
 obtain⟨j,f⟩:=h.C6 A;have q:=Da h U f;have r:=C8 h h1.symm f;rw[u7]at q r;exact y j a v (by rw[q,e]) (by rw[<-r,z])
def pL(s cs o:Λ):Λ:=(Z4 (aB (fa s o)).toNat).map λ(q:Nat)=>bd s cs (oF o (b1 (fa s o) q))
theorem Db(s cs o:Λ):(pL s cs o).length=(aB (fa s o)).toNat:=by simp[pL]
theorem xS{f:Int->Bool}{x:Int}:runN f (x::l)=if f x=rs then runN f l+1 else 0:=by
 grind [runN,List.takeWhile_cons]
theorem xT(f:Int->Bool):∀l:Λ,l.dropWhile f=l.drop (runN f l)
 |[]=>rfl
 |x::l=>by
  rw[List.dropWhile_cons,xS];by_cases h:f x=rs
  .rw[m5 h,m5 h,xT f l];rfl
  grind
theorem Dc(f:Int->Bool):∀l:Λ,l.takeWhile f=l.take (runN f l)
 |[]=>rfl
 |x::l=>by
  rw[List.takeWhile_cons,xS];by_cases h:f x=rs
  .rw[m5 h,m5 h,List.take_succ_cons,Dc f l]
  grind
theorem Dd{f:Int->Bool}:∀{l:Λ}{b:Int}{q:Λ},l.dropWhile f=b::q->f b=sp
 |x::l,b,q,h=>by
  rw[List.dropWhile_cons]at h;by_cases a:f x=rs
  .rw[m5 a]at h;exact Dd h
  grind
theorem xU{p:Λ}{a:Nat}{b:Int}{q:Λ}(h:p.drop a=b::q):p[a]?=σ b:=by
 have:=List.getElem?_drop (xs:=p) (i:=a) (j:=0)
 grind
theorem MQ(p:Λ)(at_:Nat):match qW p at_ with
  | .word a b=>lex (p.drop at_)=(((p.take b).drop a)::(lex (p.drop b)).1,(lex (p.drop b)).2)
  | .none=>lex (p.drop at_)=([],rs)
  | .text _=>lex (p.drop at_)=([],sp):=by
 have h:(p.drop at_).dropWhile cY=p.drop (gJ p at_):=by rw[xT,List.drop_drop];rfl
 have j:(p.drop (gJ p at_)).dropWhile b7=p.drop (j2 p (gJ p at_)):=by rw[xT,List.drop_drop];rfl
 have s:(p.drop (gJ p at_)).takeWhile b7=(p.take (j2 p (gJ p at_))).drop (gJ p at_):=by
  grind [Dc,List.drop_take,j2]
 have w:runN b7 (p.drop (gJ p at_))=j2 p (gJ p at_)-gJ p at_:=by grind [j2]
 have A:gJ p at_<=j2 p (gJ p at_):=by grind [j2]
 unfold qW;generalize gJ p at_=a at*;generalize j2 p a=b at*;by_cases h1:b<p.length/\(∀c,p[b]?=σ c->cY c=sp)
 .grind [mF,List.drop_eq_nil_iff,xU]
 .rw[m6 h1];by_cases f:a=b
  .rw[m5 f];simp only;subst f;rw[mF,h];cases e:p.drop a with
   |nil=>rfl
   |cons x q=>
    exfalso;have B:=xU e
    grind [Dd]
  .rw[m6 f];simp only;rw[mF (p.drop at_),h];cases e:p.drop a with
   |nil=>
    rw[e]at w;have:runN b7 []=0:=rfl;omega
   |cons x q=>
    simp only;rw[e]at j s w;have y:b7 x=rs:=by
     grind [xS]
    rw[m5 y,j,s];cases z:p.drop b with
    |nil=>simp only;rw[mF []];rfl
    |cons c r=>
     simp only;have C:=xU z
     grind
def iQ(w:x3)(g:Nat)(R:Nat->Prop)(d8:List (Λ))(e:Bool):Prop:=∃a p at_,nN w g a p at_ (-1)/\(∀r,li a r->R r)/\lex (p.drop at_)=(d8,e)
theorem iQ.aa{g:Nat}{e:Bool}(h:iQ w g R d8 e)(f:af S w I)(j:¬S g)(B:∀r,R r->¬S r):iQ I g R d8 e:=by
 obtain⟨q,p,a,⟨h1,s,x,y,bx,C⟩,z,A⟩:=h;exact⟨q,p,a,⟨h1,s,x,y.aa f j,bx,by grind [bl]⟩,z,A⟩
theorem iQ.words{g:Nat}(h:iQ w g R d8 f):d8.length<=100000/\∀t∈d8,Bytes t/\t≠[]/\t.length<=100000:=by
 obtain⟨s,p,a,⟨x,y,z,_⟩,_,j⟩:=h;have A:(p.drop a).length<=100000:=by grind
 have q:=si _ (p.drop a) (o5 _);rw[j]at q;refine⟨by grind,λt B=>?_⟩;have e:=uC _ (p.drop a) (o5 _) t (by grind);refine⟨λb r=>?_,e.1,Ω⟩;have:=ro (e.2.1 b r);omega
def MR(w:x3)(g:Nat)(R:Nat->Prop)(d8:List (Λ))(a:Bool)(v:x1)(I:x3):Prop:=af (λr=>r=g) w I/\match d8 with
 |t::l=>iQ I g R l a/\∃n:Int,v= .tuple #[cb t,Δ n,Δ 0]
 |[]=>∃n:Int,v= .tuple #[cb [],Δ n,Δ (if a then 2 else 11)]
theorem sx{g:Nat}{z:Bool}(h:iQ w g R d8 z):ak x7 w6 [Γ g] w (MR w g R d8 z):=by
 obtain⟨A,p,a,h1,B,q⟩:=h;refine(Ml h1).X ?_;intro v I _ hw;have e:=MQ p a;unfold sq at hw;cases r:qW p a with
 |word x y=>
  rw[r]at hw e;simp only at hw e;rw[q]at e;obtain⟨rfl,s,U⟩:=hw;obtain⟨f,j⟩:=Prod.mk.inj e;subst f j;exact⟨s,⟨A,p,y,U,B,rfl⟩,_,rfl⟩
 |none=>
  rw[r]at hw e;simp only at hw e;rw[q]at e;obtain⟨f,j⟩:=Prod.mk.inj e;subst f j;obtain⟨n,rfl,C⟩:=hw;exact⟨C.aa _,_,rfl⟩
 |text b=>
  rw[r]at hw e;simp only at hw e;rw[q]at e;obtain⟨f,j⟩:=Prod.mk.inj e;subst f j;obtain⟨rfl,s,_⟩:=hw;exact⟨s,_,rfl⟩
def lR(w:Λ):x1:=match ic w with
 |some n=>.tuple #[Δ n,Δ 0]
 |none=>.tuple #[Δ 0,Δ 4]
theorem De{i:Nat}{b:Int}(hi:l[i]?=σ b):(l.take (i+1)).all gG=((l.take i).all gG&&gG b):=by
 grind [u5]
theorem Df{i:Nat}{b:Int}(hi:l[i]?=σ b):(l.take (i+1)).foldl fC 0=fC ((l.take i).foldl fC 0) b:=by
 grind [u5]
theorem Dg(a:l≠[])(h:l.all gG=rs):lQ l=σ (l.foldl fC 0):=by
 grind [lQ]
theorem Dh{i:Nat}{b:Int}(hi:l[i]?=σ b)(a:gG b=sp):lQ l=ν:=by
 grind [lQ]
def q4(w l:Λ)(s:Int):Prop:=(s=1\/s= -1)/\ic w=(lQ l).map λn=>s*n
theorem Di:q4 (45::l) l (-1):=⟨.inr rfl,by simp only[ic];congr 1;funext n;omega⟩
theorem Dj{w:Λ}(h:∀b,w[0]?=σ b->b≠45):q4 w w 1:=⟨.inl rfl,by
 have e:ic w=lQ w:=by
  unfold ic
  grind
 rw[e];cases lQ w<;>grind⟩
theorem uM{w:Λ}{s:Int}(h:q4 w l s)(a:lQ l=ν):lR w= .tuple #[Δ 0,Δ 4]:=by
 unfold lR;rw[h.2,a];rfl
theorem Dk{w:Λ}{s n:Int}(h:q4 w l s)(a:lQ l=σ n):lR w= .tuple #[Δ (s*n),Δ 0]:=by
 unfold lR;rw[h.2,a];rfl
theorem MS(C:Bytes l)(ab:l.length<=100000):ak x7 Jp [cb l] w λv I=>v=lR l/\Ext w I:=by
 refine ay func118 ?_;rw[L3];refine jb (λN O J=>Ext w J/\∃(m:Λ)(s:Int),N=cb m/\O=Δ s/\Bytes m/\m.length<=100000/\q4 l m s) ?_ ?_
 .rintro _ _ J ⟨E,m,s,rfl,rfl,G,ac,H⟩;rw[Cy G (λb a=>by cases a),aj];refine⟨λp=>⟨by rw[uM H (by rw[p];rfl)],E⟩,λp=>?_⟩;refine xF da.u cS.u cP.u G Ω λbv V K L _=>?_;rw[aS cS.u L];refine tR.range m.length (λi _ _ c q=>Ext V q/\c=Δ ((m.take i).foldl fC 0)/\(m.take i).all gG=rs) Ω (by grind [Ext.refl]) ?_ ?_
  .rintro i P t3 _ q Q hi ⟨e,rfl,f⟩ ad;obtain⟨b,z⟩:=aC (l:=m) hi;have ae:=G b (x5 z);refine bt Ω ?_;refine L4 (λ_ _ c A=>Ext V A/\c=Δ ((m.take (i+1)).foldl fC 0)/\(m.take (i+1)).all gG=rs) ?_ ?_
   .rintro af ag c A ah;rw[aL]
    grind
   intro az B;rw[ba cS.u cP.i Ψ (L.W e) z];refine aV (λv A=>q=A/\v= .bool (!gG b)) ?_ ?_
   rotate_left
   .intro R S;rw[aP,aj];refine⟨by grind [gG],λh=>?_⟩;rw[bG]
    grind [gG]
   rintro _ _ ⟨rfl,rfl⟩;cases M:gG b with
   |false=>
    rw[X1,bZ];exact⟨by grind [uM,Dh],(E.F K).F e⟩
   |true=>
    rw[Y2,aW];have ai:=ro M;have j:=xz f ⟨Int.le_refl _,Φ⟩;rw[Df z,De z,f,M]at B;generalize (m.take i).foldl fC 0=n at*;have j:=j;rw[dN,wrap_u8 Ω Ω,e9 cP.u ao.u,lm Ω Ω,dN,lm Ω Ω,sa Φ,Int.tdiv_eq_ediv_of_nonneg Ω];rw[lm Ω Ω,bG,aj];refine⟨λU=>B _ _ _ _ ⟨e,?_,rfl⟩,λU=>?_⟩
    .grind [fC,ax]
    .rw[fO,lm Ω Ω,aL,lm Ω Ω]
     grind [fC,ax]
  .rintro P t3 _ q Q ⟨e,rfl,f⟩;rw[p8]at f ⊢;refine b6 Ω ?_;have j:=xz f ⟨Int.le_refl _,Φ⟩;have j:0<=m.foldl fC 0/\m.foldl fC 0<=4611686018427387904:=j;rw[fO];have hw:Y6.wrap (s*m.foldl fC 0)=s*m.foldl fC 0:=by
    rcases H.1 with rfl|rfl<;>exact(by grind [lm])
   rw[hw];exact⟨by grind [Dk,Dg],(E.F K).F e⟩
 .intro az B;refine aV (λv V=>w=V/\∃c:Bool,v= .bool c/\(c=rs↔l[0]?=σ 45)) ?_ ?_
  .rintro _ _ ⟨rfl,c,rfl,W⟩;rw[bM];refine⟨λX=>?_,λal=>?_⟩
   .intro am Y _ _;have Z:=W.1 X;cases l with
    |nil=>simp at Z
    |cons x r=>
     have aa:x=45:=by grind
     subst aa;rw[Cz (y:=1) (i:=1) rfl da.u Ξ];exact B _ _ _ ⟨Y,r,-1,rfl,rfl,λb a=>C b (.tail _ a),by grind,Di⟩
   grind [Ext.refl,Dj]
  .intro R S;rw[L9 C (λb a=>by cases a),aj];refine⟨λp=>?_,by grind⟩;cases l with
   |nil=>exact m7 rfl p
   |cons x r=>
    rw[sk (y:=0) (b:=x) rfl da.u C rfl,bi]
    grind
theorem xV{s s':aH}{w:Λ}(h:dW s=σ (w,s')):s.d8=w::s'.d8/\s'={s with d8:=s'.d8}:=by
 grind [dW]
theorem jh{n:Int}{s s':aH}(h:bh lo hi s=σ (n,s')):(lo<=n/\n<=hi)/\(∃w,s.d8=w::s'.d8/\ic w=σ n)/\s'={s with d8:=s'.d8}:=by
 grind [bh,dW]
def jC(k:Nat)(s s':aH):Prop:=s.d8.length=s'.d8.length+k/\s'={s with d8:=s'.d8}
theorem jC.refl(s:aH):jC 0 s s:=⟨rfl,rfl⟩
theorem jC.F{a b:Nat}{r s t:aH}(h:jC a r s)(k:jC b s t):jC (a+b) r t:=⟨by have:=h.1;have:=k.1;omega,by rw[k.2,h.2]⟩
theorem dI{n:Int}{s s':aH}(h:bh lo hi s=σ (n,s')):jC 1 s s':=by
 obtain⟨_,⟨w,h1,_⟩,a⟩:=jh h;exact⟨by rw[h1];simp,a⟩
theorem jC.eqs{k:Nat}{s s':aH}(h:jC k s s'):s'.m1=s.m1/\s'.big=s.big/\s'.m2=s.m2:=by rw[h.2];grind
theorem mN{α:Type}{f:List α->aH->Option (α×aH)}(e:List α->aH->Prop)(h:∀acc s a s',e acc s->f acc s=σ (a,s')->e (acc++[a]) s'):
  ∀(n:Nat)(acc:List α)(s:aH)(l:List α)(s':aH),e acc s->dc f n acc s=σ (l,s')->e l s'/\l.length=acc.length+n
 :=by
 intro a;induction a<;>grind [dc]
theorem xW{n:Int}{k:Nat}{s s':aH}(h:fg n k s=σ (l,s')):jC l.length s s'/\l.length=k/\l.Nodup/\∀v∈l,0<=v/\v<n:=by
 have:=mN (λacc t=>jC acc.length s t/\acc.Nodup/\∀v∈acc,0<=v/\v<n) (λacc t a t' ⟨h1,f,p⟩ h=>by
  cases e:bh 0 (n-1) t with
  |none=>grind
  |some q=>
   obtain⟨v,r⟩:=q;rw[e]at h;simp only at h;split at h
   .cases h
   .rename_i w;simp only[X6,Prod.mk.injEq]at h;obtain⟨rfl,rfl⟩:=h;have z:=(jh e).1;refine⟨by rw[p9];exact h1.F (dI e),List.nodup_append.2 ⟨f,Ξ,λx j y A he=>?_⟩,λx j=>?_⟩
    all_goals grind) k [] s l s' (by grind [jC.refl]) h
 grind
theorem xX:∀{a acc:Λ}{s s':aH}{t:Λ},kz a acc s=σ (t,s')->∃u,t=acc++u/\cW a u/\jC u.length s s'
 |[],acc,s,s',t,h=>by
  simp only[kz,X6,Prod.mk.injEq]at h;obtain⟨rfl,rfl⟩:=h;exact⟨[],Ξ,C3.2 rfl,jC.refl s⟩
 |k::a,acc,s,s',t,h=>by
  simp only[kz]at h;cases e:bh 0 (k-1) s with
  |none=>grind
  |some q=>
   obtain⟨v,s1⟩:=q;rw[e]at h;obtain⟨u,rfl,j,f⟩:=xX h;have p:=(jh e).1;exact⟨v::u,Ξ,by grind [xP],by rw[Y4,Nat.add_comm];exact(dI e).F f⟩
def oH(co:Λ)(l:List (Λ×Int)):Prop:=(l.map (·.1)).Nodup/\∀p∈l,cW co p.1/\0<=p.2
theorem q5{acc:List (Λ×Int)}{s s':aH}{a:Λ×Int}(h:eR co acc s=σ (a,s')):a.1∉acc.map (·.1)/\cW co a.1/\0<=a.2/\jC (a.1.length+1) s s':=by
 unfold eR at h;cases f:kz co [] s with
 |none=>grind
 |some q=>
  obtain⟨t,s1⟩:=q;rw[f]at h;simp only at h;obtain⟨u,j,p,r⟩:=xX f;rw[List.nil_append]at j;subst j;cases e:bh 0 ax s1 with
  |none=>grind
  |some q=>
   obtain⟨c,s2⟩:=q;rw[e]at h;simp only at h;split at h
   .cases h
   .rename_i w;simp only[X6,Prod.mk.injEq]at h;obtain⟨rfl,rfl⟩:=h;exact⟨w,p,(jh e).1.1,r.F (dI e)⟩
structure xY(s s':aH):Prop where
 d8:s'.d8.length<s.d8.length
 big:s.big=rs->s'.big=rs
theorem MT{s s':aH}{l:List (Λ×Int)}(r:∀q∈s.m2,oH q.1 q.2/\q.2.length<=N)(C:s.d8.length<=N)(h:eb co s=σ (l,s')):
  oH co l/\l.length<=N/\s'.m2=s.m2/\xY s s':=by
 unfold eb at h;cases w:bh (-ax) ax s with
 |none=>grind
 |some q=>
  obtain⟨n,s1⟩:=q;rw[w]at h;simp only at h;have h1:=dI w;obtain⟨E,F,f⟩:=h1.eqs;split at h
  .cases U:s1.m2[(-n-1).toNat]? with
   |none=>grind
   |some q=>
    obtain⟨z,fB⟩:=q;rw[U]at h;simp only at h;split at h
    .rename_i A;simp only[X6,Prod.mk.injEq]at h;obtain⟨rfl,rfl⟩:=h;subst A;have hm:=x5 U;rw[f]at hm;exact⟨(r _ hm).1,(r _ hm).2,f,by have:=h1.1;omega,by grind⟩
    .cases h
  .have:=mN (λacc t=>oH co acc/\t.m2=s.m2/\t.d8.length+acc.length<=s1.d8.length/\(s.big=rs->t.big=rs)) (λacc t a t' ⟨g1,j,B,x⟩ g=>by
    obtain⟨G,H,I,y⟩:=q5 g;obtain⟨f1,f2,f3⟩:=y.eqs;refine⟨⟨?_,λp e=>?_⟩,by rw[f3,j],by have:=y.1;grind,by grind⟩
    .rw[n9];exact List.nodup_append.2 ⟨g1.1,Ξ,by grind⟩
    .rcases o9.1 e with e|e
     .exact g1.2 p e
     grind) n.toNat [] (bg (decide (16384<min (s1.m1+n) ax)) {s1 with m1:=min (s1.m1+n) ax}) l s' ⟨⟨Ξ,λp e=>by cases e⟩,f,by simp[bg],by grind [bg]⟩ h
   obtain⟨⟨g1,j,B,x⟩,_⟩:=this;have:=h1.1;exact⟨g1,Ω,j,⟨Ω,x⟩⟩
structure sy(all:Λ)(N:Nat)(f:cv):Prop where
 scope:f.scope.Nodup/\∀v∈f.scope,0<=v/\v<all.length
 co:f.co=f.scope.map λv=>all.getD v.toNat 0
 other:0<=f.other
 lines:oH f.co f.lines
 len:f.lines.length<=N
theorem MU{all:Λ}{s s':aH}{f:cv}(E:∀q∈s.m2,oH q.1 q.2/\q.2.length<=N)(O:s.d8.length<=N)(h:du all s=σ (f,s')):
  sy all N f/\(∀q∈s'.m2,oH q.1 q.2/\q.2.length<=N)/\xY s s'/\(s'.big=sp->f.scope.length<=6/\dH f.co=sp):=by
 unfold du at h;cases x:bh (-ax) ax s with
 |none=>grind
 |some q=>
 obtain⟨a,s1⟩:=q;rw[x]at h;simp only at h;have t0:=dI x;obtain⟨P,F,G⟩:=t0.eqs;cases h1:fg all.length a.natAbs s1 with
 |none=>grind
 |some q=>
 obtain⟨sc,s2⟩:=q;rw[h1]at h;simp only at h;obtain⟨y,Q,H,I⟩:=xW h1;obtain⟨R,J,K⟩:=y.eqs;generalize L:sc.map (λv=>all.getD v.toNat 0)=co at h;cases j:bh 0 ax (bg (decide (6<a.natAbs)||dH co) s2)with
 |none=>grind
 |some q=>
 obtain⟨other,e⟩:=q;rw[j]at h;simp only at h;have z:=dI j;obtain⟨S,A,p⟩:=z.eqs;have p:e.m2=s.m2:=by rw[p];show s2.m2=_;rw[K,G]
 have T:e.d8.length<s.d8.length:=by
  have:=t0.1;have:=y.1;have r:=z.1
  grind [bg]
 cases r:eb co e with
 |none=>grind
 |some q=>
 obtain⟨lines,w⟩:=q;rw[r]at h;simp only[X6,Prod.mk.injEq]at h;obtain⟨rfl,rfl⟩:=h;obtain⟨g1,M,U,B⟩:=MT (by rw[p];exact E) Ω r;have V:=B.big;have gt:=B.d8;have W:e.big=rs->∀C:aH,C=(if a<0 then{w with m2:=w.m2++[(co,lines)]}else w)->C.big=rs:=by grind
 have A:e.big=(s.big||(decide (6<a.natAbs)||dH co)):=by
  rw[A];show(s2.big||_)=_;rw[J,F]
 refine⟨⟨⟨H,I⟩,L.symm,(jh j).1.1,g1,M⟩,λq X=>?_,⟨?_,by grind⟩,λY=>?_⟩
 all_goals grind
structure fb(N:Nat)(f:ca):Prop where
 name:f.name.length<=64
 k:1<=f.k/\f.k<=2147483648
 co:1<=f.co.length/\f.co.length<=64/\∀z∈f.co,1<=z/\z<=32
 mO:f.d7.length<=256
 d7:∀x∈f.d7,sy f.co N x/\x.scope.length<=6/\dH x.co=sp
theorem sz{b:Bool}{s:aH}(h:(bg b s).big=sp):s.big=sp/\b=sp:=by
 have h:(s.big||b)=sp:=h
 grind
theorem Dl{s s':aH}{f:ca}(U:s.m2=[])(h:jB s=σ (f,s'))(r:s'.big=sp):fb s.d8.length f/\f.name∈s.d8:=by
 unfold jB at h;cases B:dW s with
 |none=>grind
 |some q=>
 obtain⟨name,s0⟩:=q;rw[B]at h;simp only at h;obtain⟨J,V⟩:=xV B;cases h1:bh 1 ax (bg (decide (64<name.length)) s0)with
 |none=>grind
 |some q=>
 obtain⟨n,s1⟩:=q;rw[h1]at h;simp only at h;have e:=dI h1;cases C:bh 1 ax (bg (decide (64<n)) s1)with
 |none=>grind
 |some q=>
 obtain⟨most,s2⟩:=q;rw[C]at h;simp only at h;have w:=dI C;cases E:bh 0 ax s2 with
 |none=>grind
 |some q=>
 obtain⟨count,F⟩:=q;rw[E]at h;simp only at h;have t3:=dI E;cases y:bh 1 ax (bg (decide (256<count)) F)with
 |none=>grind
 |some q=>
 obtain⟨k,j⟩:=q;rw[y]at h;simp only at h;have t4:=dI y;cases G:dc (gH most) n.toNat [] (bg (decide (2147483648<k)) j)with
 |none=>grind
 |some q=>
 obtain⟨co,p⟩:=q;rw[G]at h;simp only at h;cases H:dc (λ_ s=>du co s) count.toNat [] p with
 |none=>grind
 |some q=>
 obtain⟨d7,O⟩:=q;rw[H]at h;simp only[X6,Prod.mk.injEq]at h;obtain⟨rfl,rfl⟩:=h;have P:=mN (λ(acc:Λ)t=>t.m2=[]/\t.d8.length<=s.d8.length/\(t.big=sp->j.big=sp/\k<=2147483648/\∀z∈acc,1<=z/\z<=32)) (λacc t a t' ⟨g1,I,Q⟩ g=>by
  unfold gH at g;cases A:bh 1 most t with
  |none=>grind
  |some q=>
   obtain⟨z,e⟩:=q;rw[A]at g;simp only[X6,Prod.mk.injEq]at g;obtain⟨rfl,rfl⟩:=g;have K:=dI A;obtain⟨ae,af,R⟩:=K.eqs;have ag:=(jh A).1;refine⟨by show e.m2=[];rw[R,g1],by show e.d8.length<=_;have:=K.1;omega,λr=>?_⟩
   grind [sz]) n.toNat [] (bg (decide (2147483648<k)) j) co p ⟨by
     show j.m2=[];rw[t4.eqs.2.2];show F.m2=[];rw[t3.eqs.2.2,w.eqs.2.2];show s1.m2=[];rw[e.eqs.2.2];show s0.m2=[]
     grind,by
     show j.d8.length<=_;have ah:=e.1;have ai:=w.1;have a3:=t3.1;have a4:=t4.1
     grind [bg],by grind [sz]⟩ G
 obtain⟨⟨aj,ak,S⟩,T⟩:=P;have W:=mN (λ(acc:List cv)t=>(∀q∈t.m2,oH q.1 q.2/\q.2.length<=s.d8.length)/\t.d8.length<=s.d8.length/\(t.big=sp->p.big=sp/\∀x∈acc,sy co s.d8.length x/\x.scope.length<=6/\dH x.co=sp)) (λacc t a t' ⟨g1,I,Q⟩ g=>by
  obtain⟨al,X,Y,am⟩:=MU g1 I g;refine⟨X,by have:=Y.d8;omega,λr=>?_⟩
  grind [xY.big]) count.toNat [] p d7 O (by grind) H
 obtain⟨⟨_,_,d3⟩,d4⟩:=W;obtain⟨Z,d5⟩:=d3 r;obtain⟨L,aa,an⟩:=S Z;rw[t4.eqs.2.1]at L;obtain⟨M,ab⟩:=sz L;rw[t3.eqs.2.1,w.eqs.2.1]at M;obtain⟨N,ac⟩:=sz M;rw[e.eqs.2.1]at N;obtain⟨_,ad⟩:=sz N;have:=of_decide_eq_false ab;have:=of_decide_eq_false ac;have:=of_decide_eq_false ad;have ao:=(jh h1).1;have hk:=(jh y).1;simp only[List.length_nil,V0]at T d4;exact⟨⟨by grind,⟨hk.1,aa⟩,by grind,by grind,d5⟩,by grind⟩
def lh(x:cv)(k:Int)(t:Λ):Int:=min (match x.lines.find? (λp=>decide (p.1=t))with
 |some p=>p.2
 |none=>x.other) k
def bB(l:Λ):Λ:=((Z4 64).map λ(v:Nat)=>(v:Int)).filter λv=>decide (v∈l)
def aA(co scope:Λ):Λ:=scope.map λv=>co.getD v.toNat 0
def q6(scope a t:Λ):Λ:=scope.map λv=>t.getD (a.idxOf v) 0
abbrev cZ:Type:=Λ×Λ
def jD(co:Λ)(k:Int)(x:cv):cZ:=(bB x.scope,(bk (aA co (bB x.scope))).map λt=>lh x k (q6 x.scope (bB x.scope) t))
def bX(k:Int)(a b:Λ):Λ:=List.zipWith (λx y=>min (x+y) k) a b
def jE(k:Int)(acc:List cZ)(g:cZ):List cZ:=if g.1∈acc.map (·.1)then acc.map λh=>if h.1=g.1 then(h.1,bX k h.2 g.2)else h else acc++[g]
def kE:Λ->Int
 |[]=>0
 |x::l=>x*64 ^ l.length+kE l
def dm(l:Λ):Int:=l.length*64 ^ 6+kE l
def ji(g:cZ):List cZ->List cZ
 |[]=>[g]
 |h::l=>if dm h.1<dm g.1 then h::ji g l else g::h::l
def gh(g:cZ):Bool:=g.2.any λc=>decide (0<c)
def gi(f:ca):List cZ:=(f.d7.map (jD f.co f.k)).foldl (jE f.k) []
def gj(f:ca):List cZ:=((gi f).filter gh).foldl (λl g=>ji g l) []
structure aG where
 k:Int
 co:Λ
 zero:Int
 unary:List (Λ)
 d7:List cZ
deriving DecidableEq
def dr(f:ca):aG:=(gj f).foldl (λn g=>match g.1 with
 |[]=>{n with zero:=g.2.getD 0 0}
 |[v]=>{n with unary:=n.unary.set v.toNat g.2}
 |_=>{n with d7:=n.d7++[g]}) ⟨f.k,f.co,0,f.co.map λz=>u9 z.toNat 0,[]⟩
abbrev lS:Type:=Rd (Λ)×Rd (List (Λ×Int))
def bI(g gs:Nat)(A:ah):ah:=λr=>r=g\/r=gs\/A r
def jj(gs:Nat)(e big a f m1:Int)(sv:x1):List x1:=[Γ gs,Δ e,Δ big,Δ a,Δ f,Δ m1,sv]
def cU(g gs:Nat)(A:ah)(B:ah):ah:=λr=>¬bI g gs A r/\B r
def mP(w:x3)(g gs:Nat)(A:ah)(B:ah):Prop:=g≠gs/\¬A g/\¬A gs/\(∀r,bI g gs A r->r<w.heap.size)/\∀r,B r->r<w.heap.size
def en(w:x3)(g gs:Nat)(A:ah)(B:ah)(s:aH)(a:Bool):Prop:=mP w g gs A B/\iQ w gs (cU g gs A B) s.d8 a/\(0<=s.m1/\s.m1<=ax/\s.m2.length+s.d8.length<=100000)/\
 ∃big e f m1 sv,ag w g cD (jj gs 0 big e f m1 sv)/\((s.big=rs↔big≠0)/\(s.big=sp->m1=s.m1))/\bH A (cU g gs A B) w [sv] (show List lS from s.m2)
def fi(w:x3)(g gs:Nat)(A:ah)(B:ah):Prop:=mP w g gs A B/\∃(e big a f m1:Int)(sv:x1)(l:List lS),ag w g cD (jj gs e big a f m1 sv)/\(e≠0/\l.length<=100000)/\bH A (cU g gs A B) w [sv] l
theorem mP.aa{g:Nat}{A:ah}{B:ah}(h:mP w g gs A B)(e:af S w I):mP I g gs A B:=by
 obtain⟨h1,f,j,p,q⟩:=h;exact⟨h1,f,j,λr a=>Nat.lt_of_lt_of_le (p r a) e.size,λr a=>Nat.lt_of_lt_of_le (q r a) e.size⟩
theorem Dm{g:Nat}{A:ah}{B:ah}(a:∀r,A r->¬S r)(e:∀r,cU g gs A B r->¬S r):∀r,A r\/cU g gs A B r->¬S r:=λr h=>h.elim (a r) (e r)
theorem en.aa{g:Nat}{A:ah}{B:ah}{s:aH}(h:en w g gs A B s f)(a:af S w I)(e:∀r,bI g gs A r->¬S r)(j:∀r,cU g gs A B r->¬S r):en I g gs A B s f:=by
 obtain⟨h1,p,q,big,x,y,m1,sv,z,C,E⟩:=h;exact⟨h1.aa a,p.aa a (e gs (.inr (.inl rfl))) j,q,big,x,y,m1,sv,z.aa a (e g (.inl rfl)),C,aq.aa E a λr _ h=>Dm (λr F=>e r (.inr (.inr F))) j r h⟩
theorem fi.aa{g:Nat}{A:ah}{B:ah}(h:fi w g gs A B)(a:af S w I)(f:∀r,bI g gs A r->¬S r)(j:∀r,cU g gs A B r->¬S r):fi I g gs A B:=by
 obtain⟨h1,e,big,p,q,m1,sv,l,s,x,y⟩:=h;exact⟨h1.aa a,e,big,p,q,m1,sv,l,s.aa a (f g (.inl rfl)),x,aq.aa y a λr _ h=>Dm (λr z=>f r (.inr (.inr z))) j r h⟩
theorem en.W{g:Nat}{A:ah}{B:ah}{s:aH}{a:Bool}(h:en w g gs A B s a)(e:Ext w I):en I g gs A B s a:=h.aa (e.aa λ_=>False) (λ_ _ h=>h) (λ_ _ h=>h)
theorem fi.W{g:Nat}{A:ah}{B:ah}(h:fi w g gs A B)(a:Ext w I):fi I g gs A B:=h.aa (a.aa λ_=>False) (λ_ _ h=>h) (λ_ _ h=>h)
def gk(w:x3)(g gs:Nat)(A:ah)(B:ah)(a:Bool)(s':Option aH)(I:x3):Prop:=af (bI g gs A) w I/\match s' with
 |some s'=>en I g gs A B s' a
 |none=>fi I g gs A B
theorem xZ{g:Nat}{big a f m1:Int}(h:ag w g cD (jj gs e big a f m1 sv)):ak x7 mw [Γ g] w λv I=>v= .bool (decide (e=0))/\Ext w I:=by
 refine ay func51 ?_;rw[bS,aT cD.p rfl,aT fe.p rfl,av Ψ (h.cell rfl),bi];exact⟨rfl,Ext.refl _⟩
theorem q7{g:Nat}{A:ah}{B:ah}{s:aH}{a:Bool}(h:en w g gs A B s a):ak x7 mw [Γ g] w λv I=>v= .bool rs/\Ext w I:=by
 obtain⟨_,_,_,big,f,j,m1,sv,e,_⟩:=h;exact(xZ e).X λ_ _ _ h=>h
theorem pM{g:Nat}{A:ah}{B:ah}(h:fi w g gs A B):ak x7 mw [Γ g] w λv I=>v= .bool sp/\Ext w I:=by
 obtain⟨_,e,big,p,q,m1,sv,l,a,f,_⟩:=h;refine(xZ a).X ?_;rintro _ J _ ⟨rfl,j⟩;exact⟨by rw[pl f.1],j⟩
theorem uN{g:Nat}{A B:ah}(h:A r\/cU g gs A B r)(a:¬A g):r≠g:=by
 rintro rfl;rcases h with h|h
 .exact a h
 .exact h.1 (.inl rfl)
theorem uO{g:Nat}{A:ah}{B:ah}{big x q m1:Int}{l:List lS}(U:mP w g gs A B)(s:ag w g cD (jj gs 0 big x q m1 sv))(y:bH A (cU g gs A B) w [sv] l)(he:e≠0)(z:l.length<=100000):
  ak x7 pq [Γ g,Δ e,Δ at_] w λ_ I=>af (λr=>r=g) w I/\fi I g gs A B:=by
 refine ay func54 ?_;rw[bS,aT cD.p rfl,aT fe.p rfl,av Ψ (s.cell rfl),bi,aj];refine⟨λ_=>?_,λh=>m7 rfl h⟩;rw[bS,aT cD.p rfl,aT fe.p rfl];refine bw (g:=g) (o:=1) k5.i rfl rfl s (by simp[jj]) λJ C H a=>?_;have a:=a;rw[bS,aT cD.p rfl,aT fe.p rfl];refine bw (g:=g) (o:=3) ae.i rfl rfl a (by simp[jj]) λV E K f=>?_;have f:=f;have j:=C.F E;exact⟨j,U.aa j,e,big,at_,q,m1,sv,l,f,⟨he,z⟩,aq.aa y j λr _ h G=>uN h U.2.1 G⟩
theorem uP{g:Nat}{A:ah}{B:ah}{s:aH}{a:Bool}(h:en w g gs A B s a)(he:e≠0):ak x7 pq [Γ g,Δ e,Δ at_] w λ_ I=>af (λr=>r=g) w I/\fi I g gs A B:=by
 obtain⟨U,_,f,big,q,x,m1,sv,j,_,p⟩:=h;exact uO U j p he (by have:=f.2.2;show s.m2.length<=_;omega)
theorem MV{g:Nat}{A:ah}{B:ah}(h:fi w g gs A B):ak x7 pq [Γ g,Δ e,Δ at_] w λ_ I=>Ext w I:=by
 obtain⟨_,f,big,j,q,m1,sv,l,h1,a,_⟩:=h;refine ay func54 ?_;rw[bS,aT cD.p rfl,aT fe.p rfl,av Ψ (h1.cell rfl),bi,aj];exact⟨λh=>m7 h a.1,λ_=>Ext.refl _⟩
theorem uQ{g:Nat}{A:ah}{B:ah}{s:aH}{y b:Bool}(h:en w g gs A B s y):ak x7 r3 [Γ g,.bool b,Δ at_] w λ_ I=>af (λr=>r=g) w I/\en I g gs A B (bg b s) y:=by
 obtain⟨U,z,C,big,E,K,m1,sv,e,G,H⟩:=id h;refine ay func49 ?_;refine aV (λv J=>w=J/\v= .bool (b&&decide (big=0))) ?_ ?_
 rotate_left
 .intro az j;cases b with
  |false=>rw[aW];exact j _ _ ⟨rfl,rfl⟩
  |true=>
   rw[bZ,bS,aT cD.p rfl,aT fe.p rfl,av Ψ (e.cell rfl),bi,aj];refine⟨λa=>?_,λa=>j _ _ ⟨rfl,by rw[pl a];rfl⟩⟩;rw[bS,aT cD.p rfl,aT fe.p rfl,av Ψ (e.cell rfl),bi];exact j _ _ ⟨rfl,by rw[ms a];rfl⟩
 rintro _ _ ⟨rfl,rfl⟩;rw[bM];refine⟨λL=>?_,λM=>?_⟩
 .obtain⟨rfl,a⟩:=Bool.and_eq_true_iff.1 L;rw[bS,aT cD.p rfl,aT fe.p rfl];refine bw (g:=g) (o:=2) k5.i rfl rfl e (by simp[jj]) λJ N R q=>?_;have q:=q;rw[bS,aT cD.p rfl,aT fe.p rfl];refine bw (g:=g) (o:=4) ae.i rfl rfl q (by simp[jj]) λV O S x=>?_;have x:=x;have f:=N.F O;exact⟨f,U.aa f,z.aa f (λhe=>U.1 he.symm) (λr P he=>P.1 (.inl he)),C,5,E,at_,m1,sv,x,⟨⟨λ_=>Ω,λ_=>by simp[bg]⟩,λh=>by simp[bg]at h⟩,aq.aa H f λr _ h Q=>uN h U.2.1 Q⟩
 .refine⟨af.refl _ _,U,z,C,big,E,K,m1,sv,e,⟨?_,λh=>G.2 (by
   have h:(s.big||b)=sp:=h;exact(Bool.or_eq_false_iff.1 h).1)⟩,H⟩
  show(s.big||b)=rs↔big≠0;cases b with
  |false=>rw[Bool.or_false];exact G.1
  |true=>
   have a:=of_decide_eq_false (by simpa using M);simp[a]
theorem Dn{g:Nat}{A:ah}{B:ah}{b:Bool}(h:fi w g gs A B):ak x7 r3 [Γ g,.bool b,Δ at_] w λ_ I=>Ext w I:=by
 obtain⟨_,j,big,q,r,m1,sv,l,h1,e,_⟩:=h;refine ay func49 ?_;refine aV (λv J=>w=J/\v= .bool sp) ?_ ?_
 .rintro _ _ ⟨rfl,rfl⟩;rw[aW];exact Ext.refl _
 intro az a;cases b with
 |false=>rw[aW];exact a _ _ ⟨rfl,rfl⟩
 |true=>
  rw[bZ,bS,aT cD.p rfl,aT fe.p rfl,av Ψ (h1.cell rfl),bi,aj];refine⟨λf=>?_,λf=>a _ _ ⟨rfl,rfl⟩⟩;rw[bS,aT cD.p rfl,aT fe.p rfl,av Ψ (h1.cell rfl),bi];exact a _ _ ⟨rfl,by rw[pl e.1]⟩
theorem en.scan{g:Nat}{A:ah}{B:ah}{s:aH}{a:Bool}{l:List (Λ)}(h:en w g gs A B s a)(e:af (λr=>r=gs) w I)(U:iQ I gs (cU g gs A B) l a)(C:l.length<=s.d8.length):en I g gs A B {s with d8:=l} a:=by
 obtain⟨h1,_,f,big,p,q,m1,sv,x,y,z⟩:=h;refine⟨h1.aa e,U,⟨f.1,f.2.1,by have:=f.2.2;show s.m2.length+l.length<=100000;omega⟩,big,p,q,m1,sv,x.aa e h1.1,y,aq.aa z e λr _ h j=>?_⟩;have j:r=gs:=j;subst j;rcases h with h|h
 .exact h1.2.2.1 h
 .exact h.1 (.inr (.inl rfl))
theorem Do{g:Nat}{A:ah}{B:ah}{s:aH}{z:Bool}(h:en w g gs A B s z):ak x7 Br [Γ g] w λv I=>gk w g gs A B z ((dW s).map (·.2)) I/\∃(t:Λ)(n:Int),v= .tuple #[cb t,Δ n]/\Bytes t/\t.length<=100000/\∀q,dW s=σ q->t=q.1:=by
 refine ay func48 ?_;refine(q7 h).X ?_;rintro _ J _ ⟨rfl,M⟩;rw[bA,Y2,aW];have h1:=h.W M;obtain⟨_,N,_,big,Q,R,m1,sv,C,_⟩:=id h1;have S:=N.words.2;rw[aN cD.p 0 C rfl];refine(sx N).X ?_;rintro v V _ ⟨j,y⟩;have O:af (bI g gs A) w V:=(M.aa _).F (j.X λr _ h=>.inr (.inl h));cases f:s.d8 with
 |cons t l=>
  rw[f]at y;obtain⟨U,n,rfl⟩:=y;have W:=h1.scan j U (by rw[f];simp);have E:dW s=σ (t,{s with d8:=l}):=by unfold dW;rw[f]
  have P:=S t (by rw[f];exact .head _);rw[gY,gZ,ia];refine aV (λv G=>V=G/\v=Δ 0) ?_ ?_
  .rintro _ _ ⟨rfl,rfl⟩;refine dh (λx=>V=x) ?_ ?_
   .rintro _ rfl;rw[E];exact⟨⟨O,W⟩,t,n,rfl,P.1,P.2.2,λq H=>by cases H;rfl⟩
   .intro az a;rw[bz,aj];exact⟨λh=>m7 rfl h,λ_=>a _ rfl⟩
  .intro az a;rw[bi,aj];exact⟨λh=>Ω,λ_=>a _ _ ⟨rfl,rfl⟩⟩
 |nil=>
  rw[f]at y;obtain⟨n,rfl⟩:=y;have E:dW s=ν:=by unfold dW;rw[f]
  obtain⟨K,_,X,big,Q,R,m1,sv,C,ag,Y⟩:=id h1;have Z:=C.aa j K.1;have ab:=aq.aa Y j λr _ h L=>by
   have L:r=gs:=L;subst L;rcases h with h|h
   .exact K.2.2.1 h
   .exact h.1 (.inr (.inl rfl))
  rw[gY,gZ,ia];refine aV (λv G=>V=G/\∃e:Int,v=Δ e/\e≠0) ?_ ?_
  .rintro _ _ ⟨rfl,e,rfl,he⟩;refine dh (λx=>af (λr=>r=g) V x/\fi x g gs A B) ?_ ?_
   .rintro x ⟨ac,ad⟩;rw[E];exact⟨⟨O.F (ac.X λr _ h=>.inl h),ad⟩,[],n,rfl,λb ae=>(by cases ae),Ξ,λq H=>by cases H⟩
   .intro az a;rw[bz,aj];refine⟨λ_=>?_,λh=>m7 he h⟩;exact(uO (K.aa j) Z ab he (by have:=X.2.2;show s.m2.length<=_;omega)).X λ_ I _ h=>a _ h
  .intro az a;rw[bi,aj];cases z with
   |true=>exact⟨λ_=>a _ _ ⟨rfl,4,rfl,Ω⟩,λh=>m7 rfl h⟩
   |false=>exact⟨λh=>by simp at h,λ_=>a _ _ ⟨rfl,11,rfl,Ω⟩⟩
theorem MW{g:Nat}{A:ah}{B:ah}(h:fi w g gs A B):ak x7 Br [Γ g] w λv I=>Ext w I/\v= .tuple #[cb [],Δ 0]:=by
 refine ay func48 ?_;refine(pM h).X ?_;rintro _ J _ ⟨rfl,a⟩;rw[bA,X1,bZ];exact⟨a,rfl⟩
theorem x0{g:Nat}{A:ah}{B:ah}{s:aH}{y:Bool}(h:en w g gs A B s y):ak x7 pp [Γ g,Δ lo,Δ hi] w λv I=>gk w g gs A B y ((bh lo hi s).map (·.2)) I/\∃n at_:Int,v= .tuple #[Δ n,Δ at_]/\(∀q,bh lo hi s=σ q->n=q.1)/\(bh lo hi s=ν->n=0):=by
 refine ay func50 ?_;refine(Do h).X ?_;rintro _ J _ ⟨⟨z,f⟩,t,n,rfl,H,K,hw⟩;rw[bn,bo];cases j:dW s with
 |none=>
  have a:bh lo hi s=ν:=by unfold bh;rw[j]
  rw[j]at f;have f:=f;refine(pM f).X ?_;rintro _ V _ ⟨rfl,p⟩;rw[bA,X1,bZ,a];exact⟨⟨z.F (p.aa _),f.W p⟩,0,n,rfl,λq h=>(by cases h),λ_=>rfl⟩
 |some q=>
  obtain⟨t',s1⟩:=q;have:=hw _ j;subst this;rw[j]at f;have f:=f;refine(q7 f).X ?_;rintro _ V _ ⟨rfl,p⟩;rw[bA,Y2,aW];refine(MS H K).X ?_;rintro _ L _ ⟨rfl,C⟩;have E:=(f.W p).W C;have G:=(z.F (p.aa _)).F (C.aa _);obtain⟨m,e,M,hm⟩:∃m e:Int,lR t= .tuple #[Δ m,Δ e]/\((ic t=σ m/\e=0)\/(ic t=ν/\e=4)):=by
   unfold lR;cases Q:ic t with
   |none=>exact⟨0,4,rfl,.inr ⟨rfl,rfl⟩⟩
   |some m=>exact⟨m,0,rfl,.inl ⟨rfl,rfl⟩⟩
  rw[M,bn,bo];refine aV (λv N=>L=N/\v= .bool (bh lo hi s).isNone) ?_ ?_
  .rintro _ _ ⟨rfl,rfl⟩;cases a:bh lo hi s with
   |none=>
    rw[Option.isNone_none,bZ];refine(uP E Ω).X ?_;rintro _ R _ ⟨O,P⟩;exact⟨⟨G.F (O.X λr _ h=>.inl h),P⟩,0,n,rfl,λq h=>(by cases h),λ_=>rfl⟩
   |some q=>
    rw[l9,aW];unfold bh at a;rw[j]at a;simp only at a;rcases hm with⟨hm,_⟩|⟨hm,_⟩
    .rw[hm]at a;simp only at a;split at a
     .cases a;exact⟨⟨G,E⟩,m,n,rfl,λq h=>(by cases h;rfl),λh=>(by cases h)⟩
     .cases a
    .rw[hm]at a;cases a
  .intro az x;have a:bh lo hi s=match ic t with
     |none=>ν
     |some n=>if lo<=n/\n<=hi then σ (n,s1)else ν:=by
    unfold bh;rw[j];simp only;cases ic t<;>rfl
   rw[bz,aj];rcases hm with⟨hm,rfl⟩|⟨hm,rfl⟩
   .rw[hm]at a;simp only at a;refine⟨λh=>m7 rfl h,λ_=>?_⟩;rw[aP,aj];refine⟨λh=>x _ _ ⟨rfl,by rw[a,m6 Ω];rfl⟩,λh=>?_⟩;rw[bG];refine x _ _ ⟨rfl,?_⟩;rw[a];by_cases ap:hi<m
    .rw[ms ap,m6 Ω];rfl
    .rw[pl ap,m5 Ω];rfl
   .rw[hm]at a;exact⟨λ_=>x _ _ ⟨rfl,by rw[a];rfl⟩,λh=>m7 (by omega:(4:Int)≠0) h⟩
theorem MX{g:Nat}{A:ah}{B:ah}(h:fi w g gs A B):ak x7 pp [Γ g,Δ lo,Δ hi] w λv I=>Ext w I/\v= .tuple #[Δ 0,Δ 0]:=by
 refine ay func50 ?_;refine(MW h).X ?_;rintro _ J _ ⟨a,rfl⟩;rw[bn,bo];refine(pM (h.W a)).X ?_;rintro _ V _ ⟨rfl,e⟩;rw[bA,X1,bZ];exact⟨a.F e,rfl⟩
theorem MY{x:Int}(h:aF .i64 w sv l):ak x7 KZ [sv,Δ x] w λv I=>Ext w I/\∃r:Int,v=Δ r/\(0<=r↔x∈l):=by
 refine ay func267 ?_;rw[aS au.u h];refine bT.range l.length (λi _ J=>Ext w J/\x∉l.take i) h.le (by grind [Ext.refl]) ?_ ?_
 .rintro i _ J k hi ⟨a,e⟩ hk;refine bt Ω ?_;obtain⟨y,f⟩:=aC (l:=l) hi;rw[ba au.u ao.i Ψ (h.W a) f,bi,aj];refine⟨λhe=>⟨a,i,rfl,⟨λ_=>he▸x5 f,Ω⟩⟩,λhe=>?_⟩;rw[aL]
  grind [u5]
 .rintro _ J k ⟨a,e⟩;rw[p8]at e;rw[aP,aj];exact⟨λh=>Ω,by grind⟩
theorem MZ{x:Int}(h:aF .i64 w sv l):ak x7 Km [sv,Δ x] w λv I=>v= .bool (decide (x∈l))/\Ext w I:=by
 refine ay func206 ?_;refine(MY h).X ?_;rintro _ J _ ⟨a,r,rfl,e⟩;rw[cJ]
 grind
theorem uR:∀{l:Λ},(∀z∈l,1<=z)->∀i,aB ((l.take i).map λk=>min k 4097)<=aB (l.map λk=>min k 4097)/\1<=aB ((l.take i).map λk=>min k 4097)
 |[],_,i=>by simp[aB]
 |z::l,h,0=>by
  have a:=uR (λx e=>h x (.tail _ e)) l.length;rw[p8]at a;have f:=h z (.head _);simp only[List.take_zero,List.map_nil,U4,aB];have:=Int.mul_le_mul_of_nonneg_left a.2 (show 0<=min z 4097 by omega);omega
 |z::l,h,i+1=>by
  have a:=uR (λx e=>h x (.tail _ e)) i;have f:=h z (.head _);simp only[List.take_succ_cons,U4,aB];have h1:=Int.mul_le_mul_of_nonneg_left a.1 (show 0<=min z 4097 by omega);have j:=Int.mul_le_mul_of_nonneg_left a.2 (show 0<=min z 4097 by omega);omega
theorem x2(l:Λ)(x:Int):aB (l++[x])=aB l*x:=by
 induction l<;>grind [aB]
theorem Dp(h:aF .i64 w sv l)(h1:∀z∈l,1<=z):ak x7 Jq [sv] w λv I=>v= .bool (dH l)/\Ext w I:=by
 refine ay func120 ?_;rw[aS au.u h];refine mn.range l.length (λi _ n J=>Ext w J/\n=Δ (aB ((l.take i).map λk=>min k 4097))/\aB ((l.take i).map λk=>min k 4097)<=4096) h.le (by grind [Ext.refl,aB]) ?_ ?_
 .rintro i _ _ J p hi ⟨a,rfl,f⟩ r;refine bt Ω ?_;obtain⟨z,j⟩:=aC (l:=l) hi;have s:=h1 z (x5 j);have x:=uR h1 i;have y:=uR h1 (i+1);have e:aB ((l.take (i+1)).map λk=>min k 4097)=aB ((l.take i).map λk=>min k 4097)*min z 4097:=by
   grind [u5,x2]
  rw[ba au.u ao.i Ψ (h.W a) j,nC,fO,<-e];have A:aB ((l.take (i+1)).map λk=>min k 4097)<=4096*4097:=by
   rw[e];have B:=W6 f (show 0<=min z 4097 by omega);omega
  rw[lm Ω Ω,bG,aj];refine⟨λq=>⟨?_,a⟩,λq=>?_⟩
  .grind [dH]
  .rw[aL]
   grind
 .rintro _ _ J p ⟨a,rfl,f⟩;rw[p8]at f;rw[aP,aj];refine⟨λh=>Ω,λ_=>⟨?_,a⟩⟩
  grind [dH]
def lT(n:Int)(acc:Λ)(s:aH):Option (Int×aH):=match bh 0 (n-1) s with
 |none=>ν
 |some (v,s)=>if v∈acc then ν else σ (v,s)
theorem q8{α:Type}{f:List α->aH->Option (α×aH)}{acc:List α}{s:aH}(h:f acc s=ν):dc f (n+1) acc s=ν:=by
 grind [dc]
theorem uS{α:Type}{f:List α->aH->Option (α×aH)}{acc:List α}{s s':aH}{a:α}(h:f acc s=σ (a,s')):dc f (n+1) acc s=dc f n (acc++[a]) s':=by
 grind [dc]
theorem en.sA{g:Nat}{A:ah}{B:ah}{s:aH}{a:Bool}(h:en w g gs A B s a):(∀r,bI g gs A r->r<w.heap.size)/\(∀r,B r->r<w.heap.size):=⟨h.1.2.2.2.1,h.1.2.2.2.2⟩
theorem M0{g k:Nat}{A B:ah}{s:aH}{C:Bool}{m:Int}(h:en w g gs A B s C)(hk:k<=4611686018427387904)(hm:0<=m/\m<=1000000):
  ak x7 BB [Γ g,Δ (k:Int),Δ m] w λv I=>gk w g gs A B C ((fg m k s).map (·.2)) I/\
   ∃gr l,an .i64 ao I gr v l/\(∀r,li v r->w.heap.size<=r)/\l.length<=100001/\∀q,fg m k s=σ q->l=q.1:=by
 obtain⟨a1,ax⟩:=h.sA;have a2:=h.2.1.words.1;refine ay func119 ?_;refine⟨λout N J=>∃i:Nat,N=Δ (i:Int)/\i<=k/\af (bI g gs A) w J/\∃gr l,an .i64 ao J gr out l/\w.heap.size<=gr/\l.length<=100001/\
  ((∃st,en J g gs A B st C/\dc (lT m) (k-i) l st=fg m k s/\l.length+st.d8.length<=100000)\/(fi J g gs A B/\fg m k s=ν)),λ_ N _=>k-(b0 N).toNat,
  ⟨0,rfl,X8 _,af.refl _ _,w.heap.size,[],an.nil _ _ _ _,o5 _,Ξ,.inl ⟨s,h,rfl,by grind⟩⟩,?_⟩
 rintro out _ J ⟨i,rfl,aA,Y,gr,l,Z,a6,a7,ab⟩;have s1:=Y.size;have ac:∀r,li out r->w.heap.size<=r:=λr O=>by have:=bD Z O;omega
 refine aV (λv V=>Ext J V/\((v= .bool rs/\i<k/\∃st,en V g gs A B st C/\dc (lT m) (k-i) l st=fg m k s/\l.length+st.d8.length<=100000)\/
  (v= .bool sp/\((∃st,en V g gs A B st C/\fg m k s=σ (l,st))\/(fi V g gs A B/\fg m k s=ν))))) ?_ ?_
 rotate_left
 .intro az P;rw[aP,aj];refine⟨λa8=>?_,λba=>?_⟩
  .rcases ab with⟨st,j,E,Q⟩|⟨y,R⟩
   .refine (q7 j).X ?_;rintro _ V _ ⟨rfl,p⟩;exact P _ _ ⟨p,.inl ⟨rfl,Ω,st,j.W p,E,Q⟩⟩
   .refine (pM y).X ?_;rintro _ V _ ⟨rfl,p⟩;exact P _ _ ⟨p,.inr ⟨rfl,.inr ⟨y.W p,R⟩⟩⟩
  .have aB:k-i=0:=Ω
   rcases ab with⟨st,j,E,Q⟩|bb
   .rw[aB]at E;exact P _ _ ⟨Ext.refl _,.inr ⟨rfl,.inl ⟨st,j,E.symm⟩⟩⟩
   grind [Ext.refl]
 rintro _ V ⟨p,aC⟩;have S:af (bI g gs A) w V:=Y.F (p.aa _);have H:=Z.W p;rcases aC with⟨rfl,aA,st,j,E,Q⟩|⟨rfl,aD⟩
 rotate_left
 .rw[aW];rcases aD with⟨st,j,G⟩|⟨y,G⟩
  .rw[G];exact⟨⟨S,j⟩,gr,l,H,ac,Ω,by grind⟩
  .rw[G];exact⟨⟨S,y⟩,gr,l,H,ac,Ω,by grind⟩
 rw[bZ,dN,lm Ω Ω];have aE:k-i=(k-(i+1))+1:=Ω
 rw[aE]at E;refine(x0 j).X ?_;rintro _ ad _ ⟨⟨K,L⟩,n,at_,rfl,aF,bc⟩;rw[bn,bo];have ae:∀r,li out r->¬bI g gs A r:=by grind
 have bd:∀r,g=r->bI g gs A r:=λr h=>.inl h.symm;refine dh (λe=>af (bI g gs A) V e/\((∃x,en e g gs A B x C/\dc (lT m) (k-(i+1)) (l++[n]) x=fg m k s/\l.length+1+x.d8.length<=100000)\/(fi e g gs A B/\fg m k s=ν))/\l.length+1<=100001) ?_ ?_
 .rintro e ⟨ag,aG,aI⟩;have aJ:=bl H ag ae;have ai:=S.F ag;have be:=ai.size;refine dl au.u ao.i rfl λa ga al bf z aK=>?_;refine iO au.u ao.i rfl (aJ.W z) aK.ls Θ Θ λaM aN aO bg aQ U=>?_;have bi:=z.size;rw[aL,lm Ω Ω];have aR:af (bI g gs A) w aO:=iP (ai.F (z.aa _)) U Ω;have am:∀r,bI g gs A r->¬(λr=>r=gr) r:=by grind
  have ap:∀r,cU g gs A B r->¬(λr=>r=gr) r:=λr O he=>by have:=ax r O.2;omega
  refine⟨⟨i+1,rfl,Ω,aR,aN,l++[n],aQ,Ω,Θ,?_⟩,by grind [b0]⟩;rcases aG with⟨x,W,aS,bj⟩|⟨aT,R⟩
  .exact .inl ⟨x,(W.W z).aa U am ap,aS,Θ⟩
  .exact .inr ⟨(aT.W z).aa U am ap,R⟩
 .intro bk X;cases M:bh 0 (m-1) st with
  |none=>
   rw[M]at L;have y:=L;have aq:lT m l st=ν:=by grind [lT]
   have G:fg m k s=ν:=by grind [q8]
   refine aV (λv e=>Ext ad e/\v= .bool sp) ?_ ?_
   rotate_left
   .intro aU av;refine(pM y).X ?_;rintro _ e _ ⟨rfl,f⟩;rw[aW]
    grind
   rintro _ e ⟨f,rfl⟩;rw[aW];exact X _ ⟨K.F (f.aa _),.inr ⟨y.W f,G⟩,Ω⟩
  |some q=>
   obtain⟨aM,x⟩:=q;have aX:=aF _ M;subst aX;rw[M]at L;have aw:=L;have aY:=dI M;have aI:l.length+1+x.d8.length<=100000:=by have:=aY.1;omega
   refine aV (λv e=>Ext ad e/\v= .bool (decide (n∈l))) ?_ ?_
   rotate_left
   .intro aU av;refine(q7 aw).X ?_;rintro _ e _ ⟨rfl,f⟩;rw[bZ];refine(MZ ((bl H K ae).W f).ls).X ?_;rintro _ al _ ⟨rfl,z⟩;exact av _ _ ⟨f.F z,rfl⟩
   rintro _ e ⟨f,rfl⟩;have W:=aw.W f;rw[aj];refine⟨λbm=>?_,λbp=>?_⟩
   .have aq:lT m l st=ν:=by grind [lT]
    refine(uP W Ω).X ?_;rintro _ al _ ⟨aZ,bq⟩;exact X _ ⟨(K.F (f.aa _)).F (aZ.X λr _ h=>.inl h),by grind [q8],Ω⟩
   .have aq:lT m l st=σ (n,x):=by grind [lT]
    exact X _ ⟨K.F (f.aa _),by grind [uS],Ω⟩
theorem oI{a b:Int}(e:0<=a/\a<=4294967296)(f:0<=b/\b<=4294967296):ak x7 I1 [Δ a,Δ b,Δ k] w λv I=>v=Δ (min (a+b) k)/\Ext w I:=by
 refine ay func86 ?_;simp only[aL,bG,aj];rw[lm Ω Ω];exact⟨λh=>⟨by rw[Int.min_eq_right Ω],Ext.refl _⟩,λh=>⟨by rw[Int.min_eq_left Ω],Ext.refl _⟩⟩
def sB(a b k:Int):x1:=if cK a k/\cK b k then .tuple #[Δ (min (a+b) k),Δ 0]else .tuple #[Δ 0,Δ 3]
theorem Dq{a b:Int}:ak x7 xa [Δ a,Δ b,Δ k] w λv I=>v=sB a b k/\Ext w I:=by
 refine ay func109 ?_;refine aV (λv J=>Ext w J/\v= .bool (decide (¬(cK a k/\cK b k)))) ?_ ?_
 .rintro _ J ⟨e,rfl⟩;simp only[aj,aL,nC];refine⟨λh=>⟨by unfold sB;rw[m6 h],e⟩,λh=>?_⟩;have h:=Z2.1 h;obtain⟨⟨h1,r⟩,s,x⟩:=id h;have:=h1.2;rw[lm Ω Ω];exact⟨by unfold sB;rw[m5 h],e⟩
 .intro az f;refine lb.X ?_;rintro _ V _ ⟨rfl,j⟩;simp only[bA,bM];refine⟨λh=>f _ _ ⟨j,?_⟩,λh=>?_⟩
  .have:¬cK a k:=by simpa using h
   rw[ms];exact λh=>this h.1
  .have p:cK a k:=by simpa using h
   refine lb.X ?_;rintro _ y _ ⟨rfl,q⟩;simp only[bA];exact f _ _ ⟨j.F q,by simp[p]⟩
theorem Dr{k:o4}{cs:List x1}(h:cs.take l.length=ints k l)(a:j<l.length):cs[j]?=(ints k l)[j]?:=by
 rw[<-h,Y3 a]
theorem M1(w:x3):(Go.sizeOf ae).run x7 w= .ok 1 w:=by
 obtain⟨i,hi,U,_⟩:=ae.i;simp[sizeOf,typeInfo,hi,U]
theorem M2{am g o cx a f p:Nat}{q cs:List x1}(h:ag w am j q)(r:ag w g p cs)(s:am≠g)(x:cs.length≠0):
  ak x7 xk [.slice (σ ⟨am,0,ν⟩) 1 cx,.slice (σ ⟨g,o,ν⟩) a f] w λv I=>v= .bool sp/\I=w:=by
 have y:xk<x7.funcs.size:=ro Ψ;refine .ext (.bool sp) w ?_ (cA.refl _) ⟨rfl,rfl⟩;rw[run_callFunc_extern (fn:=x7.funcs[xk]) (Array.getElem?_eq_getElem y) Ψ Ψ Ψ (e:=Extern.SlicesOverlaps.overlaps #[ai,ai] #[gD]) Ψ];have:=Lib.run_overlaps_apart (P:=x7) w ai gD ae ai.u 1 M1 ⟨am,0,ν⟩ ⟨g,o,ν⟩ 1 cx a f s j p q.length cs.length (Cu h) (Cu r) x (h.frozen _ _) (h.frozen _ _);show(Sem.run x7 (Extern.SlicesOverlaps.overlaps #[ai,ai] #[gD] #[.slice (σ ⟨am,0,ν⟩) 1 cx,.slice (σ ⟨g,o,ν⟩) a f]) w).andThen _=_;rw[this];rfl
theorem M3{dG:x1}{x:Int}{i g am:Nat}(h:an .i64 ae w g sv l)(e:an .i64 ae w am dG [x])(E:g≠am)(hi:i<=l.length)(aP:l.length<=1000):
  ak x7 BL [sv,Δ i,dG] w λv I=>af (λr=>r=g) w I/\∃f,(f=g\/w.heap.size<=f)/\an .i64 ae I f v (l.take i++[x]++l.drop i):=by
 refine ay func187 ?_;refine uF rfl ai.u ae.i h.ls hi λ_ _=>?_;rw[aS ai.u e.ls];simp only[bi,aj];refine⟨λs=>by simp at s,λ_=>?_⟩;rw[aS ai.u h.ls];simp only[bi,aj];refine⟨λhe=>?_,λaQ=>?_⟩
 .have he:i=l.length:=Ω
  subst he;refine iO ai.u ae.i rfl h e.ls Θ Θ λaR f I W X Y=>⟨Y,f,W,?_⟩;simpa using X
 .have aT:i<l.length:=Ω
  obtain⟨Z,⟨rfl,s⟩|⟨cap,cs,rfl,p,aU,ab,G,y⟩⟩:=id h
  .omega
  simp only[V1]at G y Z;simp only[maxLen]at ab;have ac:([x].length:Int)=1:=rfl;simp only[aL,ac];rw[lm Ω Ω,xA ai.u];simp only[bG,aj];refine⟨λq=>?_,λq=>?_⟩
  .have q:cap<l.length+1:=Ω
   rw[eB ai.u ae.i (l:=0) (h:=i) (m:=cap) iN mB dU Ω Ω Ω];simp only[aL,dN];rw[lm (x:=(l.length:Int)+1-i) Ω Ω];have H:=b5.part (l:=0) (h:=i) (m:=cap) h.ls Ω Ω Ω Ω;have ad:((ints .i64 l).drop (0*1)).take ((i-0)*1)=ints .i64 (l.take i):=by simp[ints,S0]
   rw[ad]at H;refine Ct (k:=l.length+1-i) Ω ai.u ae.u ae.i rfl H Ω Ω Ω Ω λaV ag V aW z J=>?_;obtain⟨ah,⟨rfl,s⟩|⟨A,al,rfl,ao,K,L,M,B⟩⟩:=id J
   .omega
   simp only[maxLen]at L;have ap:i-0+(l.length+1-i)=l.length+1:=Ω
   rw[ap]at J ah K B ⊢;simp only[V1]at M B;rw[eB ai.u ae.i (l:=i) (h:=l.length+1) (m:=A) lL gX dU Ω Ω Ω,m6 Ω];refine pz ai.u ae.i ao (o:=i) (λ_=>by simp[W0]) Ω (e.ls.W z) (ku _ _) λaX aq aY au=>?_;intro av N _ _;have O:=au.W N;rw[o7 Θ]at O;rw[lm Ω Ω,eB ai.u ae.i (l:=i+1) (h:=l.length+1) (m:=A) (mA (i+1) _ Ω) gX dU Ω Ω Ω,m6 Ω];have aw:=p.lt;have P:Ext w av:=(z.then aq (by rintro r ax rfl;omega)).F N;have s2:=z.size;refine uF rfl ai.u ae.i (h.ls.W P) hi λv4 az=>?_;refine pz ai.u ae.i O (o:=i+1) (λ_=>by simp[W0]) (by rw[fZ];omega) az (ku _ _) λaZ aA a1 aB=>?_;refine⟨(P.then aA (by rintro r ax rfl;omega)).aa _,ag,.inr Ω,an.of (n:=l.length+1) ⟨Θ,.inr ⟨A,_,rfl,aB,K,L,by rw[fZ,fZ];simpa using M,?_⟩⟩⟩;have aC:(ints .i64 (l.drop i)).take (l.length+1-(i+1))=ints .i64 (l.drop i):=o7 (by simp<;>omega);rw[aC,V1];have aD:∀j,j<l.length+1->al[j]?=(ints .i64 (l.take i)++u9 (l.length+1-i) (Y9 .i64 0))[j]?:=λj a=>by
    rw[<-B,Y3 a]
   apply j9;intro j;by_cases a:j<l.length+1
   .rw[Y3 a,kt _ _ _ (by rw[fZ];simp;omega),kt _ _ _ Θ,aD j a];simp only[ints,n9,List.map_drop,S0,List.getElem?_append,List.getElem?_drop,List.getElem?_take,p9,j6,r9,List.length_drop,Y4,List.length_nil,U4,List.map_nil]
    repeat' split
    all_goals first|rfl|omega|(congr 1;omega)|(exfalso;omega)|skip
   .rw[Y0 Θ,Y0 Θ]
  .have q:l.length+1<=cap:=Ω
   rw[eB ai.u ae.i (l:=0) (h:=l.length+1) (m:=cap) iN (nF _ _ Ω) dU Ω Ω Ω,m6 Ω];rw[lm (x:=(i:Int)+1) Ω Ω,eB ai.u ae.i (l:=i+1) (h:=l.length+1-0) (m:=cap-0) (mA (i+1) _ Ω) gX dU Ω Ω Ω,m6 Ω];have aw:=p.lt;obtain⟨a2,⟨rfl,aE⟩|⟨a6,a7,rfl,aF,a8,ba,bb,bc⟩⟩:=id e
   .simp at aE
   refine(M2 aF p (Ne.symm E) Ω).X ?_;rintro _ _ _ ⟨rfl,rfl⟩;simp only[bA,X1,bZ];intro aG C _ _;have Q:=p.W C;rw[eB ai.u ae.i (l:=i+1) (h:=l.length+1-0) (m:=cap-0) (mA (i+1) _ Ω) gX dU Ω Ω Ω,m6 Ω,
    eB ai.u ae.i (l:=i) (h:=l.length+1-0) (m:=cap-0) lL gX dU Ω Ω Ω,m6 Ω]
   have aH:b5 aG 1 (.slice (σ ⟨g,i,ν⟩) (l.length+1-0-i) (cap-0-i)) (l.length+1-0-i) ((cs.drop i).take (l.length+1-0-i)):=Cv Q Ω Ω (by simp only[maxLen];omega);have R:W3 (λx:S6=>x.add (i*1)) (W3 (λx:S6=>x.add (0*1)) (σ ⟨g,0,ν⟩))=σ ⟨g,i,ν⟩:=by simp[W0]
   have aI:W3 (λx:S6=>x.add ((i+1)*1)) (W3 (λx:S6=>x.add (0*1)) (σ ⟨g,0,ν⟩))=σ ⟨g,i+1,ν⟩:=by simp[W0]
   rw[R,aI];have S:((cs.drop i).take (l.length+1-0-i)).take (l.length+1-0-(i+1))=ints .i64 (l.drop i):=by
    have:cs.drop i=(cs.take l.length).drop i++cs.drop l.length:=by
     conv=>lhs;rw[<-List.take_append_drop l.length cs]
     rw[List.drop_append_of_le_length Θ]
    rw[List.take_take,this,y,List.take_append_of_le_length Θ,o7 Θ,ints,ints,List.map_drop]
   have aJ:∀u∈((cs.drop i).take (l.length+1-0-i)).take (l.length+1-0-(i+1)),u.oneCell'=rs:=by rw[S];exact ku _ _
   refine LV ai.u ae.i Q (o:=i+1) (λ_=>rfl) Ω aH aJ λbd U be aK=>?_;rw[eB ai.u ae.i (l:=i) (h:=l.length+1-0) (m:=cap-0) lL gX dU Ω Ω Ω,m6 Ω,R];refine pz ai.u ae.i aK (o:=i) (λ_=>rfl) (by rw[fZ];omega) ((e.aa ((C.aa (λr=>r=g)).F U) (λ_=>Ne.symm E)).ls) (ku _ _) λbf aM bg aN=>?_;refine⟨((C.aa _).F U).F aM,g,.inl rfl,an.of (n:=l.length+1) ⟨Θ,.inr ⟨cap,_,by simp[W0],aN,q,by simp only[maxLen];omega,by rw[fZ,fZ];simpa using G,?_⟩⟩⟩;rw[V1,S];apply j9;intro j;by_cases a:j<l.length+1
   .rw[Y3 a,kt _ _ _ (by rw[fZ];simp;omega),kt _ _ _ Θ];have aO:j<i->cs[j]?=(ints .i64 l)[j]?:=λbh=>Dr y Ω;by_cases h1:j<i
    .rw[aO h1,m6 Ω,m6 Ω];simp only[ints,n9,S0,List.getElem?_append,List.getElem?_take,p9,j6,r9,U4,List.map_nil,Y4,List.length_nil];rw[m5 Ω,m5 Ω,m5 h1]
    .simp only[ints,n9,List.map_drop,S0,List.getElem?_append,List.getElem?_drop,List.getElem?_take,p9,j6,r9,List.length_drop,Y4,List.length_nil,U4,List.map_nil]
     repeat' split
     all_goals first|rfl|omega|(congr 1;omega)|(exfalso;omega)
   .rw[Y0 Θ,Y0 Θ]
theorem M4{dG:x1}(h:aF .i64 w dG [c])(Z:n<65536):
  ak x7 J8 [dG,Δ n] w λv I=>Ext w I/\∃g,w.heap.size<=g/\an .i64 ae I g v (u9 n c):=by
 refine ay func185 ?_;refine dh (λJ=>w=J) ?_ ?_
 .rintro _ rfl;rw[aS ai.u h,e9 ae.u ny.u,e9 ae.u ny.u,lw Ξ Ξ,lw Ω Ω];refine(Ck (x:=([c].length:Int)) Ξ Ω).X ?_;rintro _ V _ ⟨rfl,z⟩;rw[bn,bo];have G:(([c].length:Int)*n)=(n:Int):=Ξ
  rw[G];refine dh (λa=>V=a) ?_ ?_
  .rintro _ rfl;rw[e9 ny.u ae.u,lm Ω Ω];refine jy ai.u ae.i Ω Ω ?_;intro g aa ab H K;have A:=z.F H;have ac:=z.size;refine pz ai.u ae.i K (o:=0) (λ_=>rfl) Ξ (h.W A) (ku _ _) ?_;intro ad L af B;have M:=A.then L (by rintro r N rfl;omega);have st:over (ints .i64 (u9 n 0)) 0 ((ints .i64 [c]).take n)=ints .i64 (u9 (min 1 n) c++u9 (n-min 1 n) 0):=by
    rcases Nat.eq_zero_or_pos n with rfl|e
    .simp[over]
    .rw[o7 Θ,nG Θ];have:min 1 n=1:=Ω
     simp[this,ints]
   rw[st]at B;refine⟨λt f=>Ext w f/\∃i:Nat,t=Δ i/\i<=n/\(0<n->0<i)/\ag f g ae (ints .i64 (u9 i c++u9 (n-i) 0)),λt _=>n-(b0 t).toNat,
    ⟨M,min 1 n,Ξ,Ω,Ω,B⟩,?_⟩
   rintro _ f ⟨p,i,rfl,hi,ah,q⟩;simp only[iu ai.u,aP,aj,eu];refine⟨λO P s _ _=>?_,λal=>?_⟩
   .have O:i<n:=Ω
    have C:=q.W s;rw[eB ai.u ae.i (l:=i) (h:=n) (m:=n) lL gX dU Ω Ω Ω,
     eB ai.u ae.i (l:=0) (h:=i) (m:=n) iN mB dU Ω Ω Ω]
    have Q:b5 P 1 (.slice (σ ⟨g,0,ν⟩) n n) n (ints .i64 (u9 i c++u9 (n-i) 0)):=(bW.full C (by simp<;>omega) (by simp[maxLen]<;>omega)).sl;have e:=Q.part (l:=0) (h:=i) (m:=n) Ω Ω Ω Ω;have R:((ints .i64 (u9 i c++u9 (n-i) 0)).drop (0*1)).take ((i-0)*1)=ints .i64 (u9 i c):=by
     simp[ints]
    rw[R]at e;refine pz ai.u ae.i C (o:=i) (λ_=>?_) (by simp<;>omega) e (ku _ _) ?_
    .rw[m6 Ω];simp[W0]
    .intro am S ao E;have ap:=p.size;have aq:=s.size;have U:over (ints .i64 (u9 i c++u9 (n-i) 0)) i ((ints .i64 (u9 i c)).take (n-i))=ints .i64 (u9 (i+min i (n-i)) c++u9 (n-(i+min i (n-i))) 0):=by
      apply j9;intro j;rw[kt _ _ _ (by simp[ints]<;>omega)];simp only[ints,n9,List.map_replicate,List.getElem?_append,List.getElem?_take,List.getElem?_replicate,j6,List.length_replicate]
      repeat' split
      all_goals first|rfl|omega
     rw[U]at E;have W:min (i-0) (n-i)=min i (n-i):=Ω
     simp only[aL,W];have X:Y6.wrap ((i:Int)+((min i (n-i):Nat):Int))=((i+min i (n-i):Nat):Int):=by rw[lm Ω Ω];omega
     rw[X];refine⟨⟨(p.F s).then S (by rintro r N rfl;omega),_,rfl,Ω,Ω,E⟩,?_⟩;simp only[b0,u7];omega
   .have:i=n:=Ω
    subst this;rw[U1,List.replicate_zero,V2]at q;exact⟨p,g,Ω,an.of (n:=i) (bW.full q Ξ (by simp[maxLen];omega))⟩
  .intro az y;refine aV (λv a=>v= .bool sp/\V=a) ?_ ?_
   .rintro _ _ ⟨rfl,rfl⟩;rw[aW];exact y _ rfl
   .intro au Y;simp only[bG,aj];refine⟨λh=>Ω,λ_=>Y _ _ ⟨?_,rfl⟩⟩;rw[pl];omega
 .intro az y;simp only[aP,aj];exact⟨λh=>Ω,λ_=>y _ rfl⟩
theorem Ds{i g:Nat}(h:an .i64 ae w g sv l)(hi:i<l.length)(N:l.length<=1000):
  ak x7 Bz [sv,Δ i,Δ ((i:Int)+1)] w λv I=>af (λr=>r=g) w I/\an .i64 ae I g v (l.take i++l.drop (i+1)):=by
 refine ay func93 ?_;have a:=h.ls;obtain⟨q,⟨rfl,O⟩|⟨cap,cs,rfl,s,P,y,f,p⟩⟩:=id h
 .omega
 simp only[V1]at f p q;simp only[maxLen]at y;rw[aS ai.u a,eB ai.u ae.i (l:=i) (h:=i+1) (m:=l.length) lL (nF (i+1) _ Ω) B2 Ω Ω Ω];simp only[bi,aj];refine⟨λh=>Ω,λ_=>?_⟩;rw[aS ai.u a];intro J e _ _;have z:=s.W e;rw[eB ai.u ae.i (l:=0) (h:=i) (m:=cap) iN mB dU Ω Ω Ω,m6 Ω];refine uF (i:=i+1) Ω ai.u ae.i (a.W e) Ω λQ A=>?_;have B:W3 (λx:S6=>x.add (0*1)) (σ ⟨g,0,ν⟩)=σ ⟨g,0,ν⟩:=by simp[W0]
 rw[B];refine LW (m:=(l.drop (i+1)).length) (news:=ints .i64 (l.drop (i+1))) ai.u ai.u ae.i z A (ku _ _) Θ Ω λV C R E=>?_;have G:i-0+(l.drop (i+1)).length=l.length-1:=Θ
 rw[G,iu ai.u,eB ai.u ae.i (l:=l.length-1) (h:=l.length) (m:=cap-0) lL mB dU Ω Ω Ω,m6 Ω];have H:W3 (λx:S6=>x.add ((l.length-1)*1)) (σ ⟨g,0,ν⟩)=σ ⟨g,l.length-1,ν⟩:=by simp[W0]
 rw[H];refine xB ai.u ae.i rfl rfl E Ω (by rw[fZ];omega) λS K U L=>?_;refine⟨((e.aa _).F C).F K,an.of (n:=l.length-1) ⟨Θ,.inr ⟨cap,_,rfl,L,Ω,by simp only[maxLen];omega,by rw[fZ,fZ];simpa using f,?_⟩⟩⟩;rw[V1];apply j9;intro j;by_cases M:j<l.length-1
 .rw[Y3 M,kt _ _ _ (by rw[fZ];simp;omega),m6 Ω,kt _ _ _ Θ];by_cases h1:j<i
  .rw[Dr p Ω,m6 Ω];simp only[ints,n9,S0,List.getElem?_append,List.getElem?_take,j6,r9];rw[m5 Ω,m5 h1]
  .simp only[ints,n9,List.map_drop,S0,List.getElem?_append,List.getElem?_drop,List.getElem?_take,j6,r9,List.length_drop]
   repeat' split
   all_goals first|rfl|omega|(congr 1;omega)|(exfalso;omega)
 .rw[Y0 Θ,Y0 Θ]
theorem M5(h:aF .i64 w sv l)(f:l≠[]):
  ak x7 K4 [sv] w λv I=>v=Δ (xO l)/\Ext w I:=by
 obtain⟨x,l,rfl⟩:∃x r,l=x::r:=by cases l with
  |nil=>exact m7 rfl f
  |cons x r=>exact⟨x,r,rfl⟩
 have j:=h.le;refine ay func284 ?_;refine dh (λJ=>w=J) ?_ ?_
 .rintro _ rfl;rw[ew (y:=0) (i:=0) rfl au.u ao.i Ψ h (by rfl)];refine⟨λm i V=>Ext w V/\∃k:Nat,i=Δ (k+1:Nat)/\k<=l.length/\m=Δ ((l.take k).foldl min x),λ_ i _=>l.length+1-(b0 i).toNat,⟨Ext.refl _,0,rfl,X8 _,rfl⟩,?_⟩;rintro _ _ V ⟨a,k,rfl,hk,rfl⟩;rw[aS au.u (h.W a)];simp only[Y4,aP,aj]at j ⊢;refine⟨λq=>?_,λs=>⟨?_,a⟩⟩
  .obtain⟨y,e⟩:=aC (l:=l) (i:=k) Ω;rw[ba au.u ao.i Ψ (h.W a) (show(x::l)[k+1]?=σ y from e),nC];simp only[aL];rw[lm Ω Ω];refine⟨⟨a,k+1,by congr 1,Ω,?_⟩,?_⟩
   .rw[u5,e,List.foldl_append];rfl
   .simp only[b0];omega
  .have:k=l.length:=Ω
   subst this;rw[p8];rfl
 .intro az p;rw[aS au.u h];simp only[aP,aj];exact⟨λh=>by simp at h;omega,λ_=>p _ rfl⟩
theorem x9{g a:Nat}(h:cd w g a sv szs k cs):ak x7 xi [Γ g] w λv I=>v=Δ k/\Ext w I:=by
 obtain⟨⟨aY,gs,e,hm,f⟩,_⟩:=h;refine ay func228 ?_;rw[cV dp.u];simp only[l9,aW];rw[aN cp.p 1 e rfl];exact⟨rfl,Ext.refl _⟩
theorem nP{g e:Nat}(h:cd w g e sv szs k cs):
  ak x7 IK [Γ g] w λv I=>Ext w I/\∃a,w.heap.size<=a/\an .i64 ao I a v cs:=by
 obtain⟨⟨aY,gs,f,hm,j⟩,⟨_,_,q⟩,U,r⟩:=h;refine ay func65 ?_;rw[cV dp.u];simp only[l9,aW];rw[aN cp.p 2 f rfl];exact xx j.ls Ω
theorem nQ{g q:Nat}(h:cd w g q sv szs k cs):
  ak x7 JL [Γ g] w λv I=>v= .agg #[sv]/\Ext w I:=by
 obtain⟨⟨aY,gs,s,hm,B⟩,_⟩:=h;have x:=hm.ls.cells;refine ay func150 ?_;refine bu bq.i λC J E e y=>?_;rw[cV dp.u];simp only[l9,aW];rw[bS,aT cp.p rfl,bC (cs:=[sv]) bq.p bq.i rfl (oz (s.W e) (by
  intro j v a
  match j,a with
  |0,a=>exact a))]
 refine b4 (vs:=[sv]) bq.i rfl rfl (by intro u f;simp at f;subst f;exact x.2) y λG z H A=>?_;rw[fA bq.p bq.i rfl A.range];exact⟨rfl,e.then z (by rintro r K rfl;omega)⟩
theorem uT(h:aF .i64 w sv szs)(q:szs.length<=1000):ak x7 xe [.agg #[sv]] w λv I=>Ext w I/\∃a,w.heap.size<=a/\an .i64 ae I a v szs:=by
 refine ay func184 ?_;refine bj λg J r e f=>?_;rw[aK bq.p 0 f rfl];refine(jZ (h.W e) Ω).X ?_;rintro v V _ ⟨j,a,s,hm⟩;have s1:=e.size;exact⟨e.F j,a,Ω,hm⟩
theorem ya(h:aF .i64 w sv szs):ak x7 J6 [.agg #[sv]] w λv I=>v=Δ szs.length/\Ext w I:=by
 refine ay func182 ?_;refine bj λg J f a e=>?_;rw[aK bq.p 0 e rfl,aS ai.u (h.W a)];exact⟨rfl,a⟩
def fc(szs:Λ)(i:Int):Int:=if 0<=i then szs.getD i.toNat 0 else 0
theorem q9{i:Int}(h:aF .i64 w sv szs):ak x7 J7 [.agg #[sv],Δ i] w λv I=>v=Δ (fc szs i)/\Ext w I:=by
 refine ay func183 ?_;refine bj λg J r a e=>?_;refine aV (λv V=>v= .bool (decide (i<0\/(szs.length:Int)<=i))/\J=V) ?_ ?_
 .rintro _ _ ⟨rfl,rfl⟩;simp only[aj];refine⟨λh=>⟨?_,a⟩,λq=>?_⟩
  .unfold fc;split
   .rw[v8,Y0 Ω];rfl
   .rfl
  .rw[aK bq.p 0 e rfl];obtain⟨n,rfl⟩:∃n:Nat,i=n:=⟨i.toNat,Ω⟩;have f:n<szs.length:=Ω
   rw[ba ai.u ae.i Ψ (h.W a) (x6 f)];refine⟨?_,a⟩;unfold fc;rw[m5 Ω,v8,u7,x6 f];rfl
 .intro az j;simp only[aP,aj];refine⟨λh=>j _ _ ⟨by rw[ms];omega,rfl⟩,λq=>?_⟩;rw[aK bq.p 0 e rfl,aS ai.u (h.W a)];simp only[cJ];exact j _ _ ⟨by congr 1;simp;omega,rfl⟩
theorem pN{g B0:Nat}(U:bU szs):
  qD x7 kp [Γ g] (aB szs).toNat (λk vs w=>∃aO gt,vs=[Δ (k:Int),aO]/\B0<=gt/\an .i64 ae w gt aO (b1 szs k))
   (λw=>ag w g bq [sv]/\aF .i64 w sv szs/\B0<=w.heap.size):=by
 refine⟨kp.enters,λl az P w r _ z ⟨s,x,A⟩ B=>?_⟩;have Q:=prod_bound U;refine r7 func199 ?_;rw[bC bq.p bq.i rfl s.range];refine(qR x U).free.X ?_;rintro _ J ⟨C,rfl,a⟩;refine ce.range (aB szs).toNat (λi V=>az i V/\ag V g bq [sv]/\aF .i64 V sv szs/\B0<=V.heap.size) Ω ⟨r 0 _ _ a C.b B,s.W a,x.W a,Y1 A a.size⟩ ?_ ?_
 .rintro i V k hi ⟨f,j,q,y⟩ hk;simp only[aP,aj];refine⟨λ_=>?_,λh=>Ω⟩;rw[bC bq.p bq.i rfl j.range];refine(LF q U Ω Ω).free.X ?_;rintro _ E ⟨G,e,aO,gt,rfl,H,I⟩;rw[bn,bo];refine⟨rfl,(z i _ E hi ⟨j.W e,q.W e,Y1 y e.size⟩ ⟨aO,gt,rfl,Y1 y H,I⟩ (r _ _ _ e G.b f)).X ?_⟩;rintro _ R (⟨rfl,⟨K,L,M⟩,N⟩|⟨rfl,O⟩)
  .simp only[bA,Y2,aW,aL];exact hk _ ⟨N.1,K,L,M⟩
  .simp only[bA,X1,bZ];exact .inr ⟨i,hi,O⟩
 .rintro V k ⟨f,j,q,_⟩;simp only[aP,aj];exact⟨λh=>Ω,λ_=>.inl f⟩
theorem pO:ak x7 Jd [.agg #[sv]] w λr I=>Ext w I/\∃g,r= .func (.func kp) #[] #[Γ g]/\w.heap.size<=g/\ag I g bq [sv]:=by
 refine ay func101 ?_;refine bj λg J f a e=>?_;rw[jX];exact⟨a,g,rfl,Ω,e⟩
end Go.Proofs.YtkcigodpbndobaaGreatDoor
namespace Go.Vc
open Go Go.RowKit
set_option maxRecDepth 100000
section
variable{P:X2}{w:x3}
theorem aD.cB{α:Type}{s:Sem α}{K:α->x3->Prop}(h:aD P s w λv I=>cA w I->K v I):aD P s w K:=by
 obtain⟨v,I,h1,a,e⟩:=h;exact⟨v,I,h1,a,e a⟩
structure Keys(P:X2)(k:r8)(G:x1->Prop):Prop where
 check:∀(w:x3)(em:Bool){v:x1},G v->(Instr.checkKey em 10000 k v).run P w= .ok () w
 find:∀(w:x3){x:x1},G x->∀es:List MapEntry,(∀e∈es,G e.key)->
  ((Instr.findKey k x es).run P w= .ok ν w/\∀e∈es,e.key≠x)\/∃j e,(Instr.findKey k x es).run P w= .ok (σ (j,e.val)) w/\es[j]?=σ e/\e.key=x
 stays:∀(w:x3){v:x1},G v->(Instr.keyThatStays v v).run P w= .ok v w
theorem Keys.law{k:r8}(K:WideMaps.KeyLaw P k):Keys P k λv=>∃l,keyOf P k v=σ l:=
 ⟨λw a _ ⟨_,h⟩=>K.check w a h,λw _ ⟨_,h⟩ e f=>K.find w h e f,λw _ ⟨_,h⟩=>K.stays w h⟩
theorem Keys.int{k:r8}{a:o4}(hk:P.underlying k=σ (.int a)):Keys P k λv=>∃n,v= .int a n:=by
 have key:∀n,MapKept.IsKey (.int a) (.int a n):=λn=>rfl;refine⟨λw e v ⟨n,h⟩=>?_,λw x ⟨n,h⟩ f j=>?_,λw v ⟨n,h⟩=>?_⟩
 all_goals grind [MapKept.run_checkKey,MapKept.findNow_spec,MapKept.run_findKey,MapKept.run_keyThatStays]
def ig(e:MapEntry):x1×x1:=(e.key,e.val)
def de(w:x3)(m:Nat)(d:List (x1×x1)):Prop:=∃a e,w.heap[m]?=σ (.map a e)/\MapKept.Stamped a e/\a.toList.map ig=d
theorem de.W{m:Nat}{d:List (x1×x1)}(h:de w m d)(a:Ext w I):de I m d:=by
 obtain⟨e,c,h1,f⟩:=h;exact⟨e,c,a.a8 m _ h1 rfl,f⟩
theorem de.aa{m:Nat}{d:List (x1×x1)}(h:de w m d)(a:af S w I)(e:¬S m):de I m d:=by
 obtain⟨f,c,h1,j⟩:=h;exact⟨f,c,a.a8 m _ h1 rfl e,j⟩
theorem de.lt{m:Nat}{d:List (x1×x1)}(h:de w m d):m<w.heap.size:=by
 obtain⟨a,c,h1,e⟩:=h
 grind
theorem de.nodup{m:Nat}{d:List (x1×x1)}(h:de w m d):(d.map (·.1)).Nodup:=by
 obtain⟨e,c,_,⟨_,_,a⟩,rfl⟩:=h;rw[T8];exact a
theorem mQ{α:Type}{l:List α}(h:l.Nodup){i:Nat}{x:α}(hi:l[i]?=σ x)(a:l[j]?=σ x):i=j:=by
 grind [X5]
theorem oJ{α β:Type}(f:α->β):∀(l:List α)(i:Nat),(l.map f).eraseIdx i=(l.eraseIdx i).map f
 |[],_=>Ξ
 |_::_,0=>rfl
 |x::l,i+1=>by simp[oJ f l i]
theorem de.uniq{m:Nat}{d:List (x1×x1)}(h:de w m d){i:Nat}{p q:x1×x1}(hi:d[i]?=σ p)(a:d[j]?=σ q)(he:p.1=q.1):i=j:=by
 have e:=h.nodup;have h1:(d.map (·.1))[i]?=σ p.1:=by grind
 have f:(d.map (·.1))[j]?=σ p.1:=by grind
 grind [mQ]
theorem uU{m:Nat}{p:Array MapEntry}{c:Nat}(h:w.heap[m]?=σ (.map p c))(a:Array MapEntry)(e:Nat):
  af (λr=>r=m) w {w with heap:=w.heap.setIfInBounds m (.map a e)}/\cA w {w with heap:=w.heap.setIfInBounds m (.map a e)}/\({w with heap:=w.heap.setIfInBounds m (.map a e)}:x3).heap[m]?=σ (.map a e):=by
 have U:=MapKept.heap_set (o':=.map a e) h;refine⟨⟨Ξ,λr o f j s=>?_⟩,⟨rfl,.lD,rfl,Ξ,λr o f j=>?_⟩,U.1⟩
 .grind
 .show (w.heap.setIfInBounds m _)[r]?=σ o;by_cases q:r=m
  .subst q;rw[h]at f;cases f;cases j
  grind
theorem uV{t:r8}{K:x1->x3->Prop}(h:∀m I,m=w.heap.size->Ext w I->de I m []->K (.map (σ m)) I):aD P (Instr.makeMap t ν) w K:=by
 refine .of (run_makeMap t w) (qF w _) (h _ _ rfl (qE w _) ⟨#[],0,?_,MapKept.stamped_empty 0,rfl⟩);exact heap_alloc_new w _
variable{k e:r8}{G:x1->Prop}
theorem sC{t:r8}{c:Bool}{m:Nat}{d:List (x1×x1)}{x v:x1}(y:P.underlying t=σ (.map k e))(hk:Keys P k G)(hm:de w m d)(z:∀p∈d,G p.1)(h:G x)(a:d[j]?=σ (x,v)):
  ab P (Instr.lookup t (.map (σ m)) x c) w K=K (if c then .tuple #[v,.bool rs]else v):=ab.of λI A=>by
 obtain⟨f,B,q,C,rfl⟩:=hm.W A;have E:∀e∈f.toList,G e.key:=λe he=>z (ig e) (o8.2 ⟨e,he,rfl⟩);rcases hk.find I h f.toList E with⟨_,r⟩|⟨i,s,h1,r,F⟩
 .rw[x8]at a;obtain⟨H,J,L⟩:=Z6.1 a;exact m7 (congrArg Prod.fst L) (r H (x5 J))
 .have M:s.val=v:=by
   have hi:(f.toList.map ig)[i]?=σ (ig s):=by grind
   have N:de I m (f.toList.map ig):=⟨f,B,q,C,rfl⟩;have:=N.uniq hi a F;subst this;rw[hi]at a;exact congrArg Prod.snd (Z7 a)
  simp only[Instr.lookup,X4,run_underlying y,X9,MapKept.run_getObj_map q,W9,hk.check I _ h,h1,M]
theorem uW{t:r8}{c:Bool}{m:Nat}{d:List (x1×x1)}{x:x1}(r:P.underlying t=σ (.map k e))(hk:Keys P k G)(a:∃s b,aR P e s b z)(hm:de w m d)(y:∀p∈d,G p.1)(f:G x)(A:∀p∈d,p.1≠x):
  ab P (Instr.lookup t (.map (σ m)) x c) w K=K (if c then .tuple #[z,.bool sp]else z):=ab.of λI B=>by
 obtain⟨h,J,C,L,rfl⟩:=hm.W B;have E:∀e∈h.toList,G e.key:=λe he=>y (ig e) (o8.2 ⟨e,he,rfl⟩);have F:(zeroValue e).run P I= .ok z I:=by
  obtain⟨s,b,i,hi,_,_,a⟩:=a;simp[zeroValue,typeInfo,hi,a]
 rcases hk.find I f h.toList E with⟨h1,j⟩|⟨i,q,h1,j,H⟩
 .simp only[Instr.lookup,X4,run_underlying r,X9,MapKept.run_getObj_map C,W9,hk.check I _ f,h1,F]
 .exact m7 H (A (ig q) (o8.2 ⟨q,x5 j,rfl⟩))
theorem M6{a:Array MapEntry}{e:MapEntry}{f:MapEntry->MapEntry}(h:a[j]?=σ e):(a.modify j f).toList.map ig=(a.toList.map ig).set j (ig (f e)):=by
 refine j9 λi=>?_
 grind
theorem sD{t:r8}{m:Nat}{d:List (x1×x1)}{x v:x1}{K:Unit->x3->Prop}(B:P.underlying t=σ (.map k e))(hk:Keys P k G)(hm:de w m d)(J:∀p∈d,G p.1)(h:G x)(h1:∀j v0 I,d[j]?=σ (x,v0)->de I m (d.set j (x,v))->af (λr=>r=m) w I->K () I)(L:∀I,(∀p∈d,p.1≠x)->de I m (d++[(x,v)])->af (λr=>r=m) w I->K () I):aD P (Instr.mapUpdate t (.map (σ m)) x v) w K:=by
 obtain⟨f,q,a,C,rfl⟩:=hm;have M:∀e∈f.toList,G e.key:=λe he=>J (ig e) (o8.2 ⟨e,he,rfl⟩);rcases hk.find w h f.toList M with⟨s,E⟩|⟨i,F,s,hi,he⟩
 .obtain⟨y,z,A⟩:=uU a (f.push {key:=x,val:=v,born:=q}) (q+1);refine .of ?_ z (L _ (λp N=>?_) ⟨_,_,A,MapKept.stamped_push C E,by simp[ig]⟩ y)
  .simp only[Instr.mapUpdate,X4,run_underlying B,X9,MapKept.run_getObj_map a,hk.check w _ h,s,MapKept.run_setObj_map _ a]
  .obtain⟨O,Q,rfl⟩:=o8.1 N;exact E O Q
 .have H:f[i]?=σ F:=by grind
  obtain⟨y,z,A⟩:=uU a (f.modify i λe=>{e with key:=x,val:=v}) q;refine .of ?_ z (h1 i F.val _ (by grind [ig]) ⟨_,_,A,MapKept.stamped_modify C _ _ (λ_ _=>rfl) (by grind),M6 H⟩ y);simp only[Instr.mapUpdate,X4,run_underlying B,X9,MapKept.run_getObj_map a,hk.check w _ h,s,H,Z0,R3,he,hk.stays w h,MapKept.run_setObj_map _ a]
theorem M7{t E F:r8}{m:Nat}{d:List (x1×x1)}{x:x1}{K:x1->x3->Prop}(A:P.underlying t=σ (.map k e))(hk:Keys P k G)(hm:de w m d)(H:∀p∈d,G p.1)(h:G x)(h1:∀j v0 I,d[j]?=σ (x,v0)->de I m (d.eraseIdx j)->af (λr=>r=m) w I->K (.tuple #[]) I)(J:∀I,(∀p∈d,p.1≠x)->de I m d->af (λr=>r=m) w I->K (.tuple #[]) I):aD P (j5.delete_ #[t,E] F #[.map (σ m),x]) w K:=by
 obtain⟨f,B,a,C,rfl⟩:=hm;have L:∀e∈f.toList,G e.key:=λe he=>H (ig e) (o8.2 ⟨e,he,rfl⟩);rcases hk.find w h f.toList L with⟨q,M⟩|⟨i,N,q,hi,he⟩
 .obtain⟨s,y,z⟩:=uU a f B;refine .of ?_ y (J _ (λp O=>?_) ⟨_,_,z,C,rfl⟩ s)
  .simp only[j5.delete_,List.getElem?_toArray,List.getElem?_cons_zero,List.getElem?_cons_succ,X4,run_underlying A,X9,MapKept.run_getObj_map a,hk.check w _ h,q,MapKept.run_setObj_map _ a,W9]
  .obtain⟨Q,R,rfl⟩:=o8.1 O;exact M Q R
 .obtain⟨s,y,z⟩:=uU a (f.eraseIdxIfInBounds i) B;refine .of ?_ y (h1 i N.val _ (by grind [ig]) ⟨_,_,z,MapKept.stamped_erase C _,by rw[oJ];simp⟩ s);simp only[j5.delete_,List.getElem?_toArray,List.getElem?_cons_zero,List.getElem?_cons_succ,X4,run_underlying A,X9,MapKept.run_getObj_map a,hk.check w _ h,q,MapKept.run_setObj_map _ a,W9]
theorem M8{t a:r8}{m:Nat}{d:List (x1×x1)}(f:P.underlying t=σ (.map k e))(hm:de w m d):ab P (X7 #[t] a #[.map (σ m)]) w K=K (Δ d.length):=ab.of λI h=>by
 obtain⟨p,q,j,r,rfl⟩:=hm.W h;simp[X7,run_underlying f,MapKept.run_getObj_map j,goInt]
def iR(w:x3)(j m:Nat)(d left:List (x1×x1))(q:Option (x1×x1)):Prop:=∃a f seen iv,w.heap[m]?=σ (.map a f)/\MapKept.Stamped a f/\a.toList.map ig=d/\
 w.heap[j]?=σ (.mapIter (σ m) f seen iv)/\f<=iv/\(leftOf a seen).toList.map ig=left/\∀p,q=σ p->iv=f/\∃h,a.toList.find? (λe=>e.born == seen.back?.getD 0)=σ h/\seen.back? =σ h.born/\ig h=p
theorem iR.map{a m:Nat}{d left:List (x1×x1)}{e:Option (x1×x1)}(h:iR w a m d left e):de w m d:=by
 obtain⟨f,c,_,_,h1,j,p,_⟩:=h;exact⟨f,c,h1,j,p⟩
theorem iR.a8{a m:Nat}{d left:List (x1×x1)}{e:Option (x1×x1)}(h:iR w a m d left e)(f:af S w I)(hm:¬S m)(hi:e7 w I):iR I a m d left e:=by
 obtain⟨j,c,s,iv,h1,p,q,r,x⟩:=h;exact⟨j,c,s,iv,f.a8 m _ h1 rfl hm,p,q,hi a _ r rfl,x⟩
theorem iR.W{a m:Nat}{d left:List (x1×x1)}{e:Option (x1×x1)}(h:iR w a m d left e)(f:Ext w I)(hi:e7 w I):iR I a m d left e:=
 h.a8 (f.aa λ_=>False) (λh=>h) hi
theorem M9(a:Array MapEntry):leftOf a #[]=a:=by
 grind [leftOf,Array.filter_eq_self]
theorem Dt{t:r8}{m:Nat}{d:List (x1×x1)}{K:x1->x3->Prop}(r:P.underlying t=σ (.map k e))(hm:de w m d)(h:∀a I,a=w.heap.size->Ext w I->e7 w I->iR I a m d d ν->K (Γ a) I):aD P (Instr.range t (.map (σ m))) w K:=by
 obtain⟨j,f,p,q,rfl⟩:=hm;refine .of (by grind [run_range_map]) (qF w _) (h _ _ rfl (qE w _) (qF w _).lE ⟨j,f,#[],f,(qE w _).a8 m _ p rfl,q,rfl,heap_alloc_new w _,o5 _,by rw[M9],by grind⟩)
theorem Du:∀(l:List MapEntry)(j:Nat)(a:MapEntry),(l.map (·.born)).Nodup->l[j]?=σ a->l.filter (λx=>!(x.born == a.born))=l.eraseIdx j
 |[],j,a,_,h=>by simp at h
 |x::l,0,a,e,h=>by
  grind [List.filter_eq_self]
 |x::l,j+1,a,e,h=>by
  simp at h;have f:=List.nodup_cons.1 (by simpa using e:(x.born::l.map (·.born)).Nodup);have p:x.born≠a.born:=λhe=>f.1 (he▸o8.2 ⟨a,x5 h,rfl⟩);have q:=Du l j a f.2 h
  grind
theorem Dv{free:fK}{a m:Nat}{d left:List (x1×x1)}{M:Option (x1×x1)}{K:x1->x3->Prop}(h:iR w a m d left M)(z:free.1=sp->free.2<=a)(N:left=[]->K (.tuple #[.bool sp]) w)(h1:∀j p I,left[j]?=σ p->Ext w I->cM a w I->iR I a m d (left.eraseIdx j) (σ p)->K (.tuple #[.bool rs,p.1,p.2]) I):tG P free (Instr.next (Γ a) sp 0) w K:=by
 obtain⟨f,s,seen,iv,O,A,rfl,hi,Q,rfl,_⟩:=h;have F:∀x∈f.toList,x.born<s:=A.1;have ag:=A.2.1;have ah:∀x∈(leftOf f seen).toList,x.born<s:=λx R=>F x (mem_left R).1;have ai:∀(J:x3)(o':Obj),J.heap=w.heap->(setObj a o').run P J= .ok () {J with heap:=J.heap.setIfInBounds a o'}:=by grind [setObj,Sem.run]
 unfold tG;simp only[Instr.next,getObj,X4,Sem.run,hi,O,X9,next_test_false seen f s iv F Q,Bool.false_eq_true,if_false];have S:Array.filter (λe=>!seen.contains e.born) f=leftOf f seen:=rfl;rw[S];have T:((leftOf f seen).toList.map (·.born)).Nodup:=by
  grind
 have U:∀B:MapEntry,leftOf f (seen.push B.born)=(leftOf f seen).filter λx=>!(x.born == B.born):=λB=>by
  unfold leftOf;rw[Array.filter_filter]
  grind
 generalize V:leftOf f seen=L at*;have W:L.filter (λx=>decide (x.born<s))=L:=by grind [Array.filter_eq_self]
 have X:L.filter (λx=>decide (x.born≥s))= #[]:=by
  grind [Array.filter_eq_empty_iff]
 simp only[W,X,Array.append_empty];by_cases Y:L.size=0
 .have Z:=Array.eq_empty_of_size_eq_zero Y;subst Z;refine⟨.tuple #[.bool sp],w,?_,λ_=>cM.refl _ _,N rfl⟩;simp[choose,Sem.run,Question.forced]
 .have aa:L.isEmpty=sp:=by grind
  simp only[aa,Bool.false_eq_true,if_false,Array.empty_append,Array.size_map];have ab:∃(j:Nat)(n:Nat),j<L.size/\w.drawn<=n/\(choose (Question.mapNext L.size)).run P w= .ok j {w with drawn:=n}:=by
   by_cases z:L.size<=1
   .exact⟨0,w.drawn,Ω,o5 _,by simp[choose,Sem.run,Question.forced,z]⟩
   .exact⟨_,w.drawn+1,Nat.mod_lt _ Ω,Nat.le_succ _,by
     simp only[choose,Sem.run,Question.forced,rc,z,if_false,Question.cut];rfl⟩
  obtain⟨j,n,G,H,aj⟩:=ab;have ac:L.toList[j]?=σ L[j]:=by simp[G]
  have ak:=(mem_left (by rw[V];exact Array.mem_toList_iff.2 (Array.getElem_mem G))).1;refine⟨.tuple #[.bool rs,L[j].key,L[j].val],{w with drawn:=n,heap:=w.heap.setIfInBounds a (.mapIter (σ m) s (seen.push L[j].born) s)},?_,?_,?_⟩
  .grind [X4,X9,W9]
  .intro ad;have:=z ad;refine⟨rfl,⟨rfl,H⟩,rfl,Ξ,λr o q C=>?_,λr o ae q E=>?_⟩
   .show (w.heap.setIfInBounds a _)[r]?=σ o;by_cases y:r=a
    .subst y;rw[hi]at q;cases q;cases C
    grind
   grind
  .refine h1 j (ig L[j]) _ (by grind) ⟨Ξ,λr o q E=>?_⟩ ⟨rfl,⟨rfl,H⟩,rfl,Ξ,λr o q C=>?_,λr o ae q E=>?_⟩ ⟨f,s,seen.push L[j].born,s,?_,A,rfl,?_,o5 _,?_,λp af=>⟨rfl,L[j],?_,Ξ,Z7 af⟩⟩
   .show (w.heap.setIfInBounds a _)[r]?=σ o;by_cases y:r=a
    .subst y;rw[hi]at q;cases q;cases E
    grind
   .show (w.heap.setIfInBounds a _)[r]?=σ o;by_cases y:r=a
    .subst y;rw[hi]at q;cases q;cases C
    grind
   .grind
   .grind
   .grind
   .rw[U,Array.toList_filter,Du _ _ _ T ac,oJ]
   grind [find_born]
theorem Dw{a m:Nat}{d left:List (x1×x1)}{p:x1×x1}{K:x1->x3->Prop}(h:iR w a m d left (σ p))(f:K (.tuple #[p.1,p.2]) w):aD P (Instr.entry (Γ a)) w K:=by
 obtain⟨r,s,seen,iv,j,x,rfl,hi,y,rfl,q⟩:=h;obtain⟨rfl,z,h1,e,rfl⟩:=q p rfl;refine .of ?_ (cA.refl _) f;rw[e]at h1;simp only[Instr.entry,getObj,X4,Sem.run,hi,j,X9,e,bne_self_eq_false,Bool.false_eq_true,if_false,<-Array.find?_toList];simp only[R3]at h1;rw[h1];rfl
end
end Go.Vc
namespace Go.Proofs.YtkcigodpbndobaaGreatDoor
open Go Go.Vc Go.RowKit Go.Proofs Go.Proofs.Tryz
set_option maxRecDepth 100000
def eo(a:Λ):x1:=.agg (ints .i8 a).toArray
def nR(a:Λ):Prop:=a.length=6/\∀x∈a,0<=x/\x<32
theorem Na{b:Λ}(h:eo a=eo b):a=b:=by
 unfold eo at h;have h:ints .i8 a=ints .i8 b:=by grind
 have e:∀l:Λ,(ints .i8 l).map valOf=l:=λl=>by
  unfold ints;rw[T8];exact List.map_id l
 grind
theorem Dx(a:Λ):(eo a).cells.toList=ints .i8 a:=by simp[eo,T5]
theorem Nb:WideMaps.ArrKey x7 cI fY 6:=⟨cI.u,Ψ,Ψ,Ψ⟩
theorem keys:Keys x7 cI λv=>∃l,keyOf x7 cI v=σ l:=Keys.law Nb.law
theorem yb{p:Λ}(h:nR p):∃l,keyOf x7 cI (eo p)=σ l:=by
 obtain⟨r,j⟩:=h
 match p,r with
 |[a,b,c,d,e,f],_=>
  have s:=j a Ξ;have w:=j b Ξ;have y:=j c Ξ;have rd:=j d Ξ;have z:=j e Ξ;have lD:=j f Ξ;have wf:∀x:Int,0<=x/\x<32->(Lit.int .i8 x).wf=rs:=λx A=>by
   simp only[Lit.wf,V8,rc];have I:o4.i8.min= -128:=Φ
   have J:o4.i8.max=127:=Φ
   omega
  have q:decide (0<x7.types.size)=rs:=Ψ
  have q:=ro q;obtain⟨n,B⟩:∃n,x7.types.size=n+1:=⟨x7.types.size-1,Ω⟩;have one:∀x:Int,0<=x/\x<32->x7.keyLits (n+1) fY [.int .i8 x]=σ [.int .i8 x]:=λx A=>by
   unfold X2.keyLits
   grind [fY.u]
  unfold keyOf;rw[cI.u];simp only;have C:x7.keyType cI=rs:=Ψ
  have E:x7.cellsOf fY=1:=Ψ
  have F:x7.cellsOf cI=6:=Ψ
  have G:(eo [a,b,c,d,e,f]).formed x7 cI=rs:=by
   grind [eo,x1.formed,cI.u]
  rw[C,G,Dx,B];simp only[Bool.and_self,if_true];unfold X2.keyLits;rw[cI.u];simp only[F,E,ints];have H:Z4 6=[0,1,2,3,4,5]:=Φ
  simp[H,one a s,one b w,one c y,one d rd,one e z,one f lD]
def pad(t:Λ):Λ:=t++u9 (6-t.length) 0
theorem Nc(f:t.length<=6)(a:∀x∈t,0<=x/\x<32):nR (pad t):=
 ⟨by simp[pad];omega,λx e=>by
  rcases o9.1 e with h|h
  .exact a x h
  .have:=(List.mem_replicate.1 h).2;omega⟩
theorem Nd{b:Λ}(e:a.length=b.length)(h:pad a=pad b):a=b:=by
 grind [pad,List.append_inj]
theorem Dy:(pad t).take t.length=t:=by simp[pad]
theorem pP{b o:Nat}(e:a.length=6)(h:w.rangeAt b o (ints .i8 a)):ab x7 (u4 cI (.pointer (σ ⟨b,o,ν⟩))) w K=K (eo a):=
 BZ cI.u rfl cI.i (by simp[e]) h
theorem Nf{b o:Nat}(e:a.length=6)(h:w.rangeAt b o (ints .i8 a)):ab x7 (do loadVar cI (<-asAddr (.pointer (σ ⟨b,o,ν⟩)))) w K=K (eo a):=ab.of λI f=>by
 have:=run_loadVar_mid I b o cI (ints .i8 a) (.array 6 fY) (px f h) cI.u rfl (by rw[cI.i.size];simp[e]);simp only[asAddr,X4,W9,Result.andThen_ok,this];rfl
theorem sE{g:Nat}{cs:List x1}{K:Unit->x3->Prop}(e:a.length=6)(f:cs.length=6)(j:ag w g cI cs)(h:∀I,af (λr=>r=g) w I->I.heap.size=w.heap.size->ag I g cI (ints .i8 a)->K () I):aD x7 (o6 cI (Γ g) (eo a)) w K:=
 b4 (vs:=ints .i8 a) cI.i (by simp[e]) f (λv p=>by obtain⟨x,_,rfl⟩:=o8.1 p;rfl) j h
def uX:List x1:=[.int .i8 0,.int .i8 0,.int .i8 0,.int .i8 0,.int .i8 0,.int .i8 0]
theorem Ng{x:Int}:ak x7 uo [Δ x] w λv I=>v= .bool (decide (¬jA x))/\Ext w I:=by
 refine ay func208 ?_;simp only[ct,aP,bG,aj];refine⟨λh=>⟨?_,Ext.refl _⟩,λh=>⟨?_,Ext.refl _⟩⟩
 .rw[ms];intro a;have:=a.1;omega
 .congr 1;have:(32<x)=(¬jA x):=propext ⟨λe a=>by have:=a.2;omega,λe=>by
   by_cases f:32<x
   .exact f
   .exact m7 ⟨Ω,Ω⟩ e⟩
  simp only[this]
theorem Nh(h:aF .i64 w sv l):
  ak x7 xj [sv,.func (.func uo) #[] #[]] w λv I=>Ext w I/\∃n:Int,v=Δ n/\((0<=n)=¬∀x∈l,jA x):=by
 have z:=h.le;refine ay func239 ?_;rw[aS ai.u h];refine⟨λ_ t J=>Ext w J/\∃i:Nat,t=Δ i/\i<=l.length/\∀x∈l.take i,jA x,λ_ t _=>l.length-(b0 t).toNat,⟨Ext.refl _,0,rfl,X8 _,Ξ⟩,?_⟩;rintro _ _ J ⟨e,i,rfl,hi,f⟩;simp only[aP,aj];refine⟨λA=>?_,λB=>⟨e,-1,rfl,?_⟩⟩
 .obtain⟨x,j⟩:=aC (l:=l) (i:=i) Ω;rw[ba ai.u ae.i Ψ (h.W e) j];show ak x7 uo [Δ x] J _;refine Ng.X ?_;rintro _ V _ ⟨rfl,p⟩;simp only[aj,aL];refine⟨λq=>⟨e.F p,i,rfl,?_⟩,λr=>?_⟩
  .exact propext ⟨λ_ s=>q (s x (x5 j)),λ_=>Ω⟩
  .rw[lm Ω Ω];refine⟨⟨e.F p,i+1,rfl,Ω,λy a=>?_⟩,?_⟩
   .rw[u5,j]at a;rcases o9.1 a with a|a
    .exact f y a
    .simp at a;subst a;exact Z2.1 r
   .simp only[b0];omega
 .have:i=l.length:=Ω
  rw[this,p8]at f;exact propext ⟨λh=>Ω,λh=>m7 f h⟩
theorem Dz(h:aF .i64 w sv l):
  ak x7 ul [sv,.func (.func uo) #[] #[]] w λv I=>v= .bool (decide (¬∀x∈l,jA x))/\Ext w I:=by
 refine ay func163 ?_;refine(Nh h).X ?_;rintro _ J _ ⟨a,n,rfl,e⟩;simp only[cJ];exact⟨by congr 1;simp only[e],a⟩
abbrev Told:=List (Λ×Int)
def lj(p:Λ×Int):x1×x1:=(eo (pad p.1),Δ p.2)
def e1(w:x3)(g m:Nat)(szs:Λ)(k o:Int)(D:Told):Prop:=
 (∃sv gs,ag w g fM [sv,Δ k,Δ o,.map (σ m)]/\an .i64 ae w gs sv szs)/\de w m (D.map lj)/\bU szs/\cK o k/\∀p∈D,cW szs p.1/\cK p.2 k/\p.2≠o
theorem e1.W{g m:Nat}{o:Int}{D:Told}(h:e1 w g m szs k o D)(a:Ext w I):e1 I g m szs k o D:=by
 obtain⟨⟨sv,gs,h1,e⟩,f,j⟩:=h;exact⟨⟨sv,gs,h1.W a,e.W a⟩,f.W a,j⟩
theorem yc(U:bU szs)(h:cW szs t):t.length=szs.length/\∀x∈t,0<=x/\x<32:=by
 obtain⟨h1,f⟩:=oG.1 h;refine⟨h1.symm,λx j=>?_⟩;obtain⟨i,hi,rfl⟩:=List.getElem_of_mem j;obtain⟨a,e⟩:=aC (l:=szs) (i:=i) Ω;have p:=f i a _ e (x6 hi);have q:=(U.2 a (x5 e)).2;omega
theorem sF(U:bU szs)(h:cW szs t):nR (pad t):=by
 obtain⟨h1,a⟩:=yc U h;exact Nc (by rw[h1];exact U.1) a
theorem e1.ra{g m:Nat}{o:Int}{D:Told}(h:e1 w g m szs k o D):∀p∈D.map lj,∃l,keyOf x7 cI p.1=σ l:=λp a=>by
 obtain⟨q,e,rfl⟩:=o8.1 a;exact yb (sF h.2.2.1 (h.2.2.2.2 q e).1)
theorem DA{s:Λ}(U:cW szs s)(a:cW szs t)(h:eo (pad s)=eo (pad t)):s=t:=
 Nd ((su U).symm.F (su a)) (Na h)
theorem e1.nodup{g m:Nat}{o:Int}{D:Told}(h:e1 w g m szs k o D):(D.map (·.1)).Nodup:=by
 have e:=h.2.1.nodup;rw[T8]at e;refine List.Pairwise.of_map (S:=λa b=>a≠b) (λt=>eo (pad t)) (λa b h he=>h (by rw[he])) ?_;rw[T8];exact e
def Ni(w:x3)(l:Λ)(k o:Int)(v:x1)(I:x3):Prop:=
 Ext w I/\(¬bU l->v= .tuple #[.pointer ν,Δ 1])/\(bU l->¬cK o k->v= .tuple #[.pointer ν,Δ 3])/\
  (bU l->cK o k->∃g m,v= .tuple #[Γ g,Δ 0]/\w.heap.size<=g/\w.heap.size<=m/\e1 I g m l k o [])
theorem DB{o:Int}(h:aF .i64 w sv l):ak x7 qI [sv,Δ k,Δ o] w (Ni w l k o):=by
 refine ay func125 ?_;refine aV (λv J=>Ext w J/\∃c,v= .bool c/\(c=rs↔¬bU l)) ?_ ?_
 .rintro _ J ⟨e,c,rfl,f⟩;rw[bM];refine⟨λs=>⟨e,λ_=>rfl,λh=>m7 h (f.1 s),λh=>m7 h (f.1 s)⟩,λz=>?_⟩;have U:=Classical.byContradiction λh=>by have:=f.2 h;rw[z]at this;cases this
  have G:=U.1;refine lb.X ?_;rintro _ V _ ⟨rfl,a⟩;by_cases hi:cK o k
  rotate_left
  .simp only[hi,decide_false,bA,X1,bZ];exact⟨e.F a,λh=>m7 U h,λ_ _=>rfl,λ_ h=>m7 h hi⟩
  simp only[hi,decide_true,bA,Y2,aW];refine(jZ ((h.W e).W a) Ω).X ?_;rintro aO H _ ⟨x,A,I,hm⟩;have K:=hm.ls.cells;refine uV λm L M j B=>?_;rw[dq (cs:=#[aO,Δ k,Δ o,.map (σ m)]) (by obtain⟨_,_,_,_,_,rfl,_⟩:=hm.ls;kernel_rfl)];refine bj λg N O q C=>?_;have s1:=e.size;have s2:=a.size;have P:=x.size;have Q:=j.size;exact⟨((((e.F a).F x).F j).F q),λh=>m7 U h,λ_ h=>m7 hi h,λ_ _=>⟨g,m,rfl,Ω,Ω,⟨aO,A,C,(hm.W j).W q⟩,B.W q,U,hi,λp E=>by cases E⟩⟩
 .intro az y;rw[aS ai.u h];simp only[bG,aj];refine⟨λR=>y _ _ ⟨Ext.refl _,rs,rfl,λ_ U=>by have:=U.1;omega,λ_=>rfl⟩,λS=>?_⟩;refine(Dz h).X ?_;rintro _ V _ ⟨rfl,a⟩;refine y _ _ ⟨a,_,rfl,?_⟩;rw[rc];exact⟨λr U=>r U.2,λr U=>r ⟨Ω,U⟩⟩
def kF(t:Λ)(i:Nat):Λ:=t.take i++u9 (6-i) 0
theorem Nj{i:Nat}(hi:i<=t.length)(a:t.length<=6):(kF t i).length=6:=by simp[kF];omega
theorem Nk{i:Nat}{x:Int}(a:t[i]?=σ x)(f:t.length<=6):(kF t i).set i x=kF t (i+1):=by
 have hi:=(x4.1 a).1;unfold kF;have e:(t.take i).length=i:=by rw[j6];omega
 rw[S7 _ _ Ω,e,U1,u5,a];have:6-i=(6-(i+1))+1:=Ω
 rw[this,List.replicate_succ];simp
theorem Nl(t:Λ):kF t t.length=pad t:=by simp[kF,pad]
def DC(w:x3)(szs t:Λ)(v:x1)(I:x3):Prop:=Ext w I/\∃a e,v= .tuple #[eo a,Δ e]/\a.length=6/\(cW szs t->a=pad t/\e=0)/\(¬cW szs t->e=3)
theorem Nn{g m:Nat}{o:Int}{D:Told}{aO:x1}(h:e1 w g m szs k o D)(I:aF .i64 w aO t):ak x7 Kn [Γ g,aO] w (DC w szs t):=by
 obtain⟨⟨sv,gs,K,hm⟩,_,U,_⟩:=h;have aI:=U.1;refine ay func209 ?_;refine bu cI.i λB J aJ X C=>?_;refine bu cI.i λam V aK L M=>?_;have y:=X.F L;have s1:=X.size;have s2:=L.size;have aM:=C.lt;have aQ:=M.lt;have aR:=K.lt;have C:=C.W L;have al:=K.W y;rw[cV e8.u];simp only[l9,aW];have N:∀{f:x3}{E:Λ}{e:Int},Ext w f->ag f am cI (ints .i8 E)->ag f B cI uX->E.length=6->(cW szs t->E=pad t/\e=0)->(¬cW szs t->e=3)->
   ab x7 (u4 cI (Γ am)) f λan=>aD x7 (o6 cI (Γ B) an) f λ(_:Unit)O=>ab x7 (do loadVar cI (<-asAddr (Γ B))) O λao=>DC w szs t (.tuple #[ao,Δ e]) O:=by
  intro f E e q r z H G P;rw[pP H r.range];refine sE H rfl z λO aq aT au=>?_;rw[Nf H au.range];exact⟨q.put aq Ω,E,e,rfl,H,G,P⟩
 rw[aS ai.u (I.W y),aN fM.p 0 al rfl,aS ai.u (hm.ls.W y)];simp only[bz,aj];have Y:ints .i8 (kF t 0)=uX:=by simp[kF,uX,ints]
 refine⟨λav=>N y (by rw[Y];exact M) C (by simp[kF]) (λG=>m7 (by rw[su G]) av) (λ_=>rfl),λZ=>?_⟩;have Z:t.length=szs.length:=Ω
 rw[aS ai.u (I.W y)];refine bT.range t.length (λi _ f=>Ext w f/\ag f am cI (ints .i8 (kF t i))/\ag f B cI uX/\∀(j:Nat)(a x:Int),j<i->szs[j]?=σ a->t[j]?=σ x->0<=x/\x<a) Ω
  ⟨y,by rw[Y];exact M,C,λj a x aw=>Ω⟩ ?_ ?_
 .rintro i _ f ax hi ⟨q,r,z,Q⟩ aA;simp only[aP,aj];refine⟨λ_=>?_,λh=>Ω⟩;obtain⟨x,s⟩:=aC (l:=t) hi;obtain⟨a,A⟩:=aC (l:=szs) (i:=i) Ω;have aU:=U.2 a (x5 A);rw[ba ai.u ae.i Ψ (I.W q) s];have ac:=Nj (t:=t) (i:=i) Ω Ω;refine aV (λv aB=>f=aB/\v= .bool (decide (¬(0<=x/\x<a)))) ?_ ?_
  .rintro _ _ ⟨rfl,rfl⟩;simp only[aj];refine⟨λaE=>N q r z ac (λG=>m7 ((oG.1 G).2 i a x A s) aE) (λ_=>rfl),λR=>?_⟩;have R:=Z2.1 R;rw[e9 ae.u fY.u,Lr Ω Ω,xr cI.u fY.i Ω];refine bw fY.i rfl rfl r (by simp[ac];omega) λaX ad aY af=>?_;simp only[aL];refine aA _ _ ⟨q.put ad Ω,?_,z.aa ad (by show¬(B=am);omega),λj a' aG aw S W=>?_⟩
   .have e:(ints .i8 (kF t i)).set (0+i*1) (.int .i8 x)=ints .i8 (kF t (i+1)):=by
     rw[<-Nk s Ω];simp[ints,V5]
    rw[e]at af;exact af
   .by_cases aH:j=i
    .subst aH;rw[A]at S;rw[s]at W;cases S;cases W;exact R
    .exact Q j a' aG Ω S W
  .intro az ah;simp only[aP,aj];refine⟨λaZ=>ah _ _ ⟨rfl,by rw[ms];omega⟩,λa1=>?_⟩;rw[aN fM.p 0 (K.W q) rfl,ba ai.u ae.i Ψ (hm.ls.W q) A,cJ];refine ah _ _ ⟨rfl,?_⟩;congr 1;exact decide_eq_decide.2 ⟨λh ap=>Ω,λh=>Ω⟩
 .rintro _ f ax ⟨q,r,z,Q⟩;simp only[aP,aj];refine⟨λh=>Ω,λ_=>?_⟩;rw[Nl]at r;exact N q r z (by simp[pad];omega) (λ_=>⟨rfl,rfl⟩) (λP=>m7 (oG.2 ⟨Z.symm,λj a x A s=>Q j a x (x4.1 s).1 A s⟩) P)
def jF(D:Told)(o:Int)(t:Λ):Int:=match D.find? (λp=>decide (p.1=t))with
 |some p=>p.2
 |none=>o
theorem DD{D:Told}(e:(D.map (·.1)).Nodup){p q:Λ×Int}(f:p∈D)(r:q∈D)(h:p.1=q.1):p=q:=by
 obtain⟨i,hi⟩:=c8.1 f;obtain⟨j,a⟩:=c8.1 r;have h1:(D.map (·.1))[i]?=σ p.1:=by rw[x8,hi];rfl
 have s:(D.map (·.1))[j]?=σ p.1:=by rw[x8,a,h];rfl
 have:=mQ e h1 s;subst this;rw[hi]at a;exact Z7 a
theorem sG{D:Told}{o:Int}(e:(D.map (·.1)).Nodup)(h:(t,c)∈D):jF D o t=c:=by
 unfold jF;cases a:D.find? (λp=>decide (p.1=t))with
 |none=>
  have:=List.find?_eq_none.1 a _ h;simp at this
 |some p=>
  have h1:=List.find?_some a;have h1:p.1=t:=by simpa using h1
  have:=DD e (List.mem_of_find?_eq_some a) h h1;rw[this]
theorem sH{D:Told}{o:Int}(h:∀p∈D,p.1≠t):jF D o t=o:=by
 unfold jF;cases a:D.find? (λp=>decide (p.1=t))with
 |none=>rfl
 |some p=>
  have h1:=List.find?_some a;have h1:p.1=t:=by simpa using h1
  exact m7 h1 (h p (List.mem_of_find?_eq_some a))
def mR(D:Told)(t:Λ)(c o:Int)(D':Told):Prop:=(∀p,p∈D'↔(c≠o/\p=(t,c))\/(p∈D/\p.1≠t))/\D'.length<=D.length+1
theorem mR.cost{D D':Told}{o:Int}(h:mR D t c o D')(r:(D.map (·.1)).Nodup)(f:(D'.map (·.1)).Nodup)(s:Λ):jF D' o s=if s=t then c else jF D o s:=by
 by_cases U:s=t
 .subst U;rw[m5 rfl];by_cases j:c=o
  .subst j;exact sH λp a he=>by
    rcases(h.1 p).1 a with e|e
    .exact e.1 rfl
    .exact e.2 he
  .exact sG f ((h.1 _).2 (.inl ⟨j,rfl⟩))
 .rw[m6 U];by_cases he:∃p∈D,p.1=s
  .obtain⟨p,a,rfl⟩:=he;rw[sG r a];exact sG f ((h.1 _).2 (.inr ⟨a,U⟩))
  .have q:∀p∈D,p.1≠s:=λp a h=>he ⟨p,a,h⟩;rw[sH q];exact sH λp a e=>by
    rcases(h.1 p).1 a with⟨_,rfl⟩|⟨w,_⟩
    .exact U e.symm
    .exact q p w e
theorem No{D:Told}{o v0:Int}(q:(D.map (·.1)).Nodup)(f:D[j]?=σ (t,v0))(r:c≠o):mR D t c o (D.set j (t,c)):=by
 have h:=(x4.1 f).1;refine⟨λp=>⟨λa=>?_,λa=>?_⟩,Ξ⟩
 .obtain⟨i,hi⟩:=c8.1 a;by_cases e:j=i
  .subst e;rw[Z5 h]at hi;exact .inl ⟨r,(Z7 hi).symm⟩
  .rw[W5 e]at hi;refine .inr ⟨x5 hi,λhe=>e ?_⟩;exact mQ q (by rw[x8,f];rfl) (by rw[x8,hi,Z0,he])
 .rcases a with⟨_,rfl⟩|⟨a,s⟩
  .exact x5 (Z5 h)
  .obtain⟨i,hi⟩:=c8.1 a;have e:j≠i:=λhe=>by subst he;rw[f]at hi;cases hi;exact s rfl
   exact x5 (by rw[W5 e];exact hi)
theorem DE{D:Told}{o:Int}(a:∀p∈D,p.1≠t)(e:c≠o):mR D t c o (D++[(t,c)]):=by
 refine⟨λp=>?_,Ξ⟩;rw[o9,b8];exact⟨λh=>h.elim (λh=>.inr ⟨h,a p h⟩) (λh=>.inl ⟨e,h⟩),λh=>h.elim (λh=>.inr h.2) (λh=>.inl h.1)⟩
theorem Np{D:Told}{o v0:Int}(f:(D.map (·.1)).Nodup)(e:D[j]?=σ (t,v0)):mR D t o o (D.eraseIdx j):=by
 refine⟨λp=>⟨λa=>?_,λa=>?_⟩,by have:=List.length_eraseIdx_le D j;omega⟩
 .refine .inr ?_;obtain⟨i,q,hi⟩:=List.mem_eraseIdx_iff_getElem?.1 a;refine⟨x5 hi,λhe=>q ?_⟩;exact mQ f (by rw[x8,hi,Z0,he]) (by rw[x8,e];rfl)
 .rcases a with⟨h,_⟩|⟨a,r⟩
  .exact m7 rfl h
  .obtain⟨i,hi⟩:=c8.1 a;exact List.mem_eraseIdx_iff_getElem?.2 ⟨i,λhe=>by subst he;rw[e]at hi;cases hi;exact r rfl,hi⟩
theorem Nq{D:Told}{o:Int}(a:∀p∈D,p.1≠t):mR D t o o D:=
 ⟨λp=>⟨λh=>.inr ⟨h,a p h⟩,λh=>h.elim (λh=>m7 rfl h.1) (λh=>h.1)⟩,Ω⟩
theorem DF{g m:Nat}{o:Int}{D:Told}(h:e1 w g m szs k o D)(f:cW szs t){v:x1}(a:(D.map lj)[j]?=σ (eo (pad t),v)):∃c,D[j]?=σ (t,c)/\v=Δ c:=by
 rw[x8]at a;obtain⟨p,e,he⟩:=Z6.1 a;have h1:=DA (h.2.2.2.2 p (x5 e)).1 f (congrArg Prod.fst he);exact⟨p.2,by rw[e,<-h1],(congrArg Prod.snd he).symm⟩
theorem DG{g m:Nat}{o:Int}{D:Told}(h:e1 w g m szs k o D)(a:∀p∈D.map lj,p.1≠eo (pad t)):∀p∈D,p.1≠t:=λp e he=>a (lj p) (o8.2 ⟨p,e,rfl⟩) (by rw[lj,he])
def Nr(w:x3)(g m:Nat)(szs t:Λ)(k o c:Int)(D:Told)(v:x1)(I:x3):Prop:=
 (¬(cW szs t/\cK c k)->v=Δ 3/\Ext w I)/\(cW szs t/\cK c k->v=Δ 0/\af (λr=>r=m) w I/\∃D',mR D t c o D'/\e1 I g m szs k o D')
theorem DH{g m:Nat}{o:Int}{D:Told}{aO:x1}(h:e1 w g m szs k o D)(ag:aF .i64 w aO t):ak x7 Jv [Γ g,aO,Δ c] w (Nr w g m szs t k o c D):=by
 refine ay func126 ?_;refine(Nn h ag).X ?_;rintro _ J _ ⟨X,aG,e,rfl,N,ah,ai⟩;rw[bn,bo];refine bu cI.i λam V aH Y Z=>?_;refine sE N rfl Z λab al aI ac=>?_;have s1:=X.size;have s2:=Y.size;have aJ:=Z.lt;have H:=(X.F Y).put al Ω;refine aV (λv O=>v=Δ 0/\(cW szs t/\cK c k)/\af (λr=>r=m) w O/\∃D',mR D t c o D'/\e1 O g m szs k o D') ?_ ?_
 .rintro _ O ⟨_,h1,E⟩;exact⟨λh=>m7 h1 h,λ_=>⟨rfl,E⟩⟩
 intro az an;simp only[bz,aj];by_cases A:cW szs t
 rotate_left
 .have he:=ai A;subst he;exact⟨λ_=>⟨λ_=>⟨rfl,H⟩,λh=>m7 h.1 A⟩,λh=>by simp at h⟩
 obtain⟨rfl,rfl⟩:=ah A;refine⟨λh=>m7 rfl h,λ_=>?_⟩;have x:=h.W H;obtain⟨⟨sv,gs,y,hm⟩,I,U,ao,aq⟩:=id x;rw[aN fM.p 1 y rfl];refine lb.X ?_;rintro _ au _ ⟨rfl,z⟩;have av:=H.F z;by_cases hi:cK c k
 rotate_left
 .simp only[hi,decide_false,bA,X1,bZ];exact⟨λ_=>⟨rfl,av⟩,λh=>m7 h.2 hi⟩
 simp only[hi,decide_true,bA,Y2,aW];rw[aN fM.p 2 (y.W z) rfl];simp only[bi,aj,eu];have ad:=yb (sF U A);have aw:∀{D':Told},mR D t c o D'->∀p∈D',cW szs p.1/\cK p.2 k/\p.2≠o:=λK p ax=>by
  rcases(K.1 p).1 ax with⟨C,rfl⟩|⟨h1,_⟩
  .exact⟨A,hi,C⟩
  .exact aq p h1
 have L:∀{G B:x3}{D':Told},Ext au G->af (λr=>r=m) G B->de B m (D'.map lj)->mR D t c o D'->az (Δ 0) B:=by
  intro G B D' f q aA K;have aB:g≠m:=λhe=>by
   obtain⟨aC,aD,ap,_⟩:=I;have y:ab.heap[g]?=_:=y;rw[he,ap]at y;cases y
  have aE:∀r,li sv r->r≠m:=λr ae he=>by
   subst he;obtain⟨aC,aD,ap,_⟩:=I;obtain⟨_,⟨rfl,_⟩|⟨cap,cs,rfl,M,_⟩⟩:=hm
   .obtain⟨a,n,c,h1,_⟩:=ae;cases h1
   .obtain⟨a,n,c,h1,E⟩:=ae;cases h1;have M:ab.heap[gs]?=_:=M;have E:gs=r:=E;rw[E,ap]at M;cases M
  have P:=z.F f;exact an _ _ ⟨rfl,⟨A,hi⟩,((H.F P).aa _).F q,D',K,⟨sv,gs,(y.W P).aa q aB,bl (hm.W P) q aE⟩,aA,U,ao,aw K⟩
 refine⟨λC G f _ _=>?_,λC G f _ _=>?_⟩
 .rw[aN fM.p 3 ((y.W z).W f) rfl,pP N ((ac.W z).W f).range];subst C;refine M7 jU.u keys ((I.W z).W f) x.ra ad (λj v0 B Q s q=>?_) (λB R s q=>?_)
  .obtain⟨iv,S,_⟩:=DF x A Q;rw[oJ]at s;exact L f q s (Np x.nodup S)
  .exact L f q s (Nq (DG x R))
 .rw[aN fM.p 3 ((y.W z).W f) rfl,pP N ((ac.W z).W f).range];refine sD jU.u keys ((I.W z).W f) x.ra ad (λj v0 B Q s q=>?_) (λB R s q=>?_)
  .obtain⟨iv,S,_⟩:=DF x A Q;have W:(D.map lj).set j (eo (pad t),Δ c)=(D.set j (t,c)).map lj:=by rw[V5];rfl
   rw[W]at s;exact L f q s (No x.nodup S C)
  .have W:D.map lj++[(eo (pad t),Δ c)]=(D++[(t,c)]).map lj:=by rw[n9];rfl
   rw[W]at s;exact L f q s (DE (DG x R) C)
theorem Ns{g m:Nat}{o:Int}{D:Told}{b:Bool}(h:e1 w g m szs k o D)(e:cW szs t)(h1:∀c,(t,c)∈D->K (if b then .tuple #[Δ c,.bool rs]else Δ c))(s:(∀p∈D,p.1≠t)->K (if b then .tuple #[Δ 0,.bool sp]else Δ 0)):
  ab x7 (Instr.lookup jU (.map (σ m)) (eo (pad t)) b) w K:=by
 have f:=yb (sF h.2.2.1 e);by_cases he:∃p∈D,p.1=t
 .obtain⟨p,a,rfl⟩:=he;obtain⟨j,x⟩:=c8.1 a;rw[sC jU.u keys h.2.1 h.ra f (j:=j) (v:=Δ p.2) (by rw[x8,x];rfl)];exact h1 p.2 a
 .have r:∀p∈D,p.1≠t:=λp a h=>he ⟨p,a,h⟩;rw[uW jU.u keys ⟨_,_,ao.i⟩ h.2.1 h.ra f (λq y hk=>by
   obtain⟨p,a,rfl⟩:=o8.1 y;exact r p a (DA (h.2.2.2.2 p a).1 e hk))]
  exact s r
theorem Nt{g m:Nat}{o:Int}{D:Told}(h:e1 w g m szs k o D):ak x7 Kr [Γ g] w λv I=>v=Δ D.length/\Ext w I:=by
 obtain⟨⟨sv,gs,a,hm⟩,e,_⟩:=h;refine ay func215 ?_;rw[cV e8.u];simp only[l9,aW];rw[aN fM.p 3 a rfl,M8 jU.u e];exact⟨Ξ,Ext.refl _⟩
theorem Nu{g m:Nat}{o:Int}{D:Told}(h:e1 w g m szs k o D):ak x7 Lf [Γ g] w λv I=>v=Δ k/\Ext w I:=by
 obtain⟨⟨sv,gs,a,hm⟩,_⟩:=h;refine ay func308 ?_;rw[cV e8.u];simp only[l9,aW];rw[aN fM.p 1 a rfl];exact⟨rfl,Ext.refl _⟩
theorem yd{g m:Nat}{o:Int}{D:Told}(h:e1 w g m szs k o D):ak x7 Ks [Γ g] w λv I=>Ext w I/\∃a,w.heap.size<=a/\an .i64 ae I a v szs:=by
 obtain⟨⟨sv,gs,e,hm⟩,_,U,_⟩:=h;have f:=U.1;refine ay func216 ?_;rw[cV e8.u];simp only[l9,aW];rw[aN fM.p 0 e rfl];exact jZ hm.ls Ω
theorem Nv{g m:Nat}{o:Int}{D:Told}(h:e1 w g m szs k o D):ak x7 Lg [Γ g] w λv I=>v=Δ szs.length/\Ext w I:=by
 refine ay func309 ?_;refine(yd h).X ?_;rintro v J _ ⟨a,e,_,hm⟩;rw[aS ai.u hm.ls];exact⟨rfl,a⟩
end Go.Proofs.YtkcigodpbndobaaGreatDoor
namespace Go.Vc
open Go Go.RowKit
set_option maxRecDepth 100000
def lc(v:x1)(r:Nat):Prop:=∃a n c,v= .slice (σ a) n c/\a.block=r
theorem gl(h:lc (.slice ν 0 0) r):False:=by
 obtain⟨a,n,c,h,_⟩:=h;cases h
section
variable{α:Type}{f:α->List x1}{k:Nat}
theorem lk:∀{L:List α},(∀a∈L,(f a).length=k)->(L.flatMap f).length=L.length*k
 :=by
 intro a;induction a<;>grind
theorem sI:∀{L:List α}(i:Nat),(∀a∈L,(f a).length=k)->(L.flatMap f).take (i*k)=(L.take i).flatMap f
 |[],i,_=>Ξ
 |a::L,0,_=>Ξ
 |a::L,i+1,h=>by
  have e:=h a (.head _);rw[U3,List.take_succ_cons,U3,<-sI i (by grind),T7,Nat.one_mul,Nat.add_comm,List.take_append,e]
  grind
theorem uY:∀{L:List α}(i:Nat),(∀a∈L,(f a).length=k)->(L.flatMap f).drop (i*k)=(L.drop i).flatMap f
 |[],i,_=>Ξ
 |a::L,0,_=>Ξ
 |a::L,i+1,h=>by
  have e:=h a (.head _);rw[U3,List.drop_succ_cons,<-uY i (by grind),T7,Nat.one_mul,Nat.add_comm,List.drop_append,e]
  grind [List.drop_of_length_le]
theorem rb{L:List α}{i:Nat}{a:α}(h:∀a∈L,(f a).length=k)(hi:L[i]?=σ a){v:x1}(e:(f a)[j]?=σ v):(L.flatMap f)[i*k+j]?=σ v:=by
 have p:=(x4.1 e).1;rw[<-List.getElem?_drop,uY i h]
 grind [X0]
theorem ye{L:List α}{i:Nat}{a:α}(h:∀a∈L,(f a).length=k)(e:(f a).length=k)(hi:i<L.length):over (L.flatMap f) (i*k) (f a)=(L.set i a).flatMap f:=by
 have j:=lk h;have p:(i+1)*k<=L.length*k:=V7 _ hi
 grind [T7,nG,sI,uY,List.set_eq_take_append_cons_drop]
theorem yf{cs vs:List x1}{o m:Nat}(h1:o+vs.length<=m)(a:m<=cs.length):(over cs o vs).take m=over (cs.take m) o vs:=by
 rw[nG Ω,nG (by rw[j6];omega),Y7,Y7,List.take_append,List.take_append,List.take_take,List.take_take,List.drop_take,j6]
 grind [o7]
def bm(f:α->List x1)(k:Nat)(e:r8)(w:x3)(g:Nat)(v:x1)(L:List α):Prop:=bW w g e k v L.length (L.flatMap f)/\∀a∈L,(f a).length=k
variable{P:X2}{w:x3}{e:r8}{g:Nat}{v:x1}{L:List α}
theorem bm.nil(f:α->List x1)(k:Nat)(e:r8)(w:x3)(g:Nat):bm f k e w g (.slice ν 0 0) []:=⟨bW.nil w g e k,λa h=>by cases h⟩
theorem bm.li(h:bm f k e w g v L)(j:lc v r):r=g/\g<w.heap.size:=by
 obtain⟨_,⟨rfl,_⟩|⟨cap,cs,rfl,p,_⟩⟩:=h.1
 .grind [gl]
 .obtain⟨a,n,c,h1,q⟩:=j;cases h1;exact⟨q.symm,p.lt⟩
theorem bm.aa(h:bm f k e w g v L)(a:af S w I)(j:∀r,lc v r->¬S r):bm f k e I g v L:=
 ⟨⟨h.1.1,h.1.2.imp id λ⟨cap,cs,h1,p,q⟩=>⟨cap,cs,h1,p.aa a (j g ⟨_,_,_,h1,rfl⟩),q⟩⟩,h.2⟩
theorem bm.W(h:bm f k e w g v L)(a:Ext w I):bm f k e I g v L:=h.aa (a.aa λ_=>False) λ_ _ h=>h
theorem bm.sl(h:bm f k e w g v L):b5 w k v L.length (L.flatMap f):=h.1.sl
theorem bm.le(h:bm f k e w g v L):L.length<=9223372036854775807:=by
 have:=b5.le h.sl
 grind [maxLen]
theorem eI{t a:r8}(j:P.underlying t=σ (.slice e))(h:bm f k e w g v L):ab P (X7 #[t] a #[v]) w K=K (Δ L.length):=by
 obtain⟨_,_,_,_,_,rfl,_⟩:=h.sl;exact iu j
theorem c5{t:r8}{q:o4}{b:Nat}{i:Nat}(a:y=(i:Int))(j:P.underlying t=σ (.slice e))(hi:aR P e k b z)(h:bm f k e w g v L)(p:i<L.length):
  ab P (j0 t v (.int q y)) w K=K (.pointer (σ ⟨g,i*k,ν⟩)):=by
 subst a;obtain⟨_,⟨rfl,r⟩|⟨cap,cs,rfl,s,x⟩⟩:=h.1
 .omega
 .rw[fs j hi p (λ_=>rfl),V0]
theorem bm.range{i:Nat}{a:α}(h:bm f k e w g v L)(hi:L[i]?=σ a):w.rangeAt g (i*k) (f a):=λj u q=>by
 have h1:=rb h.2 hi q;have x:=(x4.1 hi).1;obtain⟨_,⟨rfl,y⟩|⟨cap,cs,rfl,r,_,_,z,s⟩⟩:=h.1
 .omega
 .have p:=(x4.1 h1).1;rw[lk h.2]at p;rw[<-s,Y3 p]at h1;exact r.cell h1
theorem Nw{t:r8}{b:Nat}{i:Nat}{a:α}{K:Unit->x3->Prop}(hi:aR P t k b z)(h:bm f k e w g v L)(j:(f a).length=k)(h1:∀u∈f a,u.oneCell'=rs)(p:i<L.length)(q:∀I,af (λr=>lc v r) w I->I.heap.size=w.heap.size->bm f k e I g v (L.set i a)->K () I):aD P (o6 t (.pointer (σ ⟨g,i*k,ν⟩)) (.agg (f a).toArray)) w K:=by
 have E:=lk h.2;have s:(i+1)*k<=L.length*k:=V7 _ p;rw[T7,Nat.one_mul]at s;obtain⟨⟨F,⟨rfl,G⟩|⟨cap,cs,rfl,x,H,y,A,J⟩⟩,M⟩:=h
 .omega
 .have N:L.length*k<=cs.length:=by grind
  refine B4 hi j h1 x Ω λI B U C=>q I (B.X λr _ he=>⟨_,_,_,rfl,he.symm⟩) U ⟨⟨?_,.inr ⟨cap,_,Ξ,C,by grind,y,by rw[fZ,A],?_⟩⟩,λb O=>?_⟩
  all_goals grind [lk,ye,yf]
theorem re{t:r8}{b:Nat}{u:x1}{i:Nat}{a a':α}{K:Unit->x3->Prop}(hi:aR P t 1 b z)(A:u.cells= #[u])(h1:u.oneCell'=rs)(h:bm f k e w g v L)(q:L[i]?=σ a)(B:f a'=(f a).set j u)(Q:j<k)(C:∀I,af (λr=>lc v r) w I->I.heap.size=w.heap.size->bm f k e I g v (L.set i a')->K () I):aD P (o6 t (.pointer (σ ⟨g,i*k+j,ν⟩)) u) w K:=by
 have s:=(x4.1 q).1;have R:=lk h.2;have E:(i+1)*k<=L.length*k:=V7 _ s;rw[T7,Nat.one_mul]at E;have S:(f a).length=k:=h.2 a (x5 q);have x:(f a').length=k:=by grind
 have T:(L.flatMap f).set (i*k+j) u=(L.set i a').flatMap f:=by
  rw[<-ye h.2 x s];refine j9 λp=>?_;rw[kt _ _ _ Ω,Y8,x];by_cases F:i*k<=p/\p<i*k+k
  .rw[m5 F,B,Y8];by_cases G:i*k+j=p
   .grind
   .rw[m6 G,m6 Ω];obtain⟨y,H⟩:∃y,(f a)[p-i*k]?=σ y:=⟨_,x6 Ω⟩;have:=rb h.2 q H
    grind
  grind
 obtain⟨⟨V,⟨rfl,W⟩|⟨cap,cs,rfl,J,X,M,Y,Z⟩⟩,aa⟩:=h
 .omega
 .have ab:L.length*k<=cs.length:=by grind
  refine bw hi A h1 J Ω λI N U O=>C I (N.X λr _ he=>⟨_,_,_,rfl,he.symm⟩) U ⟨⟨?_,.inr ⟨cap,_,Ξ,O,by grind,M,by grind,?_⟩⟩,λb ac=>?_⟩
  all_goals grind [List.take_set]
theorem jk{t M:r8}{b:Nat}{x:x1}{a:α}{K:x1->x3->Prop}(y:P.underlying t=σ (.slice e))(hi:aR P e k b z)(G:z.cells.size=k)(h:bm f k e w g v L)(E:b5 w k x 1 (f a))(h1:∀u∈f a,u.oneCell'=rs)(H:(L.length+1)*b<=140737488355328)(O:L.length+1<=9223372036854775807)(J:∀j p I,bm f k e I p j (L++[a])->(∀r,lc j r->lc v r\/w.heap.size<=r)->af (λr=>lc v r) w I->K j I):aD P (j4 #[t,t] M #[v,x]) w K:=by
 have Q:(f a).length=k:=by have:=E.1;omega
 have A:∀j p I,bW I p e k j (L.length+1) (L.flatMap f++f a)->bm f k e I p j (L++[a]):=λj p I hm=>⟨by grind,λb H=>by
  rcases o9.1 H with bf|bf
  .exact h.2 b bf
  grind⟩
 rcases h.1.2 with⟨q,N⟩|⟨cap,cs,q,R,_⟩
 .have hm:bW w w.heap.size e k v L.length (L.flatMap f):=⟨h.1.1,.inl ⟨q,N⟩⟩;subst q;refine py y y hi G hm E h1 Ω (by grind [maxLen]) λj p I B s F=>J j p I (A _ _ _ s) (λr C=>.inr ?_) (F.X Ω);have:=((A _ _ _ s).li C).1;omega
 .refine py y y hi G h.1 E h1 Ω (by grind [maxLen]) λj p I B s F=>J j p I (A _ _ _ s) (λr C=>?_) (F.X λr C h=>⟨_,_,_,q,h.symm⟩);have:=((A _ _ _ s).li C).1;rcases B with B|B
  .exact .inl ⟨_,_,_,q,by show g=r;omega⟩
  omega
theorem Nx{t p:r8}{b:Nat}{x:x1}{a:α}{K:x1->x3->Prop}(q:P.underlying t=σ (.slice e))(hi:aR P e k b z)(s:z.cells.size=k)(h:bm f k e w g v L)(y:b5 w k x 1 (f a))(h1:∀a,∀u∈f a,u.oneCell'=rs)(A:(L.length+1)*b<=140737488355328)(B:L.length+1<=9223372036854775807)(C:∀j E I,bm f k e I E j (L++[a])->(∀r,lc j r->lc v r\/w.heap.size<=r)->af (λr=>lc v r) w I->K j I):aD P (j4 #[t,t] p #[v,x]) w K:=jk q hi s h y (h1 a) A B C
theorem iS{t:r8}{b:Nat}{a:α}{x:x1}{K:x1->x3->Prop}(h:P.underlying t=σ (.slice e))(hi:aR P e k b z)(s:k<=100000)(y:x.cells=(f a).toArray)(A:(f a).length=k)(j:∀v g I,g=w.heap.size->Ext w I->bm f k e I g v [a]->K v I):aD P (Z3 t 1 #[(0,x)]) w K:=
 lM h hi Ω (cs:=x.cells) (Cc Ξ (by grind)) λg I p q r=>by
  have r:ag I g e (f a):=by grind
  exact j _ g I p q ⟨by simpa using(by grind [bW.full,maxLen]),by grind⟩
end
end Go.Vc
namespace Go.Proofs.YtkcigodpbndobaaGreatDoor
open Go Go.Vc Go.RowKit Go.Proofs Go.Proofs.Tryz
set_option maxRecDepth 100000
theorem yg{α:Type}:∀{l:List α}{j:Nat}{x:α},l[j]?=σ x->(x::l.eraseIdx j).Perm l
 |[],j,x,h=>by simp at h
 |a::l,0,x,h=>by simp at h;subst h;exact List.Perm.refl _
 |a::l,j+1,x,h=>by
  simp at h;rw[List.eraseIdx_cons_succ];exact(List.Perm.swap a x _).F ((yg h).cons a)
theorem DI{α:Type}{l:List α}(h:j<l.length):(l.eraseIdx j).length+1=l.length:=by
 rw[List.length_eraseIdx,m5 h];omega
def rf(w:x3)(a:Nat):Nat:=match w.heap[a]? with
 |some (.mapIter (σ m) _ seen _)=>(match w.heap[m]? with
  |some (.map e _)=>(leftOf e seen).size
  |_=>0)
 |_=>0
theorem uZ{a m:Nat}{d left:List (x1×x1)}{e:Option (x1×x1)}(h:iR w a m d left e):rf w a=left.length:=by
 obtain⟨j,p,seen,iv,h1,_,_,f,_,rfl,_⟩:=h;unfold rf;rw[f];simp only;rw[h1];simp
theorem Ny{w0:x3}{a m:Nat}{d d0 left:List (x1×x1)}{e:Option (x1×x1)}(h:iR w a m d left e)(hm:de w0 m d0)(h1:Ext w0 w)(j:Ext w0 I)(hi:e7 w I):iR I a m d left e:=by
 obtain⟨p,c,s,iv,q,r,x,y,z⟩:=h;obtain⟨A,B,f1,_⟩:=hm;have g1:=h1.a8 m _ f1 rfl;have f:=j.a8 m _ f1 rfl;rw[q]at g1;rw[<-g1]at f;exact⟨p,c,s,iv,f,r,x,hi a _ y rfl,z⟩
abbrev pQ(w:x3)(g:Nat)(v:x1)(L:List (Λ)):Prop:=bm (ints .i8) 6 cI w g v L
theorem DJ{k:o4}:∀u∈ints k l,u.oneCell'=rs:=λu a=>by
 obtain⟨x,_,rfl⟩:=o8.1 a;rfl
theorem keysIter{m:Nat}{d:List (x1×x1)}{e:List (Λ)}{w0:x3}(S:ag w0 di jU [.map (σ m)])(hm:de w0 m d)(U:d.map (·.1)=e.map eo)(W:∀a∈e,a.length=6):
  qC x7 rs nw [Γ di] ([]:List (Λ)) (λh=>h.Perm e) (λh vs bf _=>∃a∈e,h.length<e.length/\vs=[eo a]/\bf=h++[a]) (λw=>Ext w0 w):=by
 refine⟨nw.enters,λl az aG w r _ X s Y=>?_⟩;refine r7 func288 ?_;rw[av Ψ ((S.W s).cell rfl)];refine aD.cB (Dt jU.u (hm.W s) λC J Z x aH aa ab=>?_);refine⟨λV=>∃h f left E,az h V/\Ext w0 V/\w.heap.size<=V.heap.size/\iR V C m d left E/\left.map (·.1)=f.map eo/\(h++f).Perm e,λV=>rf V C,
  ⟨[],e,d,ν,r _ _ _ x ab.b Y,s.F x,x.size,aa,U,List.Perm.refl _⟩,?_⟩
 rintro V ⟨h,f,left,E,G,ac,aI,H,y,q⟩;have ad:left.length=f.length:=by have:=congrArg List.length y;simpa using this
 refine Dv H (λh=>by cases h) (λae=>?_) (λj p aJ I K af L=>?_)
 .rw[jW (v:=.bool sp) rfl,aW];subst ae;have:f=[]:=c9 (by rw[<-ad];rfl);subst this;rw[V2]at q;exact .inl ⟨h,q,G⟩
 .rw[jW (v:=.bool rs) rfl,bZ];refine Dw L ?_;obtain⟨a,z,ah⟩:∃a,f[j]?=σ a/\p.1=eo a:=by
   have h1:(left.map (·.1))[j]?=σ p.1:=by rw[x8,I];rfl
   rw[y,x8]at h1;obtain⟨a,M,ai⟩:=Z6.1 h1;exact⟨a,M,ai.symm⟩
  have N:=q.mem_iff.1 (o9.2 (.inr (x5 z)));have O:=W a N;rw[jW (v:=p.1) rfl,ah];refine aD.cB (bu cI.i λaK aL aM aj ak al=>?_);refine aD.cB (sE O rfl ak λam an aN ao ap=>?_);rw[pP O ao.range];have A:=aj.put an Ω;have P:=al.F ap;have Q:=(ac.F K).F A;have aq:=r _ _ _ K (by rw[<-Z];exact af) G;have au:=r _ _ _ A P.b aq;have aw:=L.W A P.lE;have ax:h.length<e.length:=by
   have h1:=q.length_eq;have M:=(x4.1 z).1;rw[p9]at h1;omega
  refine⟨rfl,(X h (h++[a]) _ am Q ⟨a,N,ax,rfl,rfl⟩ au).X ?_⟩;rintro _ ay (⟨rfl,R,aA,aB⟩|⟨rfl,aC⟩)
  .simp only[bA,Y2,aW];have B:=Ny aw hm Q R (aB rfl).lE;have aE:w.heap.size<=ay.heap.size:=by
    obtain⟨_,_,_,_,_,_,_,aF,_⟩:=B;have:=(Z9.1 aF).1;omega
   refine⟨⟨h++[a],f.eraseIdx j,left.eraseIdx j,σ p,aA,R,aE,B,?_,?_⟩,?_⟩
   .rw[<-oJ,y,oJ]
   .refine List.Perm.trans ?_ q;rw[Y7];exact List.Perm.append_left h (yg z)
   .rw[uZ B,uZ H];have:=DI (x4.1 I).1;omega
  .simp only[bA,X1,bZ];exact .inr ⟨h,aC⟩
theorem Nz{m:Nat}:ak x7 KC [.map (σ m)] w λr I=>Ext w I/\∃g,r= .func (.func nw) #[] #[Γ g]/\w.heap.size<=g/\ag I g jU [.map (σ m)]:=by
 refine ay func234 ?_;refine bj λg J f a e=>?_;rw[jX];exact⟨a,g,rfl,Ω,e⟩
theorem NA{m:Nat}{d:List (x1×x1)}{s:List (Λ)}(Z:ag w di jU [.map (σ m)])(hm:de w m d)(ab:d.map (·.1)=s.map eo)(H:∀j∈s,j.length=6)(aE:s.length<=1000000):
  ak x7 Li [.slice ν 0 0,.func (.func nw) #[] #[Γ di]] w λv I=>Ext w I/\∃g L,(∀r,lc v r->w.heap.size<=r)/\L.Perm s/\pQ I g v L:=by
 refine je func316 ?_;refine bj λgs J aF K x=>?_;have x:=x;have aG:=x.lt;refine mo.old ⟨List (Λ),rs,_,_,_,_,_,_,λh I=>af (λr=>w.heap.size<=r) w I/\∃v g,ag I gs k8 [v]/\(∀r,lc v r->w.heap.size<=r/\r≠gs)/\pQ I g v h,λ_ _ _=>False,rfl,keysIter Z hm ab H,?_,λ_ _ p h=>h.F p,
  λ_ _ _ p h=>⟨h.1.F (p.aa _),by obtain⟨v,g,h1,ac,ad⟩:=h.2;exact⟨v,g,h1.W p,ac,ad.W p⟩⟩,λ_ _ _ _ _ h=>h,K,⟨K.aa _,_,0,x,λr h=>(gl h).elim,bm.nil _ _ _ _ _⟩,?_,?_,λ_ _ h=>h.elim,λ_ _ _ h=>h.elim⟩
 .rintro h _ bf I ⟨j,_,_,rfl,_⟩;rfl
 .rintro a h bf V ae ⟨j,ah,aH,ai,rfl⟩ ⟨M,v,g,A,bK,B⟩;cases ai;have C:=H j ah;have aI:h.length<=1000000:=Ω
  refine aD.cB (bu cI.i λaJ aK aL aj N al=>?_);refine aD.cB (sE C rfl N λaM am aN an ao=>?_);intro aO O _ ap;have aP:=N.lt;have aq:=aj.put am Ω;have q:=aq.F O;rw[av Ψ ((A.W q).cell rfl),pP C (an.W O).range];refine aD.cB (iS (f:=ints .i8) (a:=j) k8.u cI.i Ω (by simp[eo,T5]) (by simp[C]) λa ga aQ aR y au aw=>?_);have P:=au.sl;rw[U3,List.flatMap_nil,V2]at P;refine aD.cB (Nx k8.u cI.i rfl ((B.W q).W y) P (λa=>DJ) Ω Ω λQ ax R E ay z az=>?_);have s2:=M.size;have aS:=q.size;have aT:=y.size;have aU:=A.lt;have S:∀r,lc Q r->w.heap.size<=r/\r≠gs:=λr e=>by
   rcases ay r e with h|h
   .exact bK r h
   .omega
  have G:ag R gs k8 [v]:=((A.W q).W y).aa z (λh=>(bK gs h).2 rfl);refine aD.cB (bw k8.i (by obtain⟨_,_,_,_,_,rfl,_⟩:=E.sl;rfl) (by obtain⟨_,_,_,_,_,rfl,_⟩:=E.sl;rfl) G Ξ λU W aV aA aB=>?_);have X:af (λr=>w.heap.size<=r) V U:=(((q.F y).aa _).F (z.X λr _ h=>(bK r h).1)).F (W.X λr _ h=>by show w.heap.size<=r;omega);refine⟨ae.then X (λr e h=>by have h:=h;omega),⟨M.F X,Q,ax,aA,S,E.aa W λr e h=>(S r e).2 h⟩,λ_=>?_⟩;exact((((al.lE.F ao.lE).F ap).F aw.lE).F az.lE).F aB.lE
 .rintro h R aC ⟨z,v,g,G,bK,B⟩;rw[av Ψ (G.cell rfl)];intro U Y _;exact⟨(z.W λr e h=>by have:w.heap.size<=r:=h;omega).F Y,g,h,λr e=>(bK r e).1,aC,B.W Y⟩
theorem NB{m:Nat}{d:List (x1×x1)}{a:List (Λ)}(e:ag w di jU [.map (σ m)])(hm:de w m d)(f:d.map (·.1)=a.map eo)(j:∀p∈a,p.length=6)(q:a.length<=1000000):
  ak x7 K6 [.func (.func nw) #[] #[Γ di]] w λv I=>Ext w I/\∃g L,(∀r,lc v r->w.heap.size<=r)/\L.Perm a/\pQ I g v L:=by
 refine ay func286 ?_;exact(NA e hm f j q).X λ_ _ _ h=>h
def ih:Λ->Int
 |[]=>0
 |x::l=>x*32 ^ l.length+ih l
theorem yh(n:Nat):(0:Int)<32 ^ n:=Int.pow_pos Ω
theorem u0:∀(l:Λ),(∀x∈l,0<=x/\x<32)->0<=ih l/\ih l<32 ^ l.length
 |[],_=>by simp[ih]
 |x::l,h=>by
  have j:=u0 l λy a=>h y (.tail _ a);have f:=h x (.head _);have p:=yh l.length;simp only[ih,Y4];have e:(32:Int) ^ (l.length+1)=32*32 ^ l.length:=by rw[Int.pow_succ,Int.mul_comm]
  have h1:x*32 ^ l.length<=31*32 ^ l.length:=W6 Ω Ω;have q:0<=x*32 ^ l.length:=Int.mul_nonneg f.1 Ω;rw[e];omega
def j7:Λ->Λ->Int
 |x::a,y::b=>if x<y then-1 else if y<x then 1 else j7 a b
 |_,_=>0
theorem DK:∀(a b:Λ),a.length=b.length->(∀x∈a,0<=x/\x<32)->(∀x∈b,0<=x/\x<32)->(j7 a b<0↔ih a<ih b)/\(ih a=ih b->a=b)
 |[],[],_,_,_=>by simp[j7]
 |[],_::_,h,_,_=>by simp at h
 |_::_,[],h,_,_=>by simp at h
 |x::a,y::b,h,s,w=>by
  have j:a.length=b.length:=by simpa using h
  have p:∀x∈a,0<=x/\x<32:=λz e=>s z (.tail _ e);have q:∀x∈b,0<=x/\x<32:=λz e=>w z (.tail _ e);have r:=DK a b j p q;have A:=u0 a p;have C:=u0 b q;have E:=yh b.length;simp only[j7,ih];rw[j]at A ⊢;have step:∀u v:Int,u<v->u*32 ^ b.length+32 ^ b.length<=v*32 ^ b.length:=λu v F=>by
   have:=W6 (show u+1<=v by omega) (show(0:Int)<=32 ^ b.length by omega);rw[Int.add_mul,Int.one_mul]at this;exact this
  by_cases h1:x<y
  .rw[m5 h1];have:=step x y h1;exact⟨⟨λ_=>Ω,λ_=>Ω⟩,λh=>Ω⟩
  .rw[m6 h1];by_cases f:y<x
   .rw[m5 f];have:=step y x f;exact⟨⟨λh=>Ω,λh=>Ω⟩,λh=>Ω⟩
   .rw[m6 f];have B:x=y:=Ω
    subst B;exact⟨r.1.F ⟨λh=>Ω,λh=>Ω⟩,λh=>by rw[r.2 Ω]⟩
theorem yi:∀{a b:Λ}{i:Nat},(∀(j:Nat)(x y:Int),j<i->a[j]?=σ x->b[j]?=σ y->x=y)->i<=a.length->i<=b.length->j7 a b=j7 (a.drop i) (b.drop i)
 |_,_,0,_,_,_=>Ξ
 |[],_,i+1,_,h,_=>by simp at h
 |_::_,[],i+1,_,_,h=>by simp at h
 |x::a,y::b,i+1,he,h1,e=>by
  have f:=he 0 x y Ω rfl rfl;subst f;simp only[j7,Int.lt_irrefl,if_false,List.drop_succ_cons];exact yi (λj u v r p q=>he (j+1) u v Ω p q) (by simpa using h1) (by simpa using e)
theorem DL{x:Int}:ak x7 Lh [.int .i8 x] w λv I=>v= .bool sp/\Ext w I:=by
 refine ay func315 ?_;simp only[bz];exact⟨Ξ,Ext.refl _⟩
theorem NC{x:Int}:ak x7 K5 [.int .i8 x,.int .i8 y] w λv I=>v=Δ (if x<y then-1 else if y<x then 1 else 0)/\Ext w I:=by
 refine ay func285 ?_;refine DL.X ?_;rintro _ J _ ⟨rfl,a⟩;refine DL.X ?_;rintro _ V _ ⟨rfl,e⟩;simp only[aW,aP,bG,aj];exact⟨λh=>⟨by rw[m5 h],a.F e⟩,λh=>⟨λf=>⟨by rw[m6 h,m5 f],a.F e⟩,λf=>⟨by rw[m6 h,m6 f],a.F e⟩⟩⟩
theorem ND{bp bv:x1}{b:Λ}(q:aF .i8 w bp a)(s:aF .i8 w bv b)(U:a.length=b.length):ak x7 KA [bp,bv] w λv I=>v=Δ (j7 a b)/\Ext w I:=by
 refine ay func232 ?_;have W:=q.le;rw[aS mz.u q];refine bT.range a.length (λi _ J=>Ext w J/\∀(j:Nat)(x y:Int),j<i->a[j]?=σ x->b[j]?=σ y->x=y) Ω ⟨Ext.refl _,λj x y K=>Ω⟩ ?_ ?_
 .rintro i _ J L hi ⟨e,r⟩ M;simp only[aP,aj];refine⟨λ_=>?_,λh=>Ω⟩;obtain⟨x,z⟩:=aC (l:=a) hi;obtain⟨y,A⟩:=aC (l:=b) (i:=i) Ω;rw[ba mz.u fY.i Ψ (q.W e) z,aS mz.u (s.W e)];simp only[cJ,aj];refine⟨λh=>Ω,λ_=>?_⟩;rw[ba mz.u fY.i Ψ (s.W e) A];refine NC.X ?_;rintro _ V _ ⟨rfl,E⟩;have f:j7 a b=j7 (a.drop i) (b.drop i):=yi r Ω Ω;have N:a.drop i=x::a.drop (i+1):=by rw[X0 hi,(x4.1 z).2]
  have O:b.drop i=y::b.drop (i+1):=by rw[X0 Ω,(x4.1 A).2]
  rw[N,O]at f;simp only[j7]at f;simp only[bz,aj,aL];refine⟨λG=>⟨?_,e.F E⟩,λP=>M _ _ ⟨e.F E,λj Q R K B C=>?_⟩⟩
  .rw[f];by_cases h1:x<y
   .rw[m5 h1,m5 h1]
   .by_cases p:y<x
    .rw[m6 h1,m5 p,m6 h1,m5 p]
    .rw[m6 h1,m6 p]at G;exact m7 rfl G
  .by_cases S:j=i
   .subst S;rw[z]at B;rw[A]at C;cases B;cases C;have H:=Z2.1 P;by_cases h1:x<y
    .rw[m5 h1]at H;omega
    .by_cases p:y<x
     .rw[m6 h1,m5 p]at H;omega
     .omega
   .exact r j Q R Ω B C
 .rintro _ J L ⟨e,r⟩;simp only[aP,show decide ((a.length:Int)<(a.length:Int))=sp from pl Ω,aW];rw[aS mz.u (q.W e),aS mz.u (s.W e)];simp only[aP,aj];refine⟨λh=>Ω,λ_=>⟨?_,e⟩⟩;have f:j7 a b=j7 (a.drop a.length) (b.drop a.length):=yi r Ω Ω;rw[f,List.drop_length];cases b.drop a.length<;>rfl
theorem NE{b:Λ}(p:nR a)(q:nR b):ak x7 BP [eo a,eo b] w λv I=>Ext w I/\v=Δ (j7 a b):=by
 have B:∀{c:Λ},nR c->(ints .i8 c).length=6:=λh=>by simp[h.1]
 refine ay func231 ?_;refine bj λg1 J C y e=>?_;refine bj λE V G r f=>?_;rw[Dx]at e f;intro s j _ _;have e:=(e.W r).W j;have f:=f.W j;rw[ux cI.u fY.i (l:=0) (h:=6) (m:=6) iN gX dU Ω Ω Ω,ux cI.u fY.i (l:=0) (h:=6) (m:=6) iN gX dU Ω Ω Ω];rw[m6 Ω,m6 Ω];have ls:∀{g:Nat}{c:Λ},nR c->ag s g cI (ints .i8 c)->aF .i8 s (.slice (σ ⟨g,0+0*1,ν⟩) (6-0) (6-0)) c:=λ{g c}x z=>by
  unfold aF;refine⟨Ξ,g,0,_,6,by rw[x.1],by rw[x.1];omega,by simp[maxLen],λ_=>rfl,z.range⟩
 refine(ND (ls p e) (ls q f) (by rw[p.1,q.1])).X ?_;rintro _ H _ ⟨rfl,A⟩;exact⟨((y.F r).F j).F A,rfl⟩
end Go.Proofs.YtkcigodpbndobaaGreatDoor
namespace Go.Vc
open Go Go.RowKit Go.Shelf Go.Proofs Go.Sort
theorem grown_of(f:Ext w I)(a:cA w I):∃q os,I=grow (w.drewN q) os:=by
 refine⟨I.drawn-w.drawn,I.heap.extract w.heap.size I.heap.size,?_⟩;have hk:∀k,k<w.heap.size->I.heap[k]?=w.heap[k]?:=λk hk=>by
  have e:=Array.getElem?_eq_getElem hk;rw[e];cases U:fI w.heap[k]with
  |true=>exact f.a8 k _ e U
  |false=>exact a.a8 k _ e U
 have ap:I.heap=w.heap++I.heap.extract w.heap.size I.heap.size:=by
  apply Array.ext_getElem?
  grind
 have h1:=a.os;have h:=a.tape.1;have j:=a.output;have p:w.drawn+(I.drawn-w.drawn)=I.drawn:=by have:=a.tape.2;omega
 cases I
 grind [Sort.grow,x3.drewN]
section
variable{α:Type}[Inhabited α]
theorem DM(enc:α->List x1)(k:Nat)(hk:∀x,(enc x).length=k)(d:Array α):(flatK enc k d).toList=d.toList.flatMap enc:=by
 apply j9;intro t;by_cases h:t<d.size*k
 .have e:0<k:=by
   grind
  have f:=(Nat.div_lt_iff_lt_mul e).2 h;have j:=Nat.mod_lt t e;have p:(flatK enc k d).toList[t]?=σ ((enc d[t / k]!)[t % k]!):=by
   rw[Array.getElem?_toList,Array.getElem?_eq_getElem (by simpa using h)];have:=get_flatK enc k d t h
   grind
  have q:d.toList[t / k]?=σ d[t / k]!:=by
   grind
  grind [rb,Nat.mul_comm,Nat.div_add_mod]
 .rw[Y0 (by simpa using h),Y0];rw[lk λa _=>hk a]
  grind
theorem DN(enc:α->List x1)(k:Nat)(hk:∀x,(enc x).length=k){g m:Nat}{e:r8}{cs:List x1}{d:Array α}{os:Array Obj}(a:ag w g e cs)(p:d.size*k<=cs.length):
  ag (sortWorldK enc k w g 0 m d os) g e (d.toList.flatMap enc++cs.drop (d.size*k))/\∀r,r<w.heap.size->r≠g->(sortWorldK enc k w g 0 m d os).heap[r]?=w.heap[r]?:=by
 have f:=a.lt;have h:∀r,r<w.heap.size->(sortWorldK enc k w g 0 m d os).heap[r]?=(w.heap.modify g (onCells (putCells id 0 (flatK enc k d))))[r]?:=λr j=>by
  show((w.heap.modify g (onCells (putCells id 0 (flatK enc k d))))++os)[r]?=_
  grind
 refine⟨?_,λr j q=>?_⟩
 .unfold ag at a ⊢;rw[h g f,Array.getElem?_modify,m5 rfl,a];show σ (Obj.cells (putCells id 0 (flatK enc k d) cs.toArray) e (0,0))=_;refine congrArg σ (congrArg (λc=>Obj.cells c e (0,0)) ?_)
  grind [Array.size,lk,Sort.putCells,DM]
 grind
end
theorem DO{P:X2}{E:Ren}(J:SlLaysF0.n6 P E){α:Type}{f:α->List x1}{k:Nat}{e:r8}{G:α->Prop}{num:α->Int}{A:α->α->Int}{B:S9}{cap:Array x1}(ai:∀w,(isAgg (E.t 24)).run P w= .ok rs w)(aj:∀w,(Go.sizeOf (E.t 24)).run P w= .ok k w)(h1:∀a,G a->∀u∈f a,u.oneCell'=rs)(hk:∀a,G a->(f a).length=k)(aJ:∀a b,G a->G b->(A a b<0↔num a<num b))(R:Enters P B){w:x3}{g:Nat}{v:x1}{L:List α}(h:bm f k e w g v L)(K:∀a∈L,G a)(al:L.length<65536)(am:∀N a b,af (λr=>r=g) w N->G a->G b->ak P B ([.agg (f a).toArray,.agg (f b).toArray]++cap.toList) N λu an=>Ext N an/\u=Δ (A a b)):
  ak P (E.f 6) [v,.func (.func B) #[] cap] w λ_ I=>af (λr=>lc v r) w I/\∃M,M.Perm L/\(∀(p q:Nat)(x y:α),p<q->M[p]?=σ x->M[q]?=σ y->num x<=num y)/\bm f k e I g v M:=by
 have S:=λargs w=>J.f6.enters rfl args w;obtain⟨⟨aK,ao⟩,aL⟩:=id h;have T:∀p c,v= .slice p 0 c->L=[]->ak P (E.f 6) [v,.func (.func B) #[] cap] w λ_ I=>af (λr=>lc v r) w I/\∃M,M.Perm L/\(∀(p q:Nat)(x y:α),p<q->M[p]?=σ x->M[q]?=σ y->num x<=num y)/\bm f k e I g v M:=λp c V al=>by
  refine .code S ?_;rw[V];refine(AnyF.slices_SortFunc_none J p c _ w).X ?_;rintro aM I ⟨rfl,rfl⟩;refine⟨_,rfl,cA.refl _,af.refl _ _,L,.refl _,by grind,by grind⟩
 rcases ao with⟨rfl,ap⟩|⟨c,cs,rfl,C,aN,hm,aO,aP⟩
 .exact T _ _ rfl (c9 ap)
 cases W:L with
 |nil=>subst W;exact T _ _ rfl rfl
 |cons a0 aQ=>
 rw[<-W];let β:={a:α // G a};have:Inhabited β:=⟨⟨a0,by grind⟩⟩;let enc:β->List x1:=λx=>f x.1;let d:Array β:=(L.attach.map λx=>(⟨x.1,K x.1 x.2⟩:β)).toArray;have aR:d.toList.map Subtype.val=L:=by
  show(L.attach.map λx=>(⟨x.1,K x.1 x.2⟩:β)).map Subtype.val=L;rw[T8];exact List.attach_map_subtype_val L
 have aq:d.size=L.length:=by simp[d]
 have F:∀x:β,(enc x).length=k:=by grind
 have aS:d.toList.flatMap enc=L.flatMap f:=by
  grind [List.flatMap_map]
 have X:d.size*k<=cs.length:=by grind
 have au:HoldsK enc k w g 0 d:=by
  intro j av;rw[size_flatK]at av;have aT:j<cs.length:=Ω
  have aw:(flatK enc k d)[j]! =cs[j]:=by
   have aU:(flatK enc k d).toList[j]?=σ cs[j]:=by
    grind [DM]
   grind
  refine⟨?_,?_⟩
  .show w.cell? ⟨g,0+j,ν⟩=σ ((flatK enc k d)[j]!);rw[aw];exact C.cell (by grind)
  grind [x3.frozen?,ag]
 have aV:∀x y:β,ltOf (λx y:β=>A x.1 y.1) x y=decide (num x.1<num y.1):=λx y=>by
  unfold ltOf
  grind
 have ax:SWO (ltOf λx y:β=>A x.1 y.1):=
  ⟨by grind,by grind,by grind⟩
 have Y:∀m (d2:Array β) os,d2.size=d.size->af (λr=>r=g) w (sortWorldK enc k w g 0 m d2 os)/\cA w (sortWorldK enc k w g 0 m d2 os):=λm d2 os U=>by
  obtain⟨aW,ay⟩:=DN enc k F C (by rw[U];exact X);have Z:w.heap.size<=(sortWorldK enc k w g 0 m d2 os).heap.size:=by
   show w.heap.size<=((w.heap.modify g _)++os).size;simp
  refine⟨⟨Z,λr o s _ aa=>?_⟩,rfl,⟨rfl,Nat.le_add_right _ _⟩,rfl,Z,λr o s U=>?_⟩
  .rw[ay r (Z9.1 s).1 aa];exact s
  .have aa:r≠g:=λhe=>by subst he;unfold ag at C;rw[C]at s;cases s;cases U
   grind
 have az:CmpLays P B cap enc k (λx y:β=>A x.1 y.1) g 0 d.size w:=λm os aA U x y=>by
  have H:=(am _ x.1 y.1 (Y m aA os U).1 x.2 y.2).calls R;have O:([x1.agg (f x.1).toArray,.agg (f y.1).toArray]++cap.toList).toArray= #[.agg (enc x).toArray,.agg (enc y).toArray]++cap:=by
   apply Array.ext';simp[enc]
  rw[O]at H;refine H.X ?_
  grind [grown_of]
 have ab:=AnyQ.slices_SortFunc J k ai aj enc F (by grind) (λx y:β=>A x.1 y.1) ax B cap g 0 c d w (λargs w=>R args w) az au C.lt Ω;rw[aq]at ab;refine .code S (ab.X ?_);rintro _ I ⟨rfl,z,n,os,⟨aB,_,V⟩,aC,rfl⟩;have ac:=aB;obtain⟨aD,aE⟩:=Y n z os ac;obtain⟨aF,_⟩:=DN enc k F C (by rw[ac];exact X);have Q:(z.toList.map Subtype.val).Perm L:=by
  grind [Array.extract_size]
 have aG:=Q.length_eq;refine⟨_,rfl,aE,aD.X λr _ s=>⟨_,_,_,rfl,s.symm⟩,z.toList.map Subtype.val,Q,λp q x y aH H ad=>?_,⟨?_,.inr ⟨c,_,by rw[aG],aF,Ω,hm,?_,?_⟩⟩,by grind⟩
 .rw[x8,Z6]at H ad;obtain⟨aX,ae,rfl⟩:=H;obtain⟨aY,ah,rfl⟩:=ad;rw[Array.getElem?_toList]at ae ah;have aZ:=(Z9.1 ae);have a1:=(Z9.1 ah);have:=aC p q (X8 _) aH (by grind)
  grind
 .rw[lk λa O=>hk a (K a (Q.mem_iff.1 O))]
 .have aI:(z.toList.flatMap enc).length=z.size*k:=by rw[lk λa _=>F a];rfl
  grind [Nat.add_sub_cancel']
 .have aI:(z.toList.flatMap enc).length=z.size*k:=by rw[lk λa _=>F a];rfl
  grind [List.flatMap_map]
end Go.Vc
namespace Go.Proofs
open Go.Shelf
def Tryz.yj:Go.Shelf.Ren:=⟨λ|6=>287|15=>226|14=>317|28=>282|29=>283|20=>330|21=>331|22=>332|23=>333|24=>334|25=>335|26=>336|27=>337|46=>343|47=>311|48=>312|49=>344|50=>345|57=>347|n=>n,λ|22=>335|24=>314|25=>334|3=>3|39=>329|0=>0|53=>373|55=>169|4=>4|46=>366|45=>365|50=>370|5=>5|9=>9|66=>395|70=>399|76=>410|77=>411|n=>n,λ|n=>n⟩
theorem Tryz.NF:Go.Proofs.SlLaysF0.n6 Tryz.prog Tryz.yj:={
 mixed:=Ψ,
 f6:=⟨Tryz.f287.name,Φ,Tryz.func287.F (congrArg σ Ψ)⟩,
 f14:=⟨Tryz.f317.name,Φ,Tryz.func317.F (congrArg σ Ψ)⟩,
 f15:=Tryz.func226.F (congrArg σ Ψ),
 f20:=⟨Tryz.f330.name,Φ,Tryz.func330.F (congrArg σ Ψ)⟩,
 f21:=⟨Tryz.f331.name,Φ,Tryz.func331.F (congrArg σ Ψ)⟩,
 f22:=⟨Tryz.f332.name,Φ,Tryz.func332.F (congrArg σ Ψ)⟩,
 f23:=⟨Tryz.f333.name,Φ,Tryz.func333.F (congrArg σ Ψ)⟩,
 f24:=⟨Tryz.f334.name,Φ,Tryz.func334.F (congrArg σ Ψ)⟩,
 f25:=⟨Tryz.f335.name,Φ,Tryz.func335.F (congrArg σ Ψ)⟩,
 f26:=⟨Tryz.f336.name,Φ,Tryz.func336.F (congrArg σ Ψ)⟩,
 f27:=⟨Tryz.f337.name,Φ,Tryz.func337.F (congrArg σ Ψ)⟩,
 f28:=Tryz.func282.F (congrArg σ Ψ),
 f29:=Tryz.func283.F (congrArg σ Ψ),
 f46:=⟨Tryz.f343.name,Φ,Tryz.func343.F (congrArg σ Ψ)⟩,
 f47:=Tryz.func311.F (congrArg σ Ψ),
 f48:=Tryz.func312.F (congrArg σ Ψ),
 f49:=⟨Tryz.f344.name,Φ,Tryz.func344.F (congrArg σ Ψ)⟩,
 f50:=⟨Tryz.f345.name,Φ,Tryz.func345.F (congrArg σ Ψ)⟩,
 f57:=⟨Tryz.f347.name,Φ,Tryz.func347.F (congrArg σ Ψ)⟩,
 t0:=Tryz.underlying0,
 a0:=Tryz.isAgg0,
 z0:=Tryz.sizeOf0,
 v0:=Tryz.zeroValue0,
 t3:=Tryz.underlying3,
 a3:=Tryz.isAgg3,
 z3:=Tryz.sizeOf3,
 v3:=Tryz.zeroValue3,
 t4:=Tryz.underlying4,
 a4:=Tryz.isAgg4,
 z4:=Tryz.sizeOf4,
 v4:=Tryz.zeroValue4,
 t5:=Tryz.underlying5,
 a5:=Tryz.isAgg5,
 z5:=Tryz.sizeOf5,
 v5:=Tryz.zeroValue5,
 t9:=Tryz.underlying9,
 a9:=Tryz.isAgg9,
 z9:=Tryz.sizeOf9,
 v9:=Tryz.zeroValue9,
 t22:=Tryz.underlying335,
 a22:=Tryz.isAgg335,
 z22:=Tryz.sizeOf335,
 v22:=Tryz.zeroValue335,
 t25:=Tryz.underlying334,
 a25:=Tryz.isAgg334,
 z25:=Tryz.sizeOf334,
 v25:=Tryz.zeroValue334,
 t39:=Tryz.underlying329,
 a39:=Tryz.isAgg329,
 z39:=Tryz.sizeOf329,
 v39:=Tryz.zeroValue329,
 t45:=Tryz.underlying365,
 a45:=Tryz.isAgg365,
 z45:=Tryz.sizeOf365,
 v45:=Tryz.zeroValue365,
 t46:=Tryz.underlying366,
 a46:=Tryz.isAgg366,
 z46:=Tryz.sizeOf366,
 v46:=Tryz.zeroValue366,
 t50:=Tryz.underlying370,
 a50:=Tryz.isAgg370,
 z50:=Tryz.sizeOf370,
 v50:=Tryz.zeroValue370,
 t53:=Tryz.underlying373,
 a53:=Tryz.isAgg373,
 z53:=Tryz.sizeOf373,
 v53:=Tryz.zeroValue373,
 t55:=Tryz.underlying169,
 a55:=Tryz.isAgg169,
 z55:=Tryz.sizeOf169,
 v55:=Tryz.zeroValue169,
 t66:=Tryz.underlying395,
 a66:=Tryz.isAgg395,
 z66:=Tryz.sizeOf395,
 v66:=Tryz.zeroValue395,
 t70:=Tryz.underlying399,
 a70:=Tryz.isAgg399,
 z70:=Tryz.sizeOf399,
 v70:=Tryz.zeroValue399,
 t76:=Tryz.underlying410,
 a76:=Tryz.isAgg410,
 z76:=Tryz.sizeOf410,
 v76:=Tryz.zeroValue410,
 t77:=Tryz.underlying411,
 a77:=Tryz.isAgg411,
 z77:=Tryz.sizeOf411,
 v77:=Tryz.zeroValue411}
def Tryz.yk:Go.Shelf.Ren:=⟨λ|6=>138|15=>226|14=>225|28=>282|29=>283|20=>274|21=>275|22=>276|23=>277|24=>278|25=>279|26=>280|27=>281|46=>310|47=>311|48=>312|49=>313|50=>314|57=>329|n=>n,λ|22=>237|24=>242|25=>251|3=>3|39=>329|0=>0|53=>373|55=>169|4=>4|46=>366|45=>365|50=>370|5=>5|9=>9|66=>395|70=>399|76=>410|77=>411|n=>n,λ|n=>n⟩
theorem Tryz.NG:Go.Proofs.SlLaysF0.n6 Tryz.prog Tryz.yk:={
 mixed:=Ψ,
 f6:=⟨Tryz.f138.name,Φ,Tryz.func138.F (congrArg σ Ψ)⟩,
 f14:=⟨Tryz.f225.name,Φ,Tryz.func225.F (congrArg σ Ψ)⟩,
 f15:=Tryz.func226.F (congrArg σ Ψ),
 f20:=⟨Tryz.f274.name,Φ,Tryz.func274.F (congrArg σ Ψ)⟩,
 f21:=⟨Tryz.f275.name,Φ,Tryz.func275.F (congrArg σ Ψ)⟩,
 f22:=⟨Tryz.f276.name,Φ,Tryz.func276.F (congrArg σ Ψ)⟩,
 f23:=⟨Tryz.f277.name,Φ,Tryz.func277.F (congrArg σ Ψ)⟩,
 f24:=⟨Tryz.f278.name,Φ,Tryz.func278.F (congrArg σ Ψ)⟩,
 f25:=⟨Tryz.f279.name,Φ,Tryz.func279.F (congrArg σ Ψ)⟩,
 f26:=⟨Tryz.f280.name,Φ,Tryz.func280.F (congrArg σ Ψ)⟩,
 f27:=⟨Tryz.f281.name,Φ,Tryz.func281.F (congrArg σ Ψ)⟩,
 f28:=Tryz.func282.F (congrArg σ Ψ),
 f29:=Tryz.func283.F (congrArg σ Ψ),
 f46:=⟨Tryz.f310.name,Φ,Tryz.func310.F (congrArg σ Ψ)⟩,
 f47:=Tryz.func311.F (congrArg σ Ψ),
 f48:=Tryz.func312.F (congrArg σ Ψ),
 f49:=⟨Tryz.f313.name,Φ,Tryz.func313.F (congrArg σ Ψ)⟩,
 f50:=⟨Tryz.f314.name,Φ,Tryz.func314.F (congrArg σ Ψ)⟩,
 f57:=⟨Tryz.f329.name,Φ,Tryz.func329.F (congrArg σ Ψ)⟩,
 t0:=Tryz.underlying0,
 a0:=Tryz.isAgg0,
 z0:=Tryz.sizeOf0,
 v0:=Tryz.zeroValue0,
 t3:=Tryz.underlying3,
 a3:=Tryz.isAgg3,
 z3:=Tryz.sizeOf3,
 v3:=Tryz.zeroValue3,
 t4:=Tryz.underlying4,
 a4:=Tryz.isAgg4,
 z4:=Tryz.sizeOf4,
 v4:=Tryz.zeroValue4,
 t5:=Tryz.underlying5,
 a5:=Tryz.isAgg5,
 z5:=Tryz.sizeOf5,
 v5:=Tryz.zeroValue5,
 t9:=Tryz.underlying9,
 a9:=Tryz.isAgg9,
 z9:=Tryz.sizeOf9,
 v9:=Tryz.zeroValue9,
 t22:=Tryz.underlying237,
 a22:=Tryz.isAgg237,
 z22:=Tryz.sizeOf237,
 v22:=Tryz.zeroValue237,
 t25:=Tryz.underlying251,
 a25:=Tryz.isAgg251,
 z25:=Tryz.sizeOf251,
 v25:=Tryz.zeroValue251,
 t39:=Tryz.underlying329,
 a39:=Tryz.isAgg329,
 z39:=Tryz.sizeOf329,
 v39:=Tryz.zeroValue329,
 t45:=Tryz.underlying365,
 a45:=Tryz.isAgg365,
 z45:=Tryz.sizeOf365,
 v45:=Tryz.zeroValue365,
 t46:=Tryz.underlying366,
 a46:=Tryz.isAgg366,
 z46:=Tryz.sizeOf366,
 v46:=Tryz.zeroValue366,
 t50:=Tryz.underlying370,
 a50:=Tryz.isAgg370,
 z50:=Tryz.sizeOf370,
 v50:=Tryz.zeroValue370,
 t53:=Tryz.underlying373,
 a53:=Tryz.isAgg373,
 z53:=Tryz.sizeOf373,
 v53:=Tryz.zeroValue373,
 t55:=Tryz.underlying169,
 a55:=Tryz.isAgg169,
 z55:=Tryz.sizeOf169,
 v55:=Tryz.zeroValue169,
 t66:=Tryz.underlying395,
 a66:=Tryz.isAgg395,
 z66:=Tryz.sizeOf395,
 v66:=Tryz.zeroValue395,
 t70:=Tryz.underlying399,
 a70:=Tryz.isAgg399,
 z70:=Tryz.sizeOf399,
 v70:=Tryz.zeroValue399,
 t76:=Tryz.underlying410,
 a76:=Tryz.isAgg410,
 z76:=Tryz.sizeOf410,
 v76:=Tryz.zeroValue410,
 t77:=Tryz.underlying411,
 a77:=Tryz.isAgg411,
 z77:=Tryz.sizeOf411,
 v77:=Tryz.zeroValue411}
def Tryz.NH:Go.Shelf.Ren:=⟨λ|189=>176|125=>226|257=>255|128=>282|129=>283|294=>295|295=>296|296=>297|297=>298|298=>299|299=>300|216=>301|300=>302|301=>303|328=>321|329=>311|330=>312|331=>322|332=>323|215=>227|343=>338|n=>n,λ|28=>27|3=>3|46=>329|0=>0|51=>373|53=>169|4=>4|183=>366|182=>365|131=>370|5=>5|9=>9|218=>395|222=>399|228=>410|229=>411|n=>n,λ|n=>n⟩
theorem Tryz.NI:Go.Proofs.Lays.n189 Tryz.prog Tryz.NH:={
 mixed:=Ψ,
 f125:=Tryz.func226.F (congrArg σ Ψ),
 f128:=Tryz.func282.F (congrArg σ Ψ),
 f129:=Tryz.func283.F (congrArg σ Ψ),
 f189:=Tryz.func176.F (congrArg σ Ψ),
 f215:=Tryz.func227.F (congrArg σ Ψ),
 f216:=Tryz.func301.F (congrArg σ Ψ),
 f257:=Tryz.func255.F (congrArg σ Ψ),
 f294:=Tryz.func295.F (congrArg σ Ψ),
 f295:=Tryz.func296.F (congrArg σ Ψ),
 f296:=Tryz.func297.F (congrArg σ Ψ),
 f297:=Tryz.func298.F (congrArg σ Ψ),
 f298:=Tryz.func299.F (congrArg σ Ψ),
 f299:=Tryz.func300.F (congrArg σ Ψ),
 f300:=Tryz.func302.F (congrArg σ Ψ),
 f301:=Tryz.func303.F (congrArg σ Ψ),
 f328:=Tryz.func321.F (congrArg σ Ψ),
 f329:=Tryz.func311.F (congrArg σ Ψ),
 f330:=Tryz.func312.F (congrArg σ Ψ),
 f331:=Tryz.func322.F (congrArg σ Ψ),
 f332:=Tryz.func323.F (congrArg σ Ψ),
 f343:=Tryz.func338.F (congrArg σ Ψ),
 t0:=Tryz.underlying0,
 a0:=Tryz.isAgg0,
 z0:=Tryz.sizeOf0,
 v0:=Tryz.zeroValue0,
 t3:=Tryz.underlying3,
 a3:=Tryz.isAgg3,
 z3:=Tryz.sizeOf3,
 v3:=Tryz.zeroValue3,
 t4:=Tryz.underlying4,
 a4:=Tryz.isAgg4,
 z4:=Tryz.sizeOf4,
 v4:=Tryz.zeroValue4,
 t5:=Tryz.underlying5,
 a5:=Tryz.isAgg5,
 z5:=Tryz.sizeOf5,
 v5:=Tryz.zeroValue5,
 t9:=Tryz.underlying9,
 a9:=Tryz.isAgg9,
 z9:=Tryz.sizeOf9,
 v9:=Tryz.zeroValue9,
 t28:=Tryz.underlying27,
 a28:=Tryz.isAgg27,
 z28:=Tryz.sizeOf27,
 v28:=Tryz.zeroValue27,
 t46:=Tryz.underlying329,
 a46:=Tryz.isAgg329,
 z46:=Tryz.sizeOf329,
 v46:=Tryz.zeroValue329,
 t51:=Tryz.underlying373,
 a51:=Tryz.isAgg373,
 z51:=Tryz.sizeOf373,
 v51:=Tryz.zeroValue373,
 t53:=Tryz.underlying169,
 a53:=Tryz.isAgg169,
 z53:=Tryz.sizeOf169,
 v53:=Tryz.zeroValue169,
 t131:=Tryz.underlying370,
 a131:=Tryz.isAgg370,
 z131:=Tryz.sizeOf370,
 v131:=Tryz.zeroValue370,
 t182:=Tryz.underlying365,
 a182:=Tryz.isAgg365,
 z182:=Tryz.sizeOf365,
 v182:=Tryz.zeroValue365,
 t183:=Tryz.underlying366,
 a183:=Tryz.isAgg366,
 z183:=Tryz.sizeOf366,
 v183:=Tryz.zeroValue366,
 t218:=Tryz.underlying395,
 a218:=Tryz.isAgg395,
 z218:=Tryz.sizeOf395,
 v218:=Tryz.zeroValue395,
 t222:=Tryz.underlying399,
 a222:=Tryz.isAgg399,
 z222:=Tryz.sizeOf399,
 v222:=Tryz.zeroValue399,
 t228:=Tryz.underlying410,
 a228:=Tryz.isAgg410,
 z228:=Tryz.sizeOf410,
 v228:=Tryz.zeroValue410,
 t229:=Tryz.underlying411,
 a229:=Tryz.isAgg411,
 z229:=Tryz.sizeOf411,
 v229:=Tryz.zeroValue411}
theorem Tryz.NJ(w:x3):(isAgg (Tryz.yj.t 24)).run Tryz.prog w= .ok rs w:=Tryz.isAgg314 w
theorem Tryz.NK(w:x3):(Go.sizeOf (Tryz.yj.t 24)).run Tryz.prog w= .ok 6 w:=Tryz.sizeOf314 w
theorem Tryz.NL:Tryz.prog.funcs[231]?=σ Tryz.f231:=Tryz.func231
theorem Tryz.NM(w:x3):(isAgg (Tryz.yk.t 24)).run Tryz.prog w= .ok rs w:=Tryz.isAgg242 w
theorem Tryz.NN(w:x3):(Go.sizeOf (Tryz.yk.t 24)).run Tryz.prog w= .ok 2 w:=Tryz.sizeOf242 w
theorem Tryz.NO:Tryz.prog.funcs[139]?=σ Tryz.f139:=Tryz.func139
end Go.Proofs
namespace Go.Proofs.YtkcigodpbndobaaGreatDoor
open Go Go.Vc Go.RowKit Go.Proofs Go.Proofs.Tryz
set_option maxRecDepth 100000
def u1{α:Type}(f:α->Int)(L:List α)(a i:Nat):Prop:=∀(p q:Nat)(x y:α),a<=p->p<q->q<i->L[p]?=σ x->L[q]?=σ y->f x<=f y
def rg(L:List (Λ)):Prop:=∀a∈L,nR a
theorem rg.perm{L M:List (Λ)}(h:rg L)(a:M.Perm L):rg M:=λe hk=>h e (a.mem_iff.1 hk)
theorem NP{g:Nat}{v:x1}{L:List (Λ)}{i:Nat}(e:y=(i:Int))(h:pQ w g v L)(hi:L[i]?=σ a):
  ab x7 (j0 k8 v (Δ y)) w (λp=>ab x7 (u4 cI p) w K)=K (eo a):=by
 have f:a.length=6:=by have:=h.2 a (x5 hi);simpa using this
 rw[c5 e k8.u cI.i h (x4.1 hi).1,pP f (h.range hi)]
abbrev DP:x1:=.func (.func BP) #[] #[]
theorem u2{P:X2}{t:r8}{k:o4}{s:ByteArray}{i:Nat}(a:P.underlying t=σ .string)(hi:i<s.size):
  ab P (Instr.index t (.string s) (.int k (i:Int))) w K=K (.int .u8 (s[i].toNat:Int)):=ab.of λI _=>by
 simp[Instr.index,asIntOf,run_underlying a,hi]
def ey(n:Nat):Nat:=if n=0 then 0 else Nat.log2 n+1
theorem DQ(h:n<256):ey n<=8:=by
 unfold ey;by_cases a:n=0
 .rw[m5 a];omega
 .rw[m6 a];have e:Nat.log2 n<8:=(Nat.log2_lt a).2 Ω;omega
theorem NQ{g:Nat}{v:x1}{L:List (Λ)}(h:pQ w g v L)(j:rg L)(s:L.length<65536):
  ak x7 K7 [v,DP] w λ_ I=>af (λr=>lc v r) w I/\∃M,M.Perm L/\u1 ih M 0 M.length/\pQ I g v M:=by
 refine(DO NF NJ NK (λa _=>DJ) (λa e=>by simp[e.1]) (λa b e f=>(DK a b (by rw[e.1,f.1]) e.2 f.2).1) (Enters.of x7 NL rfl Ψ) h j s λH a b _ e f=>NE e f).X ?_;rintro _ I _ ⟨z,M,A,B,hm⟩;exact⟨z,M,A,λp q x y _ C _ E G=>B p q x y C E G,hm⟩
end Go.Proofs.YtkcigodpbndobaaGreatDoor
namespace Go.Vc
open Go Go.RowKit
set_option maxRecDepth 100000
theorem Keys.str{P:X2}{k:r8}(hk:P.underlying k=σ .string):Keys P k λv=>∃s,v= .string s:=by
 have key:∀s,MapKept.IsKey .string (.string s):=λs=>trivial;refine⟨λw f v ⟨n,h⟩=>?_,λw x ⟨n,h⟩ p q=>?_,λw v ⟨n,h⟩=>?_⟩
 .subst h;exact MapKept.run_checkKey hk (key n) f 9999
 .subst h;rcases MapKept.findNow_spec (key n) p 0 (λe he=>by obtain⟨m,h⟩:=q e he;rw[h];exact key m)with⟨h1,a⟩|⟨j,e,h1,a,r⟩
  .exact .inl ⟨MapKept.run_findKey hk h1,a⟩
  .exact .inr ⟨j,e,by have:=MapKept.run_findKey (P:=P) (w:=w) hk h1;simpa using this,a,r⟩
 .subst h;exact MapKept.run_keyThatStays (d:=.string) (key n)
section
variable{P:X2}{w:x3}
theorem kG{s:Sem x1}{v:x1}(h:∀K:x1->Prop,ab P s w K=K v):cC P s v w:=by
 have h1:ab P s w (λu=>u=v):=(h λu=>u=v).mpr rfl;obtain⟨u,a,rfl⟩:=h1;exact a
variable{k e:r8}{G:x1->Prop}
end
end Go.Vc
namespace Go.Proofs.YtkcigodpbndobaaGreatDoor
open Go Go.Vc Go.RowKit Go.Proofs Go.Proofs.Tryz
set_option maxRecDepth 100000
def ii:Nat->Nat->Λ
 |0,_=>[]
 |n+1,u=>ii n (u / 10)++[48+((u % 10:Nat):Int)]
theorem sJ:∀(n u:Nat),(ii n u).length=n
 |0,_=>rfl
 |n+1,u=>by rw[ii,p9,sJ n];rfl
theorem NR(n u:Nat):ii (n+2) u=ii n (u / 100)++[48+((u / 10 % 10:Nat):Int),48+((u % 10:Nat):Int)]:=by
 rw[ii,ii,Y7];rw[show u / 10 / 10=u / 100 by omega];rfl
theorem DR:∀(n u:Nat),10 ^ n<=u->u<10 ^ (n+1)->ii (n+1) u=gf u
 |0,u,h1,a=>by
  rw[pG,m5 (by simpa using a)];simp[ii]
 |n+1,u,h1,a=>by
  have e:(10:Nat) ^ (n+1)=10*10 ^ n:=by rw[Nat.pow_succ,Nat.mul_comm]
  have f:(10:Nat) ^ (n+1+1)=10*10 ^ (n+1):=by rw[Nat.pow_succ,Nat.mul_comm]
  have h:1<=10 ^ n:=Nat.one_le_iff_ne_zero.2 Ξ;rw[pG,m6 Ω,ii,DR n (u / 10) Ω Ω]
def gK(a C:Λ)(e u:Nat):Prop:=e<=a.length/\C.length=a.length/\∃t,C.drop e=t/\a=ii e u++t
theorem gK.two{e:Λ}{a u:Nat}(h:gK e C (a+2) u):gK e ((C.set (a+1) (48+((u % 10:Nat):Int))).set a (48+((u / 10 % 10:Nat):Int))) a (u / 100):=by
 obtain⟨h1,f,t,j,p⟩:=h;refine⟨Ω,by simp[f],_,rfl,?_⟩;rw[p,NR,Y7];congr 1;rw[List.drop_set,m6 Ω,List.drop_set,m6 Ω,<-j];have q:a<C.length:=Ω
 have r:a+1<C.length:=Ω
 rw[X0 q,X0 r,U1,Nat.add_sub_cancel_left];rfl
theorem gK.one{u:Nat}(h:gK a C 1 u):C.set 0 (48+((u % 10:Nat):Int))=a:=by
 obtain⟨h1,e,t,f,j⟩:=h;rw[j,ii,ii,List.nil_append,<-f];cases C with
 |nil=>simp at e;omega
 |cons c C=>simp
theorem gK.zero{u:Nat}(h:gK a C 0 u):C=a:=by
 obtain⟨h1,j,t,e,f⟩:=h;rw[f,ii,List.nil_append,<-e,List.drop_zero]
def ll:ByteArray:=⟨#[48,48,48,49,48,50,48,51,48,52,48,53,48,54,48,55,48,56,48,57,49,48,49,49,49,50,49,51,49,52,49,53,49,54,49,55,49,56,49,57,50,48,50,49,50,50,50,51,50,52,50,53,50,54,50,55,50,56,50,57,51,48,51,49,51,50,51,51,51,52,51,53,51,54,51,55,51,56,51,57,52,48,52,49,52,50,52,51,52,52,52,53,52,54,52,55,52,56,52,57,53,48,53,49,53,50,53,51,53,52,53,53,53,54,53,55,53,56,53,57,54,48,54,49,54,50,54,51,54,52,54,53,54,54,54,55,54,56,54,57,55,48,55,49,55,50,55,51,55,52,55,53,55,54,55,55,55,56,55,57,56,48,56,49,56,50,56,51,56,52,56,53,56,54,56,55,56,56,56,57,57,48,57,49,57,50,57,51,57,52,57,53,57,54,57,55,57,56,57,57]⟩
theorem DS:ll.size=200:=by decide+kernel
theorem NS:∀q:Fin 100,ll.data.toList[2*q.val]?=σ (UInt8.ofNat (48+q.val / 10))/\ll.data.toList[2*q.val+1]?=σ (UInt8.ofNat (48+q.val % 10)):=by decide+kernel
theorem yl{q:Nat}(e:q<100):(∀h,(ll[2*q]'h).toNat=48+q / 10)/\∀h,(ll[2*q+1]'h).toNat=48+q % 10:=by
 obtain⟨h1,f⟩:=NS ⟨q,e⟩;refine⟨λh=>?_,λh=>?_⟩
 .have a:=(x4.1 h1).2;have:ll[2*q]=UInt8.ofNat (48+q / 10):=a;rw[this,UInt8.toNat_ofNat'];omega
 .have a:=(x4.1 f).2;have:ll[2*q+1]=UInt8.ofNat (48+q % 10):=a;rw[this,UInt8.toNat_ofNat'];omega
theorem wrap_u32{x:Int}(h1:0<=x)(a:x<4294967296):o4.u32.wrap x=x:=by
 simp[o4.wrap,o4.bits,o4.signed];omega
def ln(w:x3)(g o:Nat)(a C e:Λ):Prop:=ag w g ow (ints .u8 (a++C++e))/\a.length=o
theorem ym{g o c i:Nat}{a:o4}(e:y=(i:Int))(hi:i<n):
  ab x7 (j0 cS (.slice (σ ⟨g,o,ν⟩) n c) (.int a y)) w K=K (.pointer (σ ⟨g,o+i,ν⟩)):=by
 subst e;rw[fs cS.u cP.i hi (λ_=>rfl),V1]
theorem yn{g o i:Nat}{x:Int}{f:Λ}{K:Unit->x3->Prop}(h:ln w g o a C f)(hi:i<C.length)(p:∀I,af (λr=>r=g) w I->ln I g o a (C.set i x) f->K () I):aD x7 (o6 cP (.pointer (σ ⟨g,o+i,ν⟩)) (.int .u8 x)) w K:=by
 obtain⟨h,rfl⟩:=h;refine bw (g:=g) (o:=a.length+i) cP.i rfl rfl h Θ λI q U j=>p I q ⟨?_,rfl⟩;have e:(ints .u8 (a++C++f)).set (a.length+i) (.int .u8 x)=ints .u8 (a++C.set i x++f):=by
  unfold ints;rw[<-V5,Y7,S7 _ _ Ω,Nat.add_sub_cancel_left,List.set_append_left _ _ hi,Y7]
 rw[e]at j;exact j
theorem pR{g o c a q i:Nat}{x f t:Int}{h j:Λ}{K:x3->Prop}(y:ln w g o h C j)(Y:C.length=n)(Z:n<=1000)(ac:a<=n)(h1:(a:Int)-x=((i+1:Nat):Int))(E:(a:Int)-f=(i:Int))(F:i+1<n)(G:t=((2*q:Nat):Int))(p:q<100)(H:∀I,af (λr=>r=g) w I->ln I g o h ((C.set (i+1) (48+((q % 10:Nat):Int))).set i (48+((q / 10:Nat):Int))) j->K I):
  eu w λV=>
  ab x7 (aQ .sub ae sp rs (Δ (a:Int)) (Δ x)) V λJ=>
  ab x7 (aQ .sub ae sp rs (Δ (a:Int)) (Δ f)) V λz=>
  ab x7 (aQ .add qM sp rs (.int .u32 t) (.int .u32 1)) V λL=>
  ab x7 (Instr.index da (.string ll) L) V λt50=>
  ab x7 (Instr.index da (.string ll) (.int .u32 t)) V λA=>
  ab x7 (j0 cS (.slice (σ ⟨g,o,ν⟩) n c) J) V λt53=>
  aD x7 (o6 cP t53 t50) V λ(_:Unit)e=>
   (Ext V e\/cC x7 (Instr.index da (.string ll) (.int .u32 t)) A e/\cC x7 (aQ .sub ae sp rs (Δ (a:Int)) (Δ f)) z e/\True)/\
  ab x7 (j0 cS (.slice (σ ⟨g,o,ν⟩) n c) z) e λM=>
   aD x7 (o6 cP M A) e λ(_:Unit)s=>K s:=by
 subst G;intro V B _ _;have N:af (λr=>r=g) w V:=B.aa _;have O:ln V g o h C j:=⟨y.1.W B,y.2⟩;rw[dN,lm Ω Ω,dN,lm Ω Ω,aL,wrap_u32 Ω Ω];rw[show((2*q:Nat):Int)+1=((2*q+1:Nat):Int) by omega];have U:=DS;rw[u2 da.u (by rw[U];omega),u2 da.u (by rw[U];omega)];rw[(yl p).1,(yl p).2,ym h1 F];refine yn O Ω λe P Q=>⟨.inr ⟨kG λK=>?_,kG λK=>?_,trivial⟩,?_⟩
 .rw[u2 da.u (by rw[U];omega),(yl p).1]
 .rw[dN,lm Ω Ω]
 .rw[ym E Ω];refine yn Q Θ λs R S=>H s ((N.F P).F R) ?_;have W:48+((q % 10:Nat):Int)=((48+q % 10:Nat):Int):=Ω
  have X:48+((q / 10:Nat):Int)=((48+q / 10:Nat):Int):=Ω
  rw[W,X];exact S
theorem gK.pair{e:Λ}{a u q:Nat}(h:gK e C (a+2) u)(f:q=u % 100):gK e ((C.set (a+1) (48+((q % 10:Nat):Int))).set a (48+((q / 10:Nat):Int))) a (u / 100):=by
 have:=h.two;rw[show u % 10=q % 10 by omega,show u / 10 % 10=q / 10 by omega]at this;exact this
theorem pS{t:r8}{k:o4}{a b:Nat}(e:b≠0):ab x7 (aQ .rem t cx cy (.int k (a:Int)) (.int k (b:Int))) w K=K (.int k ((a % b:Nat):Int)):=by
 rw[sb Ω,Int.tmod_eq_emod_of_nonneg Ω,Int.natCast_emod]
theorem u32_quo{t:r8}{a b:Nat}(e:b≠0)(f:a<4294967296):ab x7 (aQ .quo t cx cy (.int .u32 (a:Int)) (.int .u32 (b:Int))) w K=K (.int .u32 ((a / b:Nat):Int)):=by
 have:=Nat.div_le_self a b;rw[sa Ω,Int.tdiv_eq_ediv_of_nonneg Ω,<-Int.natCast_ediv];generalize a / b=m at this ⊢;rw[wrap_u32 Ω Ω]
theorem u64_quo{t:r8}{a b:Nat}(e:b≠0)(f:a<18446744073709551616):ab x7 (aQ .quo t cx cy (.int .u64 (a:Int)) (.int .u64 (b:Int))) w K=K (.int .u64 ((a / b:Nat):Int)):=by
 have:=Nat.div_le_self a b;rw[sa Ω,Int.tdiv_eq_ediv_of_nonneg Ω,<-Int.natCast_ediv];generalize a / b=m at this ⊢;rw[lw Ω Ω]
theorem pT{t:r8}{a b:Nat}(f:a*b<4294967296):ab x7 (aQ .mul t cx cy (.int .u32 (a:Int)) (.int .u32 (b:Int))) w K=K (.int .u32 ((a*b:Nat):Int)):=by
 have e:(a:Int)*(b:Int)=((a*b:Nat):Int):=Ξ
 rw[fO,e];generalize a*b=m at f ⊢;rw[wrap_u32 Ω Ω]
theorem gK.start{u:Nat}(h:C.length=N):gK (ii N u) C N u:=⟨by rw[sJ];omega,by rw[sJ,h],[],by rw[List.drop_eq_nil_iff];omega,Ξ⟩
theorem NT{g o c u:Nat}{E G:Λ}(ai:ln w g o E C G)(al:C.length=N)(aA:N<=19)(am:u<10 ^ N):
  ak x7 Lm [.slice (σ ⟨g,o,ν⟩) N c,.int .u64 (u:Int)] w λv I=>v= .tuple #[]/\af (λr=>r=g) w I/\ln I g o E (ii N u) G:=by
 have s:=sJ N u;refine ay func327 ?_;rw[iu cS.u];refine⟨λan S J=>∃eT e:Nat,an= .int .u64 (eT:Int)/\S=Δ (e:Int)/\eT<10 ^ e/\e<=N/\af (λr=>r=g) w J/\∃H,ln J g o E H G/\gK (ii N u) H e eT,
  λ_ S _=>(b0 S).toNat,⟨u,N,rfl,rfl,am,o5 _,af.refl _ _,C,ai,gK.start al⟩,?_⟩
 rintro _ _ J ⟨eT,e,rfl,rfl,K,x,U,H,W,P⟩;have ad:H.length=N:=by rw[P.2.1,s]
 have aB:(10:Nat) ^ e<=10 ^ 19:=T3 Ω Ω;have ao:eT<18446744073709551616:=Ω
 have aC:(8:Int)=((8:Nat):Int):=rfl;rw[cJ,aj];refine⟨λap=>?_,λap=>?_⟩
 .obtain⟨m,rfl⟩:∃m,e=m+8:=⟨e-8,Ω⟩;have aD:eT % 100000000<100000000:=Nat.mod_lt _ Ω;rw[show Y9 .u64 100000000=Y9 .u64 ((100000000:Nat):Int)from rfl,pS Ω,e9 fL.u qM.u,wrap_u32 Ω Ω,u64_quo Ω ao];rw[show Y9 .u32 10000=Y9 .u32 ((10000:Nat):Int)from rfl,show Y9 .u32 100=Y9 .u32 ((100:Nat):Int)from rfl,show Y9 .u32 2=Y9 .u32 ((2:Nat):Int)from rfl];rw[u32_quo Ω Ω,pS Ω,u32_quo Ω Ω,pT Ω,pS Ω,pT Ω,u32_quo Ω Ω,pT Ω,pS Ω,pT Ω];refine pR (i:=m+6) (q:=eT % 100000000 % 10000 % 100) W ad Ω x Ω Ω Ω Ω Ω λV z A=>?_;have h:=P.pair (q:=eT % 100000000 % 10000 % 100) Ω;have L:=h.2.1.F s;refine pR (i:=m+4) (q:=eT % 100000000 % 10000 / 100) A L Ω x Ω Ω Ω Ω Ω λB p j=>?_;have f:=gK.pair (q:=eT % 100000000 % 10000 / 100) h Ω;have ae:=f.2.1.F s;refine pR (i:=m+2) (q:=eT % 100000000 / 10000 % 100) j ae Ω x Ω Ω Ω Ω Ω λaq X Q=>?_;have ag:=gK.pair (q:=eT % 100000000 / 10000 % 100) f Ω;have au:=ag.2.1.F s;refine pR (i:=m) (q:=eT % 100000000 / 10000 / 100) Q au Ω x Ω Ω Ω Ω Ω λaE av aw=>?_;have ah:=gK.pair (q:=eT % 100000000 / 10000 / 100) ag Ω;rw[dN,lm Ω Ω];refine⟨⟨eT / 100000000,m,rfl,by congr 1;omega,?_,Ω,(((U.F z).F p).F X).F av,_,aw,?_⟩,by simp only[b0];omega⟩
  .rw[Nat.pow_add]at K;exact Nat.div_lt_of_lt_mul (by rw[Nat.mul_comm];exact K)
  .rw[show eT / 100 / 100 / 100 / 100=eT / 100000000 by omega]at ah;exact ah
 .have aF:e<8:=Ω
  have aG:(10:Nat) ^ e<=10 ^ 7:=T3 Ω Ω;rw[e9 fL.u qM.u,wrap_u32 Ω Ω];refine jb (λa b V=>∃e2 m:Nat,a=Δ (m:Int)/\b= .int .u32 (e2:Int)/\e2<10 ^ m/\m<4/\m<=N/\af (λr=>r=g) w V/\∃R,ln V g o E R G/\gK (ii N u) R m e2) ?_ ?_
  rotate_left
  .intro az M;rw[cJ,aj];refine⟨λY=>?_,λY=>M _ _ _ ⟨eT,e,rfl,rfl,K,Ω,x,U,H,W,P⟩⟩;obtain⟨m,rfl⟩:∃m,e=m+4:=⟨e-4,Ω⟩;rw[show Y9 .u32 10000=Y9 .u32 ((10000:Nat):Int)from rfl,show Y9 .u32 100=Y9 .u32 ((100:Nat):Int)from rfl,show Y9 .u32 2=Y9 .u32 ((2:Nat):Int)from rfl];rw[pS Ω,u32_quo Ω Ω,u32_quo Ω Ω,pT Ω,pS Ω,pT Ω];refine pR (i:=m+2) (q:=eT % 10000 % 100) W ad Ω x Ω Ω Ω Ω Ω λV z A=>?_;have h:=P.pair (q:=eT % 10000 % 100) Ω;have L:=h.2.1.F s;refine pR (i:=m) (q:=eT % 10000 / 100) A L Ω x Ω Ω Ω Ω Ω λB p j=>?_;have f:=gK.pair (q:=eT % 10000 / 100) h Ω;rw[dN,lm Ω Ω];refine M _ _ _ ⟨eT / 10000,m,by congr 1;omega,rfl,?_,Ω,Ω,(U.F z).F p,_,j,?_⟩
   .rw[Nat.pow_add]at K;exact Nat.div_lt_of_lt_mul (by rw[Nat.mul_comm];exact K)
   .rw[show eT / 100 / 100=eT / 10000 by omega]at f;exact f
  rintro _ _ V ⟨e2,m,rfl,rfl,Z,aH,aa,z,R,A,h⟩;have L:=h.2.1.F s;have aI:(10:Nat) ^ m<=10 ^ 3:=T3 Ω Ω;refine jb (λa b B=>∃O m:Nat,a=Δ (m:Int)/\b= .int .u32 (O:Int)/\O<10 ^ m/\m<2/\m<=N/\af (λr=>r=g) w B/\∃ab,ln B g o E ab G/\gK (ii N u) ab m O) ?_ ?_
  rotate_left
  .intro az M;rw[cJ,aj];refine⟨λY=>?_,λY=>M _ _ _ ⟨e2,m,rfl,rfl,Z,Ω,aa,z,R,A,h⟩⟩;obtain⟨m,rfl⟩:∃cn,m=cn+2:=⟨m-2,Ω⟩;rw[show Y9 .u32 100=Y9 .u32 ((100:Nat):Int)from rfl,show Y9 .u32 2=Y9 .u32 ((2:Nat):Int)from rfl];rw[pS Ω,pT Ω,u32_quo Ω Ω];refine pR (i:=m) (q:=e2 % 100) A L Ω aa Ω Ω Ω Ω Ω λB p j=>?_;have f:=h.pair rfl;rw[dN,lm Ω Ω];refine M _ _ _ ⟨e2 / 100,m,by congr 1;omega,rfl,?_,Ω,Ω,z.F p,_,j,f⟩;rw[Nat.pow_add]at Z;exact Nat.div_lt_of_lt_mul (by rw[Nat.mul_comm];exact Z)
  rintro _ _ B ⟨O,m,rfl,rfl,ac,aJ,aa,p,ab,j,f⟩;have ae:=f.2.1.F s;rw[bG,aj];refine⟨λax=>?_,λax=>?_⟩
  .obtain rfl:m=1:=Ω
   have ac:O<10:=by simpa using ac
   rw[aL,wrap_u32 Ω Ω,e9 qM.u cP.u,wrap_u8 Ω Ω,ym (y:=0) (i:=0) rfl Ω];refine yn j Ω λaq X Q=>?_;have:=f.one;rw[Nat.mod_eq_of_lt ac]at this;rw[this]at Q;exact⟨rfl,p.F X,Q⟩
  .obtain rfl:m=0:=Ω
   rw[f.zero]at j;exact⟨rfl,p,j⟩
def sK:Λ:=[1,10,100,1000,10000,100000,1000000,10000000,100000000,1000000000,10000000000,100000000000,1000000000000,10000000000000,100000000000000,1000000000000000,10000000000000000,100000000000000000,1000000000000000000,10000000000000000000]
def fj(w:x3):Prop:=w.rangeAt 1 0 (ints .u64 sK)
theorem fj.W(h:fj w)(a:Ext w I):fj I:=px a h
theorem NU:∀k:Nat,k<20->sK[k]?=σ (((10 ^ k:Nat)):Int):=Φ
theorem DT{s:Nat}(h:2 ^ s<=n):ey n=s+ey (n / 2 ^ s):=by
 have U:=Nat.two_pow_pos s;have h1:n / 2 ^ s≠0:=by have:=Nat.div_pos h U;omega
 have f:n≠0:=Ω
 unfold ey;rw[m6 f,m6 h1];have e:Nat.log2 n=Nat.log2 (n / 2 ^ s)+s:=by
  refine(Nat.log2_eq_iff f).2 ⟨?_,?_⟩
  .rw[Nat.pow_add];have:=V7 (2 ^ s) (Nat.log2_self_le h1);have:=Nat.div_mul_le_self n (2 ^ s);omega
  .have j:=Nat.lt_log2_self (n:=n / 2 ^ s);rw[show Nat.log2 (n / 2 ^ s)+s+1=(Nat.log2 (n / 2 ^ s)+1)+s by omega,Nat.pow_add];have:=V7 (2 ^ s) (show n / 2 ^ s+1<=2 ^ (Nat.log2 (n / 2 ^ s)+1) by omega);have p:=Nat.lt_div_mul_add U (a:=n)
   grind
 omega
def sL:ByteArray:=⟨#[0,1,2,2,3,3,3,3,4,4,4,4,4,4,4,4,5,5,5,5,5,5,5,5,5,5,5,5,5,5,5,5,6,6,6,6,6,6,6,6,6,6,6,6,6,6,6,6,6,6,6,6,6,6,6,6,6,6,6,6,6,6,6,6,7,7,7,7,7,7,7,7,7,7,7,7,7,7,7,7,7,7,7,7,7,7,7,7,7,7,7,7,7,7,7,7,7,7,7,7,7,7,7,7,7,7,7,7,7,7,7,7,7,7,7,7,7,7,7,7,7,7,7,7,7,7,7,7,8,8,8,8,8,8,8,8,8,8,8,8,8,8,8,8,8,8,8,8,8,8,8,8,8,8,8,8,8,8,8,8,8,8,8,8,8,8,8,8,8,8,8,8,8,8,8,8,8,8,8,8,8,8,8,8,8,8,8,8,8,8,8,8,8,8,8,8,8,8,8,8,8,8,8,8,8,8,8,8,8,8,8,8,8,8,8,8,8,8,8,8,8,8,8,8,8,8,8,8,8,8,8,8,8,8,8,8,8,8,8,8,8,8,8,8,8,8,8,8,8,8,8,8,8,8,8,8]⟩
theorem NV:sL.size=256:=by decide+kernel
theorem NW:∀q:Fin 256,sL.data.toList[q.val]?=σ (UInt8.ofNat (ey q.val)):=by decide+kernel
theorem NX{q:Nat}(a:q<256):∀h,(sL[q]'h).toNat=ey q:=λh=>by
 have h1:=NW ⟨q,a⟩;have e:=(x4.1 h1).2;have:sL[q]=UInt8.ofNat (ey q):=e
 grind [DQ,UInt8.toNat_ofNat']
theorem NY(E:n<18446744073709551616):ak x7 K3 [.int .u64 (n:Int)] w λv I=>v=Δ (ey n:Int)/\Ext w I:=by
 refine ay func283 ?_;have step:∀{s x m:Nat}{az:x1->x1->x3->Prop}{y c:Int},s<64->x<18446744073709551616->m+ey x=ey n->m<=64->y=(2 ^ s:Nat)->c=(s:Int)->2 ^ s<=18446744073709551615->(∀a cn:Nat,a<2 ^ s\/(a=x / 2 ^ s/\cn=m+s)->a<=x->cn+ey a=ey n->cn<=m+s->az (.int .u64 (a:Int)) (Δ (cn:Int)) w)->
   ab x7 (aQ .geq fL sp rs (.int .u64 (x:Int)) (.int .u64 y)) w λt4=>
    Split t4 (ab x7 (aQ .shr fL sp rs (.int .u64 (x:Int)) (.int .u64 c)) w λr=>ab x7 (aQ .add ae sp rs (Δ (m:Int)) (Δ c)) w λz=>az r z w) (az (.int .u64 (x:Int)) (Δ (m:Int)) w):=by
  intro s x m az y c U f hm G A B p e;subst A B;rw[cJ,aj];refine⟨λh=>?_,by grind⟩;rw[mI U,aL,lm Ω Ω];have:=DT (n:=x) (s:=s) Ω;have:=e (x / 2 ^ s) (m+s) Ω (Nat.div_le_self _ _) Ω Ω;exact this
 refine jb (λx m J=>w=J/\∃a cn:Nat,x= .int .u64 (a:Int)/\m=Δ (cn:Int)/\a<4294967296/\cn+ey a=ey n/\cn<=32) ?_ ?_
 rotate_left
 .intro az e;rw[cJ,aj];refine⟨λh=>?_,by grind⟩;rw[show Y9 .u64 32=Y9 .u64 ((32:Nat):Int)from rfl,mI Ω];have:=DT (n:=n) (s:=32) Ω;exact e _ _ _ ⟨rfl,n / 2 ^ 32,32,rfl,rfl,Ω,Ω,Ω⟩
 rintro _ _ _ ⟨rfl,x,m,rfl,rfl,f,hm,q⟩;refine jb (λx m J=>w=J/\∃a cn:Nat,x= .int .u64 (a:Int)/\m=Δ (cn:Int)/\a<65536/\cn+ey a=ey n/\cn<=48) ?_ ?_
 rotate_left
 .intro az e;refine step (s:=16) Ω Ω hm Ω Ω Ω Ω λa cn h1 p j C=>e _ _ _ ⟨rfl,a,cn,rfl,rfl,?_,j,Ω⟩;omega
 rintro _ _ _ ⟨rfl,x,m,rfl,rfl,f,hm,q⟩;refine jb (λx m J=>w=J/\∃a cn:Nat,x= .int .u64 (a:Int)/\m=Δ (cn:Int)/\a<256/\cn+ey a=ey n/\cn<=56) ?_ ?_
 rotate_left
 .intro az e;refine step (s:=8) Ω Ω hm Ω Ω Ω Ω λa cn h1 p j C=>e _ _ _ ⟨rfl,a,cn,rfl,rfl,?_,j,Ω⟩;omega
 rintro _ _ _ ⟨rfl,x,m,rfl,rfl,f,hm,q⟩;have U:=NV;have H:=DQ f;rw[e9 fL.u cP.u,wrap_u8 Ω Ω];refine(u2 (s:=sL) da.u Ω).mpr ?_;rw[NX f,e9 cP.u ae.u,lm Ω Ω,aL,lm Ω Ω]
 grind [Ext.refl]
theorem DU{t:r8}{k:o4}{a:Nat}(f:n<64):ab x7 (aQ .shr t cx cy (Δ (a:Int)) (.int k (n:Int))) w K=K (Δ ((a / 2 ^ n:Nat):Int)):=ab.of λI _=>by
 have e:(a:Int).fdiv (2 ^ min n Y6.bits)=((a / 2 ^ n:Nat):Int):=by
  grind [o4.bits]
 simp only[aQ,eqGuard,binOp,Op.shift,u7,e];rfl
theorem NZ:∀L:Fin 64,7<=L.val->2 ^ L.val<=10 ^ (L.val*78913 / 262144+1)/\10 ^ (L.val*78913 / 262144)<=10*2 ^ (L.val-1)/\1<=L.val*78913 / 262144/\L.val*78913 / 262144<19:=by decide+kernel
theorem N0{d:Nat}(r:fj w)(h1:100<=d)(B:d<9223372036854775808):ak x7 Ll [.int .u64 (d:Int)] w λv I=>Ext w I/\∃n:Nat,v=Δ ((n+1:Nat):Int)/\n<19/\10 ^ n<=d/\d<10 ^ (n+1):=by
 have C:d≠0:=Ω
 have E:ey d=Nat.log2 d+1:=by grind [ey]
 have G:2 ^ (ey d-1)<=d:=by grind [Nat.log2_self_le]
 have H:d<2 ^ ey d:=by grind [Nat.lt_log2_self]
 have x:7<=ey d:=by
  by_cases h:7<=ey d
  .exact h
  .have:2 ^ ey d<=2 ^ 6:=T3 Ω Ω;omega
 have y:ey d<64:=by
  by_cases h:ey d<64
  .exact h
  .have:2 ^ 63<=2 ^ (ey d-1):=T3 Ω Ω;omega
 obtain⟨z,j,t3,t4⟩:=NZ ⟨ey d,y⟩ x;simp only at z j t3 t4;refine ay func326 ?_;refine(NY Ω).X ?_;rintro _ J _ ⟨rfl,a⟩;generalize ey d=L at*;refine ak.X (K:=λv V=>v=Δ ((L*78913 / 262144:Nat):Int)/\Ext J V) ?_ ?_
 .refine ay func339 ?_;rw[fO,lm Ω Ω,show Y9 .u64 18=Y9 .u64 ((18:Nat):Int)from rfl,show(L:Int)*78913=((L*78913:Nat):Int) by omega,DU Ω]
  grind [Ext.refl]
 rintro _ V _ ⟨rfl,e⟩;generalize L*78913 / 262144=t at*;have A:=NU t Ω;rw[xr xo.u fL.i Ω,av Ψ (by rw[V1];exact((r.W a).W e) _ _ (mC A)),cJ];refine ak.X (K:=λv p=>v=Δ ((if 10 ^ t<=d then 1 else 0:Nat):Int)/\Ext V p) ?_ ?_
 .refine ay func340 ?_
  grind [aj,Ext.refl]
 rintro _ p _ ⟨rfl,q⟩;rw[aL];by_cases f:10 ^ t<=d
 .rw[m5 f,lm Ω Ω];exact⟨(a.F e).F q,t,by congr 1,t4,f,Ω⟩
 .rw[m6 f,lm Ω Ω];obtain⟨s,rfl⟩:∃s,t=s+1:=⟨t-1,Ω⟩;rw[Nat.pow_succ]at j;exact⟨(a.F e).F q,s,by congr 1,Ω,Ω,Ω⟩
theorem DV{t:r8}{k a:o4}{x:Int}{i:Nat}{s:ByteArray}(e:x=(i:Int))(f:y=(j:Int))(p:x7.underlying t=σ .string)(q:i<=j)(r:j<=s.size):
  ab x7 (V6 t (.string s) (σ (.int k x)) (σ (.int a y)) ν) w K=K (.string (s.extract i j)):=ab.of λI _=>by
 subst e f;have z:=uw (P:=x7) I (sl:=sp) (n:=s.size) (c:=s.size) (low:=σ (.int k (i:Int))) (high:=σ (.int a (j:Int))) (mx:=ν) (l:=i) (h:=j) (m:=s.size) ⟨k,rfl⟩ ⟨a,rfl⟩ dU q r (o5 _);simp[V6,Instr.slice,run_underlying p,z]
theorem N1:∀q:Fin 100,ll.extract (2*q.val) (2*q.val+2)=strOfNums [48+((q.val / 10:Nat):Int),48+((q.val % 10:Nat):Int)]:=by decide+kernel
def DW:ByteArray:=⟨#[48,49,50,51,52,53,54,55,56,57,97,98,99,100,101,102,103,104,105,106,107,108,109,110,111,112,113,114,115,116,117,118,119,120,121,122]⟩
theorem N2:∀q:Fin 10,DW.extract q.val (q.val+1)=strOfNums [48+(q.val:Int)]:=by decide+kernel
theorem DX(h:n<10):gf n=[48+(n:Int)]:=by rw[pG,m5 h,Nat.mod_eq_of_lt h];rfl
theorem N3(h1:10<=n)(a:n<100):gf n=[48+((n / 10:Nat):Int),48+((n % 10:Nat):Int)]:=by
 rw[pG,m6 Ω,DX Ω];rfl
theorem N4(a:n<100):ak x7 Lk [Δ (n:Int)] w λv I=>v=cb (gf n)/\Ext w I:=by
 refine ay func325 ?_;rw[aP,aj];refine⟨λh=>?_,λh=>?_⟩
 .rw[aL,lm Ω Ω];refine(DV (s:=DW) (i:=n) (j:=n+1) rfl Ω da.u Ω (by show n+1<=36;omega)).mpr ?_;rw[N2 ⟨n,Ω⟩,DX Ω];exact⟨rfl,Ext.refl _⟩
 .rw[fO,lm Ω Ω,fO,lm Ω Ω,aL,lm Ω Ω];refine(DV (s:=ll) (i:=2*n) (j:=2*n+2) Ω Ω da.u Ω (by rw[DS];omega)).mpr ?_;rw[N1 ⟨n,a⟩,N3 Ω a];exact⟨rfl,Ext.refl _⟩
theorem N5{g:Nat}{f h:Λ}(a:ln w g 1 f C h)(p:C.length<=23):aF .u8 w (.slice (σ ⟨g,1,ν⟩) C.length 23) C:=by
 obtain⟨a,q⟩:=a;refine⟨Ξ,g,1,_,23,rfl,p,by simp[maxLen],λ_=>rfl,λj v e=>?_⟩;have r:j<C.length:=by have:=(x4.1 e).1;simpa using this
 refine a.cell ?_;rw[ints,n9,n9,W8 Θ,Y5 Θ,r9,q,Nat.add_sub_cancel_left];exact e
theorem DY{g m:Nat}(a:y=((m+2:Nat):Int))(hm:m<=22):
  ab x7 (V6 ow (Γ g) (σ (Δ 1)) (σ (Δ y)) ν) w K=K (.slice (σ ⟨g,1,ν⟩) (m+1) 23):=by
 subst a;have:=ux (w:=w) (b:=g) (o:=0) (low:=σ (Δ 1)) (high:=σ (Δ ((m+2:Nat):Int))) (mx:=ν) (l:=1) (h:=m+2) (m:=24) (K:=K) ow.u cP.i ⟨_,rfl⟩ ⟨_,rfl⟩ dU Ω Ω Ω;rw[this,m6 Ω];rfl
theorem N6(q:fj w)(s:n<9223372036854775808):ak x7 Le [Δ (n:Int),Δ 10] w λv I=>v=cb (gf n)/\Ext w I:=by
 refine ay func307 ?_;rw[bi];refine(aj).mpr ⟨λ_=>?_,λh=>m7 rfl h⟩;refine aV (λv J=>w=J/\v= .bool (decide (n<100))) ?_ ?_
 rotate_left
 .intro az a;rw[nA,aj];refine⟨λ_=>?_,λh=>Ω⟩;rw[aP];exact a _ _ ⟨rfl,by congr 1;rw[U5,rc,rc];omega⟩
 rintro _ _ ⟨rfl,rfl⟩;rw[aj];refine⟨λh=>?_,λh=>?_⟩
 .exact (N4 h).X λ_ _ _ h=>h
 refine bu ow.i λg J E f x=>?_;rw[e9 ao.u fL.u,lw Ω Ω];refine aV (λv V=>J=V/\v= .int .u64 (n:Int)) ?_ ?_
 rotate_left
 .intro az a;rw[aP,aj];exact⟨λh=>Ω,λ_=>a _ _ ⟨rfl,rfl⟩⟩
 rintro _ _ ⟨rfl,rfl⟩;refine(N0 (q.W f) Ω s).X ?_;rintro _ V _ ⟨j,m,rfl,hm,y,p⟩;rw[aL,lm Ω Ω];rw[DY (m:=m) Ω Ω];have z:ln V g 1 [0] (u9 (m+1) 0) (u9 (22-m) 0):=by
  refine⟨?_,rfl⟩;have e:[0]++u9 (m+1) (0:Int)++u9 (22-m) 0=u9 24 0:=by
   rw[show[(0:Int)]=u9 1 0 from rfl,List.replicate_append_replicate,List.replicate_append_replicate];congr 1;omega
  rw[e];exact x.W j
 refine(NT (N:=m+1) z Ξ Ω p).X ?_;rintro _ G _ ⟨rfl,A,B⟩;refine b6 Ω ?_;rw[aL,lm Ω Ω];rw[DY (m:=m) Ω Ω];have C:=sJ (m+1) n;have U:=N5 B Ω;rw[C]at U;rw[xE cS.u cP.u da.u U,DR m n y p];refine⟨rfl,(f.F j).then A λr H he=>?_⟩;have he:r=g:=he;omega
theorem N7(a:fj w)(e:n<9223372036854775808):ak x7 xf [Δ (n:Int)] w λv I=>v=cb (gf n)/\Ext w I:=by
 refine ay func207 ?_;refine ak.X (K:=λv I=>v=cb (gf n)/\Ext w I) ?_ (λ_ _ _ h=>h);refine ay func268 ?_;exact(N6 a e).X λ_ _ _ h=>h
theorem fj.aa(h:fj w)(a:af S w I)(e:¬S 1):fj I:=gW a e h
def ds(w:x3)(g gs:Nat)(A:ah)(B:ah)(a:Bool)(s:Option aH):Prop:=match s with
 |some s=>en w g gs A B s a
 |none=>fi w g gs A B
theorem gk.of{g:Nat}{A:ah}{B:ah}{a:Bool}{s:Option aH}(h:gk w g gs A B a s I):af (bI g gs A) w I/\ds I g gs A B a s:=h
theorem gk.mk{g:Nat}{A:ah}{B:ah}{a:Bool}{s:Option aH}(h:af (bI g gs A) w I)(e:ds I g gs A B a s):gk w g gs A B a s I:=⟨h,e⟩
theorem ds.aa{g:Nat}{A:ah}{B:ah}{a:Bool}{s:Option aH}(h:ds w g gs A B a s)(e:af S w I)(f:∀r,bI g gs A r->¬S r)(j:∀r,cU g gs A B r->¬S r):ds I g gs A B a s:=by
 cases s with
 |none=>exact fi.aa h e f j
 |some s=>exact en.aa h e f j
theorem ds.W{g:Nat}{A:ah}{B:ah}{a:Bool}{s:Option aH}(h:ds w g gs A B a s)(e:Ext w I):ds I g gs A B a s:=h.aa (e.aa λ_=>False) (λ_ _ h=>h) λ_ _ h=>h
theorem ds.side{g:Nat}{A:ah}{B:ah}{a:Bool}{s:Option aH}(h:ds w g gs A B a s):mP w g gs A B:=by
 cases s with
 |none=>exact h.1
 |some s=>exact h.1
def bc(lo hi:Int)(s:Option aH):Option (Int×aH):=s.bind (bh lo hi)
theorem nS{g:Nat}{A:ah}{B:ah}{s:Option aH}{a:Bool}(h:ds w g gs A B a s):ak x7 pp [Γ g,Δ lo,Δ hi] w λv I=>gk w g gs A B a ((bc lo hi s).map (·.2)) I/\∃n at_:Int,v= .tuple #[Δ n,Δ at_]/\(∀q,bc lo hi s=σ q->n=q.1)/\(bc lo hi s=ν->n=0):=by
 cases s with
 |none=>
  refine(MX h).X ?_;rintro _ J _ ⟨e,rfl⟩;exact⟨⟨e.aa _,fi.W h e⟩,0,0,rfl,λq h=>(by cases h),λ_=>rfl⟩
 |some s=>exact x0 h
theorem rh{g:Nat}{A:ah}{B:ah}{s:Option aH}{a:Bool}(h:ds w g gs A B a s):ak x7 mw [Γ g] w λv I=>v= .bool s.isSome/\Ext w I:=by
 cases s with
 |none=>exact pM h
 |some s=>exact q7 h
theorem N8{g:Nat}{A:ah}{B:ah}{s:Option aH}{a:Bool}(h:ds w g gs A B a s)(he:e≠0):ak x7 pq [Γ g,Δ e,Δ at_] w λ_ I=>gk w g gs A B a ν I:=by
 cases s with
 |none=>
  refine(MV h).X ?_;rintro _ J _ f;exact⟨f.aa _,fi.W h f⟩
 |some s=>
  refine(uP h he).X ?_;rintro _ J _ ⟨j,p⟩;exact⟨j.X λr _ h=>.inl h,p⟩
theorem sM{g:Nat}{A:ah}{B:ah}{s:Option aH}{a b:Bool}(h:ds w g gs A B a s):ak x7 r3 [Γ g,.bool b,Δ at_] w λ_ I=>gk w g gs A B a (s.map (bg b)) I:=by
 cases s with
 |none=>
  refine(Dn h).X ?_;rintro _ J _ e;exact⟨e.aa _,fi.W h e⟩
 |some s=>
  refine(uQ h).X ?_;rintro _ J _ ⟨f,j⟩;exact⟨f.X λr _ h=>.inl h,j⟩
theorem oK{n:Int}{s:Option aH}{s':aH}(h:bc lo hi s=σ (n,s')):lo<=n/\n<=hi:=by
 cases s with
 |none=>cases h
 |some s=>exact(jh h).1
def gm(a acc:Λ)(s:Option aH):Option (Λ×aH):=s.bind (kz a acc)
theorem DZ{acc:Λ}{s:Option aH}:gm (k::a) acc s=match bc 0 (k-1) s with
  |none=>ν
  |some (v,s)=>kz a (acc++[v]) s:=by
 cases s with
 |none=>rfl
 |some s=>
  show kz (k::a) acc s=_;rw[kz];show _=match bh 0 (k-1) s with|none=>ν|some (v,s)=>kz a (acc++[v]) s
  cases bh 0 (k-1) s<;>rfl
theorem D0:∀(t:Λ),(∀x∈t,0<=x/\x<=ax)->(eS t).length<=20*t.length
 |[],_=>by simp[eS]
 |x::t,h=>by
  have j:=D0 t λy a=>h y (.tail _ a);have f:=h x (.head _);have p:=xH 19 x.toNat (by unfold ax at f;omega) Ω;have e:eS (x::t)=gf x.toNat++[32]++eS t:=by simp[eS]
  rw[e];simp only[p9,Y4,List.length_nil];omega
theorem N9{g am:Nat}{A B:ah}{s:Option aH}{U:Bool}{aj:x1->x3->Prop}(h:ds w g gs A B U s)(al:aF .i64 w sv co)(aM:∀r,li sv r->¬bI g gs A r/\r≠am)(aN:∀z∈co,1<=z/\z<=ax)(bP:co.length<=100001)(aP:fj w)(h1:cU g gs A B 1)(ap:ag w am ev [.slice ν 0 0,Δ 0])(aq:¬bI g gs A am)(av:¬B am)(aw:∀t I aO gt,t.length=co.length->(∀x∈t,0<=x/\x<=ax)->af (λr=>bI g gs A r\/r=am) w I->ag I am ev [aO,Δ 0]->an .i64 ao I gt aO t->w.heap.size<=gt->
   ds I g gs A B U ((gm co [] s).map (·.2))->(∀q,gm co [] s=σ q->t=q.1)->aj (cb (eS t)) I):
  bT (.string ⟨#[]⟩) (Δ 0) w λkey W C aR=>
   ab x7 (aQ .lss ae sp sp W (Δ (co.length:Int))) C λaS=>
   Split aS (ab x7 (j0 au sv W) C λaU=>
   ab x7 (u4 ao aU) C λaV=>
   ab x7 (aQ .sub ao sp rs aV (Δ 1)) C λaW=>
   ak x7 pp [Γ g,(Δ 0),aW] C λay G=>
   ab x7 (c7 ay 0) G λaz=>
   ab x7 (c7 ay 1) G λbQ=>
   ab x7 (u6 ev (Γ am) 0) G λaX=>
   ab x7 (u4 au aX) G λaY=>
   aD x7 (Z3 au 1 #[(0,az)]) G λaZ a1=>
   aD x7 (j4 #[au,au] au #[aY,aZ]) a1 λa2 aA=>
   ab x7 (u6 ev (Γ am) 0) aA λa6=>
   aD x7 (o6 au a6 a2) aA λ(_:Unit)a7=>
   ak x7 xf [az] a7 λa8 L=>
   ab x7 (aQ .add da sp rs a8 (.string ⟨#[32]⟩)) L λbb=>
   ab x7 (aQ .add da sp sp key bb) L λbd=>
   ab x7 (aQ .add ae sp rs W (Δ 1)) L λbe=>
   aR bd be L) (aj key C):=by
 have bR:=ap.lt;have bf:=h.side;obtain⟨bS,bU,bV,bg,bh⟩:=bf;refine bT.range co.length (λj key J=>∃t aO gt s1,key=cb (eS t)/\t.length=j/\(∀x∈t,0<=x/\x<=ax)/\af (λr=>bI g gs A r\/r=am) w J/\ag J am ev [aO,Δ 0]/\an .i64 ao J gt aO t/\w.heap.size<=gt/\
  ds J g gs A B U s1/\gm co [] s=gm (co.drop j) t s1) al.le ⟨[],_,w.heap.size,s,rfl,rfl,λx y=>(by cases y),af.refl _ _,ap,an.nil _ _ _ _,o5 _,h,rfl⟩ ?_ ?_
 rotate_left
 .rintro _ J bi ⟨t,aO,gt,s1,rfl,M,H,E,N,O,X,P,he⟩;refine b6 Ω ?_;rw[List.drop_length]at he;cases s1 with
  |none=>
   have he:=he;exact aw t J aO gt M H E N O X (by rw[he];exact P) (λq e=>by rw[he]at e;cases e)
  |some s1=>
   have he:=he;exact aw t J aO gt M H E N O X (by rw[he];exact P) (λq e=>by rw[he]at e;cases e;rfl)
 rintro j _ J bi aB ⟨t,aO,gt,s1,rfl,M,H,E,N,O,X,P,he⟩ bj;obtain⟨z,Y⟩:=aC (l:=co) aB;have bk:=aN z (x5 Y);have bW:z<=4611686018427387904:=bk.2;have bl:=jg al E λr f a n c bm bp=>by
  have:=aM r ⟨a,n,c,bm,bp⟩;exact f.elim this.1 this.2
 have ad:∀r,bI g gs A r->r<w.heap.size:=bg;refine bt Ω ?_;rw[ba au.u ao.i Ψ bl Y,dN,lm Ω Ω];refine(nS P).X ?_;rintro _ V _ ⟨bq,n,at_,rfl,aE,br⟩;obtain⟨Q,bs⟩:=bq.of;have aG:0<=n/\n<=ax:=by
  cases e:bc 0 (z-1) s1 with
  |none=>rw[br e];exact⟨Ω,by unfold ax;omega⟩
  |some q=>
   rw[aE q e];have:=oK e;exact⟨this.1,by unfold ax;omega⟩
 rw[bn,bo];have aI:=N.aa Q aq;have bu:=O.aa Q λ_ bx=>by have:=ad _ bx;omega
 rw[aK ev.p 0 aI rfl];refine dl au.u ao.i rfl λa ga bz bX K bA=>?_;refine iO au.u ao.i rfl (bu.W K) bA.ls Θ Θ λbB bC bD bY Z R=>?_;have bZ:=E.size;have b0:=Q.size;have z3:=K.size;have z4:=R.size;rw[aT ev.p rfl];have bE:=(aI.W K).aa R (λhe=>by have he:=he;omega);refine bw (g:=am) (o:=0) au.i Z.ls.cells.1 Z.ls.cells.2 bE Ξ λbF ac b1 ai=>?_;have ai:=ai;have bG:af (λr=>bI g gs A r\/r=am) w bz:=(E.F (Q.X λr _ h=>.inl h)).F (K.aa _);have bH:af (λr=>bI g gs A r\/r=am) w bD:=iP bG R λr f he=>by have he:r=gt:=he;omega
 have aJ:af (λr=>bI g gs A r\/r=am) w bF:=bH.F (ac.X λr _ h=>.inr h);have bJ:¬(λr=>bI g gs A r\/r=am) 1:=λh=>h.elim h1.1 λh=>av (h▸h1.2);obtain⟨m,rfl⟩:∃m:Nat,n=(m:Int):=⟨n.toNat,Ω⟩;unfold ax at aG;refine(N7 (aP.aa aJ bJ) Ω).X ?_;rintro _ b2 _ ⟨rfl,S⟩;have b3:=xH 19 m Ω Ω;have b4:=D0 t H;rw[show(ByteArray.mk #[32])=strOfNums [32]from rfl,xD Θ,xD Θ,aL];refine bj _ _ ⟨t++[(m:Int)],bB,bC,(bc 0 (z-1) s1).map (·.2),?_,by simp[M],λx y=>?_,aJ.F (S.aa _),ai.W S,(Z.aa ac (λ_ he=>by have he:=he;omega)).W S,Ω,?_,?_⟩
 .rw[Me,u7]
 .rcases o9.1 y with y|y
  .exact H x y
  .rw[b8.1 y];exact aG
 .refine ds.W ?_ S;have bK:=bs.W K;have bL:∀r,bI g gs A r->¬(λr=>r=gt) r:=λr f he=>by have:=ad r f;have he:r=gt:=he;omega
  have bM:∀r,cU g gs A B r->¬(λr=>r=gt) r:=λr f he=>by have:=bh r f.2;have he:r=gt:=he;omega
  have bN:∀r,bI g gs A r->¬(λr=>r=am) r:=λr f he=>by have he:r=am:=he;exact aq (he▸f)
  have bO:∀r,cU g gs A B r->¬(λr=>r=am) r:=λr f he=>by have he:r=am:=he;exact av (he▸f.2)
  exact(bK.aa R bL bM).aa ac bN bO
 .rw[he,X0 aB,show co[j]=z from(x4.1 Y).2,DZ];cases e:bc 0 (z-1) s1 with
  |none=>rfl
  |some q=>
   rw[aE q e];rfl
def dX(s:aH):Prop:=s.big=sp->s.m1<=16384
def lp(n:Int)(s:aH):aH:=bg (decide (16384<min (s.m1+n) ax)) {s with m1:=min (s.m1+n) ax}
theorem Oa(n:Int)(s:aH):dX (lp n s):=λh=>by
 have h:(s.big||decide (16384<min (s.m1+n) ax))=sp:=h;have:=of_decide_eq_false (Bool.or_eq_false_iff.1 h).2;show min (s.m1+n) ax<=16384;omega
theorem Ob{g:Nat}{A B:ah}{s:Option aH}{z:Bool}{n:Int}{K:x3->Prop}(h:ds w g gs A B z s)(P:∀t,s=σ t->0<=n/\n<=ax/\dX t)(L:∀I,af (bI g gs A) w I->ds I g gs A B z (s.map (lp n))->K I):
  ab x7 (bR (Γ g)) w λQ=>
  ab x7 (u6 cD Q 2) w λR=>
  ab x7 (u4 ao R) w λS=>
  ab x7 (aQ .add ao sp sp S (Δ n)) w λW=>
  ab x7 (j5.min_ #[ao,ao] ao #[W,(Δ 4611686018427387904)]) w λX=>
  ab x7 (bR (Γ g)) w λY=>
  ab x7 (u6 cD Y 2) w λZ=>
  aD x7 (o6 ao Z X) w λ(_:Unit)q=>
  ab x7 (bR (Γ g)) q λt77=>
  ab x7 (u6 cD t77 2) q λac=>
  ab x7 (u4 ao ac) q λad=>
  ab x7 (aQ .gtr ao sp rs ad (Δ 16384)) q λae=>
  ak x7 r3 [Γ g,ae,Δ at_] q λ_ ag=>K ag:=by
 cases s with
 |none=>
  obtain⟨U,e,big,C,E,m1,sv,l,x,y,G⟩:=id h;rw[aN cD.p 2 x rfl,aL,nC,bS,aT cD.p rfl];refine bw (g:=g) (o:=5) ao.i rfl rfl x (by simp[jj]) λJ a ai f=>?_;rw[aN cD.p 2 f rfl,bG];have M:fi J g gs A B:=⟨U.aa a,e,big,C,E,_,sv,l,f,y,aq.aa G a λr _ h H=>uN h U.2.1 H⟩;refine(Dn M).X ?_;rintro _ V _ N;exact L _ ((a.X λr _ h=>.inl h).F (N.aa _)) (M.W N)
 |some s=>
  obtain⟨av,aj,hi⟩:=P s rfl;obtain⟨U,al,am,big,C,E,m1,sv,x,y,G⟩:=id h;rw[aN cD.p 2 x rfl,aL,nC,bS,aT cD.p rfl];refine bw (g:=g) (o:=5) ao.i rfl rfl x (by simp[jj]) λJ a ai f=>?_;have f:=f;rw[aN cD.p 2 f rfl,bG];have key:s.big=sp->min (Y6.wrap (m1+n)) 4611686018427387904=min (s.m1+n) ax:=λj=>by
   rw[y.2 j];have:=hi j;unfold ax at aj ⊢;rw[lm Ω Ω]
  have an:en J g gs A B {s with m1:=min (s.m1+n) ax} z:=⟨U.aa a,al.aa a (λhe=>U.1 he.symm) (λr ap he=>ap.1 (.inl he)),⟨by show 0<=min _ _;unfold ax;omega,by show min _ _<=_;omega,am.2.2⟩,big,C,E,_,sv,f,⟨y.1,key⟩,aq.aa G a λr _ h H=>uN h U.2.1 H⟩;refine(uQ an).X ?_;rintro _ V _ ⟨au,O⟩;refine L _ ((a.F au).X λr _ h=>.inl h) ?_;have e:bg (decide (16384<min (Y6.wrap (m1+n)) 4611686018427387904)) {s with m1:=min (s.m1+n) ax}=lp n s:=by
   cases j:s.big with
   |false=>rw[key j,<-j];rfl
   |true=>simp[lp,bg,j]
  rw[e]at O;exact O
def j8(co:Λ)(s:Option aH):Option (List (Λ×Int)×aH):=s.bind (eb co)
def mS(w:x3)(m:Nat)(acc:List (Λ×Int)):Prop:=de w m (acc.map λp=>(cb (eS p.1),Δ 1))
def lU(w:x3)(m:Nat):Prop:=∃d,de w m d/\∀p∈d,∃(k:ByteArray)(c:Int),p=(.string k,Δ c)
theorem mS.any{m:Nat}{acc:List (Λ×Int)}(h:mS w m acc):lU w m:=⟨_,h,λp a=>by
 obtain⟨q,_,rfl⟩:=o8.1 a;exact⟨_,_,rfl⟩⟩
theorem Oc{m:Nat}{k:ByteArray}(h:lU w m)(f:∀c:Int,K (Δ c)):ab x7 (Instr.lookup ir (.map (σ m)) (.string k) sp) w K:=by
 obtain⟨d,hm,q⟩:=h;have hk:=Keys.str da.u;have r:∀p∈d,∃s,p.1=x1.string s:=λp a=>by obtain⟨s,c,rfl⟩:=q p a;exact⟨s,rfl⟩
 by_cases he:∃p∈d,p.1=x1.string k
 .obtain⟨p,a,e⟩:=he;obtain⟨j,x⟩:=c8.1 a;obtain⟨s,c,rfl⟩:=q p a;have e:x1.string s=x1.string k:=e;rw[e]at x;rw[sC ir.u hk hm r ⟨k,rfl⟩ x];exact f c
 .have y:∀p∈d,p.1≠x1.string k:=λp a h=>he ⟨p,a,h⟩;rw[uW ir.u hk ⟨_,_,ae.i⟩ hm r ⟨k,rfl⟩ y];exact f 0
theorem Od{m:Nat}{k:ByteArray}{K:Unit->x3->Prop}(h:lU w m)(x:∀I,af (λr=>r=m) w I->lU I m->K () I):aD x7 (Instr.mapUpdate ir (.map (σ m)) (.string k) (Δ c)) w K:=by
 obtain⟨d,hm,e⟩:=h;have y:∀p∈d,∃s,p.1=x1.string s:=λp a=>by obtain⟨s,c,rfl⟩:=e p a;exact⟨s,rfl⟩
 refine sD ir.u (Keys.str da.u) hm y ⟨k,rfl⟩ (λj v0 I z f q=>x I q ⟨_,f,λp a=>?_⟩) (λI A f q=>x I q ⟨_,f,λp a=>?_⟩)
 .rcases T4 a with a|rfl
  .exact e p a
  .exact⟨_,_,rfl⟩
 .rcases o9.1 a with a|a
  .exact e p a
  .rw[b8.1 a];exact⟨_,_,rfl⟩
theorem D1{b:Λ}(e:∀x∈a,0<=x)(f:∀x∈b,0<=x)(h:cb (eS a)=cb (eS b)):a=b:=by
 have h:=x1.string.inj h;exact CH e f (str_inj (CI a) (CI b) h)
theorem yo{acc:List (Λ×Int)}:∀p∈acc.map λp=>(cb (eS p.1),Y9 .i64 1),∃s,p.1=x1.string s:=λp a=>by
 obtain⟨q,_,rfl⟩:=o8.1 a;exact⟨_,rfl⟩
theorem D2{m:Nat}{acc:List (Λ×Int)}(h:mS w m acc)(f:∀p∈acc,∀x∈p.1,0<=x)(r:∀x∈t,0<=x):
  ab x7 (Instr.lookup ir (.map (σ m)) (cb (eS t)) sp) w K=K (Δ (if t∈acc.map (·.1)then 1 else 0)):=by
 have hk:=Keys.str da.u;by_cases he:t∈acc.map (·.1)
 .rw[m5 he];obtain⟨p,a,rfl⟩:=o8.1 he;obtain⟨j,s⟩:=c8.1 a;rw[sC ir.u hk h yo ⟨_,rfl⟩ (by rw[x8,s];rfl)];simp
 .rw[m6 he];rw[uW ir.u hk ⟨_,_,ae.i⟩ h yo ⟨_,rfl⟩ (λp a y=>?_)]
  .simp
  .obtain⟨q,e,rfl⟩:=o8.1 a;have:=D1 (f q e) r y;exact he (o8.2 ⟨q,e,this⟩)
theorem Oe{m:Nat}{acc:List (Λ×Int)}{K:Unit->x3->Prop}(h:mS w m acc)(z:∀p∈acc,∀x∈p.1,0<=x)(A:∀x∈t,0<=x)(B:t∉acc.map (·.1))(C:∀I,af (λr=>r=m) w I->mS I m (acc++[(t,c)])->K () I):aD x7 (Instr.mapUpdate ir (.map (σ m)) (cb (eS t)) (Δ 1)) w K:=by
 refine sD ir.u (Keys.str da.u) h yo ⟨_,rfl⟩ (λj v0 I e f s=>?_) (λI _ f s=>C I s ?_)
 .rw[x8]at e;obtain⟨q,y,a⟩:=Z6.1 e;have a:=congrArg Prod.fst a;have:=D1 (z q (x5 y)) A a;exact m7 (o8.2 ⟨q,x5 y,this⟩) B
 .unfold mS;rw[n9];exact f
theorem Of{m:Nat}{acc:List (Λ×Int)}{ok:Prop}{K:Unit->x3->Prop}(e:lU w m)(z:ok->mS w m acc/\(∀p∈acc,∀x∈p.1,0<=x)/\(∀x∈t,0<=x)/\t∉acc.map (·.1))(f:∀I,af (λr=>r=m) w I->lU I m->(ok->mS I m (acc++[(t,c)]))->K () I):
  ab x7 (Instr.lookup ir (.map (σ m)) (cb (eS t)) sp) w λA=>
  ab x7 (aQ .add ae sp rs A (Δ 1)) w λB=>
  aD x7 (Instr.mapUpdate ir (.map (σ m)) (cb (eS t)) B) w K:=by
 by_cases j:ok
 .obtain⟨h1,q,s,y⟩:=z j;rw[D2 h1 q s,m6 y,aL,lm Ω Ω];exact Oe h1 q s y λI a U=>f I a U.any λ_=>U
 .refine Oc e λiv=>?_;rw[aL];exact Od e λI a U=>f I a U λh=>m7 h j
def fD{α:Type}(f:List α->aH->Option (α×aH))(n:Nat)(acc:List α)(o:Option aH):Option (List α×aH):=o.bind (dc f n acc)
theorem lU.aa{m:Nat}(h:lU w m)(a:af S w I)(e:¬S m):lU I m:=by
 obtain⟨d,h1,f⟩:=h;exact⟨d,h1.aa a e,f⟩
theorem ds.words{g:Nat}{A:ah}{B:ah}{a:Bool}{s:aH}(h:ds w g gs A B a (σ s)):s.d8.length<=100000:=by
 have h:=h;exact h.2.1.words.1
theorem D3{acc:List (Λ×Int)}{st:aH}(j:∀q,gm co [] (σ st)=σ q->t=q.1)(a:∀q,bc 0 ax ((gm co [] (σ st)).map (·.2))=σ q->c=q.1):
  (bc 0 ax ((gm co [] (σ st)).map (·.2))=ν->eR co acc st=ν)/\∀q,bc 0 ax ((gm co [] (σ st)).map (·.2))=σ q->eR co acc st=if t∈acc.map (·.1)then ν else σ ((t,c),q.2):=by
 have e:gm co [] (σ st)=kz co [] st:=rfl;rw[e]at j a ⊢;unfold eR;cases h1:kz co [] st with
 |none=>exact⟨λ_=>rfl,λq f=>(by cases f)⟩
 |some q=>
  obtain⟨t',s1⟩:=q;rw[h1]at j a;have:=j _ rfl;subst this;have p:bc 0 ax ((σ (t,s1)).map (·.2))=bh 0 ax s1:=rfl;rw[p]at a ⊢;simp only;cases r:bh 0 ax s1 with
  |none=>exact⟨λ_=>rfl,λq f=>(by cases f)⟩
  |some q=>
   obtain⟨s,s2⟩:=q;rw[r]at a;have:=a _ rfl;subst this;exact⟨λh=>(by cases h),λq f=>(by cases f;rfl)⟩
theorem Og{g:Nat}{A B:ah}{s:Option aH}{Z:Bool}{Q:x1->x3->Prop}(h:ds w g gs A B Z s)(bY:aF .i64 w sv co)(aY:∀r,li sv r->¬bI g gs A r/\r<w.heap.size)(b1:∀z∈co,1<=z/\z<=ax)(b2:co.length<=100001)(b3:fj w)(h1:cU g gs A B 1)(b4:(N:Int)<=ax)(br:∀v I l,gk w g gs A B Z ((fD (eR co) N [] s).map (·.2)) I->bH (e0 w.heap.size) bO I [v] (show List (Λ×Int)from l)->(∀q,fD (eR co) N [] s=σ q->l=q.1)->Q v I):
  aD x7 (Instr.makeMap ir ν) w λaZ y=>
 bT (.slice ν 0 0) (Δ 0) y λout i H k=>
  ct (α:=x1->x3->Prop) (λ(b5:x1)(U:x3)=>
   Split b5 (aD x7 (S5 ev rs (.tuple #[])) U λx j=>
  ab x7 (X7 #[au] ae #[sv]) j λb6=>
  bT (.string ⟨#[]⟩) (Δ 0) j λkey a1 V b7=>
   ab x7 (aQ .lss ae sp sp a1 b6) V λb9=>
   Split b9 (ab x7 (j0 au sv a1) V λca=>
   ab x7 (u4 ao ca) V λcb=>
   ab x7 (aQ .sub ao sp rs cb (Δ 1)) V λcc=>
   ak x7 pp [Γ g,(Δ 0),cc] V λbs ac=>
   ab x7 (c7 bs 0) ac λbt=>
   ab x7 (c7 bs 1) ac λdv=>
   ab x7 (u6 ev x 0) ac λcd=>
   ab x7 (u4 au cd) ac λce=>
   aD x7 (Z3 au 1 #[(0,bt)]) ac λcf J=>
   aD x7 (j4 #[au,au] au #[ce,cf]) J λcg bx=>
   ab x7 (u6 ev x 0) bx λch=>
   aD x7 (o6 au ch cg) bx λ(_:Unit)ci=>
   ak x7 xf [bt] ci λcj aE=>
   ab x7 (aQ .add da sp rs cj (.string ⟨#[32]⟩)) aE λck=>
   ab x7 (aQ .add da sp sp key ck) aE λcl=>
   ab x7 (aQ .add ae sp rs a1 (Δ 1)) aE λcm=>
   b7 cl cm aE)
    (ak x7 pp [Γ g,(Δ 0),(Δ 4611686018427387904)] V λbz aG=>
  ab x7 (c7 bz 0) aG λcn=>
  ab x7 (c7 bz 1) aG λcp=>
  ab x7 (u6 ev x 1) aG λcq=>
  aD x7 (o6 ao cq cn) aG λ(_:Unit)cr=>
  ct (α:=x3->Prop) (λ(W:x3)=>
   ab x7 (Instr.lookup ir aZ key sp) W λcu=>
   ab x7 (aQ .add ae sp rs cu (Δ 1)) W λcw=>
   aD x7 (Instr.mapUpdate ir aZ key cw) W λ(_:Unit)ai=>
   ab x7 (u4 ev x) ai λcz=>
   aD x7 (Z3 jT 1 #[(0,cz)]) ai λcA ay=>
   aD x7 (j4 #[jT,jT] jT #[out,cA]) ay λcB aI=>
   ab x7 (aQ .add ao sp rs i (Δ 1)) aI λcC=>
  k cB cC aI) λbA=>
  ct (α:=x1->x3->Prop) (λ(cD:x1)(O:x3)=>
   Split cD (ak x7 pq [Γ g,(Δ 4),cp] O λdw bB=>
    bA bB)
    (bA O)) λbD=>
  ak x7 mw [Γ g] cr λcE al=>
  Split cE (ab x7 (Instr.lookup ir aZ key sp) al λcF=>
  ab x7 (aQ .gtr ae sp rs cF (Δ 0)) al λt131=>
  bD t131 al)
   (bD (.bool sp) al)))
    (Q out U)) λbE=>
  ab x7 (aQ .lss ao sp sp i (Δ (N:Int))) H λcG=>
  Split cG (ak x7 mw [Γ g] H λcH cI=>
  bE cH cI)
   (bE (.bool sp) H):=by
 obtain⟨dx,dy,dz,cJ,aJ⟩:=h.side;have ad:∀r,bI g gs A r->r<w.heap.size:=cJ;unfold ax at b4;refine uV λC y dA a2 a6=>?_;have dC:=a2.size;have dD:=a6.lt;generalize E:fD (eR co) N [] s=bF at br;refine⟨λout a7 H=>∃(i:Nat)(acc:List (Λ×Int))(so:Option aH),a7=Δ (i:Int)/\i<=N/\af (bI g gs A) w H/\y.heap.size<=H.heap.size/\bH (e0 y.heap.size) bO H [out] acc/\ds H g gs A B Z so/\
   bF=fD (eR co) (N-i) acc so/\lU H C/\acc.length<=100001/\∀st,so=σ st->mS H C acc/\(∀p∈acc,∀x∈p.1,0<=x)/\acc.length+st.d8.length<=100000,
  λ_ a7 _=>N-(b0 a7).toNat,⟨0,[],s,rfl,X8 _,a2.aa _,o5 _,iw,h.W a2,E.symm,⟨[],a6,λp M=>(by cases M)⟩,Ξ,λst cK=>⟨a6,λp M=>(by cases M),?_⟩⟩,?_⟩
 .subst cK;have:=h.words;simpa using this
 rintro out _ H ⟨i,acc,so,rfl,dE,bJ,z9,bK,a8,aK,cL,dF,ba⟩;refine aV (λv U=>Ext H U/\((v= .bool rs/\i<N/\∃st,so=σ st)\/(v= .bool sp/\(so=ν\/i=N)))) ?_ ?_
 rotate_left
 .intro az bb;rw[aP,aj];refine⟨λcM=>?_,λdG=>bb _ _ ⟨Ext.refl _,.inr ⟨rfl,.inr Ω⟩⟩⟩;refine(rh a8).X ?_;rintro _ U _ ⟨rfl,P⟩;cases so with
  |none=>exact bb _ _ ⟨P,.inr ⟨rfl,.inl rfl⟩⟩
  |some st=>exact bb _ _ ⟨P,.inl ⟨rfl,Ω,st,rfl⟩⟩
 rintro _ U ⟨P,cN⟩;rcases cN with⟨rfl,cM,st,rfl⟩|⟨rfl,cO⟩
 rotate_left
 .rw[aW];have bL:bF=so.map λst=>(acc,st):=by
   rcases cO with rfl|rfl
   .exact aK
   .rw[U1]at aK;rw[aK];cases so<;>rfl
  refine br out U acc (gk.mk (bJ.F (P.aa _)) ?_) (bN (aq.X bK (λr _ h=>by have h:y.heap.size<=r:=h;show w.heap.size<=r;omega) λ_ _ h=>h) P) (λq K=>?_)
  .rw[bL,Option.map_map];have e:W3 ((λx=>x.2)∘λst=>(acc,st)) so=so:=by cases so<;>rfl
   rw[e];exact a8.W P
  .rw[bL]at K;cases so with
   |none=>cases K
   |some st=>cases K;rfl
 rw[bZ];obtain⟨ba,bd,dH⟩:=ba st rfl;have dI:=P.size;refine bu ev.i λam j dJ bM bP=>?_;have aA:=P.F bM;have be:af (bI g gs A) w j:=bJ.F (aA.aa _);have bQ:aF .i64 j sv co:=jg bY be λr f a n c cP cQ=>(aY r ⟨a,n,c,cP,cQ⟩).1 f;rw[aS au.u bQ];have aM:¬bI g gs A am:=λE=>by have:=ad _ E;omega
 refine N9 (s:=σ st) (a8.W aA) bQ (λr f=>⟨(aY r f).1,by have:=(aY r f).2;omega⟩) b1 b2 (b3.aa be h1.1) h1 bP aM (λcR=>by have:=aJ _ cR;omega) λt V aO gt dK cS bR cT cV cW cX cY=>?_;have dL:=bM.size;have z12:=bR.size;have dM:=bP.lt;have bg:∀x∈t,0<=x:=λx cZ=>(cS x cZ).1;refine(nS cX).X ?_;rintro _ ac _ ⟨bh,c,dN,rfl,c0,dO⟩;obtain⟨aN,c1⟩:=bh.of;have dP:=aN.size;rw[bn,bo,aT ev.p rfl];refine bw (g:=am) (o:=1) ao.i rfl rfl (cT.aa aN aM) Ξ λJ aR dQ bi=>?_;have bi:ag J am ev [aO,Δ c]:=bi;have c2:an .i64 ao J gt aO t:=(cV.aa aN (λ_ E=>by have:=ad _ E;omega)).aa aR (λ_ he=>by have he:gt=am:=he;omega);have bj:af (λr=>bI g gs A r\/r=am) j J:=(bR.F (aN.X λr _ h=>.inl h)).F (aR.X λr _ h=>.inr h);have X:ds J g gs A B Z ((bc 0 ax ((gm co [] (σ st)).map (·.2))).map (·.2)):=c1.aa aR (λr f he=>by have he:r=am:=he;exact aM (he▸f)) (λr f he=>by have:=aJ r f.2;have he:r=am:=he;omega);have bS:¬(λr=>bI g gs A r\/r=am) C:=λh=>h.elim (λh=>by have:=ad _ h;omega) (λh=>Ω);have c3:lU J C:=(cL.aa (aA.aa (λ_=>False)) (λh=>h)).aa bj bS;have bU:mS J C acc:=(de.W ba aA).aa bj bS;obtain⟨bk,bl⟩:=D3 (acc:=acc) cY c0;refine dh (λW=>af (bI g gs A) J W/\ds W g gs A B Z ((eR co acc st).map (·.2))) ?_ ?_
 .rintro W ⟨ap,c4⟩;have bm:¬bI g gs A C:=λh=>by have:=ad _ h;omega
  have dR:=aR.size;have dS:=ap.size;refine Of (acc:=acc) (t:=t) (c:=c) (ok:=∃q,eR co acc st=σ q) (c3.aa ap bm) (λ⟨q,K⟩=>⟨de.aa bU ap bm,bd,bg,λS=>?_⟩) λai aB c5 c6=>?_
  .cases L:bc 0 ax ((gm co [] (σ st)).map (·.2))with
   |none=>rw[bk L]at K;cases K
   |some av=>rw[bl av L,m5 S]at K;cases K
  have dT:=aB.size;have c8:ag ai am ev [aO,Δ c]:=(bi.aa ap aM).aa aB (λhe=>by have he:am=C:=he;omega);have c9:an .i64 ao ai gt aO t:=(c2.aa ap (λ_ E=>by have:=ad _ E;omega)).aa aB (λ_ he=>by have he:gt=C:=he;omega);rw[bC ev.p ev.i rfl c8.range];have bV:bH (e0 j.heap.size) bO ai [aO,Δ c] (t,c):=⟨[aO],[Δ c],e0 j.heap.size,bO,rfl,λ_ h=>h,λ_ h=>h.elim,λ_ _ _ h=>h,aq.X (mD c9) (λr _ h=>by subst h;exact cW) (λ_ _ h=>h),rfl⟩;refine la (α:=Λ×Int) (a:=(t,c)) (cs:=[aO,Δ c]) (A:=e0 j.heap.size) (R:=bO) jT.u ev.i Φ rfl bV λu ay aw _ db=>?_;have z22:=aw.size;have dc:bH (λr=>e0 y.heap.size r/\r<j.heap.size/\r≠am) bO j [out] acc:=bN (aq.X (nI bK) (λr _ h=>⟨h.1,by have:=h.2;omega,by have:=h.2;omega⟩) λ_ _ h=>h) aA;have bW:af (λr=>bI g gs A r\/r=am\/r=C) j ay:=(((bj.X λr _ h=>h.elim .inl λh=>.inr (.inl h)).F (ap.X λr _ h=>.inl h)).F (aB.X λr _ h=>.inr (.inr h))).F (aw.aa _);have dd:=aq.aa dc bW λr f h E=>by
   rcases h with h|h
   .have aU:y.heap.size<=r:=h.1;rcases E with E|E|E
    .have:=ad _ E;omega
    .exact h.2.2 E
    .omega
   .exact h
  refine ox (α:=Λ×Int) (a:=(t,c)) (A:=e0 j.heap.size) jT.u ev.i rfl dd db (bN bV aw) (λr _ h bf=>?_) Ω Ω λdU aI df aC=>?_
  .rcases bf with bf|bf
   .have:=h.2;have:j.heap.size<=r:=bf;omega
   .exact bf
  have dV:=aC.size;rw[aL,lm Ω Ω];have dg:af (bI g gs A) w ay:=iP be bW λr f h=>by
   rcases h with h|h|h
   .exact h
   .omega
   .omega
  have di:af (bI g gs A) w aI:=iP dg aC λr f h=>by have aU:y.heap.size<=r:=h.1;omega
  have dj:ds ay g gs A B Z ((eR co acc st).map (·.2)):=(c4.aa aB (λr f he=>by have he:r=C:=he;exact bm (he▸f)) (λr f he=>by have:=aJ r f.2;have he:r=C:=he;omega)).W aw;have dk:∀r,bI g gs A r->¬(e0 y.heap.size r/\r<j.heap.size/\r≠am):=λr f he=>by have:=ad _ f;have aU:y.heap.size<=r:=he.1;omega
  have dl:∀r,cU g gs A B r->¬(e0 y.heap.size r/\r<j.heap.size/\r≠am):=λr f he=>by have:=aJ r f.2;have aU:y.heap.size<=r:=he.1;omega
  have bX:¬(e0 y.heap.size C/\C<j.heap.size/\C≠am):=λhe=>by have aU:y.heap.size<=C:=he.1;omega
  refine⟨⟨i+1,acc++[(t,c)],(eR co acc st).map (·.2),rfl,Ω,di,Ω,?_,dj.aa aC dk dl,?_,(c5.aa (aw.aa (λ_=>False)) (λh=>h)).aa aC bX,Θ,λdm dn=>?_⟩,by simp only[b0];omega⟩
  .refine aq.X df (λr _ h=>?_) λ_ _ h=>h;show y.heap.size<=r;rcases h with h|h|h
   .exact h.1
   .have h:j.heap.size<=r:=h;omega
   .omega
  .rw[aK,show N-i=(N-(i+1))+1 by omega];cases G:eR co acc st with
   |none=>exact q8 G
   |some q=>
    obtain⟨a,dm⟩:=q;have dp:a=(t,c):=by
     cases L:bc 0 ax ((gm co [] (σ st)).map (·.2))with
     |none=>rw[bk L]at G;cases G
     |some av=>
      rw[bl av L]at G;split at G
      .cases G
      .cases G;rfl
    subst dp;exact uS G
  .obtain⟨q,K,rfl⟩:=Z6.1 dn;have dW:=(q5 K).2.2.2.1;refine⟨de.aa ((de.W (c6 ⟨q,K⟩) aw)) aC bX,λp M=>?_,by simp only[p9,List.length_singleton];omega⟩;rcases o9.1 M with M|M
   .exact bd p M
   .rw[b8.1 M];exact bg
 .intro dX bp;cases L:bc 0 ax ((gm co [] (σ st)).map (·.2))with
  |none=>
   rw[L]at X;have G:=bk L;refine aV (λv O=>Ext J O/\v= .bool sp) ?_ ?_
   .rintro _ O ⟨Y,rfl⟩;rw[aW];exact bp _ ⟨Y.aa _,by rw[G];exact X.W Y⟩
   .intro dq bq;refine(rh X).X ?_;rintro _ al _ ⟨rfl,aX⟩;rw[show((ν:Option (Int×aH)).map (·.2)).isSome=sp from rfl,aW];exact bq _ _ ⟨aX,rfl⟩
  |some av=>
   rw[L]at X;have G:=bl av L;refine aV (λv O=>Ext J O/\v= .bool (decide (t∈acc.map (·.1)))) ?_ ?_
   .rintro _ O ⟨Y,rfl⟩;rw[aj];refine⟨λS=>?_,λdr=>?_⟩
    .refine (N8 (X.W Y) Ω).X ?_;rintro _ bB _ bh;obtain⟨dt,du⟩:=bh.of;exact bp _ ⟨(Y.aa _).F dt,by rw[G,m5 S];exact du⟩
    .exact bp _ ⟨Y.aa _,by rw[G,m6 dr];exact X.W Y⟩
   .intro dq bq;refine(rh X).X ?_;rintro _ al _ ⟨rfl,aX⟩;rw[show((σ av:Option (Int×aH)).map (·.2)).isSome=rs from rfl,bZ,D2 (de.W bU aX) bd bg,bG];refine bq _ _ ⟨aX,?_⟩;congr 1;by_cases S:t∈acc.map (·.1)
    .rw[m5 S,ms S];rfl
    .rw[m6 S,pl S];rfl
theorem D4(co:Λ)(s:Option aH):j8 co s=match bc (-ax) ax s with
 |none=>ν
 |some (n,s)=>
  if n<0 then match s.m2[(-n-1).toNat]? with
   |none=>ν
   |some (z,l)=>if z=co then σ (l,s)else ν
  else dc (eR co) n.toNat [] (lp n s):=by
 cases s with
 |none=>rfl
 |some s=>
  show eb co s=_;unfold eb;show _=match bh (-ax) ax s with
   |none=>ν
   |some (n,s)=>
    if n<0 then match s.m2[(-n-1).toNat]? with
     |none=>ν
     |some (z,l)=>if z=co then σ (l,s)else ν
    else dc (eR co) n.toNat [] (lp n s)
  cases bh (-ax) ax s<;>rfl
theorem D5{m:Bool}{S R:ah}{cs:List x1}{a:lS}(h:aq.rep (α:=lS) m S R w cs a):∃u v,cs=[u,v]/\aq.rep (α:=Λ) sp bO R w [u] a.1/\aq.rep (α:=List (Λ×Int)) sp bO R w [v] a.2:=by
 obtain⟨c,d,f,j,rfl,_,_,_,h1,e⟩:=h;have h1:=h1;have e:=e;obtain⟨u,rfl⟩:=X3.1 (show c.length=1 from aq.len h1);obtain⟨v,rfl⟩:=X3.1 (show d.length=1 from aq.len e);exact⟨u,v,rfl,h1,e⟩
theorem Oh{g:Nat}{A B:ah}{s:Option aH}{O:Bool}(h:ds w g gs A B O s)(hi:∀t,s=σ t->dX t)(au:aF .i64 w sv co)(ae:∀r,li sv r->¬bI g gs A r/\r<w.heap.size)(aw:∀z∈co,1<=z/\z<=ax)(aA:co.length<=100001)(aB:fj w)(h1:cU g gs A B 1):
  ak x7 Jr [Γ g,sv] w λv I=>gk w g gs A B O ((j8 co s).map (·.2)) I/\∃l,Seen (λr=>cU g gs A B r\/w.heap.size<=r) I [v] (show List (Λ×Int)from l)/\∀q,j8 co s=σ q->l=q.1:=by
 have aC:=h.side;obtain⟨a8,ba,bb,aD,bd⟩:=id aC;have ad:∀r,bI g gs A r->r<w.heap.size:=aD;refine ay func121 ?_;refine(nS (lo:=-ax) (hi:=ax) h).X ?_;rintro _ J _ ⟨aE,n,at_,rfl,P,be⟩;obtain⟨H,ag⟩:=aE.of;have bf:=H.size;have j:=D4 co s;rw[bn,bo];have ai:=jg au H λr Q a n c K R=>(ae r ⟨a,n,c,K,R⟩).1 Q;have bg:∀r,li sv r->¬bI g gs A r/\r<J.heap.size:=by grind
 have rest:∀V,Ext J V->(∀q,bc (-ax) ax s=σ q->¬n<0)->∀N:Nat,n=(N:Int)->(N:Int)<=ax->∀x,af (bI g gs A) V x->ds x g gs A B O (((bc (-ax) ax s).map (·.2)).map (lp n))->
   ∀v I l,gk x g gs A B O ((fD (eR co) N [] (((bc (-ax) ax s).map (·.2)).map (lp n))).map (·.2)) I->bH (e0 x.heap.size) bO I [v] (show List (Λ×Int)from l)->(∀q,fD (eR co) N [] (((bc (-ax) ax s).map (·.2)).map (lp n))=σ q->l=q.1)->
   gk w g gs A B O ((j8 co s).map (·.2)) I/\∃l,Seen (λr=>cU g gs A B r\/w.heap.size<=r) I [v] (show List (Λ×Int)from l)/\∀q,j8 co s=σ q->l=q.1:=by
  intro V y L N S U x E W v I l aG aI aJ;obtain⟨aK,aL⟩:=aG.of;have aM:=y.size;have z3:=E.size;have e:j8 co s=fD (eR co) N [] (((bc (-ax) ax s).map (·.2)).map (lp n)):=by
   rw[j];cases f:bc (-ax) ax s with
   |none=>rfl
   |some q=>
    obtain⟨aO,s1⟩:=q;have:=P _ f;subst this;simp only;rw[m6 (L _ f),S,u7];rfl
  rw[e];refine⟨gk.mk (((H.F (y.aa _)).F E).F aK) aL,l,sd aI λr _ h=>?_,aJ⟩
  grind
 refine aV (λv V=>Ext J V/\v= .bool (decide (n<0/\(bc (-ax) ax s).isSome=rs))) ?_ ?_
 rotate_left
 .intro az X;refine(rh ag).X ?_;rintro _ V _ ⟨rfl,y⟩;cases f:bc (-ax) ax s with
  |none=>
   rw[show((ν:Option (Int×aH)).map (·.2)).isSome=sp from rfl,aW]
   grind
  |some q=>
   rw[show((σ q:Option (Int×aH)).map (·.2)).isSome=rs from rfl,bZ,aP]
   grind
 rintro _ V ⟨y,rfl⟩;have G:=ag.W y;have aM:=y.size;rw[aj];refine⟨λL=>?_,λbh=>?_⟩
 rotate_left
 .have L:∀q,bc (-ax) ax s=σ q->¬n<0:=by grind
  obtain⟨N,S,U⟩:∃N:Nat,n=(N:Int)/\(N:Int)<=ax:=by
   cases f:bc (-ax) ax s with
   |none=>grind [ax]
   |some q=>
    have h1:=L q f;have aQ:=oK f
    grind
  refine Ob G (λt aR=>?_) λx E W=>?_
  .obtain⟨q,f,rfl⟩:=Z6.1 aR;have aQ:=oK f;have bi:=P q f;refine⟨Ω,Ω,?_⟩;cases s with
   |none=>cases f
   |some s0=>
    have al:=(dI f).eqs;have am:=hi s0 rfl;intro an;rw[al.1];rw[al.2.1]at an;exact am an
  .have z3:=E.size;have aS:af (bI g gs A) w x:=(H.F (y.aa _)).F E;subst S;refine Og W ((jg (ai.W y) E λr Q a n c K R=>(ae r ⟨a,n,c,K,R⟩).1 Q)) (by grind) aw aA (aB.aa aS h1.1) h1 U λv I l a b c=>?_;exact rest V y L N rfl U x E W v I l a b c
 .obtain⟨aU,aX⟩:=L;obtain⟨⟨aO,s1⟩,f⟩:=Option.isSome_iff_exists.1 aX;have:=P _ f;subst this;have bj:=oK f;rw[f]at j G;simp only at j;rw[m5 aU]at j;have G:=G;obtain⟨_,am,bk,big,bl,bm,m1,bp,Y,bq,Z⟩:=id G;have br:ax=4611686018427387904:=rfl;refine aV (λv x=>Ext V x/\v= .bool (decide (j8 co s=ν))) ?_ ?_
  .rintro _ x ⟨C,rfl⟩;rw[aj];refine⟨λaY=>?_,λaZ=>?_⟩
   .refine (uP (G.W C) Ω).X ?_;rintro _ bs _ ⟨a1,a2⟩;rw[aY];refine⟨gk.mk (((H.F (y.aa _)).F (C.aa _)).F (a1.X λr _ h=>.inl h)) a2,[],iw,by grind⟩
   .cases M:s1.m2[(-n-1).toNat]? with
    |none=>rw[M]at j;exact m7 j aZ
    |some q=>
     obtain⟨z,l⟩:=q;rw[M]at j;simp only at j;have a6:z=co:=by
      grind
     rw[m5 a6]at j;rw[aN cD.p 3 (Y.W C) rfl,nB,lm Ω Ω,dN,lm Ω Ω];refine nL (i:=(-n-1).toNat) Ω iL.u k6.i (bN Z C) M λb o cs ab ac=>?_;obtain⟨u,v,rfl,ao,K⟩:=D5 ac;rw[aT k6.p rfl,av Ψ (ab 1 v rfl)];rw[j];refine⟨gk.mk ((H.F (y.aa _)).F (C.aa _)) (G.W C),l,sd K λr _ h=>?_,by grind⟩
     grind
  .intro az X;rw[nB,lm Ω Ω,aN cD.p 3 Y rfl,jf iL.u Z,bG,aj];refine⟨λap=>X _ _ ⟨Ext.refl _,?_⟩,λaq=>?_⟩
   .have ap:(s1.m2.length:Int)<0-n:=ap;rw[Y0 Ω]at j;rw[ms j]
   .have aq:¬(s1.m2.length:Int)<0-n:=aq;have a7:(-n-1).toNat<s1.m2.length:=Ω
    obtain⟨⟨z,l⟩,M⟩:∃q,s1.m2[(-n-1).toNat]?=σ q:=⟨_,x6 a7⟩;rw[aN cD.p 3 Y rfl,nB,lm Ω Ω,dN,lm Ω Ω];refine nL (i:=(-n-1).toNat) Ω iL.u k6.i Z M λb o cs ab ac=>?_;obtain⟨u,v,rfl,ao,K⟩:=D5 ac;rw[aT k6.p rfl,av Ψ (ab 0 u rfl)];refine(Ci (eC ao) (ai.W y)).X ?_;rintro _ x _ ⟨rfl,C⟩;rw[bA];refine X _ _ ⟨C,?_⟩;rw[M]at j;simp only at j;by_cases bt:z=co
    all_goals grind
abbrev ri(n:Nat):ah:=λr=>r<n
def sN(n:Int)(k:Nat)(s:Option aH):Option (Λ×aH):=s.bind (fg n k)
theorem Oi{g k:Nat}{A B:ah}{s:Option aH}{m:Int}(h:ds w g gs A B f s)(hk:k<=4611686018427387904)(hm:0<=m/\m<=1000000):
  ak x7 BB [Γ g,Δ (k:Int),Δ m] w λv I=>gk w g gs A B f ((sN m k s).map (·.2)) I/\
   ∃gr l,an .i64 ao I gr v l/\(∀r,li v r->w.heap.size<=r)/\l.length<=100001/\∀q,sN m k s=σ q->l=q.1:=by
 cases s with
 |some s=>exact M0 h hk hm
 |none=>
  have h:=h;refine ay func119 ?_;refine⟨λout p J=>w=J/\out= .slice ν 0 0/\p=Δ 0,λ_ _ _=>0,⟨rfl,rfl,rfl⟩,?_⟩;rintro _ _ _ ⟨rfl,rfl,rfl⟩;refine aV (λv V=>Ext w V/\v= .bool sp) ?_ ?_
  .rintro _ V ⟨e,rfl⟩;rw[aW];exact⟨gk.mk (e.aa _) (h.W e),0,[],an.nil _ _ _ _,λr x=>m7 x (λh=>by obtain⟨a,n,c,h,_⟩:=h;cases h),Ξ,λq y=>by cases y⟩
  .intro az j;rw[aP,aj];refine⟨λ_=>?_,λ_=>j _ _ ⟨Ext.refl _,rfl⟩⟩;refine(pM h).X ?_;rintro _ V _ ⟨rfl,e⟩;exact j _ _ ⟨e,rfl⟩
def u3(z:Λ)(l:List (Λ×Int))(s:aH):aH:={s with m2:=s.m2++[(z,l)]}
def D6(w:x3)(g gs:Nat):Prop:=∃(e big a f m1:Int)(sv:x1),ag w g cD (jj gs e big a f m1 sv)/\e≠0
def iT(w:x3)(g gs:Nat)(A:ah)(B:ah)(a:Bool)(s:Option aH):Prop:=match s with
 |some s=>en w g gs A B s a
 |none=>D6 w g gs
theorem ds.q{g:Nat}{A:ah}{B:ah}{a:Bool}{s:Option aH}(h:ds w g gs A B a s):iT w g gs A B a s:=by
 cases s with
 |some s=>exact h
 |none=>
  obtain⟨_,e,big,f,j,m1,sv,l,p,r,_⟩:=h;exact⟨e,big,f,j,m1,sv,p,r.1⟩
theorem iT.aa{g:Nat}{A:ah}{B:ah}{a:Bool}{s:Option aH}(h:iT w g gs A B a s)(f:af S w I)(p:¬S g)(q:∀r,bI g gs A r->r<w.heap.size->¬S r)(x:∀r,cU g gs A B r->¬S r):iT I g gs A B a s:=by
 cases s with
 |some s=>
  have h:=h;exact en.aa h f (λr j=>q r j (h.1.2.2.2.1 r j)) x
 |none=>
  obtain⟨e,big,y,z,m1,sv,C,E⟩:=h;exact⟨e,big,y,z,m1,sv,C.aa f p,E⟩
theorem iT.W{g:Nat}{A:ah}{B:ah}{a:Bool}{s:Option aH}(h:iT w g gs A B a s)(e:Ext w I):iT I g gs A B a s:=h.aa (e.aa λ_=>False) (λh=>h) (λ_ _ _ h=>h) (λ_ _ h=>h)
theorem D7{g:Nat}{A:ah}{B:ah}{s:Option aH}{a:Bool}(h:iT w g gs A B a s):ak x7 mw [Γ g] w λv I=>v= .bool s.isSome/\Ext w I:=by
 cases s with
 |none=>
  obtain⟨e,big,q,r,m1,sv,f,j⟩:=h;refine(xZ f).X ?_;rintro _ J _ ⟨rfl,p⟩;exact⟨by rw[pl j];rfl,p⟩
 |some s=>exact q7 h
theorem iQ.a8{g:Nat}{R':Nat->Prop}(h:iQ w g R d8 f)(j:af S w I)(s:¬S g)(x:∀r,R r->¬S r)(y:∀r,R r->R' r):iQ I g R' d8 f:=by
 obtain⟨z,p,a,⟨h1,A,B,C,bx,E⟩,q,F⟩:=h;exact⟨z,p,a,⟨h1,A,B,C.aa j s,bx,bl E j λr e=>x r (q r e)⟩,λr e=>y r (q r e),F⟩
theorem nT{α:Type}[aq α]{m:Bool}{S R:ah}{v:x1}{l:List α}(h:aq.rep m S R w [v] l):∃a n c,v= .slice a n c:=by
 obtain⟨vs,e,F,f,he,U,hm⟩:=kw h;obtain⟨j,b,o,base,cap,rfl,_⟩:=U;exact⟨_,_,_,rfl⟩
def nU(w:x3)(g gs:Nat)(A:ah)(B:ah)(R:ah)(a:Bool)(s:Option aH):Prop:=match s with
 |some s=>mP w g gs A B/\iQ w gs R s.d8 a/\(0<=s.m1/\s.m1<=ax/\s.m2.length+s.d8.length<=100000)/\
  ∃big e f m1 sv,ag w g cD (jj gs 0 big e f m1 sv)/\((s.big=rs↔big≠0)/\(s.big=sp->m1=s.m1))/\bH A R w [sv] (show List lS from s.m2)
 |none=>D6 w g gs
theorem nU.aa{g:Nat}{A R:ah}{B:ah}{x:Bool}{s:Option aH}(h:nU w g gs A B R x s)(a:af S w I)(y:¬S g)(z:∀r,bI g gs A r->r<w.heap.size->¬S r)(C:∀r,R r->¬S r):nU I g gs A B R x s:=by
 cases s with
 |some s=>
  obtain⟨h1,E,F,big,f,j,m1,sv,p,q,G⟩:=h;have H:=h1.2.2.2.1;exact⟨h1.aa a,E.aa a (z gs (.inr (.inl rfl)) (H _ (.inr (.inl rfl)))) C,F,big,f,j,m1,sv,p.aa a y,q,aq.aa G a λr J h=>h.elim (λh=>z r (.inr (.inr h)) J) (C r)⟩
 |none=>
  obtain⟨e,big,f,j,m1,sv,p,q⟩:=h;exact⟨e,big,f,j,m1,sv,p.aa a y,q⟩
theorem nU.out{g:Nat}{A R B e:ah}{s:Option aH}(h:nU w g gs A B R f s)(j:∀r,R r->cU g gs A e r)(q:∀r,e r->r<w.heap.size):iT w g gs A e f s:=by
 cases s with
 |some s=>
  obtain⟨⟨x,y,z,C,P⟩,⟨E,p,a,F,G,H⟩,I,big,J,K,m1,sv,L,M,N⟩:=h;exact⟨⟨x,y,z,C,q⟩,⟨E,p,a,F,λr O=>j r (G r O),H⟩,I,big,J,K,m1,sv,L,M,aq.X N (λ_ _ h=>h) λr _ h=>j r h⟩
 |none=>exact h
theorem ds.qr{g:Nat}{A R:ah}{B:ah}{y:Bool}{s:Option aH}(h:ds w g gs A B y s)(z:∀r,cU g gs A B r->R r):nU w g gs A B R y s:=by
 cases s with
 |some s=>
  obtain⟨h1,⟨C,p,a,E,F,G⟩,H,big,f,j,m1,sv,q,x,I⟩:=h;exact⟨h1,⟨C,p,a,E,λr J=>z r (F r J),G⟩,H,big,f,j,m1,sv,q,x,aq.X I (λ_ _ h=>h) λr _ h=>z r h⟩
 |none=>
  obtain⟨_,e,big,f,j,m1,sv,l,q,x,_⟩:=h;exact⟨e,big,f,j,m1,sv,q,x.1⟩
theorem Oj{g:Nat}{A B R:ah}{s:Option aH}{O:Bool}{aI aA u v:x1}{z:Λ}{l:List (Λ×Int)}{K:x3->Prop}(h:ds w g gs A B O s)(P:∀r,cU g gs A B r->R r)(aj:∀r,R r->cU g gs A (ri w.heap.size) r)(ak:∀t,s=σ t->t.m2.length+1+t.d8.length<=100000)(al:ag w N cj [aI,u,aA,v])(am:aq.rep (α:=Λ) sp bO R w [u] z)(an:aq.rep (α:=List (Λ×Int)) sp bO R w [v] l)(aB:∀I aJ,af (bI g gs A) w I->(∀r,aJ r->A r\/w.heap.size<=r)->nU I g gs aJ (ri w.heap.size) R O (s.map (u3 z l))->K I):
  ab x7 (bR (Γ g)) w λQ=>
  ab x7 (u6 cD Q 3) w λS=>
  ab x7 (u4 iL S) w λao=>
  ab x7 (u6 cj (Γ N) 1) w λt76=>
  ab x7 (u4 au t76) w λt77=>
  ab x7 (u6 cj (Γ N) 3) w λaC=>
  ab x7 (u4 jT aC) w λaE=>
  ab x7 (Instr.build k6 #[(0,t77),(1,aE)]) w λaF=>
  aD x7 (Z3 iL 1 #[(0,aF)]) w λaG F=>
   (Ext w F\/cC x7 (u4 iL S) ao F/\cC x7 (u6 cD Q 3) S F/\cC x7 (bR (Γ g)) Q F/\True)/\
   aD x7 (j4 #[iL,iL] iL #[ao,aG]) F λaL W=>
    ab x7 (bR (Γ g)) W λaM=>
    ab x7 (u6 cD aM 3) W λaO=>
    aD x7 (o6 iL aO aL) W λ(_:Unit)aP=>K aP:=by
 obtain⟨aQ,e,big,j,q,m1,sv,H,y,L,a6,aR⟩:mP w g gs A B/\∃e big j q m1 sv,∃H:List lS,ag w g cD (jj gs e big j q m1 sv)/\bH A R w [sv] H/\H.length<=100000/\
   ∀I aJ C,mP I g gs aJ (ri w.heap.size)->af (λr=>A r\/r=g) w I->ag I g cD (jj gs e big j q m1 C)->bH aJ R I [C] (H++[((z,l):lS)])->nU I g gs aJ (ri w.heap.size) R O (s.map (u3 z l)):=by
  cases s with
  |none=>
   obtain⟨h1,e,big,j,q,m1,sv,fB,X,M,Y⟩:=h;exact⟨h1,e,big,j,q,m1,sv,fB,X,aq.X Y (λ_ _ h=>h) λr _ h=>P r h,M.2,λI aJ C U _ y L=>⟨e,big,j,q,m1,C,y,M.1⟩⟩
  |some s=>
   obtain⟨h1,aS,av,big,j,q,m1,sv,X,M,Y⟩:=h;have ak:=ak s rfl;refine⟨h1,0,big,j,q,m1,sv,s.m2,X,aq.X Y (λ_ _ h=>h) λr _ h=>P r h,(show s.m2.length<=100000 by omega),λI aJ C U aU y L=>⟨U,?_,⟨av.1,av.2.1,?_⟩,big,j,q,m1,C,y,M,L⟩⟩
   .exact iQ.a8 aS aU (λhe=>he.elim h1.2.2.1 λh=>h1.1 h.symm) (λr f he=>he.elim (λh=>f.1 (.inr (.inr h))) λh=>f.1 (.inl h)) P
   .show (s.m2++[(z,l)]).length+s.d8.length<=100000;simp;omega
 obtain⟨aV,Z,aW,aw,a7⟩:=id aQ;rw[aN cD.p 3 y rfl,aK cj.p 1 al rfl,aK cj.p 3 al rfl];rw[dq (cs:=#[u,v]) (by obtain⟨_,_,_,rfl⟩:=nT am;obtain⟨_,_,_,rfl⟩:=nT an;kernel_rfl)];have ax:bH (λ_=>False) R w [u,v] ((z,l):lS):=⟨[u],[v],bO,bO,rfl,λ_ h=>h,λ_ h=>h,λ_ _ h _=>h,am,an⟩;refine la (α:=lS) (a:=(z,l)) (R:=R) iL.u k6.i Φ rfl ax λx J E _ aX=>?_;have ba:=E.size;refine⟨.inl E,?_⟩;refine ox iL.u k6.i rfl (bN L E) aX (bN ax E) (λr _ aY G=>?_) Ω Ω λaZ V ac ad=>?_
 .rcases G with G|G
  .exact G
  .exact (aj r G).1 (.inr (.inr aY))
 have bb:=ad.size;have a1:=(y.W E).aa ad Z;rw[bS,aT cD.p rfl];refine bw (g:=g) (o:=6) iL.i (qO ac) (nK ac) a1 (by simp[jj]) λae ay bc ai=>?_;have ai:=ai;have az:af (λr=>A r\/r=g) w ae:=((E.aa _).F (ad.X λr _ h=>.inl h)).F (ay.X λr _ h=>.inr h);let aJ:ah:=λr=>(A r\/w.heap.size<=r)/\r<V.heap.size;have bd:g<w.heap.size:=aw g (.inl rfl);have be:=aw gs (.inr (.inl rfl));have a2:=aq.X (S':=aJ) (R':=R) ac (λr f h=>⟨h.elim .inl λh=>h.elim False.elim λh=>.inr Ω,f⟩) (λr f h=>h);refine aB ae aJ (az.X λr _ h=>h.elim (λh=>.inr (.inr h)) .inl) (λr f=>f.1) (aR ae aJ aZ ⟨aV,λh=>h.1.elim Z λh=>Ω,λh=>h.1.elim aW λh=>Ω,λr f=>?_,?_⟩ az ai (aq.aa a2 ay λr f ap he=>?_))
 .rcases f with rfl|rfl|f
  .omega
  .omega
  .have:=f.2;omega
 .intro r f;have f:r<w.heap.size:=f;omega
 .have he:r=g:=he;subst he;rcases ap with ap|ap
  .exact ap.1.elim Z λh=>Ω
  .exact (aj _ ap).1 (.inl rfl)
theorem Ol{e:Nat}{aI E:x1}{all:Λ}{N:x3->Prop}(O:ag w e cj [aI,.slice ν 0 0,Δ 0,.slice ν 0 0])(P:aF .i64 w aI scope)(Y:∀r,li aI r->r≠e)(Z:aF .i64 w E all)(ac:∀r,li E r->r≠e)(ad:∀v∈scope,0<=v/\v<all.length)(aJ:scope.length<=100001)(ah:∀I d9 gz,af (λr=>r=e) w I->ag I e cj [aI,d9,Δ 0,.slice ν 0 0]->an .i64 ao I gz d9 (scope.map λv=>all.getD v.toNat 0)->w.heap.size<=gz->N I):
 ce (Δ 0) w λF s k=>
  ab x7 (aQ .lss ae sp sp F (Δ (scope.length:Int))) s λai=>
  Split ai (ab x7 (j0 au aI F) s λak=>
  ab x7 (u4 ao ak) s λal=>
  eu s λf=>
  ab x7 (u6 cj (Γ e) 1) f λt39=>
  ab x7 (u4 au t39) f λQ=>
  ab x7 (j0 au E al) f λam=>
  ab x7 (u4 ao am) f λap=>
  aD x7 (Z3 au 1 #[(0,ap)]) f λt45 z=>
   (Ext f z\/cC x7 (u4 au t39) Q z/\cC x7 (u6 cj (Γ e) 1) t39 z/\True)/\
  aD x7 (j4 #[au,au] au #[Q,t45]) z λt46 R=>
   ab x7 (u6 cj (Γ e) 1) R λaq=>
   aD x7 (o6 au aq t46) R λ(_:Unit)S=>
    ab x7 (aQ .add ae sp rs F (Δ 1)) S λav=>
  k av S) (N s):=by
 have aM:=O.lt;refine ce.range scope.length (λi J=>af (λr=>r=e) w J/\∃d9 gz,ag J e cj [aI,d9,Δ 0,.slice ν 0 0]/\an .i64 ao J gz d9 ((scope.take i).map λv=>all.getD v.toNat 0)/\w.heap.size<=gz) P.le ⟨af.refl _ _,_,w.heap.size,O,an.nil _ _ _ _,o5 _⟩ ?_ ?_
 rotate_left
 .rintro J aw ⟨j,d9,gz,A,B,U⟩;rw[p8]at B;rw[aP,aj];exact⟨λh=>Ω,λ_=>ah J d9 gz j A B U⟩
 rintro i J aw hi ⟨j,d9,gz,A,B,U⟩ ax;obtain⟨v,G⟩:=aC (l:=scope) hi;have aN:=ad v (x5 G);have ay:all[v.toNat]?=σ (all.getD v.toNat 0):=by
  rw[v8,x6 Ω];rfl
 have az:=jg P j λr C a n c H K=>Y r ⟨a,n,c,H,K⟩ C;have aA:=jg Z j λr C a n c H K=>ac r ⟨a,n,c,H,K⟩ C;refine bt Ω ?_;rw[ba au.u ao.i Ψ az G];intro V q _ _;have aO:=j.size;have aR:=q.size;rw[aK cj.p 1 (A.W q) rfl];rw[ew (y:=v) (i:=v.toNat) Ω au.u ao.i Ψ (aA.W q) ay];refine dl au.u ao.i rfl λa ga aS aU x aB=>?_;refine⟨.inl x,?_⟩;have z3:=x.size;refine iO au.u ao.i rfl ((B.W q).W x) aB.ls Θ Θ λaE aG aV aW L W=>?_;rw[aT cj.p rfl];have aH:=((A.W q).W x).aa W (λhe=>by have he:=he;omega);refine bw (g:=e) (o:=1) au.i L.ls.cells.1 L.ls.cells.2 aH Ξ λaX X aY M=>?_;have M:=M;rw[aL];refine ax _ ⟨(iP (j.F ((q.F x).aa _)) W λr C he=>by have he:r=gz:=he;omega).F X,aE,aG,M,?_,Ω⟩;rw[u5,G,l7,n9];exact L.aa X (λ_ he=>by have he:=he;omega)
abbrev jG:Type:=Rd (Λ)×Rd (Λ)×Int×Rd (List (Λ×Int))
def iU(f:cv):jG:=(f.scope,f.co,f.other,f.lines)
theorem D8{R:ah}{aI d9 cm:x1}{o:Int}{sc:Λ}{l:List (Λ×Int)}(h1:aq.rep (α:=Λ) sp bO R w [aI] sc)(e:aq.rep (α:=Λ) sp bO R w [d9] a)(f:aq.rep (α:=List (Λ×Int)) sp bO R w [cm] l):
  Seen R w [aI,d9,Δ o,cm] ((sc,a,o,l):jG):=
 ⟨[aI],[d9,Δ o,cm],bO,bO,rfl,λ_ h=>h,λ_ h=>h,λ_ _ h _=>h,h1,[d9],[Δ o,cm],bO,bO,rfl,λ_ h=>h,λ_ h=>h,λ_ _ h _=>h,e,[Δ o],[cm],bO,bO,rfl,λ_ h=>h,λ_ h=>h,λ_ _ h _=>h,rfl,f⟩
theorem sO{R:ah}{g:Nat}{v:x1}{e:r8}(h:an .i64 e w g v l)(q:∀r,li v r->R r):aq.rep (α:=Λ) sp bO R w [v] l:=by
 have h1:bH (λr=>r=g) bO w [v] l:=mD h;obtain⟨vs,s,F,E,he,U,hm⟩:=kw h1;refine⟨v,rfl,vs,s,λ_ _=>False,⟨λ_ _ h=>h,λh=>(by cases h),λh=>by cases h⟩,⟨he.1,λi c a x y=>?_⟩,?_,λh=>by cases h⟩
 .exact he.2 i c a x y
 .obtain⟨f,b,o,base,cap,rfl,z,A,j,G,B⟩:=U;refine⟨f,b,o,base,cap,rfl,z,A,j,λp=>.inr (q b ?_),B⟩;have C:0<l.length:=by
   rw[f]at p;rcases Nat.eq_zero_or_pos l.length with h|h
   .rw[h,Nat.zero_mul]at p;omega
   .exact h
  exact⟨⟨b,o,ν⟩,l.length,cap,by rw[j C],rfl⟩
theorem D9{α:Type}[aq α]{R R':ah}{cs:List x1}{a:α}(h:Seen R w cs a)(e:∀r,r<w.heap.size->R r->R' r):Seen R' w cs a:=aq.X h (λ_ _ h=>h) e
theorem Ea{f a:Nat}{cs:List x1}{K:x1->x3->Prop}(e:cs.length=4)(h1:∀v∈cs,v.oneCell'=rs)(q:ag w f cj cs){h:List x1}(s:h.length=4)(x:ag w a cj h)(y:∀I,af (λr=>r=a) w I->K (.agg cs.toArray) I):
  ab x7 (u4 cj (Γ f)) w λz=>
  aD x7 (o6 cj (Γ a) z) w λ(_:Unit)j=>
  ab x7 (do loadVar cj (<-asAddr (Γ a))) j λA=>K A j:=by
 rw[bC cj.p cj.i e q.range];refine b4 cj.i e s h1 x λI B _ C=>?_;rw[fA cj.p cj.i e C.range];exact y I B
theorem Eb{s s':aH}{l:List (Λ×Int)}(h:eb co s=σ (l,s')):s'.m2=s.m2/\s'.d8.length<=s.d8.length:=by
 unfold eb at h;cases e:bh (-ax) ax s with
 |none=>rw[e]at h;cases h
 |some q=>
  obtain⟨n,s1⟩:=q;rw[e]at h;simp only at h;have h1:=dI e;obtain⟨r,w,f⟩:=h1.eqs;split at h
  .cases U:s1.m2[(-n-1).toNat]? with
   |none=>rw[U]at h;cases h
   |some q=>
    obtain⟨z,fB⟩:=q;rw[U]at h;simp only at h;split at h
    .simp only[X6,Prod.mk.injEq]at h;obtain⟨rfl,rfl⟩:=h;exact⟨f,by have:=h1.1;omega⟩
    .cases h
  .have:=mN (λacc t=>t.m2=s.m2/\t.d8.length<=s.d8.length) (λacc t a t' ⟨p,x⟩ g=>by
    obtain⟨y,A,B,j⟩:=q5 g;obtain⟨f1,f2,f3⟩:=j.eqs;exact⟨by rw[f3,p],by have:=j.1;omega⟩) n.toNat [] (bg (decide (16384<min (s1.m1+n) ax)) {s1 with m1:=min (s1.m1+n) ax}) l s' ⟨f,by have:=h1.1;show s1.d8.length<=_;omega⟩ h
   exact this.1
theorem Om{g:Nat}{A B:ah}{s:aH}{U:Bool}{a8:x1}{all:Λ}(h:en w g gs A B s U)(hi:dX s)(bK:aF .i64 w a8 all)(ba:∀r,li a8 r->¬bI g gs A r/\r<w.heap.size)(ch:∀z∈all,1<=z/\z<=ax)(df:all.length<=100001)(ci:fj w)(h1:cU g gs A B 1):
  ak x7 Bs [Γ g,a8] w λv I=>∃aJ W cs,∃bL:jG,v= .agg cs.toArray/\cs.length=4/\af (bI g gs A) w I/\(∀r,aJ r->A r\/w.heap.size<=r)/\(∀r,W r->(B r\/w.heap.size<=r)/\r<I.heap.size)/\(∀r,B r->W r)/\iT I g gs aJ W U ((du all s).map (·.2))/\
   Seen (cU g gs aJ W) I cs bL/\∀q,du all s=σ q->bL=iU q.1:=by
 have ck:=h.1;obtain⟨dg,di,bb,cl,R⟩:=id ck;have ad:∀r,bI g gs A r->r<w.heap.size:=cl;have dj:ax=4611686018427387904:=rfl;have dk:=h.2.2.1.2.2;refine ay func52 ?_;refine bu cj.i λE J dl bd aO=>?_;have aO:=aO;have dm:=bd.size;have dn:=aO.lt;have L:¬bI g gs A E:=λj=>by have:=ad _ j;omega
 refine(x0 (h.W bd)).X ?_;rintro _ V _ ⟨X,a,at_,rfl,bP,cn⟩;obtain⟨be,bi⟩:=X.of;have dp:=be.size;rw[bn,bo,aP,nB];have dr: -ax<=a/\a<=ax:=by
  cases C:bh (-ax) ax s with
  |none=>rw[cn C];unfold ax;omega
  |some q=>rw[bP q C];exact(jh C).1
 rw[lm Ω Ω,xq,show max a (0-a)=((a.natAbs:Nat):Int) by omega];have bQ:=(bd.aa _).F be;have cp:=jg bK bQ λr f a n c H bj=>(ba r ⟨a,n,c,H,bj⟩).1 f;rw[aS au.u cp];refine(Oi bi Ω Ω).X ?_;rintro aI dt _ ⟨X,gr,scope,aC,cq,dv,cr⟩;obtain⟨bk,ct⟩:=X.of;have z3:=bk.size;rw[dq (cs:=#[aI,.slice ν 0 0,Δ 0,.slice ν 0 0]) (by obtain⟨_,_,_,_,_,rfl,_⟩:=aC.ls;kernel_rfl)];refine bu cj.i λy dw dx aD aQ=>?_;have aQ:=aQ;have z4:=aD.size;have dy:=aQ.lt;have bm:=aC.ls.cells;refine b4 (vs:=[aI,.slice ν 0 0,Δ 0,.slice ν 0 0]) cj.i rfl rfl (by intro v H;simp at H;rcases H with rfl|rfl|rfl|rfl<;>first|exact bm.2|rfl) aQ λaR aE dz cu=>?_;have al:¬bI g gs A y:=λj=>by have:=ad _ j;omega
 have bR:ds aR g gs A B U ((sN all.length a.natAbs ((bh (-ax) ax s).map (·.2))).map (·.2)):=(ct.W aD).aa aE (λr f he=>by have he:r=y:=he;exact al (he▸f)) (λr f he=>by have:=R r f.2;have he:r=y:=he;omega);have bS:af (bI g gs A) w aR:=iP ((bQ.F bk).F (aD.aa _)) aE λr f he=>by have he:r=y:=he;omega
 have cw:ag aR E cj [.slice ν 0 0,.slice ν 0 0,Δ 0,.slice ν 0 0]:=(((aO.aa be L).aa bk L).W aD).aa aE (λhe=>by have he:E=y:=he;omega);have cz:an .i64 ao aR gr aI scope:=bl (aC.W aD) aE λr f he=>by
  obtain⟨cA,bi⟩:=bD aC f;have he:r=y:=he;omega
 refine(rh bR).X ?_;rintro _ bT _ ⟨rfl,Y⟩;have am:=bR.W Y;have aG:=cz.W Y;have bp:=cu.W Y;have bU:=cw.W Y;have dA:=Y.size;have z5:=aE.size;have O:∀r,li aI r->V.heap.size<=r/\r≠y/\r≠E:=λr f=>by
  obtain⟨cA,bi⟩:=bD aC f;have:=cq r f;exact⟨this,Ω,Ω⟩
 have K:du all s=match sN all.length a.natAbs ((bh (-ax) ax s).map (·.2))with
   |none=>ν
   |some (sc,s2)=>(j8 (sc.map λv=>all.getD v.toNat 0) ((bc 0 ax (σ (bg (decide (6<a.natAbs)||dH (sc.map λv=>all.getD v.toNat 0)) s2))).map (·.2))).map λq=>((⟨sc,sc.map λv=>all.getD v.toNat 0,((bh 0 ax (bg (decide (6<a.natAbs)||dH (sc.map λv=>all.getD v.toNat 0)) s2)).map (·.1)).getD 0,q.1⟩:cv),if a<0 then u3 (sc.map λv=>all.getD v.toNat 0) q.1 q.2 else q.2):=by
  unfold du;cases C:bh (-ax) ax s with
  |none=>rfl
  |some q=>
   obtain⟨a',s1⟩:=q;have:=bP _ C;subst this;simp only;show _=match fg all.length a.natAbs s1 with
    |none=>ν
    |some (sc,s2)=>_
   cases fg all.length a.natAbs s1 with
   |none=>rfl
   |some q=>
    obtain⟨sc,s2⟩:=q;simp only;show _=W3 _ (j8 _ ((bh 0 ax _).map (·.2)));cases bh 0 ax (bg (decide (6<a.natAbs)||dH (sc.map λv=>all.getD v.toNat 0)) s2)with
    |none=>rfl
    |some q=>
     obtain⟨o,G⟩:=q;simp only;show _=W3 _ (eb _ G);cases eb (sc.map λv=>all.getD v.toNat 0) G with
     |none=>rfl
     |some q=>rfl
 rw[bA,bM];cases Z:sN all.length a.natAbs ((bh (-ax) ax s).map (·.2))with
 |none=>
  rw[Z]at am K;simp only at K;refine⟨λ_=>?_,λh=>by simp at h⟩;refine Ea rfl (by intro v H;simp at H;rcases H with rfl|rfl|rfl|rfl<;>first|exact bm.2|rfl) bp rfl bU λab M=>?_;have cB:=M.size;refine⟨A,λr=>(B r\/w.heap.size<=r)/\r<ab.heap.size,_,(scope,[],0,[]),rfl,rfl,iP (bS.F (Y.aa _)) M λr f he=>by have he:r=E:=he;omega,λr f=>.inl f,λr f=>f,λr f=>⟨.inl f,by have:=R r f;omega⟩,?_,?_,λq C=>by rw[K]at C;cases C⟩
  .rw[K];have cC:iT ab g gs A B U (W3 (λx=>x.2) (ν:Option (Λ×aH))):=am.q.aa M (λhe=>by have:=ad g (.inl rfl);have he:g=E:=he;omega) (λr f _ he=>by have he:r=E:=he;exact L (he▸f)) (λr f he=>by have:=R r f.2;have he:r=E:=he;omega);exact cC
  .refine D8 (sO (bl aG M λr f he=>(O r f).2.2 he) λr f=>?_) iw iw;have N:=O r f;have ap:=(bD aG f);exact⟨λj=>by have:=ad _ j;omega,.inr Ω,Ω⟩
 |some q=>
  obtain⟨sc,s2⟩:=q;have:=cr _ Z;subst this;rw[Z]at am K;simp only at K;refine⟨λh=>by simp at h,λ_=>?_⟩;have am:=am;obtain⟨s1,cD,cE⟩:∃s1,(bh (-ax) ax s).map (·.2)=σ s1/\fg all.length a.natAbs s1=σ (scope,s2):=by
   cases C:(bh (-ax) ax s).map (·.2)with
   |none=>rw[C]at Z;cases Z
   |some s1=>rw[C]at Z;exact⟨s1,rfl,Z⟩
  obtain⟨dC,cF,rfl⟩:=Z6.1 cD;have bV:=dI cF;obtain⟨bW,dD,dE,bX⟩:=xW cE;have bq:=bV.eqs;have br:=bW.eqs;have cG:dX s2:=λP=>by rw[br.1,bq.1];rw[br.2.1,bq.2.1]at P;exact hi P
  have cH:s2.m2.length+1+s2.d8.length<=100000:=by rw[br.2.2,bq.2.2];have:=bV.1;have:=bW.1;omega
  generalize bs:(scope.map λv=>all.getD v.toNat 0)=co at K;have bY:∀z∈co,1<=z/\z<=ax:=λz aU=>by
   rw[<-bs]at aU;obtain⟨v,H,rfl⟩:=o8.1 aU;have:=bX v H;refine ch _ ?_;rw[v8,x6 Ω];exact T0 _
  have dF:co.length=scope.length:=by rw[<-bs,r9]
  have bZ:af (bI g gs A) w bT:=bS.F (Y.aa _);have cI:=jg bK bZ λr f a n c H bj=>(ba r ⟨a,n,c,H,bj⟩).1 f;rw[aK cj.p 0 bp rfl,aS au.u aG.ls];refine Ol bp aG.ls (λr f=>(O r f).2.1) cI (λr f=>by have:=(ba r f).2;omega) bX Ω λab d9 gz M b0 aV dG=>?_;rw[bs]at aV;have cB:=M.size;have bt:∀r,cU g gs A B r->¬(λr=>r=y) r:=λr f he=>by have:=R r f.2;have he:r=y:=he;omega
  have bx:∀r,bI g gs A r->¬(λr=>r=y) r:=λr f he=>by have he:r=y:=he;exact al (he▸f)
  have b1:=am.aa M bx bt;have cJ:af (bI g gs A) w ab:=iP bZ M λr f he=>by have he:r=y:=he;omega
  refine dh (λaW=>af (bI g gs A) ab aW/\en aW g gs A B (bg (decide (6<a.natAbs)||dH co) s2) U) ?_ ?_
  rotate_left
  .intro az aL;rw[bG,aj];refine⟨λdJ=>?_,λdK=>?_⟩
   .refine (uQ b1).X ?_;rintro _ cK _ ⟨cL,cM⟩;refine aL _ ⟨cL.X λr _ h=>.inl h,?_⟩;rw[ms Ω,Bool.true_or];exact cM
   .rw[aK cj.p 1 b0 rfl];refine(Dp aV.ls λz aU=>(bY z aU).1).X ?_;rintro _ cK _ ⟨rfl,b2⟩;refine(uQ (b1.W b2)).X ?_;rintro _ dL _ ⟨cN,cO⟩;refine aL _ ⟨(b2.aa _).F (cN.X λr _ h=>.inl h),?_⟩;rw[pl Ω,Bool.false_or];exact cO
  rintro aW ⟨aX,aY⟩;have dM:=aX.size;generalize bb:bg (decide (6<a.natAbs)||dH co) s2=G at K aY;have cP:dX G:=λP=>by
   subst bb;have P:(s2.big||_)=sp:=P;exact cG (Bool.or_eq_false_iff.1 P).1
  have dN:G.m2.length+1+G.d8.length<=100000:=by subst bb;exact cH
  have aY:ds aW g gs A B U (σ G):=aY;refine(nS (lo:=0) (hi:=ax) aY).X ?_;rintro _ b3 _ ⟨X,o,dO,rfl,cQ,dP⟩;obtain⟨aZ,cR⟩:=X.of;have dQ:=aZ.size;rw[bn,bo,aT cj.p rfl];have cS:=(b0.aa aX al).aa aZ al;refine bw (g:=y) (o:=2) ao.i rfl rfl cS Ξ λcT av dR a1=>?_;have a1:=a1;rw[aK cj.p 1 a1 rfl];have cV:=cR.aa av bx bt;have bz:af (bI g gs A) ab b3:=aX.F aZ;have cW:af (bI g gs A) w b3:=cJ.F bz;have b5:af (bI g gs A) w cT:=iP cW av λr f he=>by have he:r=y:=he;omega
  have ac:∀r,li d9 r->bT.heap.size<=r/\r<ab.heap.size:=λr f=>by have:=bD aV f;omega
  have b6:=bl (bl aV bz λr f j=>by have:=ad _ j;have:=ac r f;omega) av λr f he=>by have he:r=y:=he;have:=ac r f;omega
  have cX:=bl (bl (bl aG M λr f he=>(O r f).2.1 he) bz λr f j=>by have:=ad _ j;have:=O r f;omega) av λr f he=>(O r f).2.1 he;have dS:=av.size;refine(Oh cV (λt bB=>?_) b6.ls (λr f=>⟨λj=>by have:=ad _ j;have:=ac r f;omega,by have:=ac r f;omega⟩) bY Ω (ci.aa b5 h1.1) h1).X ?_
  .obtain⟨q,C,rfl⟩:=Z6.1 bB;have b7:=(dI C).eqs;intro P;rw[b7.1];rw[b7.2.1]at P;exact cP P
  rintro cm cY _ ⟨X,l,bC,b8⟩;obtain⟨aw,cZ⟩:=X.of;have dT:=aw.size;have bE:cm.cells= #[cm]/\cm.oneCell'=rs:=⟨qO bC,nK bC⟩;rw[aT cj.p rfl];have c0:=a1.aa aw al;refine bw (g:=y) (o:=3) jT.i bE.1 bE.2 c0 Ξ λQ ae dU a2=>?_;have a2:=a2;have dV:=ae.size;have b9:=cZ.aa ae bx bt;have c1:af (bI g gs A) w cY:=b5.F aw;have c2:af (bI g gs A) w Q:=iP c1 ae λr f he=>by have he:r=y:=he;omega
  have ca:=bl (bl cX aw λr f j=>by have:=ad _ j;have:=O r f;omega) ae λr f he=>(O r f).2.1 he;have a6:=bl (bl b6 aw λr f j=>by have:=ad _ j;have:=ac r f;omega) ae λr f he=>by have he:r=y:=he;have:=ac r f;omega
  have c3:ag Q E cj [.slice ν 0 0,.slice ν 0 0,Δ 0,.slice ν 0 0]:=((((((bU.aa M (λhe=>by have he:=he;omega)).aa aX L).aa aZ L).aa av (λhe=>by have he:=he;omega)).aa aw L).aa ae (λhe=>by have he:=he;omega));let S:ah:=λr=>(B r\/w.heap.size<=r)/\r<Q.heap.size;have cb:aq.rep sp bO (λr=>cU g gs A S r/\r≠y/\r≠E) Q [cm] l:=by
   refine D9 (aq.aa bC ae λr f h he=>?_) λr f h=>?_
   .have he:r=y:=he;rcases h with h|h
    .exact h
    .rcases h with h|h
     .have:=R r h.2;omega
     .omega
   .rcases h with h|h
    .have:=R r h.2;exact⟨⟨h.1,.inl h.2,f⟩,Ω,Ω⟩
    .exact⟨⟨λj=>by have:=ad _ j;omega,.inr Ω,f⟩,Ω,Ω⟩
  have c4:∀r,li aI r->cU g gs A S r/\r≠y/\r≠E:=λr f=>by
   have N:=O r f;have ap:=(bD ca f);exact⟨⟨λj=>by have:=ad _ j;omega,.inr Ω,Ω⟩,N.2⟩
  have cc:∀r,li d9 r->cU g gs A S r/\r≠y/\r≠E:=λr f=>by
   have N:=ac r f;have ap:=(bD a6 f);exact⟨⟨λj=>by have:=ad _ j;omega,.inr Ω,Ω⟩,Ω,Ω⟩
  have c5:Seen (λr=>cU g gs A S r/\r≠y/\r≠E) Q [aI,d9,Δ o,cm] ((scope,co,o,l):jG):=D8 (sO ca c4) (sO a6 cc) cb;have c6:∀q,du all s=σ q->((scope,co,o,l):jG)=iU q.1:=λq C=>by
   rw[K]at C;obtain⟨dW,bF,rfl⟩:=Z6.1 C;have N:=b8 _ bF;cases aA:bh 0 ax G with
   |none=>have e:bc 0 ax (σ G)=ν:=aA;rw[e]at bF;cases bF
   |some ai=>
    have ap:=cQ ai aA;rw[N,ap];rfl
  have c7:∀v∈[aI,d9,Y9 .i64 o,cm],v.oneCell'=rs:=by
   intro v H;simp at H;rcases H with rfl|rfl|rfl|rfl
   .exact bm.2
   .exact a6.ls.cells.2
   .rfl
   .exact bE.2
  have cd:∀r,cU g gs A B r->cU g gs A S r/\r≠y/\r≠E:=λr f=>by
   have:=R r f.2;exact⟨⟨f.1,.inl f.2,Ω⟩,Ω,Ω⟩
  refine dh (λbH=>∃aJ,af (bI g gs A) Q bH/\(∀r,aJ r->A r\/Q.heap.size<=r)/\∃W,nU bH g gs aJ W (λr=>cU g gs A S r/\r≠y/\r≠E) U ((du all s).map (·.2))) ?_ ?_
  .rintro bH ⟨aJ,aM,aN,W,c8⟩;have dY:=aM.size;refine Ea rfl c7 (a2.aa aM al) rfl (c3.aa aM L) λce a7=>?_;have dZ:=a7.size;have cf:∀r,bI g gs aJ r->¬(λr=>r=E) r:=λr f he=>by
    have he:r=E:=he;subst he;rcases f with f|f|f
    .exact L (.inl f)
    .exact L (.inr (.inl f))
    .rcases aN _ f with f|f
     .exact L (.inr (.inr f))
     .omega
   have cg:∀r,(cU g gs A S r/\r≠y/\r≠E)->cU g gs aJ (λr=>(B r\/w.heap.size<=r)/\r<ce.heap.size/\(r<Q.heap.size\/B r)) r:=λr h=>⟨λj=>h.1.1 (j.imp id (Or.imp id λj=>(aN r j).elim id λbf=>by have:=h.1.2.2;omega)),h.1.2.1,by have:=h.1.2.2;omega,.inl h.1.2.2⟩;have c9:=c8.aa a7 (cf g (.inl rfl)) (λr f _=>cf r f) (λr f=>f.2.2);refine⟨aJ,λr=>(B r\/w.heap.size<=r)/\r<ce.heap.size/\(r<Q.heap.size\/B r),_,(scope,co,o,l),rfl,rfl,iP (c2.F aM) a7 λr f he=>by have he:r=E:=he;omega,λr f=>(aN r f).imp id λh=>Ω,λr f=>⟨f.1,f.2.1⟩,λr f=>⟨.inl f,by have:=R r f;omega,.inr f⟩,c9.out cg λr f=>f.2.1,?_,c6⟩;refine D9 (aq.aa (aq.aa c5 aM λr _ h j=>?_) a7 λr _ h he=>?_) λr _ h=>cg r h
   .rcases h with h|h
    .exact h
    .exact h.1.1 j
   .rcases h with h|h
    .exact h
    .exact h.2.2 he
  .intro az aL;rw[aj];refine⟨λda=>?_,λdb=>?_⟩
   .intro bJ aB _ _;have ea:=aB.size;have dc:∀r,(cU g gs A S r/\r≠y/\r≠E)->cU g gs A (ri bJ.heap.size) r:=λr h=>⟨h.1.1,by have:=h.1.2.2;show r<bJ.heap.size;omega⟩;refine Oj (b9.W aB) cd dc (λt bB=>?_) (a2.W aB) (sO (a6.W aB) cc) (bN cb aB) λec aJ dd aN de=>?_
    .obtain⟨q,C,rfl⟩:=Z6.1 bB;cases aA:bh 0 ax G with
     |none=>have e:bc 0 ax (σ G)=ν:=aA;rw[e]at C;cases C
     |some ai=>
      have e:bc 0 ax (σ G)=σ ai:=aA;rw[e]at C;have h1:q.2.m2=ai.2.m2/\q.2.d8.length<=ai.2.d8.length:=Eb (l:=q.1) (s':=q.2) C;have N:=dI (n:=ai.1) (s':=ai.2) aA;have ap:=N.eqs.2.2;have ed:=N.1;rw[h1.1,ap];have:=h1.2;omega
    .refine aL _ ⟨aJ,(aB.aa _).F dd,λr f=>(aN r f).imp id λh=>Ω,ri bJ.heap.size,?_⟩;have e:(du all s).map (·.2)=((j8 co ((bc 0 ax (σ G)).map (·.2))).map (·.2)).map (u3 co l):=by
      rw[K];cases C:j8 co ((bc 0 ax (σ G)).map (·.2))with
      |none=>rfl
      |some q=>
       have N:=b8 _ C;simp only[Z0,m5 da,N]
     rw[e];exact de
   .refine aL _ ⟨A,af.refl _ _,λr f=>.inl f,B,?_⟩;have e:(du all s).map (·.2)=(j8 co ((bc 0 ax (σ G)).map (·.2))).map (·.2):=by
     rw[K];cases C:j8 co ((bc 0 ax (σ G)).map (·.2))with
     |none=>rfl
     |some q=>simp only[Z0,m6 db]
    rw[e];exact b9.qr cd
def nV(l:Λ):Prop:=∀v∈l,0<=v/\v<64
theorem Ec(h:nV l):v∈bB l↔v∈l:=by
 unfold bB;rw[T2,rc];refine⟨λh=>h.2,λa=>⟨?_,a⟩⟩;obtain⟨h1,e⟩:=h v a;exact o8.2 ⟨v.toNat,by grind,Ω⟩
theorem On(l:Λ):nV (bB l):=λv a=>by
 obtain⟨n,e,rfl⟩:=o8.1 (T2.1 a).1
 grind
theorem yp(l:Λ):(bB l).Pairwise (·< ·):=by
 grind [bB,List.pairwise_lt_range]
theorem Ed(l:Λ):(bB l).Nodup:=(yp l).imp Ω
where
 nodup_le' {a b:Λ} (h:a.Nodup) (U:∀x∈a,x∈b):a.length<=b.length:=by
  induction a generalizing b with
  |nil=>grind
  |cons x a ih=>
   have bf:=List.nodup_cons.1 h;have hx:=U x (.head _);have:=ih bf.2 λy hy=>(List.mem_erase_of_ne (λ(he:y=x)=>bf.1 (by rw[<-he];exact hy))).2 (U y (.tail _ hy))
   grind
theorem Ee(n:Nat):(0:Int)<64 ^ n:=Int.pow_pos Ω
theorem va:∀(l:Λ),nV l->0<=kE l/\kE l<64 ^ l.length
 |[],_=>by simp[kE]
 |x::l,h=>by
  have j:=va l λy a=>h y (.tail _ a);have f:=h x (.head _);have p:=Ee l.length;simp only[kE,Y4];have e:(64:Int) ^ (l.length+1)=64*64 ^ l.length:=Ω
  have h1:x*64 ^ l.length<=63*64 ^ l.length:=W6 Ω Ω;have q:0<=x*64 ^ l.length:=Int.mul_nonneg f.1 Ω;omega
def jH:Λ->Λ->Int
 |x::a,y::b=>if x<y then-1 else if y<x then 1 else jH a b
 |[],[]=>0
 |[],_::_=>-1
 |_::_,[]=>1
theorem Ef:∀(a b:Λ),a.length=b.length->nV a->nV b->(jH a b<0↔kE a<kE b)/\(jH a b=0↔a=b)/\(kE a=kE b->a=b)
 |[],[],_,_,_=>by simp[jH]
 |[],_::_,h,_,_=>by simp at h
 |_::_,[],h,_,_=>by simp at h
 |x::a,y::b,h,r,s=>by
  have f:a.length=b.length:=by grind
  have j:=λz e=>r z (.tail _ e);have p:=λz e=>s z (.tail _ e);have A:=Ef a b f j p;have w:=va a j;have B:=va b p;have C:=Ee b.length;simp only[jH,kE];rw[f]at w ⊢;have step:∀u v:Int,u<v->u*64 ^ b.length+64 ^ b.length<=v*64 ^ b.length:=λu v E=>by
   have:=W6 (show u+1<=v by omega) (show(0:Int)<=64 ^ b.length by omega)
   grind
  by_cases h1:x<y
  .grind
  .rw[m6 h1];by_cases q:y<x
   .rw[m5 q];have:=step y x q
    grind
   grind
def lV(l:Λ):Prop:=nV l/\l.length<=6
theorem Eg(h:lV l):0<=kE l/\kE l<64 ^ 6:=by
 have:=va l h.1;have e:(64:Int) ^ l.length<=64 ^ 6:=by
  have a:=h.2
  match l.length,a with
  |0,_=>decide
  |1,_=>decide
  |2,_=>decide
  |3,_=>decide
  |4,_=>decide
  |5,_=>decide
  |6,_=>decide
  |n+7,h=>omega
 omega
theorem yq{b:Λ}(f:lV a)(h:lV b):(dm a<dm b↔a.length<b.length\/(a.length=b.length/\jH a b<0))/\(dm a=dm b->a=b):=by
 have h1:=Eg f;have j:=Eg h;have e:(64:Int) ^ 6=68719476736:=Φ
 rw[e]at h1 j;unfold dm;rw[e];by_cases p:a.length=b.length
 .have:=Ef a b p f.1 h.1
  grind
 omega
theorem yr(g:cZ):∀l:List cZ,(ji g l).Perm (g::l)
 :=by
 intro a;induction a<;>grind [ji]
theorem Oo{g:cZ}:∀{l:List cZ},l.Pairwise (λa b=>dm a.1<dm b.1)->(∀h∈l,dm h.1≠dm g.1)->(ji g l).Pairwise (λa b=>dm a.1<dm b.1)
 :=by
 intro a;induction a<;>grind [ji,List.pairwise_cons,yr]
theorem Eh:∀(l acc:List cZ),acc.Pairwise (λa b=>dm a.1<dm b.1)->l.Pairwise (λa b=>dm a.1≠dm b.1)->(∀a∈acc,∀b∈l,dm a.1≠dm b.1)->
  (l.foldl (λl g=>ji g l) acc).Pairwise (λa b=>dm a.1<dm b.1)/\(l.foldl (λl g=>ji g l) acc).Perm (acc++l)
 |[],acc,h,_,_=>by grind
 |g::l,acc,h,e,j=>by
  have f:=List.pairwise_cons.1 e;have:=Eh l (ji g acc) (by grind [Oo]) f.2 (by grind [yr])
  grind [yr]
theorem ys{α:Type}{f:α->Int}:∀{L M:List α},L.Pairwise (λa b=>f a<f b)->M.Pairwise (λa b=>f a<f b)->(∀x,x∈L↔x∈M)->L=M
 |[],M,_,_,h=>by
  cases M with
  |nil=>rfl
  |cons y M=>exact m7 ((h y).2 (.head _)) Ξ
 |x::L,[],_,_,h=>m7 ((h x).1 (.head _)) Ξ
 |x::L,y::M,h1,e,h=>by
  have j:=List.pairwise_cons.1 h1;have p:=List.pairwise_cons.1 e;have q:x=y:=by
   grind
  subst q;rw[ys j.2 p.2 λz=>⟨λr=>?_,λr=>?_⟩]
  all_goals grind
structure ep(co:Λ)(k:Int)(g:cZ):Prop where
 scope:lV g.1
 up:g.1.Pairwise (·< ·)
 d6:∀v∈g.1,v<co.length
 len:g.2.length=(aB (aA co g.1)).toNat
 small:aB (aA co g.1)<=4096
 fP:∀c∈g.2,0<=c/\c<=k
theorem jl{sc:Λ}(a:∀z∈co,1<=z/\z<=32)(e:∀v∈sc,0<=v/\v<co.length):∀z∈aA co sc,1<=z/\z<=32:=λz h=>by
 obtain⟨v,f,rfl⟩:=o8.1 h
 grind [T0]
theorem Oq{b:Λ}(h:a.Perm b):aB a=aB b:=by
 induction h<;>grind [aB]
theorem Ot{b:Λ}(h:a.length=b.length):(bX k a b).length=b.length:=by simp[bX,h]
theorem yt{b:Λ}(hk:0<=k)(f:∀c∈a,0<=c/\c<=k)(h:∀c∈b,0<=c/\c<=k):∀c∈bX k a b,0<=c/\c<=k:=by
 induction a generalizing b with
 |nil=>intro c e;simp[bX]at e
 |cons x a j=>
  cases b with
  |nil=>intro c e;simp[bX]at e
  |cons y b=>
   intro c e;have p:=f x (.head _);have q:=h y (.head _);rcases List.mem_cons.1 (show c∈min (x+y) k::bX k a b from e)with rfl|e
   .omega
   .exact j (by grind) (by grind) c e
def kH(l:List cZ):Prop:=(l.map (·.1)).Nodup
theorem Ou{acc:List cZ}{g:cZ}(hk:0<=k)(f:∀h∈acc,ep co k h)(j:kH acc)(a:ep co k g):(∀h∈jE k acc g,ep co k h)/\kH (jE k acc g)/\(jE k acc g).length<=acc.length+1:=by
 unfold jE;split
 .refine⟨λh ap=>?_,?_,Ξ⟩
  .obtain⟨e,hm,rfl⟩:=o8.1 ap;have h1:=f e hm;split
   .rename_i he;have p:e.2.length=g.2.length:=by rw[h1.len,a.len,he]
    exact⟨h1.scope,h1.up,h1.d6,by grind [Ot,ep.len],h1.small,yt hk h1.fP a.fP⟩
   .exact h1
  grind [kH]
 grind [kH]
theorem yu{co:Λ}{k:Int}(hk:0<=k):∀{l acc:List cZ},(∀h∈acc,ep co k h)->kH acc->(∀g∈l,ep co k g)->(∀h∈l.foldl (jE k) acc,ep co k h)/\kH (l.foldl (jE k) acc)/\(l.foldl (jE k) acc).length<=acc.length+l.length
 |[],acc,a,e,_=>by grind
 |g::l,acc,a,e,f=>by
  obtain⟨h1,j,q⟩:=Ou hk a e (f g (.head _));obtain⟨r,s,w⟩:=yu hk h1 j λx p=>f x (.tail _ p)
  grind
theorem vb(h:nV l)(a:l.Nodup):(bB l).Perm l:=by grind [Ed,Ec]
theorem yv:∀{l:Λ},(∀z∈l,1<=z/\z<=32)->l.map (λz=>min z 4097)=l
 |[],_=>rfl
 |z::l,h=>by
  have a:=h z (.head _);rw[U4,yv (by grind)]
  grind
theorem Ov{x:cv}(hk:0<=k)(a:0<=x.other)(e:∀p∈x.lines,0<=p.2):0<=lh x k t/\lh x k t<=k:=by
 grind [lh]
theorem vc{all:Λ}{x:cv}(h:sy all N x)(e:all.length<=64):nV x.scope:=λv a=>by
 have:=h.scope.2 v a;omega
theorem rj{f:ca}{x:cv}(a:fb N f)(q:x∈f.d7):ep f.co f.k (jD f.co f.k x):=by
 obtain⟨h1,r,B⟩:=a.d7 x q;have s:=a.co.2.1;have w:=vc h1 s;have e:=vb w h1.scope.1;have h:∀v∈bB x.scope,0<=v/\v<f.co.length:=λv hm=>h1.scope.2 v (by grind);have y:=jl a.co.2.2 h;have C:aB (aA f.co (bB x.scope))=aB x.co:=by rw[h1.co];exact Oq (e.map _)
 refine⟨⟨On _,?_⟩,yp _,λv hm=>(h v hm).2,?_,?_,λc A=>?_⟩
 .show (bB x.scope).length<=6;rw[e.length_eq];exact r
 .show ((bk _).map _).length=_;rw[r9,jz y];rfl
 .show aB (aA f.co (bB x.scope))<=4096;have E:∀z∈x.co,1<=z/\z<=32:=λz j=>by
   rw[h1.co]at j;exact jl a.co.2.2 (by grind) z j
  grind [dH,yv]
 .obtain⟨t,_,rfl⟩:=o8.1 A;exact Ov (by have:=a.k.1;omega) h1.other λp e=>(h1.lines.2 p e).2
theorem mT{f:ca}(a:fb N f):(∀g∈gi f,ep f.co f.k g)/\kH (gi f)/\(gi f).length<=f.d7.length:=by
 have:=yu (k:=f.k) (by have:=a.k.1;omega) (acc:=[]) (by grind) List.nodup_nil λg h=>by
  obtain⟨x,j,rfl⟩:=o8.1 h;exact rj a j
 refine⟨this.1,this.2.1,?_⟩;have e:=this.2.2;rw[List.length_nil,r9,V0]at e;exact e
theorem Ei{l:List cZ}(e:∀g∈l,ep co k g)(p:kH l):l.Pairwise λa b=>dm a.1≠dm b.1:=by
 have h1:l.Pairwise λa b=>a.1≠b.1:=by
  grind [kH]
 exact h1.imp_of_mem λ{a b}f h j he=>j ((yq (e a f).scope (e b h).scope).2 he)
theorem sP{f:ca}(h:fb N f):(gj f).Pairwise (λa b=>dm a.1<dm b.1)/\(gj f).Perm ((gi f).filter gh):=by
 obtain⟨h1,j,_⟩:=mT h;have p:∀g∈(gi f).filter gh,ep f.co f.k g:=by grind
 have q:kH ((gi f).filter gh):=(List.Sublist.map _ List.filter_sublist).nodup j;have:=Eh ((gi f).filter gh) [] List.Pairwise.nil (Ei p q) (by grind);refine⟨this.1,?_⟩;have e:=this.2;rw[List.nil_append]at e;exact e
theorem vd{f:ca}(a:fb N f):∀g∈gj f,ep f.co f.k g:=by grind [mT,sP]
theorem Ow{f:ca}(e:fb N f){M:List cZ}(h:M.Perm ((gi f).filter gh))(U:M.Pairwise λa b=>dm a.1<=dm b.1):M=gj f:=by
 obtain⟨h1,s⟩:=sP e;have j:kH ((gi f).filter gh):=(List.Sublist.map _ List.filter_sublist).nodup (mT e).2.1;have p:=(h.map (λg:cZ=>g.1)).nodup_iff.2 j;have q:∀g∈M,ep f.co f.k g:=by grind [mT]
 have r:=Ei q p;refine ys ?_ h1 (by grind);exact U.imp₂ Ω r
structure kI(n:aG):Prop where
 k:1<=n.k/\n.k<=2147483648
 co:1<=n.co.length/\n.co.length<=64/\∀z∈n.co,1<=z/\z<=32
 zero:0<=n.zero/\n.zero<=n.k
 lW:n.unary.length=n.co.length
 unary:∀(i:Nat)(z:Int)(u:Λ),n.co[i]?=σ z->n.unary[i]?=σ u->u.length=z.toNat/\∀c∈u,0<=c/\c<=n.k
 d7:∀g∈n.d7,ep n.co n.k g/\2<=g.1.length
theorem Ox(z:Int):aB [z]=z:=by simp[aB]
theorem ve:∀{l:List cZ}{n:aG},kI n->(∀g∈l,ep n.co n.k g)->kI (l.foldl (λn g=>match g.1 with
 |[]=>{n with zero:=g.2.getD 0 0}
 |[v]=>{n with unary:=n.unary.set v.toNat g.2}
 |_=>{n with d7:=n.d7++[g]}) n)/\(l.foldl (λn g=>match g.1 with
 |[]=>{n with zero:=g.2.getD 0 0}
 |[v]=>{n with unary:=n.unary.set v.toNat g.2}
 |_=>{n with d7:=n.d7++[g]}) n).co=n.co
 |[],n,h,_=>⟨h,rfl⟩
 |g::l,n,h,q=>by
  have e:=q g (.head _);have p:∀x∈l,ep n.co n.k x:=by grind
  rw[List.foldl_cons];obtain⟨sc,cs⟩:=g
  match sc,e with
  |[],e=>
   have y:=e.len;refine ve ⟨h.k,h.co,?_,h.lW,h.unary,h.d7⟩ p;have h1:cs.length=1:=by grind [aA,aB]
   have s:cs[0]?=σ (cs.getD 0 0):=by grind
   exact e.fP _ (x5 s)
  |[v],e=>
   have A:=e.scope.1 v (.head _);have B:=e.d6 v (.head _);refine ve ⟨h.k,h.co,h.zero,by grind [kI.lW],λi z u w f=>?_,h.d7⟩ p;by_cases hi:v.toNat=i
   .subst hi;have C:=h.lW;rw[Z5 Ω]at f;cases f;have E:aA n.co [v]=[z]:=by
     grind [aA]
    refine⟨?_,e.fP⟩;have:=e.len
    grind [Ox]
   .rw[W5 hi]at f;exact h.unary i z u w f
  |a::b::r,e=>
   refine ve ⟨h.k,h.co,h.zero,h.lW,h.unary,λx j=>?_⟩ p;rcases o9.1 j with j|j
   .exact h.d7 x j
   grind
theorem Ej{f:ca}(a:fb N f):kI (dr f)/\(dr f).co=f.co:=by
 unfold dr;have h:=a.co;refine ve ⟨a.k,h,⟨by grind,by show(0:Int)<=f.k;have:=a.k.1;omega⟩,Ξ,λi z u h1 e=>?_,by grind⟩ (vd a);have e:(f.co.map λz=>u9 z.toNat (0:Int))[i]?=σ u:=e;have h1:=h1;rw[x8,h1]at e;cases e;refine⟨Ξ,λc j=>?_⟩;rw[(List.mem_replicate.1 j).2];have:=a.k.1
 grind
def mU(x:cv)(k:Int)(i:Nat)(t:Λ):Int:=match(x.lines.take i).find? (λp=>decide (p.1=t))with
 |some p=>min p.2 k
 |none=>min x.other k
theorem Ek(x:cv)(k:Int)(t:Λ):mU x k 0 t=min x.other k:=by simp[mU]
theorem El(x:cv)(k:Int)(t:Λ):mU x k x.lines.length t=lh x k t:=by
 unfold mU lh;rw[p8]<;>cases x.lines.find? (λp=>decide (p.1=t))<;>rfl
theorem Em{x:cv}{i:Nat}{p:Λ×Int}(a:(x.lines.map (·.1)).Nodup)(hi:x.lines[i]?=σ p)(t:Λ):mU x k (i+1) t=if t=p.1 then min p.2 k else mU x k i t:=by
 unfold mU;rw[u5,hi,l7,List.find?_append];by_cases e:t=p.1
 all_goals grind [c8,X5]
theorem vf(h:v∈l):l[l.idxOf v]?=σ v:=by
 grind
theorem Oy{i:Nat}(a:l.Nodup)(h:l[i]?=σ v):l.idxOf v=i:=by
 grind
def gn(scope a:Λ):Λ:=a.map λv=>((scope.idxOf v:Nat):Int)
theorem vg{q:Λ}(s:scope.Nodup)(a:q.Perm scope):Good (gn scope q) scope.length:=by
 have w:=a.nodup_iff.2 s;refine⟨by simp[gn,a.length_eq],λi p f=>?_⟩;unfold gn at f;rw[x8]at f;obtain⟨v,x,rfl⟩:=Z6.1 f;have hm:v∈scope:=a.mem_iff.1 (x5 x);have A:=List.idxOf_lt_length_iff.2 hm;refine⟨Ω,λj B h=>?_⟩;unfold gn at h;rw[x8]at h;obtain⟨u,r,he⟩:=Z6.1 h;have y:=a.mem_iff.1 (x5 r);have e:scope.idxOf u=scope.idxOf v:=Ω
 have h1:=vf y;rw[e,vf hm]at h1;have z:v=u:=Z7 h1;subst z;have C:=Oy w r
 grind
theorem Oz(e:a[j]?=σ v):(gn scope a)[j]?=σ ((scope.idxOf v:Nat):Int):=by
 grind [gn]
theorem OA(e:scope.Nodup)(f:a.Perm scope):fa (aA co scope) (gn scope a)=aA co a:=by
 refine j9 λj=>?_
 grind [uL,gn,aA,vg,Da,u7,vf]
theorem En(f:scope.Nodup)(h:a.Perm scope)(q:t.length=scope.length):oF (gn scope a) t=q6 scope a t:=by
 have r:=vg f h;refine(C9 r q (by simp[q6]) λj p e=>?_).symm;unfold gn at e;rw[x8]at e
 grind [Z6,List.Perm.length_eq,q6,u7]
theorem OB{f:ca}{x:cv}(e:fb N f)(s:x∈f.d7)(G:cs.length=(aB x.co).toNat)(w:∀t,cW x.co t->bd x.co cs t=lh x f.k t):
  fa x.co (gn x.scope (bB x.scope))=aA f.co (bB x.scope)/\pL x.co cs (gn x.scope (bB x.scope))=(jD f.co f.k x).2:=by
 obtain⟨h1,H,I⟩:=e.d7 x s;have y:=vc h1 e.co.2.1;have a:=vb y h1.scope.1;have z:=h1.co;have h:fa x.co (gn x.scope (bB x.scope))=aA f.co (bB x.scope):=by rw[z];exact OA h1.scope.1 a
 have A:=vg h1.scope.1 a;have B:∀v∈bB x.scope,0<=v/\v<f.co.length:=λv hm=>h1.scope.2 v (by grind);have j:dd (aA f.co (bB x.scope)):=jl e.co.2.2 B;refine⟨h,?_⟩;have C:x.co.length=x.scope.length:=by grind
 unfold pL;rw[h];show _=(bk (aA f.co (bB x.scope))).map λt=>lh x f.k (q6 x.scope (bB x.scope) t);refine j9 λq=>?_;rw[x8,x8];have J:=kC j;by_cases p:q<(aB (aA f.co (bB x.scope))).toNat
 .have E:=q0 j (i:=q) Ω;rw[E,List.getElem?_range p];simp only[Z0];have F:=q2 j p;have r:(b1 (aA f.co (bB x.scope)) q).length=x.scope.length:=by rw[ix];simp[aA,a.length_eq]
  rw[En h1.scope.1 a r,w];have:=MP A C (by rw[h];exact F);rw[En h1.scope.1 a r]at this;exact this
 grind [jz]
theorem OC{e:Λ}(U:dd szs)(h1:a.length=(aB szs).toNat)(f:e.length=(aB szs).toNat):
  bX k a e=(Z4 (aB szs).toNat).map λ(q:Nat)=>min (bd szs a (b1 szs q)+bd szs e (b1 szs q)) k:=by
 grind [xR,bX,List.zipWith_self]
theorem OD{m:Nat}{d:List (x1×x1)}{a:List (Λ)}(j:ag w di jU [.map (σ m)])(hm:de w m d)(p:d.map (·.1)=a.map eo)(f:rg a)(C:a.length<65536):
  ak x7 KB [.func (.func nw) #[] #[Γ di],DP] w λv I=>Ext w I/\∃g M,M.Perm a/\u1 ih M 0 M.length/\pQ I g v M:=by
 refine ay func233 ?_;refine(NB j hm p (λq h=>(f q h).1) Ω).X ?_;rintro v J _ ⟨s,g,L,bK,e,x⟩;refine(NQ x (f.perm e) (by rw[e.length_eq];omega)).X ?_;rintro _ V _ ⟨y,M,z,A,B⟩;exact⟨s.then y (λr E h=>by have:=bK r h;omega),g,M,z.F e,A,B⟩
theorem Eo{α β:Type}{f:α->β}:∀{M:List β}{D:List α},M.Perm (D.map f)->∃L:List α,L.Perm D/\L.map f=M
 |[],D,h=>by
  have h1:=h.length_eq;simp at h1;have:D=[]:=c9 h1.symm;exact⟨[],by rw[this],rfl⟩
 |x::M,D,h=>by
  have a:x∈D.map f:=h.mem_iff.1 (.head _);obtain⟨p,e,rfl⟩:=o8.1 a;obtain⟨A,B,rfl⟩:=List.append_of_mem e;have j:(f p::M).Perm (f p::(A++B).map f):=h.F (by
   rw[n9,U4,n9];exact List.perm_middle)
  obtain⟨L,q,r⟩:=Eo (List.Perm.cons_inv j);exact⟨p::L,(q.cons p).F List.perm_middle.symm,by rw[U4,r]⟩
theorem Ep{g:Nat}{cs:List x1}(r:a.length=6)(s:n<=6)(f:cs=ints .i8 a)(h:ag w g cI cs):aF .i8 w (.slice (σ (if 6=0 then⟨g,0,ν⟩else⟨g,0+0*1,ν⟩)) (n-0) (6-0)) (a.take n):=by
 subst f;rw[m6 Ω];unfold aF;have p:(a.take n).length=n:=by rw[j6];omega
 rw[p];refine⟨Θ,g,0,_,6,rfl,Ω,by simp[maxLen],λ_=>rfl,λj v e=>?_⟩;have q:=(x4.1 e).1;refine h.range j v ?_;rw[ints,S0,Y3 (by simp[ints]at q;omega)]at e;exact e
def OE(D L:Told):Prop:=L.Perm D/\u1 (λp=>ih (pad p.1)) L 0 L.length
theorem OF{g m:Nat}{o:Int}{D:Told}(h:e1 w g m szs k o D)(a7:D.length<65536):ak x7 JH [Γ g] w λv I=>Ext w I/\∃L:Told,OE D L/\bH (e0 w.heap.size) bO I [v] L:=by
 obtain⟨⟨sv,gs,Y,hm⟩,a8,U,bR,ax⟩:=id h;have bb:rg (D.map λp=>pad p.1):=λbS hk=>by
  obtain⟨p,bc,rfl⟩:=o8.1 hk;exact sF U (ax p bc).1
 refine ay func145 ?_;rw[cV e8.u];simp only[l9,aW];rw[aN fM.p 3 Y rfl];refine Nz.X ?_;rintro _ J _ ⟨Z,di,rfl,bU,bd⟩;refine(OD bd (a8.W Z) (by rw[T8,T8];rfl) bb (by simpa using a7)).X ?_;rintro bV V _ ⟨az,bW,M,be,bg,aA⟩;obtain⟨L,ab,K⟩:=Eo be;have aB:M.length=L.length:=by rw[<-K];simp
 have bX:=ab.length_eq;have s1:=Z.size;have s2:=az.size;have aD:=Z.F az;rw[eI k8.u aA];refine bT.range L.length (λi out e=>Ext V e/\bH (e0 V.heap.size) bO e [out] (L.take i)) Ω ⟨Ext.refl _,by rw[List.take_zero];exact iw⟩ ?_ ?_
 rotate_left
 .rintro out e bh ⟨B,N⟩;rw[aB];simp only[aP,aj];refine⟨λh=>Ω,λ_=>⟨aD.F B,L,⟨ab,λp q x y h1 bi bY bj bk=>?_⟩,?_⟩⟩
  .exact bg p q (pad x.1) (pad y.1) h1 bi Ω (by rw[<-K,x8,bj];rfl) (by rw[<-K,x8,bk];rfl)
  .rw[p8]at N;exact aq.X N (λr _ h=>by have h:=h;show w.heap.size<=r;omega) λ_ _ h=>h
 rintro i out e bh hi ⟨B,N⟩ bl;obtain⟨⟨t,c⟩,ac⟩:∃p,L[i]?=σ p:=⟨_,x6 hi⟩;have ad:(t,c)∈D:=ab.mem_iff.1 (x5 ac);have ah:=(ax _ ad).1;have aE:=yc U ah;have al:t.length=szs.length:=aE.1;have aF:=U.1;have bm:nR (pad t):=sF U ah;have O:=bm.1;have bn:M[i]?=σ (pad t):=by rw[<-K,x8,ac];rfl
 rw[aB];simp only[aP,aj];refine⟨λ_=>?_,λh=>Ω⟩;rw[NP rfl (aA.W B) bn];refine bu cI.i λam bZ b0 aG aH=>?_;refine sE O rfl aH λbo bp b1 P=>?_;have b2:=aG.size;have b3:=aH.lt;have bq:Ext e bo:=aG.put bp Ω;intro aI E _ _;have ao:=bq.F E;have ap:=(aD.F B).F ao;have aJ:=h.W ap;obtain⟨⟨b5,b6,b7,b8⟩,b9,_⟩:=id aJ;have ca:=ao.size;rw[aN fM.p 3 (Y.W ap) rfl,pP O (P.W E).range];refine Ns aJ ah (λf br=>?_) (λbs=>m7 rfl (bs _ ad));have bt:f=c:=by
  have:=DD h.nodup br ad rfl;exact congrArg Prod.snd this
 subst bt;simp only[Bool.false_eq_true,if_false];rw[dq (cs:=#[.slice ν 0 0,Δ f]) Ψ];refine bu gF.i λQ cb cc au aM=>?_;refine⟨.inl au,?_⟩;refine b4 (vs:=[.slice ν 0 0,Δ f]) gF.i rfl rfl (by intro v aQ;simp at aQ;rcases aQ with rfl|rfl<;>rfl) aM λC bx cd aR=>?_;have cf:=au.size;have cg:=aM.lt;have S:Ext aI C:=au.put bx Ω;have aU:=ao.F S;have aV:=ap.F S;rw[aN fM.p 0 (Y.W aV) rfl,aS ai.u (hm.ls.W aV)];rw[ux cI.u fY.i (l:=0) (h:=szs.length) (m:=6) iN (nF _ _ rfl) dU Ω Ω Ω];have aX:=Ep O aF rfl ((P.W E).W S);rw[<-al,Dy]at aX;rw[<-al,aS mz.u aX];have bz:=(P.W E).W S;have ch:am<aI.heap.size:=(P.W E).lt;have ci:Q<C.heap.size:=aR.lt;refine ce.range t.length (λj s=>af (λr=>r=Q\/C.heap.size<=r) C s/\∃aO gt,C.heap.size<=gt/\ag s Q gF [aO,Δ f]/\an .i64 ae s gt aO (t.take j)) Ω ⟨af.refl _ _,_,C.heap.size,o5 _,aR,an.nil _ _ _ _⟩ ?_ ?_
 .rintro j s bA bB ⟨z,aO,gt,bD,W,X⟩ bE;obtain⟨x,av⟩:=aC (l:=t) bB;have cj:=aE.2 x (x5 av);have ck:Ext e s:=aU.then z (λr aY he=>by rcases he with rfl|he<;>omega);have aZ:=Ep O aF rfl (bz.aa z (λhe=>by rcases he with he|he<;>omega));rw[<-al,Dy]at aZ;simp only[aP,aj];refine⟨λ_=>?_,λh=>Ω⟩;rw[ba mz.u fY.i Ψ aZ av,aK gF.p 0 W rfl,e9 fY.u ae.u,lm Ω Ω];refine dl ai.u ae.i rfl λa ga bF cl A bG=>?_;refine iO ai.u ae.i rfl (X.W A) bG.ls Θ Θ λa1 bI bJ cm G H=>?_;have bK:=z.size;have bL:=A.size;have cn:=H.size;rw[aT gF.p rfl];refine bw (g:=Q) (o:=0) ai.i G.ls.cells.1 G.ls.cells.2 ((W.W A).aa H (λhe=>by have he:=he;omega)) Ξ λcp a2 cq bM=>?_;simp only[aL];refine bE _ ⟨((z.F (A.aa _)).F (H.X λr _ he=>.inr (by have he:r=gt:=he;omega))).F (a2.X λr _ he=>.inl he),a1,bI,Ω,bM,?_⟩;rw[u5,av];exact G.aa a2 (λ_ he=>by have he:=he;omega)
 .rintro s bA ⟨z,aO,gt,bD,W,X⟩;simp only[aP,aj];refine⟨λh=>Ω,λ_=>?_⟩;rw[p8]at X;rw[bC gF.p gF.i rfl W.range];have bK:=z.size;have bP:=aU.then z (λr aY he=>by rcases he with rfl|he<;>omega);have a6:bH (e0 e.heap.size) bO s [aO,Δ f] (t,f):=⟨[aO],[Δ f],e0 e.heap.size,bO,rfl,λ_ h=>h,λ_ h=>h.elim,λ_ _ _ h=>h,aq.X (mD X) (λr _ h=>by subst h;show e.heap.size<=r;omega) (λ_ _ h=>h),rfl⟩;refine la (α:=Λ×Int) (R:=bO) qL.u gF.i Φ rfl a6 λu bF A _ bQ=>?_;have aw:=bP.F A;have bL:=aw.size;refine ox qL.u gF.i rfl (bN (nI N) aw) bQ (bN a6 A) (λr _ h bf=>?_) Θ Θ λa1 bJ G H=>?_
  .rcases bf with bf|bf
   .have:=h.2;have:e.heap.size<=r:=bf;omega
   .exact bf
  simp only[aL];have cr:=B.size;refine bl _ _ ⟨(B.F aw).then H (λr aY h=>by have h:=h.1;have h:=h;omega),?_⟩;rw[u5,ac];refine aq.X G (λr _ h=>?_) λ_ _ h=>h;show V.heap.size<=r;rcases h with h|h|h
  .exact h.1
  .have h:=h;omega
  .omega
theorem Er{s:Λ}(U:dd s):t∈bk s↔cW s t:=by
 refine⟨λh=>?_,λ⟨n,h⟩=>x5 (oD U h)⟩;obtain⟨i,hi⟩:=c8.1 h;exact⟨_,kD U hi⟩
theorem Es:∀{s:Λ},dd s->(bk s).Pairwise λa b=>ih a<ih b
 |[],_=>by simp[bk]
 |k::s,U=>by
  have z:=Es U.tail;have f:∀t∈bk s,0<=ih t/\ih t<32 ^ s.length:=λt p=>by
   have A:=(Er U.tail).1 p;have h1:=oG.1 A;have r:=u0 t λx q=>by
    obtain⟨i,hi,rfl⟩:=List.getElem_of_mem q;obtain⟨a,e⟩:=aC (l:=s) (i:=i) Ω;have C:=h1.2 i a _ e (x6 hi);have E:=(U.tail a (x5 e)).2;omega
   rw[h1.1];exact r
  have j:∀t∈bk s,t.length=s.length:=λt p=>uz p;show((Z4 k.toNat).flatMap λ(v:Nat)=>(bk s).map λt=>(v:Int)::t).Pairwise _;rw[List.pairwise_flatMap];refine⟨λv _=>?_,?_⟩
  .rw[List.pairwise_map];refine z.imp_of_mem λ{a b}e f h=>?_;simp only[ih,j a e,j b f];omega
  .refine List.pairwise_lt_range.imp λ{u v}F x q y B=>?_;obtain⟨a,e,rfl⟩:=o8.1 q;obtain⟨b,w,rfl⟩:=o8.1 B;simp only[ih,j a e,j b w];have h1:=f a e;have r:=f b w;have:=W6 (show(u:Int)+1<=v by omega) (show(0:Int)<=32 ^ s.length by have:=yh s.length;omega);rw[Int.add_mul,Int.one_mul]at this;omega
theorem OG{D L:Told}{o:Int}(f:(D.map (·.1)).Nodup)(a:L.Perm D)(t:Λ):jF L o t=jF D o t:=by
 have j:=(a.map (·.1)).nodup_iff.2 f;by_cases he:∃p∈D,p.1=t
 .obtain⟨p,h,rfl⟩:=he;rw[sG f h,sG j (a.mem_iff.2 h)]
 .rw[sH λp h1 e=>he ⟨p,h1,e⟩,sH λp h1 e=>he ⟨p,a.mem_iff.1 h1,e⟩]
def jI(szs:Λ)(f:Λ->Int)(cs:Λ):Prop:=cs.length=(aB szs).toNat/\∀t,cW szs t->bd szs cs t=f t
theorem jI.eq{f:Λ->Int}(U:dd szs)(h1:jI szs f cs)(e:jI szs f a):cs=a:=MF U h1.1 e.1 λt h=>by rw[h1.2 t h,e.2 t h]
theorem jI.congr{f a:Λ->Int}(h:jI szs f cs)(he:∀t,cW szs t->f t=a t):jI szs a cs:=⟨h.1,λt e=>by rw[h.2 t e,he t e]⟩
theorem yw(U:dd szs)(h:cW szs t):∃n:Nat,cc szs t 0=σ (n:Int)/\n<(aB szs).toNat:=by
 obtain⟨n,a⟩:=h;have:=ky U a;simp only[Int.zero_mul,Int.zero_add,Int.one_mul]at this;exact⟨n.toNat,by rw[a];congr 1;omega,Ω⟩
theorem OH(U:dd szs)(c:Int):jI szs (λ_=>c) (u9 (aB szs).toNat c):=⟨Ξ,λt a=>by
 obtain⟨n,e,f⟩:=yw U a;unfold bd;rw[e];simp only[u7,v8,List.getElem?_replicate,f,if_true,R3]⟩
theorem jI.put{f:Λ->Int}(U:dd szs)(h:jI szs f cs)(q:cW szs t)(r:cK c k):jI szs (λs=>if s=t then c else f s) (qS szs t k c cs):=by
 obtain⟨n,e,w⟩:=yw U q;unfold qS;rw[e];simp only[r,if_true,u7];refine⟨by simp[h.1],λs p=>?_⟩;obtain⟨m,hm,x⟩:=yw U p;have a:=h.2 s p;unfold bd at a ⊢;rw[hm]at a ⊢;simp only[u7]at a ⊢;by_cases he:s=t
 .subst he;rw[e]at hm;have j:n=m:=by have:=Z7 hm;omega
  subst j;rw[m5 rfl,v8,Z5 (by rw[h.1];exact w)];rfl
 .rw[m6 he,v8,W5 (λj=>he ?_),<-v8,a];subst j;rw[<-xQ U hm,<-xQ U e]
def OI(w:x3)(szs:Λ)(k o:Int)(D:Told)(v:x1)(I:x3):Prop:=Ext w I/\(4096<aB szs->v= .tuple #[.pointer ν,Δ 5])/\
 (aB szs<=4096->∃g a sv cs,v= .tuple #[Γ g,Δ 0]/\w.heap.size<=g/\(w.heap.size<=a/\∀r,li sv r->w.heap.size<=r)/\cd I g a sv szs k cs/\jI szs (jF D o) cs)
theorem Et{g m:Nat}{o:Int}{D:Told}(h:e1 w g m szs k o D)(ab:D.length<65536):ak x7 IJ [Γ g] w (OI w szs k o D):=by
 obtain⟨⟨sv,gs,ac,hm⟩,aX,U,ad,ae⟩:=id h;have P:=h.nodup;refine ay func64 ?_;rw[cV e8.u];simp only[l9,aW];intro J a _ _;have H:=ac.W a;rw[aN fM.p 0 H rfl,aN fM.p 1 H rfl,aN fM.p 2 H rfl];refine(sg (hm.ls.W a)).X ?_;rintro _ V _ ⟨x,_,ag,_,ah⟩;by_cases y:aB szs<=4096
 rotate_left
 .have:=ag U Ω;subst this;rw[bn,bo];simp only[bz,aj];exact⟨λ_=>⟨a.F x,λ_=>rfl,λh=>m7 h y⟩,λh=>by simp at h⟩
 obtain⟨gt,f,aO,rfl,aZ,a1,ai,Q⟩:=ah U y ad;rw[bn,bo];simp only[bz,aj];refine⟨λh=>m7 rfl h,λ_=>?_⟩;have s1:=a.size;have s2:=x.size;refine(OF ((h.W a).W x) ab).X ?_;rintro bK al _ ⟨I,L,z,R⟩;have a2:=I.size;have a6:f<V.heap.size:=by
  obtain⟨⟨aY,a7,_,_,am⟩,⟨_,_,a8⟩,an,ao⟩:=id Q;have ba:=kC an.2;obtain⟨_,⟨_,ap⟩|⟨cap,cs,_,au,_⟩⟩:=am
  .rw[ao]at ap;omega
  .exact au.lt
 have bb:=z.1.length_eq;rw[jf qL.u R];refine ce.range L.length (λi C=>af (λr=>r=f) al C/\∃cs,cd C gt f aO szs k cs/\jI szs (jF (L.take i) o) cs) Ω ⟨af.refl _ _,_,Q.W I,by rw[List.take_zero];exact OH U.2 o⟩ ?_ ?_
 .rintro i C av hi ⟨E,cs,K,G⟩ aw;simp only[aP,aj];refine⟨λ_=>?_,λh=>Ω⟩;obtain⟨⟨t,c⟩,q⟩:∃p,L[i]?=σ p:=⟨_,x6 hi⟩;have ax:(t,c)∈D:=z.1.mem_iff.1 (x5 q);obtain⟨az,aA,aC⟩:=ae _ ax;have aD:=aq.aa R E λr S aE he=>by
   have he:r=f:=he;rcases aE with h|h
   .have h:=h;omega
   .exact h
  refine nM gF.p rfl qL.u gF.i aD q λus aF=>?_;obtain⟨bc,bd,A,B,rfl,be,bf,_,h1,aG⟩:=aF;have aH:=aG;subst aH;obtain⟨aI,rfl,_⟩:=id h1;have W:=eC h1;refine bu gF.i λbg bh bi aJ X=>?_;refine b4 (vs:=[aI,Δ c]) gF.i rfl rfl (by intro v Y;simp at Y;rcases Y with rfl|rfl;exact W.cells.2;rfl) X λbj aM bk Z=>?_;have bl:=X.lt;have M:=aJ.put aM Ω;rw[aK gF.p 0 Z rfl,aK gF.p 1 Z rfl];refine(Cq (K.W M) (W.W M)).X ?_;rintro _ bm _ ⟨rfl,aQ,aR⟩;simp only[aL];refine aw _ ⟨(E.F (M.aa _)).F aQ,_,aR,(G.put U.2 az aA).congr λs bp=>?_⟩;rw[u5,q];have N:=(z.1.map (·.1)).nodup_iff.2 P;have aS:∀p∈L.take i,p.1≠t:=λp y he=>by
   obtain⟨j,O⟩:=c8.1 y;have aT:j<i:=by have:=(x4.1 O).1;rw[j6]at this;omega
   rw[Y3 aT]at O;have:=mQ N (by rw[x8,O,Z0,he]) (by rw[x8,q];rfl);omega
  have aU:((L.take i).map (·.1)).Nodup:=by rw[S0];exact(List.take_sublist _ _).nodup N
  have aV:((L.take i++[(t,c)]).map (·.1)).Nodup:=by
   have e:L.take i++[(t,c)]=L.take (i+1):=by rw[u5,q];rfl
   rw[e,S0];exact(List.take_sublist _ _).nodup N
  exact((DE aS aC).cost aU aV s).symm
 .rintro C av ⟨E,cs,K,G⟩;simp only[aP,aj];refine⟨λh=>Ω,λ_=>?_⟩;rw[p8]at G;exact⟨((a.F x).F I).put E Ω,λh=>Ω,λ_=>⟨gt,f,aO,cs,rfl,Ω,⟨Ω,λr S=>by have:=ai r S;omega⟩,K,G.congr λs _=>OG P z.1 s⟩⟩
theorem OJ{s:Λ}(U:dd s)(a:cs.length=(aB s).toNat){i:Nat}(h:(bk s)[i]?=σ t):cs[i]?=σ (bd s cs t):=by
 have hi:=(x4.1 h).1;rw[jz U,<-a]at hi;unfold bd;rw[kD U h];simp only[u7,v8,x6 hi,R3]
end Go.Proofs.YtkcigodpbndobaaGreatDoor
