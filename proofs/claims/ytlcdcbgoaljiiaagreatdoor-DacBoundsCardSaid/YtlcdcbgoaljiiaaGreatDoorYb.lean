/- own texts, made small by a tool (wip/ holds them as they were written): no statement of the seat. -/
import Derived.Test.YtlcdcbgoaljiiaaGreatDoorYa
set_option linter.unusedVariables false
set_option linter.unusedSimpArgs false
set_option linter.unnecessarySimpa false
open Array renaming getElem?_eq_some_iff→Y1
open BitVec renaming ofInt→U6
open Bool renaming false→sp,true→s2,not_true→Y7,not_false→X5,eq_iff_iff→U1,or_eq_false_iff→T4,and_eq_true→T9
open Decidable renaming not_not→X1
open Go renaming Value→x4,World→x5,TypeId→o4,IntKind→o8,Builtin→Z2,Program→X8,FuncId→S8
open Go.Builtin renaming append_→c9,len_→X7
open Go.Instr renaming loadAt→u5,fieldAt→u6,storeAt→o7,indexAt→n9,extract→Z7,buildSlice→Y3,sliceAt→V5
open Go.IntKind renaming i64→X4,u64→U4
open Go.Proofs.Tryz renaming prog→x8
open Go.Result renaming andThen→W8
open Go.Sem renaming run_bind→W5,run_pure→V2
open Go.Value renaming int→V3
open Int renaming toNat_natCast→u7,le_refl→T3
open List renaming getElem?_eq_some_iff→x6,mem_of_getElem?→x7,getElem?_eq_getElem→v8,getElem?_map→u4,take_add_one→u9,getD_eq_getElem?_getD→r8,length_map→r9,replicate→o5,take_length→o9,mem_map→l9,take_of_length_le→j5,length_append→j6,mem_append→j9,eq_nil_of_length_eq_zero→b8,map_append→Z0,length_take→Z3,getElem?_set_self→Z6,ext_getElem?→Y2,mem_singleton→Y4,mem_iff_getElem?→Y5,getElem?_set_ne→Y8,range→Y9,drop_eq_getElem_cons→X2,getElem?_append_right→X3,getElem?_set→X6,length_eq_one_iff→X9,length_cons→W0,getElem?_eq_none→W7,getElem?_take_of_lt→V1,pairwise_iff_getElem→V8,getElem?_append_left→V9,map_set→U2,mem_or_eq_of_mem_set→U5,set_append_right→U7,flatMap_cons→T0,append_assoc→T1,append_nil→T5,map_map→T6,Perm→S0,getElem_mem→S3,mem_filter→S6
open Nat renaming le_refl→o6,le_trans→X0,zero_le→W3,zero_add→V0,mul_le_mul_right→V4,sub_self→V7,mul_one→U3,pow_le_pow_right→T2,add_mul→T7
open Option renaming toList_some→j4,isNone_some→b9,map_eq_some_iff→Z9,map_some→Y6,map→V6
open Option.some renaming inj→Z5,injEq→W6
open Prod.mk renaming injEq→R2
set_option maxHeartbeats 16000000
open Option renaming some→σ,none→ν
variable{C a all an l scope d6 t:Λ}{I w:x5}{at_ c hi k lo y:Int}{sv v z:x4}{N dw gs j n r:Nat}{cs:List x4}{R S:Nat->Prop}{hp:List (Λ)}{cx cy f:Bool}{e:o4}{K:x4->Prop}
namespace Go.Proofs.YtlcdcbgoaljiiaaGreatDoor
open Go Go.Vc Go.RowKit Go.Proofs Go.Proofs.Tryz
set_option maxRecDepth 100000
abbrev bU:aj:=λ_=>False
abbrev e4(n:Nat):aj:=λr=>n<=r
theorem Ms{b:Λ}{bx bv:x4}(e:aQ .i64 w bx a)(s:aQ .i64 w bv b):
  aq x8 Km [bx,bv] w λv I=>v= .bool (decide (a=b))/\Ext w I:=by
 refine aE func205 ?_;rw[ba au.u e,ba au.u s];simp only[bO,ao];refine⟨λj=>⟨?_,Ext.refl _⟩,λz=>?_⟩
 .rw[rc];rintro rfl;exact j rfl
 .have z:a.length=b.length:=Ω
  rw[ba au.u e];refine cp.range a.length (λi _ U=>Ext w U/\a.take i=b.take i) e.le ⟨Ext.refl _,rfl⟩ ?_ ?_
  .rintro i t4 U k A ⟨J,q⟩ hk;simp only[aW,ao,et];refine⟨λ_ ab B _ _=>?_,λh=>Ω⟩;have J:=J.F B;obtain⟨x,r⟩:=aJ A;obtain⟨y,f⟩:=aJ (l:=b) (i:=i) Ω;rw[bp au.u al.i Ψ (e.W J) r,bp au.u al.i Ψ (s.W J) f];simp only[bO,ao,aT];refine⟨λj=>⟨?_,J⟩,λC=>hk _ _ ⟨J,w5 q r f Ω⟩⟩;rw[rc];rintro rfl;rw[r]at f;cases f;exact j rfl
  .rintro _ U k ⟨J,q⟩;simp only[aW,ao];refine⟨λh=>Ω,λ_=>⟨?_,J⟩⟩;rw[ms];rwa [o9,z,o9]at q
def kI(rest:List (Λ))(i:Nat):List (Λ):=(Y9 i).flatMap λ(v:Nat)=>rest.map λt=>(v:Int)::t
theorem Mt(rest:List (Λ))(i:Nat):kI rest (i+1)=kI rest i++rest.map λt=>(i:Int)::t:=by
 simp[kI,List.range_succ]
theorem Ck(rest:List (Λ))(i:Nat):(kI rest i).length=i*rest.length:=by
 simp only[kI,List.length_flatMap,r9];rw[List.map_const',List.length_range,List.sum_replicate_nat]
def rZ(l:Λ):Prop:=l.length<=90/\(∀x∈l,1<=x/\x<=32)/\aV l<=1073741824
theorem cn.p(h:cn l):rZ l:=⟨by have:=h.1;omega,h.2,(prod_bound h).2⟩
theorem rZ.tail{s:Λ}(h:rZ (k::s)):rZ s:=by
 have h1:=h.2.1 k (.head _);have a:=(mu s λx J=>h.2.1 x (.tail _ J)).1;have e:k*aV s<=1073741824:=h.2.2;have f:=Int.mul_le_mul_of_nonneg_right h1.1 (show 0<=aV s by omega);refine⟨?_,λx J=>h.2.1 x (.tail _ J),Ω⟩;have:=h.1;rw[W0]at this;omega
theorem xi:∀(s:Λ){sv:x4}{w:x5},aQ .i64 w sv s->rZ s->
  aq x8 wJ [sv] w λv I=>Ext w I/\bw (e4 w.heap.size) bU I [v] (bt s)
 |[],sv,w,h,V=>by
  refine aE func29 ?_;rw[ba au.u h];simp only[bl,List.length_nil,Int.natCast_zero,decide_true,bT];refine jL (α:=Λ) (cs:=[.slice ν 0 0]) (A:=bU) cq.u au.i Φ rfl gx λv I J aC _=>⟨J,aw.Y aC (λr _ h=>?_) λ_ _ h=>h⟩;exact h.elim False.elim id
 |k::s,sv,w,h,V=>by
  have ae:1<=aV (k::s)/\aV (k::s)<=1073741824:=⟨(mu _ V.2.1).1,V.2.2⟩;have q:=V.tail;have hk:=V.2.1 k (.head _);have P:=kF q.2.1;have am:1<=aV s/\aV s<=1073741824:=⟨(mu _ q.2.1).1,q.2.2⟩;obtain⟨kn,rfl⟩:∃kn:Nat,k=kn:=⟨k.toNat,Ω⟩;have an:kn*(bt s).length<=1073741824:=by
   have e:((kn*(bt s).length:Nat):Int)=aV ((kn:Int)::s):=by
    rw[Int.natCast_mul,P,aV,Int.toNat_of_nonneg Ω]
   omega
  refine aE func29 ?_;rw[ba au.u h];simp only[bl,ao];refine⟨λQ=>by simp at Q;omega,λ_=>?_⟩;refine L1 rfl au.u al.i h Ξ λS be=>?_;refine(xi s be q).Y ?_;rintro ap ab _ ⟨E,z⟩;have av:=nE z;refine cp.range kn (λi out U=>Ext ab U/\bw (e4 ab.heap.size) bU U [out] (kI (bt s) i)) Ω ⟨Ext.refl _,gx⟩ ?_ ?_
  .rintro i out W X M ⟨f,aC⟩ Y;have Z:=bD z f;rw[fz (y:=0) (i:=0) rfl au.u al.i Ψ (h.W (E.F f)) (by rfl)];simp only[aW,ao];refine⟨λ_=>?_,λh=>Ω⟩;rw[ij cq.u Z];refine cp.range (bt s).length (λj out U=>Ext ab U/\bw (e4 ab.heap.size) bU U [out] (kI (bt s) i++((bt s).take j).map λt=>(i:Int)::t)) Ω ⟨f,by simpa using aC⟩ ?_ ?_
   .rintro j out B aa ac ⟨C,aC⟩ ad;simp only[aW,ao];refine⟨λ_=>?_,λh=>Ω⟩;obtain⟨x,G⟩:=aJ ac;have ax:x.length<=100:=by
     have:=BO G;have:=q.1;omega
    refine kf rfl rfl cq.u au.i Ψ (bD z C) G λu hu=>?_;refine e3 au.u al.i rfl λa ga ay az H af=>?_;refine kC au.u al.i rfl af (ew (bD hu H)) Θ Θ λb aA aB aD K ag=>?_;have aF:=H.size;have N:=H.then ag (by rintro r z rfl;omega);have aG:=N.size;refine jL (α:=Λ) (a:=(i:Int)::x) (R:=bU) cq.u au.i Φ (lO (mr K (R:=bU))) (aw.Y (mr K) (λr _ h=>by subst h;show B.heap.size<=r;omega) λ_ _ h=>h) λc aH L _ ah=>?_;have O:=N.F L;have aI:=L.size;refine oj cq.u au.i rfl (bD (nE aC) O) ah (bD (aw.Y (mr K) (λr _ h=>by subst h;show B.heap.size<=r;omega) λ_ _ h=>h) L) (λr _ h be=>?_) ?_ ?_ λS aK ai aj=>?_
    .rcases be with be|be
     .have:=h.2;have:B.heap.size<=r:=be;omega
     .exact be
    .have ak:(kI (bt s) i++((bt s).take j).map λt=>(i:Int)::t).length+1<=kn*(bt s).length:=by
      simp only[j6,Ck,r9,Z3];have:(i+1)*(bt s).length<=kn*(bt s).length:=V4 _ M;rw[T7]at this;omega
     omega
    .have ak:(kI (bt s) i++((bt s).take j).map λt=>(i:Int)::t).length+1<=kn*(bt s).length:=by
      simp only[j6,Ck,r9,Z3];have:(i+1)*(bt s).length<=kn*(bt s).length:=V4 _ M;rw[T7]at this;omega
     omega
    .simp only[aT];have aL:=C.size;refine ad _ _ ⟨(C.F O).then aj (λr z h=>?_),?_⟩
     .have:=h.1;have:ab.heap.size<=r:=this;omega
     .have e:kI (bt s) i++((bt s).take (j+1)).map (λt=>(i:Int)::t)=(kI (bt s) i++((bt s).take j).map λt=>(i:Int)::t)++[(i:Int)::x]:=by
       rw[u9,G];simp
      rw[e];refine aw.Y ai (λr _ h=>?_) λ_ _ h=>h;show ab.heap.size<=r;rcases h with h|h|h
      .exact h.1
      .have:B.heap.size<=r:=h;omega
      .omega
   .rintro out B aa ⟨C,aC⟩;simp only[aW,ao,aT];refine⟨λh=>Ω,λ_=>Y _ _ ⟨C,?_⟩⟩;rw[Mt];simpa using aC
  .rintro out W X ⟨f,aC⟩;rw[fz (y:=0) (i:=0) rfl au.u al.i Ψ (h.W (E.F f)) (by rfl)];simp only[aW,ao];refine⟨λh=>Ω,λ_=>⟨E.F f,?_⟩⟩;have aM:=E.size;have e:bt ((kn:Int)::s)=kI (bt s) kn:=by simp[bt,kI]
   rw[e];exact aw.Y aC (λr _ h=>by have:ab.heap.size<=r:=h;show w.heap.size<=r;omega) λ_ _ h=>h
theorem xj(s:Λ)(h:aQ .i64 w sv s)(V:cn s):aq x8 wJ [sv] w λv I=>Ext w I/\bw (e4 w.heap.size) bU I [v] (bt s):=xi s h V.p
theorem Mu:∀(x:Nat),0<x->∃k m,x=2 ^ k*(2*m+1):=by
 intro x;induction x using Nat.strongRecOn with
 |_ x a=>
  intro h;by_cases e:x % 2=1
  .exact⟨0,x / 2,Ω⟩
  .obtain⟨k,m,hk⟩:=a (x / 2) Ω Ω;refine⟨k+1,m,?_⟩;rw[Nat.pow_succ,Nat.mul_assoc,Nat.mul_comm 2,<-Nat.mul_assoc,<-hk];omega
theorem xk{k m i:Nat}:(2 ^ k*(2*m+1)).testBit i=(decide (i=k)||decide (k<i)&&m.testBit (i-k-1)):=by
 rw[Nat.testBit_two_pow_mul];by_cases h:k<=i
 .obtain⟨d,rfl⟩:=Nat.exists_eq_add_of_le h;cases d with
  |zero=>simp
  |succ d=>
   have e:(2*m+1).testBit (d+1)=m.testBit d:=by rw[Nat.testBit_succ];congr 1;omega
   simp[e,show k+(d+1)-k=d+1 by omega]
 .simp[h,show i≠k by omega,show¬k<i by omega]
theorem Mv{k m:Nat}(J:2 ^ k*(2*m+1)<2 ^ 64):(2 ^ k*(2*m+1)) &&& (2 ^ 64-2 ^ k*(2*m+1))=2 ^ k:=by
 have q:=Nat.two_pow_pos k;have hk:k<64:=by
  rcases Nat.lt_or_ge k 64 with h|h
  .exact h
  .have:2 ^ 64<=2 ^ k:=T2 Ω h;have:2 ^ k*1<=2 ^ k*(2*m+1):=Nat.mul_le_mul_left _ Ω;omega
 have e:2 ^ k*(2*m+1)=(2 ^ k*(2*m)+(2 ^ k-1))+1:=by rw[Nat.mul_add];omega
 apply Nat.eq_of_testBit_eq;intro i;rw[Nat.testBit_and,xk]
 conv=>lhs;rhs;rw[e]
 rw[Nat.testBit_two_pow_sub_succ Ω,Nat.testBit_two_pow_mul_add _ Ω,Nat.testBit_two_pow];by_cases h1:i=k
 .subst h1;simp[hk]
 .by_cases a:k<i
  .have f:(2*m).testBit (i-k)=m.testBit (i-k-1):=by
    obtain⟨d,j⟩:∃d,i-k=d+1:=⟨i-k-1,Ω⟩;rw[j,Nat.testBit_succ];congr 1;omega
   simp[h1,a,show¬i<k by omega,f,show k≠i by omega];intro h;simp[h]
  .simp[h1,a,show k≠i by omega]
def k9(a c:Nat):Nat:=(BitVec.ofNat 64 a &&& ~~~BitVec.ofNat 64 c).toNat
theorem Cl(a c i:Nat):(k9 a c).testBit i=(decide (i<64)&&(a.testBit i&& !c.testBit i)):=by
 unfold k9;rw[BitVec.testBit_toNat,BitVec.getLsbD_and,BitVec.getLsbD_not,BitVec.getLsbD_ofNat,BitVec.getLsbD_ofNat];by_cases h:i<64<;>simp[h]
theorem Mw(a c:Nat):k9 a c<2 ^ 64:=BitVec.isLt _
theorem Mx{a:Nat}(h:∀i,n<=i->a.testBit i=sp):a<2 ^ n:=Nat.lt_pow_two_of_testBit a h
theorem Cm{a i:Nat}(h:a<2 ^ n)(hi:n<=i):a.testBit i=sp:=Nat.testBit_lt_two_pow (Nat.lt_of_lt_of_le h (T2 Ω hi))
def gV(b n:Nat):List Nat:=(Y9 n).filter λi=>b.testBit i
theorem Cn(b n:Nat):(gV b n).Pairwise (·< ·):=List.Pairwise.filter _ List.pairwise_lt_range
theorem xl{b i:Nat}:i∈gV b n↔i<n/\b.testBit i=s2:=by simp[gV]
def pz:Option Nat->Int
 |some i=>(i:Int)
 |none=>-1
def la(b n:Nat)(v:Int):Int:=pz ((Y9 n).find? (λi:Nat=>decide (v<(i:Int))&&b.testBit i))
theorem Co:∀{l:List Nat}{k x:Nat},l.Pairwise (·< ·)->l[k]?=σ x->l.filter (λi=>decide (x<i))=l.drop (k+1)
 |y::l,0,x,h,hk=>by
  simp at hk;subst hk;rw[List.pairwise_cons]at h;simp only[List.drop_succ_cons,List.drop_zero];rw[List.filter_cons_of_neg Ξ,List.filter_eq_self.2 λa e=>by simpa using h.1 a e]
 |y::l,k+1,x,h,hk=>by
  simp only[List.getElem?_cons_succ]at hk;rw[List.pairwise_cons]at h;have:y<x:=h.1 x (x7 hk);rw[List.filter_cons_of_neg Θ,List.drop_succ_cons];exact Co h.2 hk
theorem Cp(b n:Nat)(v:Int):la b n v=pz (((gV b n).filter (λi:Nat=>decide (v<i))).head?):=by
 unfold la gV;rw[<-List.head?_filter,List.filter_filter]
theorem My(b n:Nat):la b n (-1)=pz ((gV b n)[0]?):=by
 rw[Cp,List.filter_eq_self.2 (λa _=>Θ),List.head?_eq_getElem?]
theorem Cq{b k x:Nat}(h:(gV b n)[k]?=σ x):la b n x=pz ((gV b n)[k+1]?):=by
 have e:(λi:Nat=>decide ((x:Int)<i))=λi=>decide (x<i):=by funext i;simp
 rw[Cp,e,Co (Cn b n) h,List.head?_eq_getElem?,List.getElem?_drop]
theorem Mz{b:Nat}{v:Int}(h:(n:Int)-1<=v):la b n v= -1:=by
 unfold la;rw[List.find?_eq_none.2 λi hi=>by simp at hi ⊢;omega];rfl
theorem MA{b k m s:Nat}(z:n<=64)(f:b<2 ^ n)(e:∀i,r.testBit i=(decide (s<=i)&&b.testBit i))(hk:r=2 ^ k*(2*m+1)){v:Int}(ac:v+1=s):la b n v=k:=by
 have q:r.testBit k=s2:=by rw[hk,xk];simp
 have w:∀i,i<k->r.testBit i=sp:=λi hi=>by rw[hk,xk];simp[show i≠k by omega,show¬k<i by omega]
 have a:=q;rw[e]at a;simp at a;have x:k<n:=by
  rcases Nat.lt_or_ge k n with h|h
  .exact h
  .rw[Cm f h]at a;cases a.2
 unfold la;have:(Y9 n).find? (λi:Nat=>decide (v<(i:Int))&&b.testBit i)=σ k:=by
  rw[List.find?_range_eq_some];refine⟨by simp[a.2];omega,by simpa using x,λj y=>?_⟩;have:=w j y;rw[e]at this;simp only[Bool.not_eq_true',Bool.and_eq_false_iff,decide_eq_false_iff_not]at this ⊢;rcases this with h|h
  .exact .inl Ω
  .exact .inr h
 rw[this];rfl
theorem MB{b s:Nat}(a:∀i,r.testBit i=(decide (s<=i)&&b.testBit i))(hk:r=0){v:Int}(ac:v+1=s):la b n v= -1:=by
 unfold la;rw[List.find?_eq_none.2]
 .rfl
 .intro i hi;have:=a i;rw[hk,Nat.zero_testBit]at this;simp at hi this ⊢;intro h;exact this Ω
section
variable{P:X8}{w:x5}{t:o4}{cx cy:Bool}{a b:Nat}{K:x4->Prop}
theorem ot(a:Nat):U6 64 (a:Int)=BitVec.ofNat 64 a:=BitVec.ofInt_natCast _ _
theorem Cr(x:BitVec 64):U4.wrap (x.toNat:Int)=(x.toNat:Int):=by
 have:=x.isLt;rw[lw Ω Ω]
theorem u64_and(f:a<2 ^ 64)(h:b<2 ^ 64):ad P (aS .and t cx cy (.int .u64 a) (.int .u64 b)) w K=K (.int .u64 ((a &&& b:Nat):Int)):=ad.of λI _=>by
 have e:(U6 64 (a:Int) &&& U6 64 (b:Int)).toNat=a &&& b:=by
  rw[ot,ot,BitVec.toNat_and,BitVec.toNat_ofNat,BitVec.toNat_ofNat,Nat.mod_eq_of_lt f,Nat.mod_eq_of_lt h]
 have hw:U4.wrap ((a &&& b:Nat):Int)=((a &&& b:Nat):Int):=by rw[<-e];exact Cr _
 have j:(U6 U4.bits (a:Int) &&& U6 U4.bits (b:Int)).toNat=a &&& b:=e;simp only[aS,eqGuard,binOp,Op.intBits,j,hw];rfl
theorem Cs:ad P (aS .andNot t cx cy (.int .u64 a) (.int .u64 b)) w K=K (.int .u64 (k9 a b:Int)):=ad.of λI _=>by
 have e:(U6 64 (a:Int) &&& ~~~U6 64 (b:Int)).toNat=k9 a b:=by rw[ot,ot];rfl
 have hw:U4.wrap (k9 a b:Int)=(k9 a b:Int):=Cr _;have f:(U6 U4.bits (a:Int) &&& ~~~U6 U4.bits (b:Int)).toNat=k9 a b:=e;simp only[aS,eqGuard,binOp,Op.intBits,f,hw];rfl
theorem mB{k:o8}(f:n<64):ad P (aS .shr t cx cy (.int .u64 (a:Int)) (.int k (n:Int))) w K=K (.int .u64 ((a / 2 ^ n:Nat):Int)):=ad.of λI _=>by
 have e:(a:Int).fdiv (2 ^ min n U4.bits)=((a / 2 ^ n:Nat):Int):=by
  have:min n U4.bits=n:=Nat.min_eq_left (by show n<=64;omega);rw[this,Int.fdiv_eq_ediv_of_nonneg _ (by exact Int.le_of_lt (Int.pow_pos Ω))];simp
 simp only[aS,eqGuard,binOp,Op.shift,u7,e];simp[show¬(n:Int)<0 by omega]
theorem xm{k:o8}(a:n<64):ad P (aS .shl t cx cy (.int .u64 1) (.int k (n:Int))) w K=K (.int .u64 ((2 ^ n:Nat):Int)):=by
 rw[Bt Ω];have e:min ((n:Int).toNat) U4.bits=n:=Nat.min_eq_left (by show n<=64;omega);have f:2 ^ n<2 ^ 64:=Nat.pow_lt_pow_right Ω a;rw[e,Int.one_mul,show((2:Int) ^ n)=((2 ^ n:Nat):Int) by simp];generalize 2 ^ n=q at f ⊢;rw[lw Ω Ω]
end
def ud:Λ:=[0,1,56,2,57,49,28,3,61,58,42,50,38,29,17,4,62,47,59,36,45,43,51,22,53,39,33,30,24,18,12,5,63,55,48,27,60,41,37,16,46,35,44,21,52,32,23,11,54,26,40,15,34,20,31,10,25,14,19,9,13,8,7,6]
def Laid(w:x5):Prop:=w.rangeAt 0 0 (ints .u8 ud)
theorem Laid.W(h:Laid w)(J:Ext w I):Laid I:=pm J h
theorem MC:∀k:Nat,k<64->ud[(2 ^ k*285870213051353865 % 2 ^ 64) / 2 ^ 58]?=σ (k:Int):=Φ
theorem MD{x k m:Nat}(f:Laid w)(J:x=2 ^ k*(2*m+1))(j:x<2 ^ 64):
  aq x8 JK [.int .u64 (x:Int)] w λv I=>v=Δ (k:Int)/\Ext w I:=by
 have z:=Nat.two_pow_pos k;have A:2 ^ k<=x:=by
  have:2 ^ k*1<=2 ^ k*(2*m+1):=Nat.mul_le_mul_left _ Ω;omega
 have hk:k<64:=by
  rcases Nat.lt_or_ge k 64 with h|h
  .exact h
  .have:2 ^ 64<=2 ^ k:=T2 Ω h;omega
 refine aE func153 ?_;simp only[bl,ao];refine⟨λh=>Ω,λ_=>?_⟩;rw[nA];have q:U4.wrap (0-(x:Int))=((2 ^ 64-x:Nat):Int):=by
  simp only[o8.wrap,o8.bits,o8.signed];simp;omega
 rw[q,u64_and j Ω,J,Mv Ω];simp only[fL];have r:U4.wrap (((2 ^ k:Nat):Int)*285870213051353865)=((2 ^ k*285870213051353865 % 2 ^ 64:Nat):Int):=by
  have e:((2 ^ k:Nat):Int)*285870213051353865=((2 ^ k*285870213051353865:Nat):Int):=Ξ
  rw[e];simp only[o8.wrap,o8.bits,o8.signed];simp
 have s:(58:Int)=((58:Nat):Int):=rfl;rw[r,s,mB Ω];have a:=MC k hk;have y:=(x6.1 a).1;rw[w4 wZ.u cT.i y,aF Ψ (by rw[U3];exact f _ _ (mq a)),fM cT.u al.u,lm Ω Ω];exact⟨rfl,Ext.refl _⟩
def ki(b n:Nat):x4:=.agg #[.int .u64 (b:Int),Δ (n:Int)]
def mC(b n:Nat):Prop:=n<=32/\b<2 ^ n
theorem Ct(s i:Nat):(2 ^ s-1).testBit i=decide (i<s):=Nat.testBit_two_pow_sub_one s i
theorem Cu{b:Nat}{v:Int}:aq x8 Jv [ki b n,Δ v] w λr I=>r= .bool (decide (0<=v/\v<n))/\Ext w I:=by
 refine aE func135 ?_;refine br λg U f a e=>?_;simp only[cG,cU,ao];refine⟨λh=>?_,λh=>⟨?_,a⟩⟩
 .rw[aP ce.p 1 e rfl];simp only[aW];exact⟨by simp[h],a⟩
 .rw[rc];omega
theorem xn{b:Nat}:aq x8 IR [ki b n] w λr I=>r=Δ n/\Ext w I:=by
 refine aE func67 ?_;refine br λg U f a e=>?_;rw[aP ce.p 1 e rfl];exact⟨rfl,a⟩
theorem ME{n:Int}:aq x8 IP [Δ n] w λr I=>Ext w I/\r=(if 1<=n/\n<=32 then .tuple #[ki (2 ^ n.toNat-1) n.toNat,Δ 0]else .tuple #[ki 0 0,Δ 1]):=by
 refine aE func65 ?_;refine bF ce.i λg U z f j=>?_;refine a6 (λv ab=>v= .bool (decide (¬(1<=n/\n<=32)))/\U=ab) ?_ ?_
 .rintro _ _ ⟨rfl,rfl⟩;simp only[ao];refine⟨λh=>?_,λh=>?_⟩
  .rw[dn (cs:=#[.int .u64 0,Δ 0]) Ψ];refine cd (vs:=[.int .u64 0,Δ 0]) ce.i rfl rfl (by intro u hu;simp at hu;rcases hu with rfl|rfl<;>rfl) j λs a x e=>?_;rw[fA ce.p ce.i rfl e.range,m5 h];exact⟨f.then a (by rintro r y rfl;omega),rfl⟩
  .have h:1<=n/\n<=32:=X1.1 h;obtain⟨m,rfl⟩:∃m:Nat,n=m:=⟨n.toNat,Ω⟩;rw[xm Ω];have ae:=Nat.two_pow_pos m;have A:2 ^ m<=2 ^ 32:=T2 Ω Ω;simp only[dm];rw[lw Ω Ω,show(((2 ^ m:Nat):Int)-1)=((2 ^ m-1:Nat):Int) by omega];rw[dn (cs:=#[.int .u64 ((2 ^ m-1:Nat):Int),Δ m]) Ψ];refine cd (vs:=[.int .u64 ((2 ^ m-1:Nat):Int),Δ m]) ce.i rfl rfl (by intro u hu;simp at hu;rcases hu with rfl|rfl<;>rfl) j λs a x e=>?_;rw[fA ce.p ce.i rfl e.range,m3 h];exact⟨f.then a (by rintro r y rfl;omega),rfl⟩
 .intro az q;simp only[aW,bW,ao];refine⟨λh=>q _ _ ⟨?_,rfl⟩,λh=>q _ _ ⟨?_,rfl⟩⟩
  .rw[ms];omega
  .congr 1;simp;omega
theorem Cv{b:Nat}{v:Int}(y:mC b n)(z:Laid w)(ac: -1<=v):aq x8 I4 [ki b n,Δ v] w λr I=>r=Δ (la b n v)/\Ext w I:=by
 obtain⟨G,e⟩:=y;have f:b<2 ^ 64:=Nat.lt_of_lt_of_le e (T2 Ω Ω);refine aE func83 ?_;refine br λg U H a j=>?_;rw[aP ce.p 1 j rfl];simp only[dm,cU,ao];rw[lm Ω Ω];refine⟨λh=>⟨by rw[Mz h],a⟩,λJ=>?_⟩;rw[aP ce.p 0 j rfl];refine a6 (λu ab=>U=ab/\∃r s:Nat,u= .int .u64 (r:Int)/\r<2 ^ 64/\v+1=s/\∀i,r.testBit i=(decide (s<=i)&&b.testBit i)) ?_ ?_
 .rintro _ _ ⟨rfl,r,s,rfl,A,V,q⟩;simp only[bl,ao];refine⟨λB=>⟨by rw[MB q Ω V],a⟩,λB=>?_⟩;obtain⟨k,m,hk⟩:=Mu r Ω;refine(MD (z.W a) hk A).Y ?_;rintro _ K _ ⟨rfl,C⟩;exact⟨by rw[MA Ω e q hk V],a.F C⟩
 .intro az x;refine⟨λh=>?_,λh=>?_⟩
  .obtain⟨s,rfl⟩:∃s:Nat,v=s:=⟨v.toNat,Ω⟩;have ae:0<2 ^ (s+1):=Nat.two_pow_pos _;have L:2 ^ (s+1)<=2 ^ 32:=T2 Ω Ω;simp only[aT];rw[lm Ω Ω,show((s:Int)+1)=((s+1:Nat):Int) by omega,xm Ω];simp only[dm];rw[lw Ω Ω,show(((2 ^ (s+1):Nat):Int)-1)=((2 ^ (s+1)-1:Nat):Int) by omega,Cs];refine x _ _ ⟨rfl,_,s+1,rfl,Mw _ _,Ω,λi=>?_⟩;rw[Cl,Ct];by_cases E:i<64
   .by_cases hi:s+1<=i
    .simp[E,hi,show¬i<s+1 by omega]
    .simp[hi,show i<s+1 by omega]
   .rw[Cm f Ω];simp
  .exact x _ _ ⟨rfl,b,0,rfl,f,Ω,λi=>Ξ⟩
theorem MF{b:Nat}(e:mC b n)(f:Laid w):aq x8 I3 [ki b n] w λr I=>r=Δ (la b n (-1))/\Ext w I:=by
 refine aE func82 ?_;refine br λg U q a h=>?_;rw[bI ce.p ce.i rfl h.range];refine(Cv e (f.W a) Ω).Y ?_;rintro _ ab _ ⟨rfl,j⟩;exact⟨rfl,a.F j⟩
theorem MG{b:Nat}{v:Int}(H:mC b n):aq x8 IS [ki b n,Δ v] w λr I=>r=ki (if 0<=v/\v<n then k9 b (2 ^ v.toNat)else b) n/\Ext w I:=by
 refine aE func68 ?_;refine br λg U R x y=>?_;refine bF ce.i λJ ab S z A=>?_;have s1:=x.size;have V:=y.lt;refine dd (λe=>∃f,ak e g ce [.int .u64 ((f:Nat):Int),Δ (n:Int)]/\ak e J ce [.int .u64 0,Δ 0]/\Ext w e/\f=(if 0<=v/\v<n then k9 b (2 ^ v.toNat)else b)) ?_ ?_
 .rintro e ⟨f,K,L,M,rfl⟩;rw[bI ce.p ce.i rfl K.range];refine cd (vs:=[_,_]) ce.i rfl rfl (by intro u hu;simp at hu;rcases hu with rfl|rfl<;>rfl) L λW N X O=>?_;rw[fA ce.p ce.i rfl O.range];exact⟨rfl,M.then N (by rintro r P rfl;omega)⟩
 .intro az B;have j:=y.W z;rw[bI ce.p ce.i rfl j.range];refine Cu.Y ?_;rintro _ Y _ ⟨rfl,a⟩;have C:=(x.F z).F a;simp only[ao,et];refine⟨λh Z q _ _=>?_,λh=>B _ ⟨b,j.W a,A.W a,C,by rw[m5 h]⟩⟩;have E:=(j.W a).W q;rw[aP ce.p 0 E rfl];obtain⟨s,rfl⟩:∃s:Nat,v=s:=⟨v.toNat,Ω⟩;have ac:=H.1;rw[xm Ω,Cs,aZ ce.p rfl];refine bs fZ.i rfl rfl E (by simp[ki,x4.cells]) λad G ae Q=>?_;refine B _ ⟨_,Q,((A.W a).W q).aa G Ω,(C.F q).then G (by rintro r P rfl;omega),?_⟩;rw[m3 h,u7]
def qE(v:Int):Nat:=if v<0 then 0 else 40-v.toNat
theorem xo(x:Nat):qE x=40-x:=by unfold qE;rw[m5 Ω];omega
theorem mD{b g:Nat}(a:mC b n):
  qi x8 jG [Γ g] (gV b n).length (λk vs _=>∃v:Nat,(gV b n)[k]?=σ v/\vs=[Δ (v:Int)])
   (λw=>ak w g ce [.int .u64 (b:Int),Δ (n:Int)]/\Laid w):=by
 refine⟨jG.enters,λl az O w j _ B ⟨q,r⟩ C=>?_⟩;have P:=a.1;refine rN func81 ?_;rw[bI ce.p ce.i rfl q.range];refine(MF a r).free.Y ?_;rintro _ U ⟨E,rfl,J⟩;refine⟨λv ab=>∃k,k<=(gV b n).length/\v=Δ (pz (gV b n)[k]?)/\az k ab/\ak ab g ce [.int .u64 (b:Int),Δ (n:Int)]/\Laid ab,
  λv _=>qE (b1 v),⟨0,W3 _,by rw[My],j 0 _ _ J E.b C,q.W J,r.W J⟩,?_⟩
 rintro _ ab ⟨k,hk,rfl,s,G,H⟩;cases ac:(gV b n)[k]? with
 |none=>
  have:k=(gV b n).length:=by
   have:=List.getElem?_eq_none_iff.1 ac;omega
  subst this;simp only[pz,cU,ao];exact⟨λh=>Ω,λ_=>.inl s⟩
 |some x=>
  have e:=(x6.1 ac).1;have Q:=(xl.1 (x7 ac)).1;simp only[pz,cU,ao];refine⟨λ_=>?_,λh=>Ω⟩;refine⟨rfl,(B k _ ab e ⟨G,H⟩ ⟨x,ac,rfl⟩ s).Y ?_⟩;rintro _ R (⟨rfl,⟨z,A⟩,I⟩|⟨rfl,K⟩)
  .simp only[bR,Y7,bb];rw[bI ce.p ce.i rfl z.range];refine(Cv a A Ω).free.Y ?_;rintro _ S ⟨L,rfl,f⟩;refine⟨⟨k+1,e,congrArg (V3 .i64) (Cq ac),j _ _ _ f L.b I.1,z.W f,A.W f⟩,?_⟩;rw[Cq ac];cases M:(gV b n)[k+1]? with
   |none=>show 0<qE x;rw[xo];omega
   |some y=>
    have V:x<y:=by
     have h1:=(x6.1 ac).2;have N:=(x6.1 M).2;rw[<-h1,<-N];exact V8.1 (Cn b n) k (k+1) _ _ Ω
    show qE y<qE x;rw[xo,xo];omega
  .simp only[bR,X5,bT];exact .inr ⟨k,e,K⟩
theorem mE{b:Nat}:aq x8 AV [ki b n] w λr I=>Ext w I/\∃g,r= .func (.func jG) #[] #[Γ g]/\w.heap.size<=g/\ak I g ce [.int .u64 (b:Int),Δ (n:Int)]:=by
 refine aE func35 ?_;refine br λg U f a e=>?_;rw[lM];exact⟨a,g,rfl,Ω,e⟩
abbrev dU(s:Λ):Prop:=∀x∈s,1<=x/\x<=32
theorem dU.tail{s:Λ}(h:dU (k::s)):dU s:=λx J=>h x (.tail _ J)
theorem nJ{s:Λ}(h:dU s):1<=aV s:=(mu s h).1
theorem qF:∀(s t:Λ)(m:Int),cr s t m=(cr s t 0).map λn=>n+m*aV s
 |[],[],m=>by simp[cr,aV]
 |k::s,v::t,m=>by
  unfold cr;split
  .rw[qF s t (m*k+v),qF s t (0*k+v)];simp only[Option.map_map,aV];congr 1;funext n;simp only[Function.comp];rw[Int.add_mul,Int.add_mul,<-Int.mul_assoc];simp;omega
  .rfl
 |[],_::_,_=>rfl
 |_::_,[],_=>rfl
theorem xp{L j:Nat}{rest:List (Λ)}(e:rest.length=L):∀{kn v:Nat},v<kn->∀{x:Λ},rest[j]?=σ x->
  ((Y9 kn).flatMap λ(v:Nat)=>rest.map λt=>(v:Int)::t)[v*L+j]?=σ ((v:Int)::x)
 |0,v,h,_,_=>Ω
 |kn+1,v,h,x,J=>by
  have f:=(x6.1 J).1;have a:((Y9 kn).flatMap λ(v:Nat)=>rest.map λt=>(v:Int)::t).length=kn*L:=by
   simp only[List.length_flatMap,r9,e];rw[List.map_const',List.length_range,List.sum_replicate_nat]
  rw[List.range_succ,List.flatMap_append];by_cases ac:v<kn
  .have:(v+1)*L<=kn*L:=V4 _ ac;rw[T7]at this;rw[V9 (by rw[a];omega)];exact xp e ac J
  .have ac:v=kn:=Ω
   subst ac;rw[X3 (by rw[a];omega),a,show v*L+j-v*L=j by omega];simp[J]
theorem kJ:∀{s:Λ},dU s->∀{i:Nat}{t:Λ},(bt s)[i]?=σ t->cr s t 0=σ (i:Int)
 |[],_,i,t,h=>by
  cases i with
  |zero=>simp[bt]at h;subst h;rfl
  |succ i=>simp[bt]at h
 |k::s,V,i,t,h=>by
  have hk:=V k (.head _);have a:=kF V.tail;have ae:=nJ V.tail;obtain⟨kn,rfl⟩:∃kn:Nat,k=kn:=⟨k.toNat,Ω⟩;have hi:=(x6.1 h).1;rw[kF V,aV,Int.toNat_mul Ω Ω,<-a,u7]at hi;have f:0<(bt s).length:=Ω
  have ac:i / (bt s).length<kn:=Nat.div_lt_of_lt_mul (by rw[Nat.mul_comm];exact hi);have j:i % (bt s).length<(bt s).length:=Nat.mod_lt _ f;obtain⟨x,J⟩:∃x,(bt s)[i % (bt s).length]?=σ x:=⟨_,v8 j⟩;have e:=xp rfl ac J;rw[Nat.mul_comm,Nat.div_add_mod]at e;have be:((Y9 ((kn:Int).toNat)).flatMap λ(v:Nat)=>(bt s).map λt=>(v:Int)::t)[i]?=σ t:=h;rw[u7,e]at be;cases be;unfold cr;rw[m3 ⟨Int.natCast_nonneg _,Int.ofNat_lt.2 ac⟩,qF,kJ V.tail J];simp only[Y6,W6,Int.zero_mul,Int.zero_add];have q:aV s=((bt s).length:Int):=by rw[a];omega
  rw[q,<-Int.natCast_mul,<-Int.natCast_add];congr 1;rw[Nat.mul_comm,Nat.add_comm,Nat.div_add_mod]
theorem ou:∀{s:Λ},dU s->∀{t:Λ}{n:Int},cr s t 0=σ n->(bt s)[n.toNat]?=σ t
 |[],_,[],n,h=>by simp[cr]at h;subst h;rfl
 |k::s,V,v::t,n,h=>by
  have hk:=V k (.head _);have j:=kF V.tail;have ae:=nJ V.tail;obtain⟨kn,rfl⟩:∃kn:Nat,k=kn:=⟨k.toNat,Ω⟩;unfold cr at h;split at h
  .rename_i ac;rw[qF]at h;cases f:cr s t 0 with
   |none=>rw[f]at h;cases h
   |some q=>
    rw[f]at h;simp only[Y6,W6,Int.zero_mul,Int.zero_add]at h;have r:=mv V.tail f;simp only[Int.zero_mul,Int.zero_add,Int.one_mul]at r;obtain⟨a,rfl⟩:∃a:Nat,v=a:=⟨v.toNat,Ω⟩;have w:=xp (kn:=kn) (v:=a) rfl Ω (ou V.tail f);have e:n.toNat=a*(bt s).length+q.toNat:=by
     rw[<-h,j];have:((a*(aV s).toNat:Nat):Int)=(a:Int)*aV s:=by rw[Int.natCast_mul,Int.toNat_of_nonneg Ω]
     omega
    rw[e];show((Y9 ((kn:Int).toNat)).flatMap λ(v:Nat)=>(bt s).map λt=>(v:Int)::t)[_]?=_;rw[u7];exact w
  .cases h
 |[],_,_::_,_,h=>by cases h
 |_::_,_,[],_,h=>by cases h
theorem Cw:∀(s:Λ),dU s->∀(n c:Int),du s (n+c*aV s)=du s n
 |[],_,_,_=>rfl
 |k::s,V,n,c=>by
  have ae:=nJ V.tail;simp only[du,aV];rw[<-Int.mul_assoc,Cw s V.tail,Int.add_mul_ediv_right _ _ Ω,Int.add_mul_emod_self_right]
theorem ue:∀{s:Λ},dU s->∀{n:Int},0<=n->n<aV s->cr s (du s n) 0=σ n
 |[],_,n,a,h1=>by simp[aV]at h1;simp[du,cr];omega
 |k::s,V,n,a,h1=>by
  have hk:=V k (.head _);have ae:=nJ V.tail;simp only[du,aV]at h1 ⊢;have f:=Int.ediv_lt_of_lt_mul Ω h1;have h:0<=n / aV s:=Int.ediv_nonneg a Ω;have hm:n / aV s % k=n / aV s:=Int.emod_eq_of_lt h f;rw[hm];unfold cr;rw[m3 ⟨h,f⟩,qF];have e:du s n=du s (n % aV s):=by
   have:=Cw s V.tail (n % aV s) (n / aV s);rw[<-this];congr 1;have:=Int.emod_add_mul_ediv n (aV s);rw[Int.mul_comm (n / aV s)];omega
  rw[e,ue V.tail (Int.emod_nonneg _ Ω) (Int.emod_lt_of_pos _ Ω)];simp only[Y6,W6,Int.zero_mul,Int.zero_add];have:=Int.emod_add_mul_ediv n (aV s);rw[Int.mul_comm (n / aV s)];omega
theorem r0{s:Λ}(V:dU s){i:Nat}(h:(i:Int)<aV s):(bt s)[i]?=σ (du s i):=by
 have:=ou V (ue V Ω h);simpa using this
def bz(s cs t:Λ):Int:=match cr s t 0 with
 |some n=>cs.getD n.toNat 0
 |none=>0
def upto{α:Type}(l:List α)(d:α)(i:Nat):List α:=l.take i++o5 (l.length-i) d
theorem pA{α:Type}(l:List α)(d:α)(i:Nat):(upto l d i).length=l.length:=by simp[upto];omega
theorem qG{α:Type}(l:List α)(d:α):upto l d 0=o5 l.length d:=by simp[upto]
theorem qH{α:Type}(l:List α)(d:α):upto l d l.length=l:=by simp[upto]
theorem qI{α:Type}{l:List α}{d x:α}{i:Nat}(h:l[i]?=σ x):(upto l d i).set i x=upto l d (i+1):=by
 have hi:=(x6.1 h).1;unfold upto;rw[U7 _ _ Θ,u9,h];have e:i-(l.take i).length=0:=Θ
 obtain⟨m,hm⟩:∃m,l.length-i=m+1:=⟨l.length-i-1,Ω⟩;rw[e,hm,show l.length-(i+1)=m by omega];simp[List.replicate_succ]
theorem r1{α:Type}{l:List α}{i:Nat}{x:α}(h:l[i]?=σ x):l.set i x=l:=by
 apply Y2;intro j;rw[X6];split
 .rename_i a;subst a;rw[m3 (x6.1 h).1,h]
 .rfl
def xq:Λ->Int
 |[]=>0
 |x::l=>l.foldl min x
def Cx(P:Int->Prop)(m:Int):Prop:=P m/\∀x,P x->m<=x
def dB(s t:Λ):Prop:=∃n,cr s t 0=σ n
theorem MH(k v:Int)(s t:Λ):cr (k::s) (v::t) 0=if 0<=v/\v<k then(cr s t 0).map (λn=>n+(0*k+v)*aV s)else ν:=by
 conv=>lhs;unfold cr
 rw[qF]
theorem Cy{v:Int}{s:Λ}:dB (k::s) (v::t)↔(0<=v/\v<k)/\dB s t:=by
 unfold dB;rw[MH];constructor
 .rintro⟨n,h⟩;split at h
  .rename_i ac;cases a:cr s t 0 with
   |none=>rw[a]at h;cases h
   |some q=>exact⟨ac,q,rfl⟩
  .cases h
 .rintro⟨ac,q,a⟩;rw[m3 ac,a];exact⟨_,rfl⟩
theorem Cz:dB [] t↔t=[]:=by
 cases t with
 |nil=>exact⟨λ_=>rfl,λ_=>⟨0,rfl⟩⟩
 |cons v t=>
  constructor
  .rintro⟨_,h⟩;cases h
  .intro h;cases h
theorem uf{s:Λ}(h:dB s t):s.length=t.length:=by
 obtain⟨n,h⟩:=h;rcases Nat.decEq s.length t.length with a|a
 .rw[w7 s t 0 a]at h;cases h
 .exact a
theorem CA{s:Λ}(V:dU s){n:Int}(h:cr s t 0=σ n):du s n=t:=by
 have f:=mv V h;have h1:=ou V h;simp only[Int.zero_mul,Int.zero_add,Int.one_mul]at f;have a:=r0 V (i:=n.toNat) Ω;rw[h1]at a;have e:((n.toNat:Nat):Int)=n:=Ω
 rw[e]at a;exact(Z5 a).symm
theorem xr{s cs:Λ}(V:dU s)(a:cs.length=(aV s).toNat):cs=(Y9 (aV s).toNat).map λ(q:Nat)=>bz s cs (du s q):=by
 apply List.ext_getElem
 .simp[a]
 .intro i h1 e;rw[List.getElem_map,List.getElem_range];have ae:=nJ V;have hi:(i:Int)<aV s:=Ω
  unfold bz;rw[ue V Ω hi];simp only[u7];rw[r8,v8 h1];rfl
theorem xt{s:Λ}(V:dU s){q:Nat}(a:q<(aV s).toNat):dB s (du s q):=⟨_,ue V Ω (by have:=nJ V;omega)⟩
theorem MI{s cs:Λ}(V:dU s)(e:cs.length=(aV s).toNat)(f:a.length=(aV s).toNat)(h:∀t,dB s t->bz s cs t=bz s a t):cs=a:=by
 rw[xr V e,xr V f];apply List.map_congr_left;intro q j;exact h _ (xt V (by simpa using j))
theorem MJ(h:l≠[]):Cx (λc=>c∈l) (xq l):=by
 obtain⟨x,r,rfl⟩:∃v r,l=v::r:=by cases l with
  |nil=>exact m6 rfl h
  |cons v r=>exact⟨v,r,rfl⟩
 clear h;show Cx (λc=>c∈x::r) (r.foldl min x);induction r generalizing x with
 |nil=>exact⟨.head _,λy f=>by simp at f;simp[f]⟩
 |cons y r j=>
  rw[List.foldl_cons];obtain⟨h1,e⟩:=j (min x y);refine⟨?_,λz a=>?_⟩
  .rcases List.mem_cons.1 h1 with h1|h1
   .rw[h1];rcases Int.le_total x y with h|h
    .rw[Int.min_eq_left h];exact .head _
    .rw[Int.min_eq_right h];exact .tail _ (.head _)
   .exact .tail _ (.tail _ h1)
  .rcases List.mem_cons.1 a with rfl|a
   .have:=e _ (.head _);omega
   .rcases List.mem_cons.1 a with rfl|a
    .have:=e _ (.head _);omega
    .exact e _ (.tail _ a)
def qJ(m:Λ)(i j:Nat):Prop:=∀(p q:Nat)(x y:Int),p<q->q<=i->q≠j->m[p]?=σ x->m[q]?=σ y->x<=y
def r2(m:Λ)(i:Nat):Prop:=∀(p q:Nat)(x y:Int),p<q->q<i->m[p]?=σ x->m[q]?=σ y->x<=y
theorem MK{m:Λ}{i:Nat}(h:r2 m i):qJ m i i:=λp q x y h1 f j a e=>h p q x y h1 Ω a e
theorem ML{m:Λ}{i:Nat}(h:qJ m i 0):r2 m (i+1):=λp q x y h1 f a e=>h p q x y h1 Ω Ω a e
theorem MM{m:Λ}{i:Nat}{a b:Int}(h:qJ m i j)(A:0<j)(r:m[j-1]?=σ a)(w:m[j]?=σ b)(z:a<=b):r2 m (i+1):=by
 intro p q x y h1 B e f;by_cases s:q=j
 .subst s;rw[w]at f;cases f;by_cases ae:p=q-1
  .subst ae;rw[r]at e;cases e;exact z
  .have:=h p (q-1) x a Ω Ω Ω e r;omega
 .exact h p q x y h1 Ω s e f
theorem MN{m:Λ}{i:Nat}{a b:Int}(h:qJ m i j)(H:0<j)(hi:j<=i)(z:m[j-1]?=σ a)(A:m[j]?=σ b)(I:b<a):qJ ((m.set j a).set (j-1) b) i (j-1):=by
 intro p q x y h1 w B e f;have C:=(x6.1 A).1;have E:∀(r:Nat),((m.set j a).set (j-1) b)[r]?=if r=j-1 then σ b else if r=j then σ a else m[r]?:=λr=>by
  by_cases h:r=j-1
  .subst h;rw[Z6 Θ,m3 rfl]
  .rw[Y8 (Ne.symm h),m5 h];by_cases be:r=j
   .subst be;rw[Z6 C,m3 rfl]
   .rw[Y8 (Ne.symm be),m5 be]
 rw[E]at e f;rw[m5 B]at f;by_cases s:q=j
 .rw[m3 s]at f;cases f;split at e
  .cases e;omega
  .split at e
   .omega
   .exact h p (j-1) x a Ω Ω Ω e z
 .rw[m5 s]at f;split at e
  .cases e;have:=h j q b y;by_cases F:j<q
   .exact this F w s A f
   .omega
  .split at e
   .rename_i G;subst G;cases e;exact h (p-1) q a y Ω w s z f
   .exact h p q x y h1 w s e f
theorem swap_perm{m:Λ}{i:Nat}{a b:Int}(r:i<j)(h:m[i]?=σ a)(f:m[j]?=σ b):((m.set j a).set i b).Perm m:=by
 induction m generalizing i j with
 |nil=>simp at h
 |cons x m q=>
  cases j with
  |zero=>omega
  |succ j=>
   cases i with
   |zero=>
    simp at h f ⊢;subst h;obtain⟨s,f⟩:=x6.1 f;rw[show m=m.take j++m[j]::m.drop (j+1) by simp];rw[U7 _ _ Θ];have e:j-(m.take j).length=0:=Θ
    rw[e,f];simp only[List.set_cons_zero];refine(S0.cons b (List.perm_middle)).F ?_;refine(S0.swap x b _).F ?_;exact S0.cons x List.perm_middle.symm
   |succ i=>
    simp at h f ⊢;exact q Ω h f
theorem MO{m:Λ}(h:r2 m m.length):m.Pairwise (·<= ·):=by
 rw[V8];intro i j hi a e;exact h i j _ _ e a (v8 hi) (v8 a)
def Good(o:Λ)(n:Nat):Prop:=o.length=n/\∀(i:Nat)(p:Int),o[i]?=σ p->(0<=p/\p<n)/\∀j,j<i->o[j]? ≠σ p
theorem Good.inj{o:Λ}{i:Nat}{p:Int}(h:Good o n)(hi:o[i]?=σ p)(a:o[j]?=σ p):i=j:=by
 rcases Nat.lt_trichotomy i j with h1|h1|h1
 .exact m6 hi ((h.2 j p a).2 i h1)
 .exact h1
 .exact m6 a ((h.2 i p hi).2 j h1)
def CB(m:Λ):Prop:=∀i:Nat,i<m.length->m[i]?=σ (i:Int)
theorem CC{o m:Λ}(h:Good o n)(ae:m.Perm o)(V:m.Pairwise (·<= ·)):CB m:=by
 have r:o.Nodup:=V8.2 λi j hi s A he=>by
  have:=h.inj (i:=i) (j:=j) (p:=o[j]) (by rw[v8 hi,he]) (v8 s);omega
 have w:=ae.nodup_iff.2 r;have B:m.length=n:=by rw[ae.length_eq,h.1]
 have f:∀x∈m,0<=x/\x<(n:Int):=λx J=>by
  obtain⟨i,hi,he⟩:=List.getElem_of_mem (ae.mem_iff.1 J);exact(h.2 i x (by rw[v8 hi,he])).1
 have q:∀(i:Nat)(hi:i+1<m.length),m[i]<m[i+1]:=λi hi=>by
  have h1:=V8.1 V i (i+1) Ω hi Ω;have a:=V8.1 w i (i+1) Ω hi Ω;omega
 have y:∀(i:Nat)(hi:i<m.length),(i:Int)<=m[i]:=by
  intro i;induction i with
  |zero=>intro hi;exact(f _ (S3 hi)).1
  |succ i e=>
   intro hi;have h1:=e Ω;have a:=q i hi;omega
 have z:∀(d i:Nat)(hi:i<m.length),i+d+1=m.length->m[i]<=(i:Int):=by
  intro d;induction d with
  |zero=>
   intro i hi he;have:=(f _ (S3 hi)).2;omega
  |succ d e=>
   intro i hi he;have h1:=e (i+1) Ω Ω;have a:=q i Ω;omega
 intro i hi;rw[v8 hi];have h1:=y i hi;have a:=z (m.length-i-1) i hi Ω;congr 1;omega
theorem MP{o m:Λ}(h:CB m)(ae:m.Perm o):Good o m.length:=by
 have r:m.Nodup:=V8.2 λi j hi a w he=>by
  have h1:=h i hi;have e:=h j a;rw[v8 hi]at h1;rw[v8 a]at e;have h1:=Z5 h1;have e:=Z5 e;omega
 have s:=ae.nodup_iff.1 r;refine⟨ae.length_eq.symm,λi p hi=>⟨?_,λj a f=>?_⟩⟩
 .obtain⟨k,hk,he⟩:=List.getElem_of_mem (ae.mem_iff.2 (x7 hi));have h1:=h k hk;rw[v8 hk,he]at h1;cases h1;omega
 .have q:=(x6.1 hi).1;have:=V8.1 s j i Ω q a;rw[v8 q]at hi;rw[v8 (show j<o.length by omega)]at f;exact this ((Z5 f).F (Z5 hi).symm)
theorem Good.CD{o:Λ}{p:Nat}(h:Good o n)(ae:p<n):∃j:Nat,o[j]?=σ (p:Int):=by
 let le:Int->Int->Bool:=λa b=>decide (a<=b);have h1:(o.mergeSort le).Perm o:=List.mergeSort_perm o le;have e:(o.mergeSort le).Pairwise (·<= ·):=by
  refine(List.pairwise_mergeSort (λa b c h1 e=>?_) (λa b=>?_) o).imp λh=>by simpa[le]using h
  .simp[le]at*;omega
  .simp[le];omega
 have f:=CC h h1 e p (by rw[h1.length_eq,h.1];exact ae);obtain⟨j,q,he⟩:=List.getElem_of_mem (h1.mem_iff.1 (x7 f));exact⟨j,by rw[v8 q,he]⟩
def ov(o x:Λ):Λ:=(Y9 o.length).map λ(p:Nat)=>x.getD (o.idxOf (p:Int)) 0
theorem CE(o x:Λ):(ov o x).length=o.length:=by simp[ov]
theorem CF{o x:Λ}{p:Int}(h:Good o n)(J:x.length=n)(a:o[j]?=σ p):(ov o x)[p.toNat]?=x[j]?:=by
 have h1:=(h.2 j p a).1;have q:=(x6.1 a).1;have hm:=x7 a;have e:=List.idxOf_lt_length_of_mem hm;have f:=h.inj (by rw[v8 e,List.getElem_idxOf e]) a;have ae:((p.toNat:Nat):Int)=p:=Ω
 have r:=h.1;unfold ov;rw[u4,List.getElem?_range Ω];simp only[Y6,ae,f];rw[r8,v8 (show j<x.length by omega)];rfl
theorem CG{o x y:Λ}(h:Good o n)(J:x.length=n)(q:y.length=n)(f:∀(j:Nat)(p:Int),o[j]?=σ p->y[p.toNat]?=x[j]?):y=ov o x:=by
 refine Y2 λp=>?_;have r:=h.1;by_cases ae:p<n
 .obtain⟨j,a⟩:=h.CD ae;have h1:=f j p a;have e:=CF h J a;rw[u7]at h1 e;rw[h1,e]
 .rw[W7 Ω,W7 (by rw[CE];omega)]
theorem pB:∀{s t:Λ},dB s t↔s.length=t.length/\∀(i:Nat)(a v:Int),s[i]?=σ a->t[i]?=σ v->0<=v/\v<a
 |[],t=>by
  rw[Cz];exact⟨λh=>⟨by rw[h],λi a v h _=>by simp at h⟩,λh=>b8 h.1.symm⟩
 |k::s,[]=>⟨λh=>m6 (uf h) Ξ,λh=>m6 h.1 Ξ⟩
 |k::s,v::t=>by
  rw[Cy,pB];refine⟨λ⟨h1,f,j⟩=>⟨by simp[f],λi a u e hu=>?_⟩,λ⟨h1,f⟩=>⟨f 0 k v rfl rfl,by simpa using h1,λi a u e hu=>f (i+1) a u (by simpa using e) (by simpa using hu)⟩⟩;cases i with
  |zero=>simp at e hu;subst e;subst hu;exact h1
  |succ i=>exact j i a u (by simpa using e) (by simpa using hu)
def fd(s o:Λ):Λ:=o.map λp=>s.getD p.toNat 0
theorem ug(s o:Λ):(fd s o).length=o.length:=by simp[fd]
theorem CH{s o:Λ}{p:Int}(h:Good o n)(V:s.length=n)(a:o[j]?=σ p):(fd s o)[j]?=s[p.toNat]?:=by
 have h1:=(h.2 j p a).1;unfold fd;rw[u4,a,Y6,r8,v8 (show p.toNat<s.length by omega)];rfl
theorem MQ{s o:Λ}(h:Good o n)(V:s.length=n){x:Int}(J:x∈fd s o):x∈s:=by
 obtain⟨p,ae,rfl⟩:=l9.1 J;obtain⟨j,a,he⟩:=List.getElem_of_mem ae;have h1:=(h.2 j p (by rw[v8 a,he])).1;rw[r8,v8 (show p.toNat<s.length by omega)];exact S3 _
theorem cn.MR{s o:Λ}(a:cn s)(h:Good o n)(V:s.length=n):cn (fd s o):=
 ⟨by rw[ug,h.1,<-V];exact a.1,λx J=>a.2 x (MQ h V J)⟩
theorem MS{s o x:Λ}(h:Good o n)(V:s.length=n)(J:dB (fd s o) x):dB s (ov o x):=by
 obtain⟨h1,w⟩:=pB.1 J;rw[ug,h.1]at h1;refine pB.2 ⟨by rw[CE,h.1,V],λp a v e ac=>?_⟩;have ae:p<n:=by have:=(x6.1 e).1;omega
 obtain⟨j,f⟩:=h.CD ae;have q:=CH h V f;have r:=CF h h1.symm f;rw[u7]at q r;exact w j a v (by rw[q,e]) (by rw[<-r,ac])
def pC(s cs o:Λ):Λ:=(Y9 (aV (fd s o)).toNat).map λ(q:Nat)=>bz s cs (ov o (du (fd s o) q))
theorem CI(s cs o:Λ):(pC s cs o).length=(aV (fd s o)).toNat:=by simp[pC]
theorem xu{f:Int->Bool}{x:Int}:runN f (x::l)=if f x=s2 then runN f l+1 else 0:=by
 grind [runN,List.takeWhile_cons]
theorem xv(f:Int->Bool):∀l:Λ,l.dropWhile f=l.drop (runN f l)
 |[]=>rfl
 |x::l=>by
  rw[List.dropWhile_cons,xu];by_cases h:f x=s2
  .rw[m3 h,m3 h,xv f l];rfl
  grind
theorem CJ(f:Int->Bool):∀l:Λ,l.takeWhile f=l.take (runN f l)
 |[]=>rfl
 |x::l=>by
  rw[List.takeWhile_cons,xu];by_cases h:f x=s2
  .rw[m3 h,m3 h,List.take_succ_cons,CJ f l]
  grind
theorem CK{f:Int->Bool}:∀{l:Λ}{b:Int}{q:Λ},l.dropWhile f=b::q->f b=sp
 |x::l,b,q,h=>by
  rw[List.dropWhile_cons]at h;by_cases J:f x=s2
  .rw[m3 J]at h;exact CK h
  grind
theorem xw{p:Λ}{a:Nat}{b:Int}{q:Λ}(h:p.drop a=b::q):p[a]?=σ b:=by
 have:=List.getElem?_drop (xs:=p) (i:=a) (j:=0)
 grind
theorem MT(p:Λ)(at_:Nat):match qD p at_ with
  | .word a b=>lex (p.drop at_)=(((p.take b).drop a)::(lex (p.drop b)).1,(lex (p.drop b)).2)
  | .none=>lex (p.drop at_)=([],s2)
  | .text _=>lex (p.drop at_)=([],sp):=by
 have h:(p.drop at_).dropWhile cZ=p.drop (gU p at_):=by rw[xv,List.drop_drop];rfl
 have j:(p.drop (gU p at_)).dropWhile cf=p.drop (kh p (gU p at_)):=by rw[xv,List.drop_drop];rfl
 have s:(p.drop (gU p at_)).takeWhile cf=(p.take (kh p (gU p at_))).drop (gU p at_):=by
  grind [CJ,List.drop_take,kh]
 have w:runN cf (p.drop (gU p at_))=kh p (gU p at_)-gU p at_:=by grind [kh]
 have z:gU p at_<=kh p (gU p at_):=by grind [kh]
 unfold qD;generalize gU p at_=a at*;generalize kh p a=b at*;by_cases h1:b<p.length/\(∀c,p[b]?=σ c->cZ c=sp)
 .grind [mz,List.drop_eq_nil_iff,xw]
 .rw[m5 h1];by_cases f:a=b
  .rw[m3 f];simp only;subst f;rw[mz,h];cases e:p.drop a with
   |nil=>rfl
   |cons x q=>
    exfalso;have A:=xw e
    grind [CK]
  .rw[m5 f];simp only;rw[mz (p.drop at_),h];cases e:p.drop a with
   |nil=>
    rw[e]at w;have:runN cf []=0:=rfl;omega
   |cons x q=>
    simp only;rw[e]at j s w;have J:cf x=s2:=by
     grind [xu]
    rw[m3 J,j,s];cases y:p.drop b with
    |nil=>simp only;rw[mz []];rfl
    |cons c r=>
     simp only;have B:=xw y
     grind
def iV(w:x5)(g:Nat)(R:Nat->Prop)(hp:List (Λ))(e:Bool):Prop:=∃a p at_,nI w g a p at_ (-1)/\(∀r,lc a r->R r)/\lex (p.drop at_)=(hp,e)
theorem iV.aa{g:Nat}{e:Bool}(h:iV w g R hp e)(J:ai S w I)(f:¬S g)(A:∀r,R r->¬S r):iV I g R hp e:=by
 obtain⟨j,p,a,⟨h1,q,s,x,bf,B⟩,y,z⟩:=h;exact⟨j,p,a,⟨h1,q,s,x.aa J f,bf,by grind [bE]⟩,y,z⟩
theorem iV.words{g:Nat}(h:iV w g R hp f):hp.length<=100000/\∀t∈hp,Bytes t/\t≠[]/\t.length<=100000:=by
 obtain⟨s,p,a,⟨x,y,z,_⟩,_,j⟩:=h;have A:(p.drop a).length<=100000:=by grind
 have q:=rT _ (p.drop a) (o6 _);rw[j]at q;refine⟨by grind,λt B=>?_⟩;have e:=tW _ (p.drop a) (o6 _) t (by grind);refine⟨λb r=>?_,e.1,Ω⟩;have:=rs (e.2.1 b r);omega
def MU(w:x5)(g:Nat)(R:Nat->Prop)(hp:List (Λ))(a:Bool)(v:x4)(I:x5):Prop:=ai (λr=>r=g) w I/\match hp with
 |t::l=>iV I g R l a/\∃n:Int,v= .tuple #[ch t,Δ n,Δ 0]
 |[]=>∃n:Int,v= .tuple #[ch [],Δ n,Δ (if a then 2 else 11)]
theorem r3{g:Nat}{z:Bool}(h:iV w g R hp z):aq x8 wN [Γ g] w (MU w g R hp z):=by
 obtain⟨A,p,a,h1,B,q⟩:=h;refine(Mr h1).Y ?_;intro v I _ hw;have e:=MT p a;unfold rY at hw;cases r:qD p a with
 |word x y=>
  rw[r]at hw e;simp only at hw e;rw[q]at e;obtain⟨rfl,s,V⟩:=hw;obtain⟨f,j⟩:=Prod.mk.inj e;subst f j;exact⟨s,⟨A,p,y,V,B,rfl⟩,_,rfl⟩
 |none=>
  rw[r]at hw e;simp only at hw e;rw[q]at e;obtain⟨f,j⟩:=Prod.mk.inj e;subst f j;obtain⟨n,rfl,J⟩:=hw;exact⟨J.aa _,_,rfl⟩
 |text b=>
  rw[r]at hw e;simp only at hw e;rw[q]at e;obtain⟨f,j⟩:=Prod.mk.inj e;subst f j;obtain⟨rfl,s,_⟩:=hw;exact⟨s,_,rfl⟩
def lQ(w:Λ):x4:=match ik w with
 |some n=>.tuple #[Δ n,Δ 0]
 |none=>.tuple #[Δ 0,Δ 4]
theorem CL{i:Nat}{b:Int}(hi:l[i]?=σ b):(l.take (i+1)).all gS=((l.take i).all gS&&gS b):=by
 grind [u9]
theorem CM{i:Nat}{b:Int}(hi:l[i]?=σ b):(l.take (i+1)).foldl fQ 0=fQ ((l.take i).foldl fQ 0) b:=by
 grind [u9]
theorem CN(a:l≠[])(h:l.all gS=s2):lP l=σ (l.foldl fQ 0):=by
 grind [lP]
theorem CO{i:Nat}{b:Int}(hi:l[i]?=σ b)(a:gS b=sp):lP l=ν:=by
 grind [lP]
def qK(w l:Λ)(s:Int):Prop:=(s=1\/s= -1)/\ik w=(lP l).map λn=>s*n
theorem CP:qK (45::l) l (-1):=⟨.inr rfl,by simp only[ik];congr 1;funext n;omega⟩
theorem CQ{w:Λ}(h:∀b,w[0]?=σ b->b≠45):qK w w 1:=⟨.inl rfl,by
 have e:ik w=lP w:=by
  unfold ik
  grind
 rw[e];cases lP w<;>grind⟩
theorem uh{w:Λ}{s:Int}(h:qK w l s)(a:lP l=ν):lQ w= .tuple #[Δ 0,Δ 4]:=by
 unfold lQ;rw[h.2,a];rfl
theorem CR{w:Λ}{s n:Int}(h:qK w l s)(a:lP l=σ n):lQ w= .tuple #[Δ (s*n),Δ 0]:=by
 unfold lQ;rw[h.2,a];rfl
theorem MV(E:Bytes l)(ac:l.length<=100000):aq x8 JX [ch l] w λv I=>v=lQ l/\Ext w I:=by
 refine aE func170 ?_;rw[Mb];refine jF (λN O U=>Ext w U/\∃(m:Λ)(s:Int),N=ch m/\O=Δ s/\Bytes m/\m.length<=100000/\qK l m s) ?_ ?_
 .rintro _ _ U ⟨G,m,s,rfl,rfl,H,ad,J⟩;rw[B5 H (λb a=>by cases a),ao];refine⟨λq=>⟨by rw[uh J (by rw[q];rfl)],G⟩,λq=>?_⟩;refine xf df.u cV.u cT.u H Ω λbv ab K L _=>?_;rw[ba cV.u L];refine rx.range m.length (λi _ _ c z=>Ext ab z/\c=Δ ((m.take i).foldl fQ 0)/\(m.take i).all gS=s2) Ω (by grind [Ext.refl]) ?_ ?_
  .rintro i P t3 _ z Q hi ⟨e,rfl,f⟩ ae;obtain⟨b,A⟩:=aJ (l:=m) hi;have af:=H b (x7 A);refine bK Ω ?_;refine B1 (λ_ _ c B=>Ext ab B/\c=Δ ((m.take (i+1)).foldl fQ 0)/\(m.take (i+1)).all gS=s2) ?_ ?_
   .rintro ag ai c B aj;rw[aT]
    grind
   intro az C;rw[bp cV.u cT.i Ψ (L.W e) A];refine a6 (λv B=>z=B/\v= .bool (!gS b)) ?_ ?_
   rotate_left
   .intro R S;rw[aW,ao];refine⟨by grind [gS],λh=>?_⟩;rw[bW]
    grind [gS]
   rintro _ _ ⟨rfl,rfl⟩;cases M:gS b with
   |false=>
    rw[X5,bT];exact⟨by grind [uh,CO],(G.F K).F e⟩
   |true=>
    rw[Y7,bb];have ak:=rs M;have j:=xc f ⟨T3 _,Φ⟩;rw[CM A,CL A,f,M]at C;generalize (m.take i).foldl fQ 0=n at*;have j:=j;rw[dm,wrap_u8 Ω Ω,fM cT.u ay.u,lm Ω Ω,dm,lm Ω Ω,oh Φ,Int.tdiv_eq_ediv_of_nonneg Ω];rw[lm Ω Ω,bW,ao];refine⟨λV=>C _ _ _ _ ⟨e,?_,rfl⟩,λV=>?_⟩
    .grind [fQ,aD]
    .rw[fL,lm Ω Ω,aT,lm Ω Ω]
     grind [fQ,aD]
  .rintro P t3 _ z Q ⟨e,rfl,f⟩;rw[o9]at f ⊢;refine ck Ω ?_;have j:=xc f ⟨T3 _,Φ⟩;have j:0<=m.foldl fQ 0/\m.foldl fQ 0<=4611686018427387904:=j;rw[fL];have hw:X4.wrap (s*m.foldl fQ 0)=s*m.foldl fQ 0:=by
    rcases J.1 with rfl|rfl<;>exact(by grind [lm])
   rw[hw];exact⟨by grind [CR,CN],(G.F K).F e⟩
 .intro az C;refine a6 (λv ab=>w=ab/\∃c:Bool,v= .bool c/\(c=s2↔l[0]?=σ 45)) ?_ ?_
  .rintro _ _ ⟨rfl,c,rfl,W⟩;rw[b4];refine⟨λX=>?_,λah=>?_⟩
   .intro al Y _ _;have Z:=W.1 X;cases l with
    |nil=>simp at Z
    |cons x r=>
     have aa:x=45:=by grind
     subst aa;rw[B6 (y:=1) (i:=1) rfl df.u Ξ];exact C _ _ _ ⟨Y,r,-1,rfl,rfl,λb a=>E b (.tail _ a),by grind,CP⟩
   grind [Ext.refl,CQ]
  .intro R S;rw[Mf E (λb a=>by cases a),ao];refine⟨λq=>?_,by grind⟩;cases l with
   |nil=>exact m6 rfl q
   |cons x r=>
    rw[rV (y:=0) (b:=x) rfl df.u E rfl,bl]
    grind
theorem xx{s s':aN}{w:Λ}(h:ec s=σ (w,s')):s.hp=w::s'.hp/\s'={s with hp:=s'.hp}:=by
 grind [ec]
theorem jn{n:Int}{s s':aN}(h:bq lo hi s=σ (n,s')):(lo<=n/\n<=hi)/\(∃w,s.hp=w::s'.hp/\ik w=σ n)/\s'={s with hp:=s'.hp}:=by
 grind [bq,ec]
def jO(k:Nat)(s s':aN):Prop:=s.hp.length=s'.hp.length+k/\s'={s with hp:=s'.hp}
theorem jO.refl(s:aN):jO 0 s s:=⟨rfl,rfl⟩
theorem jO.F{a b:Nat}{r s t:aN}(h:jO a r s)(k:jO b s t):jO (a+b) r t:=⟨by have:=h.1;have:=k.1;omega,by rw[k.2,h.2]⟩
theorem dP{n:Int}{s s':aN}(h:bq lo hi s=σ (n,s')):jO 1 s s':=by
 obtain⟨_,⟨w,h1,_⟩,a⟩:=jn h;exact⟨by rw[h1];simp,a⟩
theorem jO.eqs{k:Nat}{s s':aN}(h:jO k s s'):s'.m1=s.m1/\s'.big=s.big/\s'.m2=s.m2:=by rw[h.2];grind
theorem mF{α:Type}{f:List α->aN->Option (α×aN)}(e:List α->aN->Prop)(ah:∀acc s a s',e acc s->f acc s=σ (a,s')->e (acc++[a]) s'):
  ∀(n:Nat)(acc:List α)(s:aN)(l:List α)(s':aN),e acc s->da f n acc s=σ (l,s')->e l s'/\l.length=acc.length+n
 :=by
 intro a;induction a<;>grind [da]
theorem xy{n:Int}{k:Nat}{s s':aN}(h:fm n k s=σ (l,s')):jO l.length s s'/\l.length=k/\l.Nodup/\∀v∈l,0<=v/\v<n:=by
 have:=mF (λacc t=>jO acc.length s t/\acc.Nodup/\∀v∈acc,0<=v/\v<n) (λacc t a bu ⟨h1,f,j⟩ h=>by
  cases e:bq 0 (n-1) t with
  |none=>grind
  |some q=>
   obtain⟨v,r⟩:=q;rw[e]at h;simp only at h;split at h
   .cases h
   .rename_i w;simp only[W6,R2]at h;obtain⟨rfl,rfl⟩:=h;have z:=(jn e).1;refine⟨by rw[j6];exact h1.F (dP e),List.nodup_append.2 ⟨f,Ξ,λx J y A he=>?_⟩,λx J=>?_⟩
    all_goals grind) k [] s l s' (by grind [jO.refl]) h
 grind
theorem xz:∀{a acc:Λ}{s s':aN}{t:Λ},kG a acc s=σ (t,s')->∃u,t=acc++u/\dB a u/\jO u.length s s'
 |[],acc,s,s',t,h=>by
  simp only[kG,W6,R2]at h;obtain⟨rfl,rfl⟩:=h;exact⟨[],Ξ,Cz.2 rfl,jO.refl s⟩
 |k::a,acc,s,s',t,h=>by
  simp only[kG]at h;cases e:bq 0 (k-1) s with
  |none=>grind
  |some q=>
   obtain⟨v,s1⟩:=q;rw[e]at h;obtain⟨u,rfl,hu,f⟩:=xz h;have j:=(jn e).1;exact⟨v::u,Ξ,by grind [Cy],by rw[W0,Nat.add_comm];exact(dP e).F f⟩
def ow(d6:Λ)(l:List (Λ×Int)):Prop:=(l.map (·.1)).Nodup/\∀p∈l,dB d6 p.1/\0<=p.2
theorem qL{acc:List (Λ×Int)}{s s':aN}{a:Λ×Int}(h:eX d6 acc s=σ (a,s')):a.1∉acc.map (·.1)/\dB d6 a.1/\0<=a.2/\jO (a.1.length+1) s s':=by
 unfold eX at h;cases f:kG d6 [] s with
 |none=>grind
 |some q=>
  obtain⟨t,s1⟩:=q;rw[f]at h;simp only at h;obtain⟨u,hu,ac,j⟩:=xz f;rw[List.nil_append]at hu;subst hu;cases e:bq 0 aD s1 with
  |none=>grind
  |some q=>
   obtain⟨c,w⟩:=q;rw[e]at h;simp only at h;split at h
   .cases h
   .rename_i r;simp only[W6,R2]at h;obtain⟨rfl,rfl⟩:=h;exact⟨r,ac,(jn e).1.1,j.F (dP e)⟩
structure xA(s s':aN):Prop where
 hp:s'.hp.length<s.hp.length
 big:s.big=s2->s'.big=s2
theorem MW{s s':aN}{l:List (Λ×Int)}(j:∀q∈s.m2,ow q.1 q.2/\q.2.length<=N)(B:s.hp.length<=N)(h:ed d6 s=σ (l,s')):
  ow d6 l/\l.length<=N/\s'.m2=s.m2/\xA s s':=by
 unfold ed at h;cases r:bq (-aD) aD s with
 |none=>grind
 |some q=>
  obtain⟨n,s1⟩:=q;rw[r]at h;simp only at h;have h1:=dP r;obtain⟨C,E,e⟩:=h1.eqs;split at h
  .cases V:s1.m2[(-n-1).toNat]? with
   |none=>grind
   |some q=>
    obtain⟨z,l'⟩:=q;rw[V]at h;simp only at h;split at h
    .rename_i y;simp only[W6,R2]at h;obtain⟨rfl,rfl⟩:=h;subst y;have hm:=x7 V;rw[e]at hm;exact⟨(j _ hm).1,(j _ hm).2,e,by have:=h1.1;omega,by grind⟩
    .cases h
  .have:=mF (λacc t=>ow d6 acc/\t.m2=s.m2/\t.hp.length+acc.length<=s1.hp.length/\(s.big=s2->t.big=s2)) (λacc t a bu ⟨g1,f,A,w⟩ g=>by
    obtain⟨F,G,H,x⟩:=qL g;obtain⟨f1,f2,f3⟩:=x.eqs;refine⟨⟨?_,λp ae=>?_⟩,by rw[f3,f],by have:=x.1;grind,by grind⟩
    .rw[Z0];exact List.nodup_append.2 ⟨g1.1,Ξ,by grind⟩
    .rcases j9.1 ae with ae|ae
     .exact g1.2 p ae
     grind) n.toNat [] (bm (decide (16384<min (s1.m1+n) aD)) {s1 with m1:=min (s1.m1+n) aD}) l s' ⟨⟨Ξ,λp ae=>by cases ae⟩,e,by simp[bm],by grind [bm]⟩ h
   obtain⟨⟨g1,f,A,w⟩,_⟩:=this;have:=h1.1;exact⟨g1,Ω,f,⟨Ω,w⟩⟩
structure ui(all:Λ)(N:Nat)(f:cI):Prop where
 scope:f.scope.Nodup/\∀v∈f.scope,0<=v/\v<all.length
 d6:f.d6=f.scope.map λv=>all.getD v.toNat 0
 other:0<=f.other
 lines:ow f.d6 f.lines
 len:f.lines.length<=N
theorem MX{s s':aN}{f:cI}(G:∀q∈s.m2,ow q.1 q.2/\q.2.length<=N)(Q:s.hp.length<=N)(h:dv all s=σ (f,s')):
  ui all N f/\(∀q∈s'.m2,ow q.1 q.2/\q.2.length<=N)/\xA s s'/\(s'.big=sp->f.scope.length<=6/\dL f.d6=sp):=by
 unfold dv at h;cases z:bq (-aD) aD s with
 |none=>grind
 |some q=>
 obtain⟨a,s1⟩:=q;rw[z]at h;simp only at h;have t0:=dP z;obtain⟨R,H,I⟩:=t0.eqs;cases h1:fm all.length a.natAbs s1 with
 |none=>grind
 |some q=>
 obtain⟨sc,j⟩:=q;rw[h1]at h;simp only at h;obtain⟨A,S,J,K⟩:=xy h1;obtain⟨T,L,M⟩:=A.eqs;generalize O:sc.map (λv=>all.getD v.toNat 0)=d6 at h;cases r:bq 0 aD (bm (decide (6<a.natAbs)||dL d6) j)with
 |none=>grind
 |some q=>
 obtain⟨other,e⟩:=q;rw[r]at h;simp only at h;have B:=dP r;obtain⟨U,C,w⟩:=B.eqs;have w:e.m2=s.m2:=by rw[w];show j.m2=_;rw[M,I]
 have V:e.hp.length<s.hp.length:=by
  have:=t0.1;have:=A.1;have x:=B.1
  grind [bm]
 cases x:ed d6 e with
 |none=>grind
 |some q=>
 obtain⟨lines,y⟩:=q;rw[x]at h;simp only[W6,R2]at h;obtain⟨rfl,rfl⟩:=h;obtain⟨g1,P,W,E⟩:=MW (by rw[w];exact G) Ω x;have X:=E.big;have gt:=E.hp;have Y:e.big=s2->∀F:aN,F=(if a<0 then{y with m2:=y.m2++[(d6,lines)]}else y)->F.big=s2:=by grind
 have C:e.big=(s.big||(decide (6<a.natAbs)||dL d6)):=by
  rw[C];show(j.big||_)=_;rw[L,H]
 refine⟨⟨⟨J,K⟩,O.symm,(jn r).1.1,g1,P⟩,λq Z=>?_,⟨?_,by grind⟩,λaa=>?_⟩
 all_goals grind
structure fC(N:Nat)(f:cg):Prop where
 name:f.name.length<=64
 k:1<=f.k/\f.k<=2147483648
 d6:1<=f.d6.length/\f.d6.length<=64/\∀z∈f.d6,1<=z/\z<=32
 mG:f.ho.length<=256
 ho:∀x∈f.ho,ui f.d6 N x/\x.scope.length<=6/\dL x.d6=sp
theorem r4{b:Bool}{s:aN}(h:(bm b s).big=sp):s.big=sp/\b=sp:=by
 have h:(s.big||b)=sp:=h
 grind
theorem CS{s s':aN}{f:cg}(V:s.m2=[])(h:jN s=σ (f,s'))(w:s'.big=sp):fC s.hp.length f/\f.name∈s.hp:=by
 unfold jN at h;cases E:ec s with
 |none=>grind
 |some q=>
 obtain⟨name,s0⟩:=q;rw[E]at h;simp only at h;obtain⟨U,ab⟩:=xx E;cases h1:bq 1 aD (bm (decide (64<name.length)) s0)with
 |none=>grind
 |some q=>
 obtain⟨n,s1⟩:=q;rw[h1]at h;simp only at h;have e:=dP h1;cases F:bq 1 aD (bm (decide (64<n)) s1)with
 |none=>grind
 |some q=>
 obtain⟨most,P⟩:=q;rw[F]at h;simp only at h;have y:=dP F;cases G:bq 0 aD P with
 |none=>grind
 |some q=>
 obtain⟨A,H⟩:=q;rw[G]at h;simp only at h;have t3:=dP G;cases B:bq 1 aD (bm (decide (256<A)) H)with
 |none=>grind
 |some q=>
 obtain⟨k,j⟩:=q;rw[B]at h;simp only at h;have t4:=dP B;cases I:da (gT most) n.toNat [] (bm (decide (2147483648<k)) j)with
 |none=>grind
 |some q=>
 obtain⟨d6,r⟩:=q;rw[I]at h;simp only at h;cases J:da (λ_ s=>dv d6 s) A.toNat [] r with
 |none=>grind
 |some q=>
 obtain⟨ho,Q⟩:=q;rw[J]at h;simp only[W6,R2]at h;obtain⟨rfl,rfl⟩:=h;have R:=mF (λ(acc:Λ)t=>t.m2=[]/\t.hp.length<=s.hp.length/\(t.big=sp->j.big=sp/\k<=2147483648/\∀z∈acc,1<=z/\z<=32)) (λacc t a bu ⟨g1,K,S⟩ g=>by
  unfold gT at g;cases C:bq 1 most t with
  |none=>grind
  |some q=>
   obtain⟨z,e⟩:=q;rw[C]at g;simp only[W6,R2]at g;obtain⟨rfl,rfl⟩:=g;have L:=dP C;obtain⟨ah,ai,T⟩:=L.eqs;have aj:=(jn C).1;refine⟨by show e.m2=[];rw[T,g1],by show e.hp.length<=_;have:=L.1;omega,λw=>?_⟩
   grind [r4]) n.toNat [] (bm (decide (2147483648<k)) j) d6 r ⟨by
     show j.m2=[];rw[t4.eqs.2.2];show H.m2=[];rw[t3.eqs.2.2,y.eqs.2.2];show s1.m2=[];rw[e.eqs.2.2];show s0.m2=[]
     grind,by
     show j.hp.length<=_;have ak:=e.1;have al:=y.1;have a3:=t3.1;have a4:=t4.1
     grind [bm],by grind [r4]⟩ I
 obtain⟨⟨am,an,W⟩,X⟩:=R;have Y:=mF (λ(acc:List cI)t=>(∀q∈t.m2,ow q.1 q.2/\q.2.length<=s.hp.length)/\t.hp.length<=s.hp.length/\(t.big=sp->r.big=sp/\∀x∈acc,ui d6 s.hp.length x/\x.scope.length<=6/\dL x.d6=sp)) (λacc t a bu ⟨g1,K,S⟩ g=>by
  obtain⟨ao,Z,aa,ap⟩:=MX g1 K g;refine⟨Z,by have:=aa.hp;omega,λw=>?_⟩
  grind [xA.big]) A.toNat [] r ho Q (by grind) J
 obtain⟨⟨_,_,d3⟩,d4⟩:=Y;obtain⟨ac,d5⟩:=d3 w;obtain⟨M,ad,aq⟩:=W ac;rw[t4.eqs.2.1]at M;obtain⟨N,ae⟩:=r4 M;rw[t3.eqs.2.1,y.eqs.2.1]at N;obtain⟨O,af⟩:=r4 N;rw[e.eqs.2.1]at O;obtain⟨_,ag⟩:=r4 O;have:=of_decide_eq_false ae;have:=of_decide_eq_false af;have:=of_decide_eq_false ag;have au:=(jn h1).1;have hk:=(jn B).1;simp only[List.length_nil,V0]at X d4;exact⟨⟨by grind,⟨hk.1,ad⟩,by grind,by grind,d5⟩,by grind⟩
def lb(x:cI)(k:Int)(t:Λ):Int:=min (match x.lines.find? (λp=>decide (p.1=t))with
 |some p=>p.2
 |none=>x.other) k
def bH(l:Λ):Λ:=((Y9 64).map λ(v:Nat)=>(v:Int)).filter λv=>decide (v∈l)
def b6(d6 scope:Λ):Λ:=scope.map λv=>d6.getD v.toNat 0
def qM(scope a t:Λ):Λ:=scope.map λv=>t.getD (a.idxOf v) 0
abbrev c0:Type:=Λ×Λ
def jP(d6:Λ)(k:Int)(x:cI):c0:=(bH x.scope,(bt (b6 d6 (bH x.scope))).map λt=>lb x k (qM x.scope (bH x.scope) t))
def eP(k:Int)(a b:Λ):Λ:=List.zipWith (λx y=>min (x+y) k) a b
def jQ(k:Int)(acc:List c0)(g:c0):List c0:=if g.1∈acc.map (·.1)then acc.map λh=>if h.1=g.1 then(h.1,eP k h.2 g.2)else h else acc++[g]
def kK:Λ->Int
 |[]=>0
 |x::l=>x*64 ^ l.length+kK l
def dq(l:Λ):Int:=l.length*64 ^ 6+kK l
def jo(g:c0):List c0->List c0
 |[]=>[g]
 |h::l=>if dq h.1<dq g.1 then h::jo g l else g::h::l
def gf(g:c0):Bool:=g.2.any λc=>decide (0<c)
def gg(f:cg):List c0:=(f.ho.map (jP f.d6 f.k)).foldl (jQ f.k) []
def gh(f:cg):List c0:=((gg f).filter gf).foldl (λl g=>jo g l) []
structure aI where
 k:Int
 d6:Λ
 zero:Int
 unary:List (Λ)
 ho:List c0
deriving DecidableEq
def cA(f:cg):aI:=(gh f).foldl (λn g=>match g.1 with
 |[]=>{n with zero:=g.2.getD 0 0}
 |[v]=>{n with unary:=n.unary.set v.toNat g.2}
 |_=>{n with ho:=n.ho++[g]}) ⟨f.k,f.d6,0,f.d6.map λz=>o5 z.toNat 0,[]⟩
abbrev lR:Type:=Rd (Λ)×Rd (List (Λ×Int))
def bS(g gs:Nat)(A:aj):aj:=λr=>r=g\/r=gs\/A r
def jp(gs:Nat)(e big a f m1:Int)(sv:x4):List x4:=[Γ gs,Δ e,Δ big,Δ a,Δ f,Δ m1,sv]
def cW(g gs:Nat)(A:aj)(B:aj):aj:=λr=>¬bS g gs A r/\B r
def mH(w:x5)(g gs:Nat)(A:aj)(B:aj):Prop:=g≠gs/\¬A g/\¬A gs/\(∀r,bS g gs A r->r<w.heap.size)/\∀r,B r->r<w.heap.size
def ey(w:x5)(g gs:Nat)(A:aj)(B:aj)(s:aN)(a:Bool):Prop:=mH w g gs A B/\iV w gs (cW g gs A B) s.hp a/\(0<=s.m1/\s.m1<=aD/\s.m2.length+s.hp.length<=100000)/\
 ∃big e f m1 sv,ak w g cK (jp gs 0 big e f m1 sv)/\((s.big=s2↔big≠0)/\(s.big=sp->m1=s.m1))/\bw A (cW g gs A B) w [sv] (show List lR from s.m2)
def fo(w:x5)(g gs:Nat)(A:aj)(B:aj):Prop:=mH w g gs A B/\∃(e big a f m1:Int)(sv:x4)(l:List lR),ak w g cK (jp gs e big a f m1 sv)/\(e≠0/\l.length<=100000)/\bw A (cW g gs A B) w [sv] l
theorem mH.aa{g:Nat}{A:aj}{B:aj}(h:mH w g gs A B)(J:ai S w I):mH I g gs A B:=by
 obtain⟨h1,e,f,j,q⟩:=h;exact⟨h1,e,f,λr a=>Nat.lt_of_lt_of_le (j r a) J.size,λr a=>Nat.lt_of_lt_of_le (q r a) J.size⟩
theorem CT{g:Nat}{A:aj}{B:aj}(a:∀r,A r->¬S r)(e:∀r,cW g gs A B r->¬S r):∀r,A r\/cW g gs A B r->¬S r:=λr h=>h.elim (a r) (e r)
theorem ey.aa{g:Nat}{A:aj}{B:aj}{s:aN}{e:Bool}(h:ey w g gs A B s e)(J:ai S w I)(a:∀r,bS g gs A r->¬S r)(f:∀r,cW g gs A B r->¬S r):ey I g gs A B s e:=by
 obtain⟨h1,j,q,big,x,y,m1,sv,z,C,E⟩:=h;exact⟨h1.aa J,j.aa J (a gs (.inr (.inl rfl))) f,q,big,x,y,m1,sv,z.aa J (a g (.inl rfl)),C,aw.aa E J λr _ h=>CT (λr F=>a r (.inr (.inr F))) f r h⟩
theorem fo.aa{g:Nat}{A:aj}{B:aj}(h:fo w g gs A B)(J:ai S w I)(a:∀r,bS g gs A r->¬S r)(f:∀r,cW g gs A B r->¬S r):fo I g gs A B:=by
 obtain⟨h1,e,big,j,q,m1,sv,l,s,x,y⟩:=h;exact⟨h1.aa J,e,big,j,q,m1,sv,l,s.aa J (a g (.inl rfl)),x,aw.aa y J λr _ h=>CT (λr z=>a r (.inr (.inr z))) f r h⟩
theorem ey.W{g:Nat}{A:aj}{B:aj}{s:aN}{a:Bool}(h:ey w g gs A B s a)(J:Ext w I):ey I g gs A B s a:=h.aa (J.aa λ_=>False) (λ_ _ h=>h) (λ_ _ h=>h)
theorem fo.W{g:Nat}{A:aj}{B:aj}(h:fo w g gs A B)(J:Ext w I):fo I g gs A B:=h.aa (J.aa λ_=>False) (λ_ _ h=>h) (λ_ _ h=>h)
def gB(w:x5)(g gs:Nat)(A:aj)(B:aj)(a:Bool)(s':Option aN)(I:x5):Prop:=ai (bS g gs A) w I/\match s' with
 |some s'=>ey I g gs A B s' a
 |none=>fo I g gs A B
theorem xB{g:Nat}{e big a f m1:Int}(h:ak w g cK (jp gs e big a f m1 sv)):aq x8 ml [Γ g] w λv I=>v= .bool (decide (e=0))/\Ext w I:=by
 refine aE func110 ?_;rw[b5,aZ cK.p rfl,aZ fk.p rfl,aF Ψ (h.cell rfl),bl];exact⟨rfl,Ext.refl _⟩
theorem qN{g:Nat}{A:aj}{B:aj}{s:aN}{a:Bool}(h:ey w g gs A B s a):aq x8 ml [Γ g] w λv I=>v= .bool s2/\Ext w I:=by
 obtain⟨_,_,_,big,f,j,m1,sv,e,_⟩:=h;exact(xB e).Y λ_ _ _ h=>h
theorem pD{g:Nat}{A:aj}{B:aj}(h:fo w g gs A B):aq x8 ml [Γ g] w λv I=>v= .bool sp/\Ext w I:=by
 obtain⟨_,e,big,j,q,m1,sv,l,a,f,_⟩:=h;refine(xB a).Y ?_;rintro _ U _ ⟨rfl,J⟩;exact⟨by rw[rc f.1],J⟩
theorem uj{g:Nat}{A B:aj}(h:A r\/cW g gs A B r)(a:¬A g):r≠g:=by
 rintro rfl;rcases h with h|h
 .exact a h
 .exact h.1 (.inl rfl)
theorem uk{g:Nat}{A:aj}{B:aj}{big x q m1 e:Int}{l:List lR}(V:mH w g gs A B)(s:ak w g cK (jp gs 0 big x q m1 sv))(y:bw A (cW g gs A B) w [sv] l)(he:e≠0)(z:l.length<=100000):
  aq x8 pd [Γ g,Δ e,Δ at_] w λ_ I=>ai (λr=>r=g) w I/\fo I g gs A B:=by
 refine aE func113 ?_;rw[b5,aZ cK.p rfl,aZ fk.p rfl,aF Ψ (s.cell rfl),bl,ao];refine⟨λ_=>?_,λh=>m6 rfl h⟩;rw[b5,aZ cK.p rfl,aZ fk.p rfl];refine bs (g:=g) (o:=1) k0.i rfl rfl s (by simp[jp]) λU C H a=>?_;have a:=a;rw[b5,aZ cK.p rfl,aZ fk.p rfl];refine bs (g:=g) (o:=3) al.i rfl rfl a (by simp[jp]) λab E J f=>?_;have f:=f;have j:=C.F E;exact⟨j,V.aa j,e,big,at_,q,m1,sv,l,f,⟨he,z⟩,aw.aa y j λr _ h G=>uj h V.2.1 G⟩
theorem ul{g:Nat}{A:aj}{B:aj}{s:aN}{a:Bool}{e:Int}(h:ey w g gs A B s a)(he:e≠0):aq x8 pd [Γ g,Δ e,Δ at_] w λ_ I=>ai (λr=>r=g) w I/\fo I g gs A B:=by
 obtain⟨V,_,f,big,x,y,m1,sv,j,_,q⟩:=h;exact uk V j q he (by have:=f.2.2;show s.m2.length<=_;omega)
theorem MY{g:Nat}{A:aj}{B:aj}{e:Int}(h:fo w g gs A B):aq x8 pd [Γ g,Δ e,Δ at_] w λ_ I=>Ext w I:=by
 obtain⟨_,f,big,j,q,m1,sv,l,h1,a,_⟩:=h;refine aE func113 ?_;rw[b5,aZ cK.p rfl,aZ fk.p rfl,aF Ψ (h1.cell rfl),bl,ao];exact⟨λh=>m6 h a.1,λ_=>Ext.refl _⟩
theorem um{g:Nat}{A:aj}{B:aj}{s:aN}{y b:Bool}(h:ey w g gs A B s y):aq x8 rH [Γ g,.bool b,Δ at_] w λ_ I=>ai (λr=>r=g) w I/\ey I g gs A B (bm b s) y:=by
 obtain⟨V,z,C,big,E,J,m1,sv,e,G,H⟩:=id h;refine aE func108 ?_;refine a6 (λv U=>w=U/\v= .bool (b&&decide (big=0))) ?_ ?_
 rotate_left
 .intro az j;cases b with
  |false=>rw[bb];exact j _ _ ⟨rfl,rfl⟩
  |true=>
   rw[bT,b5,aZ cK.p rfl,aZ fk.p rfl,aF Ψ (e.cell rfl),bl,ao];refine⟨λa=>?_,λa=>j _ _ ⟨rfl,by rw[rc a];rfl⟩⟩;rw[b5,aZ cK.p rfl,aZ fk.p rfl,aF Ψ (e.cell rfl),bl];exact j _ _ ⟨rfl,by rw[ms a];rfl⟩
 rintro _ _ ⟨rfl,rfl⟩;rw[b4];refine⟨λK=>?_,λah=>?_⟩
 .obtain⟨rfl,a⟩:=Bool.and_eq_true_iff.1 K;rw[b5,aZ cK.p rfl,aZ fk.p rfl];refine bs (g:=g) (o:=2) k0.i rfl rfl e (by simp[jp]) λU L P q=>?_;have q:=q;rw[b5,aZ cK.p rfl,aZ fk.p rfl];refine bs (g:=g) (o:=4) al.i rfl rfl q (by simp[jp]) λab M Q x=>?_;have x:=x;have f:=L.F M;exact⟨f,V.aa f,z.aa f (λhe=>V.1 he.symm) (λr N he=>N.1 (.inl he)),C,5,E,at_,m1,sv,x,⟨⟨λ_=>Ω,λ_=>by simp[bm]⟩,λh=>by simp[bm]at h⟩,aw.aa H f λr _ h O=>uj h V.2.1 O⟩
 .refine⟨ai.refl _ _,V,z,C,big,E,J,m1,sv,e,⟨?_,λh=>G.2 (by
   have h:(s.big||b)=sp:=h;exact(T4.1 h).1)⟩,H⟩
  show(s.big||b)=s2↔big≠0;cases b with
  |false=>rw[Bool.or_false];exact G.1
  |true=>
   have a:=of_decide_eq_false (by simpa using ah);simp[a]
theorem CU{g:Nat}{A:aj}{B:aj}{b:Bool}(h:fo w g gs A B):aq x8 rH [Γ g,.bool b,Δ at_] w λ_ I=>Ext w I:=by
 obtain⟨_,j,big,q,r,m1,sv,l,h1,e,_⟩:=h;refine aE func108 ?_;refine a6 (λv U=>w=U/\v= .bool sp) ?_ ?_
 .rintro _ _ ⟨rfl,rfl⟩;rw[bb];exact Ext.refl _
 intro az a;cases b with
 |false=>rw[bb];exact a _ _ ⟨rfl,rfl⟩
 |true=>
  rw[bT,b5,aZ cK.p rfl,aZ fk.p rfl,aF Ψ (h1.cell rfl),bl,ao];refine⟨λf=>?_,λf=>a _ _ ⟨rfl,rfl⟩⟩;rw[b5,aZ cK.p rfl,aZ fk.p rfl,aF Ψ (h1.cell rfl),bl];exact a _ _ ⟨rfl,by rw[rc e.1]⟩
theorem ey.scan{g:Nat}{A:aj}{B:aj}{s:aN}{a:Bool}{l:List (Λ)}(h:ey w g gs A B s a)(e:ai (λr=>r=gs) w I)(V:iV I gs (cW g gs A B) l a)(E:l.length<=s.hp.length):ey I g gs A B {s with hp:=l} a:=by
 obtain⟨h1,_,f,big,q,x,m1,sv,y,z,C⟩:=h;refine⟨h1.aa e,V,⟨f.1,f.2.1,by have:=f.2.2;show s.m2.length+l.length<=100000;omega⟩,big,q,x,m1,sv,y.aa e h1.1,z,aw.aa C e λr _ h j=>?_⟩;have j:r=gs:=j;subst j;rcases h with h|h
 .exact h1.2.2.1 h
 .exact h.1 (.inr (.inl rfl))
theorem CV{g:Nat}{A:aj}{B:aj}{s:aN}{y:Bool}(h:ey w g gs A B s y):aq x8 A0 [Γ g] w λv I=>gB w g gs A B y ((ec s).map (·.2)) I/\∃(t:Λ)(n:Int),v= .tuple #[ch t,Δ n]/\Bytes t/\t.length<=100000/\∀q,ec s=σ q->t=q.1:=by
 refine aE func107 ?_;refine(qN h).Y ?_;rintro _ U _ ⟨rfl,K⟩;rw[bR,Y7,bb];have h1:=h.W K;obtain⟨_,L,_,big,O,P,m1,sv,z,_⟩:=id h1;have Q:=L.words.2;rw[aO cK.p 0 z rfl];refine(r3 L).Y ?_;rintro v ab _ ⟨j,ac⟩;have M:ai (bS g gs A) w ab:=(K.aa _).F (j.Y λr _ h=>.inr (.inl h));cases f:s.hp with
 |cons t l=>
  rw[f]at ac;obtain⟨R,n,rfl⟩:=ac;have S:=h1.scan j R (by rw[f];simp);have C:ec s=σ (t,{s with hp:=l}):=by unfold ec;rw[f]
  have N:=Q t (by rw[f];exact .head _);rw[fN,fO,fP];refine a6 (λv E=>ab=E/\v=Δ 0) ?_ ?_
  .rintro _ _ ⟨rfl,rfl⟩;refine dd (λx=>ab=x) ?_ ?_
   .rintro _ rfl;rw[C];exact⟨⟨M,S⟩,t,n,rfl,N.1,N.2.2,λq G=>by cases G;rfl⟩
   .intro az a;rw[bO,ao];exact⟨λh=>m6 rfl h,λ_=>a _ rfl⟩
  .intro az a;rw[bl,ao];exact⟨λh=>Ω,λ_=>a _ _ ⟨rfl,rfl⟩⟩
 |nil=>
  rw[f]at ac;obtain⟨n,rfl⟩:=ac;have C:ec s=ν:=by unfold ec;rw[f]
  obtain⟨H,_,V,big,O,P,m1,sv,z,af,W⟩:=id h1;have X:=z.aa j H.1;have Y:=aw.aa W j λr _ h J=>by
   have J:r=gs:=J;subst J;rcases h with h|h
   .exact H.2.2.1 h
   .exact h.1 (.inr (.inl rfl))
  rw[fN,fO,fP];refine a6 (λv E=>ab=E/\∃e:Int,v=Δ e/\e≠0) ?_ ?_
  .rintro _ _ ⟨rfl,e,rfl,he⟩;refine dd (λx=>ai (λr=>r=g) ab x/\fo x g gs A B) ?_ ?_
   .rintro x ⟨Z,ad⟩;rw[C];exact⟨⟨M.F (Z.Y λr _ h=>.inl h),ad⟩,[],n,rfl,λb ae=>(by cases ae),Ξ,λq G=>by cases G⟩
   .intro az a;rw[bO,ao];refine⟨λ_=>?_,λh=>m6 he h⟩;exact(uk (H.aa j) X Y he (by have:=V.2.2;show s.m2.length<=_;omega)).Y λ_ I _ h=>a _ h
  .intro az a;rw[bl,ao];cases y with
   |true=>exact⟨λ_=>a _ _ ⟨rfl,4,rfl,Ω⟩,λh=>m6 rfl h⟩
   |false=>exact⟨λh=>by simp at h,λ_=>a _ _ ⟨rfl,11,rfl,Ω⟩⟩
theorem MZ{g:Nat}{A:aj}{B:aj}(h:fo w g gs A B):aq x8 A0 [Γ g] w λv I=>Ext w I/\v= .tuple #[ch [],Δ 0]:=by
 refine aE func107 ?_;refine(pD h).Y ?_;rintro _ U _ ⟨rfl,a⟩;rw[bR,X5,bT];exact⟨a,rfl⟩
theorem xC{g:Nat}{A:aj}{B:aj}{s:aN}{z:Bool}(h:ey w g gs A B s z):aq x8 pc [Γ g,Δ lo,Δ hi] w λv I=>gB w g gs A B z ((bq lo hi s).map (·.2)) I/\∃n at_:Int,v= .tuple #[Δ n,Δ at_]/\(∀q,bq lo hi s=σ q->n=q.1)/\(bq lo hi s=ν->n=0):=by
 refine aE func109 ?_;refine(CV h).Y ?_;rintro _ U _ ⟨⟨C,f⟩,t,n,rfl,J,K,hw⟩;rw[bA,bB];cases j:ec s with
 |none=>
  have a:bq lo hi s=ν:=by unfold bq;rw[j]
  rw[j]at f;have f:=f;refine(pD f).Y ?_;rintro _ ab _ ⟨rfl,x⟩;rw[bR,X5,bT,a];exact⟨⟨C.F (x.aa _),f.W x⟩,0,n,rfl,λq h=>(by cases h),λ_=>rfl⟩
 |some q=>
  obtain⟨bu,s1⟩:=q;have:=hw _ j;subst this;rw[j]at f;have f:=f;refine(qN f).Y ?_;rintro _ ab _ ⟨rfl,x⟩;rw[bR,Y7,bb];refine(MV J K).Y ?_;rintro _ L _ ⟨rfl,E⟩;have G:=(f.W x).W E;have H:=(C.F (x.aa _)).F (E.aa _);obtain⟨m,e,ac,hm⟩:∃m e:Int,lQ t= .tuple #[Δ m,Δ e]/\((ik t=σ m/\e=0)\/(ik t=ν/\e=4)):=by
   unfold lQ;cases P:ik t with
   |none=>exact⟨0,4,rfl,.inr ⟨rfl,rfl⟩⟩
   |some m=>exact⟨m,0,rfl,.inl ⟨rfl,rfl⟩⟩
  rw[ac,bA,bB];refine a6 (λv M=>L=M/\v= .bool (bq lo hi s).isNone) ?_ ?_
  .rintro _ _ ⟨rfl,rfl⟩;cases a:bq lo hi s with
   |none=>
    rw[Option.isNone_none,bT];refine(ul G Ω).Y ?_;rintro _ Q _ ⟨N,O⟩;exact⟨⟨H.F (N.Y λr _ h=>.inl h),O⟩,0,n,rfl,λq h=>(by cases h),λ_=>rfl⟩
   |some q=>
    rw[b9,bb];unfold bq at a;rw[j]at a;simp only at a;rcases hm with⟨hm,_⟩|⟨hm,_⟩
    .rw[hm]at a;simp only at a;split at a
     .cases a;exact⟨⟨H,G⟩,m,n,rfl,λq h=>(by cases h;rfl),λh=>(by cases h)⟩
     .cases a
    .rw[hm]at a;cases a
  .intro az y;have a:bq lo hi s=match ik t with
     |none=>ν
     |some n=>if lo<=n/\n<=hi then σ (n,s1)else ν:=by
    unfold bq;rw[j];simp only;cases ik t<;>rfl
   rw[bO,ao];rcases hm with⟨hm,rfl⟩|⟨hm,rfl⟩
   .rw[hm]at a;simp only at a;refine⟨λh=>m6 rfl h,λ_=>?_⟩;rw[aW,ao];refine⟨λh=>y _ _ ⟨rfl,by rw[a,m5 Ω];rfl⟩,λh=>?_⟩;rw[bW];refine y _ _ ⟨rfl,?_⟩;rw[a];by_cases ax:hi<m
    .rw[ms ax,m5 Ω];rfl
    .rw[rc ax,m3 Ω];rfl
   .rw[hm]at a;exact⟨λ_=>y _ _ ⟨rfl,by rw[a];rfl⟩,λh=>m6 (by omega:(4:Int)≠0) h⟩
theorem M0{g:Nat}{A:aj}{B:aj}(h:fo w g gs A B):aq x8 pc [Γ g,Δ lo,Δ hi] w λv I=>Ext w I/\v= .tuple #[Δ 0,Δ 0]:=by
 refine aE func109 ?_;refine(MZ h).Y ?_;rintro _ U _ ⟨a,rfl⟩;rw[bA,bB];refine(pD (h.W a)).Y ?_;rintro _ ab _ ⟨rfl,e⟩;rw[bR,X5,bT];exact⟨a.F e,rfl⟩
theorem M1{x:Int}(h:aQ .i64 w sv l):aq x8 K4 [sv,Δ x] w λv I=>Ext w I/\∃r:Int,v=Δ r/\(0<=r↔x∈l):=by
 refine aE func272 ?_;rw[ba aA.u h];refine cp.range l.length (λi _ U=>Ext w U/\x∉l.take i) h.le ⟨Ext.refl _,Ξ⟩ ?_ ?_
 .rintro i _ U k hi ⟨a,e⟩ hk;refine bK Ω ?_;obtain⟨y,f⟩:=aJ (l:=l) hi;rw[bp aA.u ay.i Ψ (h.W a) f,bl,ao];refine⟨λhe=>⟨a,i,rfl,⟨λ_=>he▸x7 f,λ_=>Ω⟩⟩,λhe=>?_⟩;rw[aT];refine hk _ _ ⟨a,λhm=>?_⟩;rw[u9,f]at hm;rcases j9.1 hm with hm|hm
  .exact e hm
  .simp at hm;exact he hm
 .rintro _ U k ⟨a,e⟩;rw[o9]at e;rw[aW,ao];exact⟨λh=>Ω,λ_=>⟨a,-1,rfl,⟨λh=>Ω,λh=>m6 h e⟩⟩⟩
theorem M2{x:Int}(h:aQ .i64 w sv l):aq x8 KF [sv,Δ x] w λv I=>v= .bool (decide (x∈l))/\Ext w I:=by
 refine aE func228 ?_;refine(M1 h).Y ?_;rintro _ U _ ⟨J,r,rfl,a⟩;rw[cU];exact⟨by congr 1;rw[U1,ro,ro];exact a,J⟩
theorem uo:∀{l:Λ},(∀z∈l,1<=z)->∀i,aV ((l.take i).map λk=>min k 4097)<=aV (l.map λk=>min k 4097)/\1<=aV ((l.take i).map λk=>min k 4097)
 |[],_,i=>by simp[aV]
 |z::l,h,0=>by
  have a:=uo (λx J=>h x (.tail _ J)) l.length;rw[o9]at a;have e:=h z (.head _);simp only[List.take_zero,List.map_nil,List.map_cons,aV];have:=Int.mul_le_mul_of_nonneg_left a.2 (show 0<=min z 4097 by omega);omega
 |z::l,h,i+1=>by
  have a:=uo (λx J=>h x (.tail _ J)) i;have e:=h z (.head _);simp only[List.take_succ_cons,List.map_cons,aV];have h1:=Int.mul_le_mul_of_nonneg_left a.1 (show 0<=min z 4097 by omega);have f:=Int.mul_le_mul_of_nonneg_left a.2 (show 0<=min z 4097 by omega);exact⟨h1,Ω⟩
theorem CW(l:Λ)(x:Int):aV (l++[x])=aV l*x:=by
 induction l with
 |nil=>simp[aV]
 |cons a l e=>rw[List.cons_append,aV,e,aV,Int.mul_assoc]
theorem CX(h:aQ .i64 w sv l)(h1:∀z∈l,1<=z):aq x8 JY [sv] w λv I=>v= .bool (dL l)/\Ext w I:=by
 refine aE func172 ?_;rw[ba aA.u h];refine lH.range l.length (λi _ n U=>Ext w U/\n=Δ (aV ((l.take i).map λk=>min k 4097))/\aV ((l.take i).map λk=>min k 4097)<=4096) h.le ⟨Ext.refl _,by simp[aV],by simp[aV]⟩ ?_ ?_
 .rintro i _ _ U q hi ⟨a,rfl,f⟩ r;refine bK Ω ?_;obtain⟨z,j⟩:=aJ (l:=l) hi;have x:=h1 z (x7 j);have y:=uo h1 i;have A:=uo h1 (i+1);have e:aV ((l.take (i+1)).map λk=>min k 4097)=aV ((l.take i).map λk=>min k 4097)*min z 4097:=by
   rw[u9,j,j4,Z0,List.map_cons,List.map_nil,CW]
  rw[bp aA.u ay.i Ψ (h.W a) j,mp,fL,<-e];have B:aV ((l.take (i+1)).map λk=>min k 4097)<=4096*4097:=by
   rw[e];have C:=Int.mul_le_mul_of_nonneg_right f (show 0<=min z 4097 by omega);have E:=Int.mul_le_mul_of_nonneg_left (show min z 4097<=4097 by omega) (show(0:Int)<=4096 by omega);omega
  rw[lm Ω Ω,bW,ao];refine⟨λs=>⟨?_,a⟩,λs=>?_⟩
  .unfold dL;rw[ms];omega
  .rw[aT];exact r _ _ _ ⟨a,rfl,Ω⟩
 .rintro _ _ U q ⟨a,rfl,f⟩;rw[o9]at f;rw[aW,ao];refine⟨λh=>Ω,λ_=>⟨?_,a⟩⟩;unfold dL;rw[rc];omega
def lS(n:Int)(acc:Λ)(s:aN):Option (Int×aN):=match bq 0 (n-1) s with
 |none=>ν
 |some (v,s)=>if v∈acc then ν else σ (v,s)
theorem qO{α:Type}{f:List α->aN->Option (α×aN)}{acc:List α}{s:aN}(h:f acc s=ν):da f (n+1) acc s=ν:=by
 simp only[da,h]
theorem uq{α:Type}{f:List α->aN->Option (α×aN)}{acc:List α}{s s':aN}{a:α}(h:f acc s=σ (a,s')):da f (n+1) acc s=da f n (acc++[a]) s':=by
 simp only[da,h]
theorem ey.r5{g:Nat}{A:aj}{B:aj}{s:aN}{a:Bool}(h:ey w g gs A B s a):(∀r,bS g gs A r->r<w.heap.size)/\(∀r,B r->r<w.heap.size):=⟨h.1.2.2.2.1,h.1.2.2.2.2⟩
theorem M3{g k:Nat}{A B:aj}{s:aN}{J:Bool}{m:Int}(h:ey w g gs A B s J)(hk:k<=4611686018427387904)(hm:0<=m/\m<=1000000):
  aq x8 A8 [Γ g,Δ (k:Int),Δ m] w λv I=>gB w g gs A B J ((fm m k s).map (·.2)) I/\
   ∃gr l,aH .i64 ay I gr v l/\(∀r,lc v r->w.heap.size<=r)/\l.length<=100001/\∀q,fm m k s=σ q->l=q.1:=by
 obtain⟨ad,ax⟩:=h.r5;have aB:=h.2.1.words.1;refine aE func171 ?_;refine⟨λout R U=>∃i:Nat,R=Δ (i:Int)/\i<=k/\ai (bS g gs A) w U/\∃gr l,aH .i64 ay U gr out l/\w.heap.size<=gr/\l.length<=100001/\
  ((∃st,ey U g gs A B st J/\da (lS m) (k-i) l st=fm m k s/\l.length+st.hp.length<=100000)\/(fo U g gs A B/\fm m k s=ν)),λ_ R _=>k-(b1 R).toNat,
  ⟨0,rfl,W3 _,ai.refl _ _,w.heap.size,[],aH.nil _ _ _ _,o6 _,Ξ,.inl ⟨s,h,rfl,by simpa using aB⟩⟩,?_⟩
 rintro out _ U ⟨i,rfl,aC,ae,gr,l,af,bd,be,ag⟩;have s1:=ae.size;have S:∀r,lc out r->w.heap.size<=r:=λr z=>by have:=ca af z;omega
 refine a6 (λv ab=>Ext U ab/\((v= .bool s2/\i<k/\∃st,ey ab g gs A B st J/\da (lS m) (k-i) l st=fm m k s/\l.length+st.hp.length<=100000)\/
  (v= .bool sp/\((∃st,ey ab g gs A B st J/\fm m k s=σ (l,st))\/(fo ab g gs A B/\fm m k s=ν))))) ?_ ?_
 rotate_left
 .intro az M;rw[aW,ao];refine⟨λbf=>?_,λbg=>?_⟩
  .rcases ag with⟨st,C,x,V⟩|⟨G,W⟩
   .refine (qN C).Y ?_;rintro _ ab _ ⟨rfl,E⟩;exact M _ _ ⟨E,.inl ⟨rfl,Ω,st,C.W E,x,V⟩⟩
   .refine (pD G).Y ?_;rintro _ ab _ ⟨rfl,E⟩;exact M _ _ ⟨E,.inr ⟨rfl,.inr ⟨G.W E,W⟩⟩⟩
  .have aD:k-i=0:=Ω
   rcases ag with⟨st,C,x,V⟩|aF
   .rw[aD]at x;exact M _ _ ⟨Ext.refl _,.inr ⟨rfl,.inl ⟨st,C,x.symm⟩⟩⟩
   .exact M _ _ ⟨Ext.refl _,.inr ⟨rfl,.inr aF⟩⟩
 rintro _ ab ⟨E,aG⟩;have X:ai (bS g gs A) w ab:=ae.F (E.aa _);have N:=af.W E;rcases aG with⟨rfl,aC,st,C,x,V⟩|⟨rfl,aI⟩
 rotate_left
 .rw[bb];rcases aI with⟨st,C,K⟩|⟨G,K⟩
  .rw[K];exact⟨⟨X,C⟩,gr,l,N,S,Ω,λq f=>by cases f;rfl⟩
  .rw[K];exact⟨⟨X,G⟩,gr,l,N,S,Ω,λq f=>by cases f⟩
 rw[bT,dm,lm Ω Ω];have aJ:k-i=(k-(i+1))+1:=Ω
 rw[aJ]at x;refine(xC C).Y ?_;rintro _ ah _ ⟨⟨O,P⟩,n,at_,rfl,aK,bh⟩;rw[bA,bB];have ak:∀r,lc out r->¬bS g gs A r:=λr z aL=>by have:=ad r aL;have:=S r z;omega
 have bi:∀r,g=r->bS g gs A r:=λr h=>.inl h.symm;refine dd (λe=>ai (bS g gs A) ab e/\((∃y,ey e g gs A B y J/\da (lS m) (k-(i+1)) (l++[n]) y=fm m k s/\l.length+1+y.hp.length<=100000)\/(fo e g gs A B/\fm m k s=ν))/\l.length+1<=100001) ?_ ?_
 .rintro e ⟨al,aM,am⟩;have aO:=bE N al ak;have an:=X.F al;have bj:=an.size;refine e3 aA.u ay.i rfl λa ga ap bk H aP=>?_;refine kC aA.u ay.i rfl (aO.W H) aP.ls Θ Θ λaQ aR aS bl aU Y=>?_;have bm:=H.size;rw[aT,lm Ω Ω];have aV:ai (bS g gs A) w aS:=iU (an.F (H.aa _)) Y λr z he=>by have he:r=gr:=he;omega
  have au:∀r,bS g gs A r->¬(λr=>r=gr) r:=λr z he=>by have:=ad r z;have he:r=gr:=he;omega
  have av:∀r,cW g gs A B r->¬(λr=>r=gr) r:=λr z he=>by have:=ax r z.2;have he:r=gr:=he;omega
  refine⟨⟨i+1,rfl,Ω,aV,aR,l++[n],aU,Ω,Θ,?_⟩,by simp only[b1];omega⟩;rcases aM with⟨y,Q,aX,bn⟩|⟨aY,W⟩
  .exact .inl ⟨y,(Q.W H).aa Y au av,aX,Θ⟩
  .exact .inr ⟨(aY.W H).aa Y au av,W⟩
 .intro bo Z;cases f:bq 0 (m-1) st with
  |none=>
   rw[f]at P;have G:=P;have L:lS m l st=ν:=by unfold lS;rw[f]
   have K:fm m k s=ν:=by rw[<-x];exact qO L
   refine a6 (λv e=>Ext ah e/\v= .bool sp) ?_ ?_
   rotate_left
   .intro aZ ac;refine(pD G).Y ?_;rintro _ e _ ⟨rfl,j⟩;rw[bb];exact ac _ _ ⟨j,rfl⟩
   rintro _ e ⟨j,rfl⟩;rw[bb];exact Z _ ⟨O.F (j.aa _),.inr ⟨G.W j,K⟩,Ω⟩
  |some q=>
   obtain⟨aQ,y⟩:=q;have a1:=aK _ f;subst a1;rw[f]at P;have aw:=P;have a2:=dP f;have am:l.length+1+y.hp.length<=100000:=by have:=a2.1;omega
   refine a6 (λv e=>Ext ah e/\v= .bool (decide (n∈l))) ?_ ?_
   rotate_left
   .intro aZ ac;refine(qN aw).Y ?_;rintro _ e _ ⟨rfl,j⟩;rw[bT];refine(M2 ((bE N O ak).W j).ls).Y ?_;rintro _ ap _ ⟨rfl,H⟩;exact ac _ _ ⟨j.F H,rfl⟩
   rintro _ e ⟨j,rfl⟩;have Q:=aw.W j;rw[ao];refine⟨λa7=>?_,λa8=>?_⟩
   .have L:lS m l st=ν:=by unfold lS;rw[f];simp only;rw[m3 a7]
    refine(ul Q Ω).Y ?_;rintro _ ap _ ⟨ba,bc⟩;exact Z _ ⟨(O.F (j.aa _)).F (ba.Y λr _ h=>.inl h),.inr ⟨bc,by rw[<-x];exact qO L⟩,Ω⟩
   .have L:lS m l st=σ (n,y):=by unfold lS;rw[f];simp only;rw[m5 a8]
    exact Z _ ⟨O.F (j.aa _),.inl ⟨y,Q,by rw[<-x];exact(uq L).symm,am⟩,Ω⟩
theorem ox{a b:Int}(e:0<=a/\a<=4294967296)(f:0<=b/\b<=4294967296):aq x8 Iy [Δ a,Δ b,Δ k] w λv I=>v=Δ (min (a+b) k)/\Ext w I:=by
 refine aE func31 ?_;simp only[aT,bW,ao];rw[lm Ω Ω];exact⟨λh=>⟨by rw[Int.min_eq_right Ω],Ext.refl _⟩,λh=>⟨by rw[Int.min_eq_left Ω],Ext.refl _⟩⟩
def pE(a b k:Int):x4:=if cE a k/\cE b k then .tuple #[Δ (min (a+b) k),Δ 0]else .tuple #[Δ 0,Δ 3]
theorem xD{a b:Int}:aq x8 Bh [Δ a,Δ b,Δ k] w λv I=>v=pE a b k/\Ext w I:=by
 refine aE func214 ?_;refine a6 (λv U=>Ext w U/\v= .bool (decide (¬(cE a k/\cE b k)))) ?_ ?_
 .rintro _ U ⟨J,rfl⟩;simp only[ao,aT,mp];refine⟨λh=>⟨by unfold pE;rw[m5 h],J⟩,λh=>?_⟩;have h:=X1.1 h;obtain⟨⟨h1,r⟩,s,x⟩:=id h;have:=h1.2;rw[lm Ω Ω];exact⟨by unfold pE;rw[m3 h],J⟩
 .intro az e;refine k8.Y ?_;rintro _ ab _ ⟨rfl,f⟩;simp only[bR,b4];refine⟨λh=>e _ _ ⟨f,?_⟩,λh=>?_⟩
  .have:¬cE a k:=by simpa using h
   rw[ms];exact λh=>this h.1
  .have j:cE a k:=by simpa using h
   refine k8.Y ?_;rintro _ y _ ⟨rfl,q⟩;simp only[bR];exact e _ _ ⟨f.F q,by simp[j]⟩
theorem M4(h:aQ .i64 w sv l)(f:l≠[]):
  aq x8 Lc [sv] w λv I=>v=Δ (xq l)/\Ext w I:=by
 obtain⟨x,l,rfl⟩:∃x r,l=x::r:=by cases l with
  |nil=>exact m6 rfl f
  |cons x r=>exact⟨x,r,rfl⟩
 have j:=h.le;refine aE func292 ?_;refine dd (λU=>w=U) ?_ ?_
 .rintro _ rfl;rw[fz (y:=0) (i:=0) rfl aA.u ay.i Ψ h (by rfl)];refine⟨λm i ab=>Ext w ab/\∃k:Nat,i=Δ (k+1:Nat)/\k<=l.length/\m=Δ ((l.take k).foldl min x),λ_ i _=>l.length+1-(b1 i).toNat,⟨Ext.refl _,0,rfl,W3 _,rfl⟩,?_⟩;rintro _ _ ab ⟨a,k,rfl,hk,rfl⟩;rw[ba aA.u (h.W a)];simp only[W0,aW,ao]at j ⊢;refine⟨λs=>?_,λz=>⟨?_,a⟩⟩
  .obtain⟨y,e⟩:=aJ (l:=l) (i:=k) Ω;rw[bp aA.u ay.i Ψ (h.W a) (show(x::l)[k+1]?=σ y from e),mp];simp only[aT];rw[lm Ω Ω];refine⟨⟨a,k+1,by congr 1,Ω,?_⟩,?_⟩
   .rw[u9,e,List.foldl_append];rfl
   .simp only[b1];omega
  .have:k=l.length:=Ω
   subst this;rw[o9];rfl
 .intro az q;rw[ba aA.u h];simp only[aW,ao];exact⟨λh=>by simp at h;omega,λ_=>q _ rfl⟩
theorem CY{g a:Nat}{cs:Λ}(h:dp w g a sv an k cs):aq x8 wV [Γ g] w λv I=>v=Δ k/\Ext w I:=by
 obtain⟨⟨bg,gs,e,hm,f⟩,_⟩:=h;refine aE func255 ?_;rw[dj fl.u];simp only[b9,bb];rw[aO c8.p 1 e rfl];exact⟨rfl,Ext.refl _⟩
theorem oy{g e:Nat}{cs:Λ}(h:dp w g e sv an k cs):
  aq x8 Jn [Γ g] w λv I=>Ext w I/\∃a,w.heap.size<=a/\aH .i64 ay I a v cs:=by
 obtain⟨⟨bg,gs,f,hm,j⟩,⟨_,_,ae⟩,V,q⟩:=h;refine aE func124 ?_;rw[dj fl.u];simp only[b9,bb];rw[aO c8.p 2 f rfl];exact w8 j.ls Ω
theorem qP{g e:Nat}{cs:Λ}(h:dp w g e sv an k cs):
  aq x8 Kj [Γ g] w λv I=>v= .agg #[sv]/\Ext w I:=by
 obtain⟨⟨bg,gs,f,hm,z⟩,_⟩:=h;have q:=hm.ls.cells;refine aE func202 ?_;refine bF bL.i λA U B a s=>?_;rw[dj fl.u];simp only[b9,bb];rw[b5,aZ c8.p rfl,bI (cs:=[sv]) bL.p bL.i rfl (pv (f.W a) (by
  intro j v ac
  match j,ac with
  |0,ac=>exact ac))]
 refine cd (vs:=[sv]) bL.i rfl rfl (by intro u hu;simp at hu;subst hu;exact q.2) s λC x E y=>?_;rw[fA bL.p bL.i rfl y.range];exact⟨rfl,a.then x (by rintro r G rfl;omega)⟩
theorem CZ(h:aQ .i64 w sv an)(q:an.length<=1000):aq x8 Bm [.agg #[sv]] w λv I=>Ext w I/\∃a,w.heap.size<=a/\aH .i64 al I a v an:=by
 refine aE func254 ?_;refine br λg U r e f=>?_;rw[aP bL.p 0 f rfl];refine(my (h.W e) Ω).Y ?_;rintro v ab _ ⟨j,a,s,hm⟩;have s1:=e.size;exact⟨e.F j,a,Ω,hm⟩
theorem C0(h:aQ .i64 w sv an):aq x8 K8 [.agg #[sv]] w λv I=>v=Δ an.length/\Ext w I:=by
 refine aE func279 ?_;refine br λg U f a e=>?_;rw[aP bL.p 0 e rfl,ba au.u (h.W a)];exact⟨rfl,a⟩
def jq(an:Λ)(i:Int):Int:=if 0<=i then an.getD i.toNat 0 else 0
theorem r6{i:Int}(h:aQ .i64 w sv an):aq x8 K9 [.agg #[sv],Δ i] w λv I=>v=Δ (jq an i)/\Ext w I:=by
 refine aE func280 ?_;refine br λg U r a e=>?_;refine a6 (λv ab=>v= .bool (decide (i<0\/(an.length:Int)<=i))/\U=ab) ?_ ?_
 .rintro _ _ ⟨rfl,rfl⟩;simp only[ao];refine⟨λh=>⟨?_,a⟩,λq=>?_⟩
  .unfold jq;split
   .rw[r8,W7 Ω];rfl
   .rfl
  .rw[aP bL.p 0 e rfl];obtain⟨n,rfl⟩:∃n:Nat,i=n:=⟨i.toNat,Ω⟩;have f:n<an.length:=Ω
   rw[bp au.u al.i Ψ (h.W a) (v8 f)];refine⟨?_,a⟩;unfold jq;rw[m3 Ω,r8,u7,v8 f];rfl
 .intro az j;simp only[aW,ao];refine⟨λh=>j _ _ ⟨by rw[ms];omega,rfl⟩,λq=>?_⟩;rw[aP bL.p 0 e rfl,ba au.u (h.W a)];simp only[cU];exact j _ _ ⟨by congr 1;simp;omega,rfl⟩
theorem xE{g B0:Nat}(V:cn an):
  qi x8 nu [Γ g] (aV an).toNat (λk vs w=>∃aX gt,vs=[Δ (k:Int),aX]/\B0<=gt/\aH .i64 al w gt aX (du an k))
   (λw=>ak w g bL [sv]/\aQ .i64 w sv an/\B0<=w.heap.size):=by
 refine⟨nu.enters,λl az O w q _ y ⟨r,s,z⟩ A=>?_⟩;have ae:=prod_bound V;refine rN func94 ?_;rw[bI bL.p bL.i rfl r.range];refine(qz s V).free.Y ?_;rintro _ U ⟨B,rfl,J⟩;refine b3.range (aV an).toNat (λi ab=>az i ab/\ak ab g bL [sv]/\aQ .i64 ab sv an/\B0<=ab.heap.size) Ω ⟨q 0 _ _ J B.b A,r.W J,s.W J,X0 z J.size⟩ ?_ ?_
 .rintro i ab k hi ⟨e,f,j,x⟩ hk;simp only[aW,ao];refine⟨λ_=>?_,λh=>Ω⟩;rw[bI bL.p bL.i rfl f.range];refine(LJ j V Ω Ω).free.Y ?_;rintro _ C ⟨E,a,aX,gt,rfl,G,H⟩;rw[bA,bB];refine⟨rfl,(y i _ C hi ⟨f.W a,j.W a,X0 x a.size⟩ ⟨aX,gt,rfl,X0 x G,H⟩ (q _ _ _ a E.b e)).Y ?_⟩;rintro _ P (⟨rfl,⟨I,K,L⟩,M⟩|⟨rfl,N⟩)
  .simp only[bR,Y7,bb,aT];exact hk _ ⟨M.1,I,K,L⟩
  .simp only[bR,X5,bT];exact .inr ⟨i,hi,N⟩
 .rintro ab k ⟨e,f,j,_⟩;simp only[aW,ao];exact⟨λh=>Ω,λ_=>.inl e⟩
theorem xF:aq x8 IE [.agg #[sv]] w λr I=>Ext w I/\∃g,r= .func (.func nu) #[] #[Γ g]/\w.heap.size<=g/\ak I g bL [sv]:=by
 refine aE func50 ?_;refine br λg U f a e=>?_;rw[lM];exact⟨a,g,rfl,Ω,e⟩
end Go.Proofs.YtlcdcbgoaljiiaaGreatDoor
namespace Go.Vc
open Go Go.RowKit
set_option maxRecDepth 100000
section
variable{P:X8}{w:x5}
theorem aL.cQ{α:Type}{s:Sem α}{K:α->x5->Prop}(h:aL P s w λv I=>cS w I->K v I):aL P s w K:=by
 obtain⟨v,I,h1,a,e⟩:=h;exact⟨v,I,h1,a,e a⟩
structure Keys(P:X8)(k:o4)(G:x4->Prop):Prop where
 check:∀(w:x5)(em:Bool){v:x4},G v->(Instr.checkKey em 10000 k v).run P w= .ok () w
 find:∀(w:x5){x:x4},G x->∀es:List MapEntry,(∀e∈es,G e.key)->
  ((Instr.findKey k x es).run P w= .ok ν w/\∀e∈es,e.key≠x)\/∃j e,(Instr.findKey k x es).run P w= .ok (σ (j,e.val)) w/\es[j]?=σ e/\e.key=x
 stays:∀(w:x5){v:x4},G v->(Instr.keyThatStays v v).run P w= .ok v w
theorem Keys.law{k:o4}(K:WideMaps.KeyLaw P k):Keys P k λv=>∃l,keyOf P k v=σ l:=
 ⟨λw a _ ⟨_,h⟩=>K.check w a h,λw _ ⟨_,h⟩ e f=>K.find w h e f,λw _ ⟨_,h⟩=>K.stays w h⟩
theorem Keys.int{k:o4}{a:o8}(hk:P.underlying k=σ (.int a)):Keys P k λv=>∃n,v= .int a n:=by
 have key:∀n,MapKept.IsKey (.int a) (.int a n):=λn=>rfl;refine⟨λw e v ⟨n,h⟩=>?_,λw x ⟨n,h⟩ f j=>?_,λw v ⟨n,h⟩=>?_⟩
 all_goals grind [MapKept.run_checkKey,MapKept.findNow_spec,MapKept.run_findKey,MapKept.run_keyThatStays]
def im(e:MapEntry):x4×x4:=(e.key,e.val)
def db(w:x5)(m:Nat)(d:List (x4×x4)):Prop:=∃a e,w.heap[m]?=σ (.map a e)/\MapKept.Stamped a e/\a.toList.map im=d
theorem db.W{m:Nat}{d:List (x4×x4)}(h:db w m d)(J:Ext w I):db I m d:=by
 obtain⟨a,c,h1,e⟩:=h;exact⟨a,c,J.a8 m _ h1 rfl,e⟩
theorem db.aa{m:Nat}{d:List (x4×x4)}(h:db w m d)(J:ai S w I)(a:¬S m):db I m d:=by
 obtain⟨e,c,h1,f⟩:=h;exact⟨e,c,J.a8 m _ h1 rfl a,f⟩
theorem db.lt{m:Nat}{d:List (x4×x4)}(h:db w m d):m<w.heap.size:=by
 obtain⟨a,c,h1,e⟩:=h
 grind
theorem db.nodup{m:Nat}{d:List (x4×x4)}(h:db w m d):(d.map (·.1)).Nodup:=by
 obtain⟨e,c,_,⟨_,_,a⟩,rfl⟩:=h;rw[T6];exact a
theorem lT{α:Type}{l:List α}(h:l.Nodup){i:Nat}{x:α}(hi:l[i]?=σ x)(a:l[j]?=σ x):i=j:=by
 grind [V8]
theorem mI{α β:Type}(f:α->β):∀(l:List α)(i:Nat),(l.map f).eraseIdx i=(l.eraseIdx i).map f
 |[],_=>Ξ
 |_::_,0=>rfl
 |x::l,i+1=>by simp[mI f l i]
theorem db.uniq{m:Nat}{d:List (x4×x4)}(h:db w m d){i:Nat}{p q:x4×x4}(hi:d[i]?=σ p)(a:d[j]?=σ q)(he:p.1=q.1):i=j:=by
 have e:=h.nodup;have h1:(d.map (·.1))[i]?=σ p.1:=by grind
 have f:(d.map (·.1))[j]?=σ p.1:=by grind
 grind [lT]
theorem ur{m:Nat}{q:Array MapEntry}{c:Nat}(h:w.heap[m]?=σ (.map q c))(a:Array MapEntry)(e:Nat):
  ai (λr=>r=m) w {w with heap:=w.heap.setIfInBounds m (.map a e)}/\cS w {w with heap:=w.heap.setIfInBounds m (.map a e)}/\({w with heap:=w.heap.setIfInBounds m (.map a e)}:x5).heap[m]?=σ (.map a e):=by
 have V:=MapKept.heap_set (o':=.map a e) h;refine⟨⟨Ξ,λr o f j x=>?_⟩,⟨rfl,.lC,rfl,Ξ,λr o f j=>?_⟩,V.1⟩
 .grind
 .show (w.heap.setIfInBounds m _)[r]?=σ o;by_cases s:r=m
  .subst s;rw[h]at f;cases f;cases j
  grind
theorem r7{t:o4}{K:x4->x5->Prop}(h:∀m I,m=w.heap.size->Ext w I->db I m []->K (.map (σ m)) I):aL P (Instr.makeMap t ν) w K:=by
 refine .of (run_makeMap t w) (ql w _) (h _ _ rfl (qk w _) ⟨#[],0,?_,MapKept.stamped_empty 0,rfl⟩);exact heap_alloc_new w _
variable{k e:o4}{G:x4->Prop}
theorem sa{t:o4}{c:Bool}{m:Nat}{d:List (x4×x4)}{x:x4}(s:P.underlying t=σ (.map k e))(hk:Keys P k G)(hm:db w m d)(y:∀p∈d,G p.1)(J:G x)(a:d[j]?=σ (x,v)):
  ad P (Instr.lookup t (.map (σ m)) x c) w K=K (if c then .tuple #[v,.bool s2]else v):=ad.of λI z=>by
 obtain⟨f,A,h,B,rfl⟩:=hm.W z;have C:∀e∈f.toList,G e.key:=λe he=>y (im e) (l9.2 ⟨e,he,rfl⟩);rcases hk.find I J f.toList C with⟨_,q⟩|⟨i,r,h1,q,E⟩
 .rw[u4]at a;obtain⟨F,H,L⟩:=Z9.1 a;exact m6 (congrArg Prod.fst L) (q F (x7 H))
 .have ac:r.val=v:=by
   have hi:(f.toList.map im)[i]?=σ (im r):=by grind
   have M:db I m (f.toList.map im):=⟨f,A,h,B,rfl⟩;have:=M.uniq hi a E;subst this;rw[hi]at a;exact congrArg Prod.snd (Z5 a)
  simp only[Instr.lookup,W5,run_underlying s,W8,MapKept.run_getObj_map h,V2,hk.check I _ J,h1,ac]
theorem ut{t:o4}{c:Bool}{m:Nat}{d:List (x4×x4)}{x:x4}(q:P.underlying t=σ (.map k e))(hk:Keys P k G)(a:∃s b,aU P e s b z)(hm:db w m d)(r:∀p∈d,G p.1)(J:G x)(y:∀p∈d,p.1≠x):
  ad P (Instr.lookup t (.map (σ m)) x c) w K=K (if c then .tuple #[z,.bool sp]else z):=ad.of λI A=>by
 obtain⟨f,H,B,L,rfl⟩:=hm.W A;have C:∀e∈f.toList,G e.key:=λe he=>r (im e) (l9.2 ⟨e,he,rfl⟩);have E:(zeroValue e).run P I= .ok z I:=by
  obtain⟨s,b,i,hi,_,_,a⟩:=a;simp[zeroValue,typeInfo,hi,a]
 rcases hk.find I J f.toList C with⟨h1,h⟩|⟨i,j,h1,h,F⟩
 .simp only[Instr.lookup,W5,run_underlying q,W8,MapKept.run_getObj_map B,V2,hk.check I _ J,h1,E]
 .exact m6 F (y (im j) (l9.2 ⟨j,x7 h,rfl⟩))
theorem M5{a:Array MapEntry}{e:MapEntry}{f:MapEntry->MapEntry}(h:a[j]?=σ e):(a.modify j f).toList.map im=(a.toList.map im).set j (im (f e)):=by
 refine Y2 λi=>?_
 grind
theorem qQ{t:o4}{m:Nat}{d:List (x4×x4)}{x:x4}{K:Unit->x5->Prop}(z:P.underlying t=σ (.map k e))(hk:Keys P k G)(hm:db w m d)(F:∀p∈d,G p.1)(J:G x)(h1:∀j v0 I,d[j]?=σ (x,v0)->db I m (d.set j (x,v))->ai (λr=>r=m) w I->K () I)(H:∀I,(∀p∈d,p.1≠x)->db I m (d++[(x,v)])->ai (λr=>r=m) w I->K () I):aL P (Instr.mapUpdate t (.map (σ m)) x v) w K:=by
 obtain⟨f,h,a,A,rfl⟩:=hm;have L:∀e∈f.toList,G e.key:=λe he=>F (im e) (l9.2 ⟨e,he,rfl⟩);rcases hk.find w J f.toList L with⟨ah,B⟩|⟨i,C,ah,hi,he⟩
 .obtain⟨q,s,y⟩:=ur a (f.push {key:=x,val:=v,born:=h}) (h+1);refine .of ?_ s (H _ (λp ae=>?_) ⟨_,_,y,MapKept.stamped_push A B,by simp[im]⟩ q)
  .simp only[Instr.mapUpdate,W5,run_underlying z,W8,MapKept.run_getObj_map a,hk.check w _ J,ah,MapKept.run_setObj_map _ a]
  .obtain⟨M,N,rfl⟩:=l9.1 ae;exact B M N
 .have E:f[i]?=σ C:=by grind
  obtain⟨q,s,y⟩:=ur a (f.modify i λe=>{e with key:=x,val:=v}) h;refine .of ?_ s (h1 i C.val _ (by grind [im]) ⟨_,_,y,MapKept.stamped_modify A _ _ (λ_ _=>rfl) (by grind),M5 E⟩ q);simp only[Instr.mapUpdate,W5,run_underlying z,W8,MapKept.run_getObj_map a,hk.check w _ J,ah,E,Y6,Option.getD_some,he,hk.stays w J,MapKept.run_setObj_map _ a]
theorem M6{t B C:o4}{m:Nat}{d:List (x4×x4)}{x:x4}{K:x4->x5->Prop}(y:P.underlying t=σ (.map k e))(hk:Keys P k G)(hm:db w m d)(E:∀p∈d,G p.1)(J:G x)(h1:∀j v0 I,d[j]?=σ (x,v0)->db I m (d.eraseIdx j)->ai (λr=>r=m) w I->K (.tuple #[]) I)(F:∀I,(∀p∈d,p.1≠x)->db I m d->ai (λr=>r=m) w I->K (.tuple #[]) I):aL P (Z2.delete_ #[t,B] C #[.map (σ m),x]) w K:=by
 obtain⟨f,z,a,A,rfl⟩:=hm;have H:∀e∈f.toList,G e.key:=λe he=>E (im e) (l9.2 ⟨e,he,rfl⟩);rcases hk.find w J f.toList H with⟨ah,L⟩|⟨i,M,ah,hi,he⟩
 .obtain⟨h,q,s⟩:=ur a f z;refine .of ?_ q (F _ (λp ae=>?_) ⟨_,_,s,A,rfl⟩ h)
  .simp only[Z2.delete_,List.getElem?_toArray,List.getElem?_cons_zero,List.getElem?_cons_succ,W5,run_underlying y,W8,MapKept.run_getObj_map a,hk.check w _ J,ah,MapKept.run_setObj_map _ a,V2]
  .obtain⟨N,O,rfl⟩:=l9.1 ae;exact L N O
 .obtain⟨h,q,s⟩:=ur a (f.eraseIdxIfInBounds i) z;refine .of ?_ q (h1 i M.val _ (by grind [im]) ⟨_,_,s,MapKept.stamped_erase A _,by rw[mI];simp⟩ h);simp only[Z2.delete_,List.getElem?_toArray,List.getElem?_cons_zero,List.getElem?_cons_succ,W5,run_underlying y,W8,MapKept.run_getObj_map a,hk.check w _ J,ah,MapKept.run_setObj_map _ a,V2]
theorem C1{t a:o4}{m:Nat}{d:List (x4×x4)}(f:P.underlying t=σ (.map k e))(hm:db w m d):ad P (X7 #[t] a #[.map (σ m)]) w K=K (Δ d.length):=ad.of λI h=>by
 obtain⟨q,r,j,s,rfl⟩:=hm.W h;simp[X7,run_underlying f,MapKept.run_getObj_map j,goInt]
def io(w:x5)(j m:Nat)(d left:List (x4×x4))(q:Option (x4×x4)):Prop:=∃a f seen gw,w.heap[m]?=σ (.map a f)/\MapKept.Stamped a f/\a.toList.map im=d/\
 w.heap[j]?=σ (.mapIter (σ m) f seen gw)/\f<=gw/\(leftOf a seen).toList.map im=left/\∀p,q=σ p->gw=f/\∃h,a.toList.find? (λe=>e.born == seen.back?.getD 0)=σ h/\seen.back? =σ h.born/\im h=p
theorem io.map{a m:Nat}{d left:List (x4×x4)}{e:Option (x4×x4)}(h:io w a m d left e):db w m d:=by
 obtain⟨f,c,_,_,h1,j,q,_⟩:=h;exact⟨f,c,h1,j,q⟩
theorem io.a8{a m:Nat}{d left:List (x4×x4)}{e:Option (x4×x4)}(h:io w a m d left e)(J:ai S w I)(hm:¬S m)(hi:fj w I):io I a m d left e:=by
 obtain⟨f,c,s,gw,h1,j,q,r,x⟩:=h;exact⟨f,c,s,gw,J.a8 m _ h1 rfl hm,j,q,hi a _ r rfl,x⟩
theorem io.W{a m:Nat}{d left:List (x4×x4)}{e:Option (x4×x4)}(h:io w a m d left e)(J:Ext w I)(hi:fj w I):io I a m d left e:=
 h.a8 (J.aa λ_=>False) (λh=>h) hi
theorem M7(a:Array MapEntry):leftOf a #[]=a:=by
 grind [leftOf,Array.filter_eq_self]
theorem uu{t:o4}{m:Nat}{d:List (x4×x4)}{K:x4->x5->Prop}(s:P.underlying t=σ (.map k e))(hm:db w m d)(h:∀a I,a=w.heap.size->Ext w I->fj w I->io I a m d d ν->K (Γ a) I):aL P (Instr.range t (.map (σ m))) w K:=by
 obtain⟨j,f,q,r,rfl⟩:=hm;refine .of (by grind [run_range_map]) (ql w _) (h _ _ rfl (qk w _) (ql w _).kv ⟨j,f,#[],f,(qk w _).a8 m _ q rfl,r,rfl,heap_alloc_new w _,o6 _,by rw[M7],by grind⟩)
theorem C2:∀(l:List MapEntry)(j:Nat)(a:MapEntry),(l.map (·.born)).Nodup->l[j]?=σ a->l.filter (λx=>!(x.born == a.born))=l.eraseIdx j
 |[],j,a,_,h=>by simp at h
 |x::l,0,a,e,h=>by
  grind [List.filter_eq_self]
 |x::l,j+1,a,e,h=>by
  simp at h;have f:=List.nodup_cons.1 (by simpa using e:(x.born::l.map (·.born)).Nodup);have J:x.born≠a.born:=λhe=>f.1 (he▸l9.2 ⟨a,x7 h,rfl⟩);have q:=C2 l j a f.2 h
  grind
theorem uv{free:fY}{a m:Nat}{d left:List (x4×x4)}{H:Option (x4×x4)}{K:x4->x5->Prop}(h:io w a m d left H)(ah:free.1=sp->free.2<=a)(M:left=[]->K (.tuple #[.bool sp]) w)(h1:∀j p I,left[j]?=σ p->Ext w I->cP a w I->io I a m d (left.eraseIdx j) (σ p)->K (.tuple #[.bool s2,p.1,p.2]) I):tc P free (Instr.next (Γ a) sp 0) w K:=by
 obtain⟨f,s,seen,gw,N,z,rfl,hi,O,rfl,_⟩:=h;have E:∀x∈f.toList,x.born<s:=z.1;have af:=z.2.1;have ag:∀x∈(leftOf f seen).toList,x.born<s:=λx J=>E x (mem_left J).1;have ai:∀(U:x5)(o':Obj),U.heap=w.heap->(setObj a o').run P U= .ok () {U with heap:=U.heap.setIfInBounds a o'}:=by grind [setObj,Sem.run]
 unfold tc;simp only[Instr.next,getObj,W5,Sem.run,hi,N,W8,next_test_false seen f s gw E O,Bool.false_eq_true,if_false];have Q:Array.filter (λe=>!seen.contains e.born) f=leftOf f seen:=rfl;rw[Q];have R:((leftOf f seen).toList.map (·.born)).Nodup:=by
  grind
 have S:∀A:MapEntry,leftOf f (seen.push A.born)=(leftOf f seen).filter λx=>!(x.born == A.born):=λA=>by
  unfold leftOf;rw[Array.filter_filter]
  grind
 generalize T:leftOf f seen=L at*;have V:L.filter (λx=>decide (x.born<s))=L:=by grind [Array.filter_eq_self]
 have W:L.filter (λx=>decide (x.born≥s))= #[]:=by
  grind [Array.filter_eq_empty_iff]
 simp only[V,W,Array.append_empty];by_cases X:L.size=0
 .have Y:=Array.eq_empty_of_size_eq_zero X;subst Y;refine⟨.tuple #[.bool sp],w,?_,λ_=>cP.refl _ _,M rfl⟩;simp[choose,Sem.run,Question.forced]
 .have Z:L.isEmpty=sp:=by grind
  simp only[Z,Bool.false_eq_true,if_false,Array.empty_append,Array.size_map];have aa:∃(j:Nat)(n:Nat),j<L.size/\w.drawn<=n/\(choose (Question.mapNext L.size)).run P w= .ok j {w with drawn:=n}:=by
   by_cases ah:L.size<=1
   .exact⟨0,w.drawn,Ω,o6 _,by simp[choose,Sem.run,Question.forced,ah]⟩
   .exact⟨_,w.drawn+1,Nat.mod_lt _ Ω,Nat.le_succ _,by
     simp only[choose,Sem.run,Question.forced,ro,ah,if_false,Question.cut];rfl⟩
  obtain⟨j,n,F,G,aj⟩:=aa;have ab:L.toList[j]?=σ L[j]:=by simp[F]
  have ak:=(mem_left (by rw[T];exact Array.mem_toList_iff.2 (Array.getElem_mem F))).1;refine⟨.tuple #[.bool s2,L[j].key,L[j].val],{w with drawn:=n,heap:=w.heap.setIfInBounds a (.mapIter (σ m) s (seen.push L[j].born) s)},?_,?_,?_⟩
  .grind [W5,W8,V2]
  .intro ac;have:=ah ac;refine⟨rfl,⟨rfl,G⟩,rfl,Ξ,λr o q B=>?_,λr o ad q C=>?_⟩
   .show (w.heap.setIfInBounds a _)[r]?=σ o;by_cases y:r=a
    .subst y;rw[hi]at q;cases q;cases B
    grind
   grind
  .refine h1 j (im L[j]) _ (by grind) ⟨Ξ,λr o q C=>?_⟩ ⟨rfl,⟨rfl,G⟩,rfl,Ξ,λr o q B=>?_,λr o ad q C=>?_⟩ ⟨f,s,seen.push L[j].born,s,?_,z,rfl,?_,o6 _,?_,λp ae=>⟨rfl,L[j],?_,Ξ,Z5 ae⟩⟩
   .show (w.heap.setIfInBounds a _)[r]?=σ o;by_cases y:r=a
    .subst y;rw[hi]at q;cases q;cases C
    grind
   .show (w.heap.setIfInBounds a _)[r]?=σ o;by_cases y:r=a
    .subst y;rw[hi]at q;cases q;cases B
    grind
   .grind
   .grind
   .grind
   .rw[S,Array.toList_filter,C2 _ _ _ R ab,mI]
   grind [find_born]
theorem uw{a m:Nat}{d left:List (x4×x4)}{p:x4×x4}{K:x4->x5->Prop}(h:io w a m d left (σ p))(f:K (.tuple #[p.1,p.2]) w):aL P (Instr.entry (Γ a)) w K:=by
 obtain⟨r,s,seen,gw,j,x,rfl,hi,y,rfl,q⟩:=h;obtain⟨rfl,z,h1,e,rfl⟩:=q p rfl;refine .of ?_ (cS.refl _) f;rw[e]at h1;simp only[Instr.entry,getObj,W5,Sem.run,hi,j,W8,e,bne_self_eq_false,Bool.false_eq_true,if_false,<-Array.find?_toList];simp only[Option.getD_some]at h1;rw[h1];rfl
end
end Go.Vc
namespace Go.Proofs.YtlcdcbgoaljiiaaGreatDoor
open Go Go.Vc Go.RowKit Go.Proofs Go.Proofs.Tryz
set_option maxRecDepth 100000
def ez(a:Λ):x4:=.agg (ints .i8 a).toArray
def nK(a:Λ):Prop:=a.length=6/\∀x∈a,0<=x/\x<32
theorem M8{b:Λ}(h:ez a=ez b):a=b:=by
 unfold ez at h;have h:ints .i8 a=ints .i8 b:=by grind
 have e:∀l:Λ,(ints .i8 l).map valOf=l:=λl=>by
  unfold ints;rw[T6];exact List.map_id l
 grind
theorem C3(a:Λ):(ez a).cells.toList=ints .i8 a:=by simp[ez,x4.cells]
theorem M9:WideMaps.ArrKey x8 cN gv 6:=⟨cN.u,Ψ,Ψ,Ψ⟩
theorem keys:Keys x8 cN λv=>∃l,keyOf x8 cN v=σ l:=Keys.law M9.law
theorem xG{q:Λ}(h:nK q):∃l,keyOf x8 cN (ez q)=σ l:=by
 obtain⟨s,j⟩:=h
 match q,s with
 |[a,b,c,d,e,f],_=>
  have w:=j a Ξ;have y:=j b Ξ;have z:=j c Ξ;have rd:=j d Ξ;have A:=j e Ξ;have lC:=j f Ξ;have wf:∀x:Int,0<=x/\x<32->(Lit.int .i8 x).wf=s2:=λx J=>by
   simp only[Lit.wf,T9,ro];have H:o8.i8.min= -128:=Φ
   have I:o8.i8.max=127:=Φ
   omega
  have r:decide (0<x8.types.size)=s2:=Ψ
  have r:=rs r;obtain⟨n,B⟩:∃n,x8.types.size=n+1:=⟨x8.types.size-1,Ω⟩;have one:∀x:Int,0<=x/\x<32->x8.keyLits (n+1) gv [.int .i8 x]=σ [.int .i8 x]:=λx J=>by
   unfold X8.keyLits
   grind [gv.u]
  unfold keyOf;rw[cN.u];simp only;have C:x8.keyType cN=s2:=Ψ
  have E:x8.cellsOf gv=1:=Ψ
  have F:x8.cellsOf cN=6:=Ψ
  have ah:(ez [a,b,c,d,e,f]).formed x8 cN=s2:=by
   grind [ez,x4.formed,cN.u]
  rw[C,ah,C3,B];simp only[Bool.and_self,if_true];unfold X8.keyLits;rw[cN.u];simp only[F,E,ints];have G:Y9 6=[0,1,2,3,4,5]:=Φ
  simp[G,one a w,one b y,one c z,one d rd,one e A,one f lC]
def pad(t:Λ):Λ:=t++o5 (6-t.length) 0
theorem Na(e:t.length<=6)(a:∀x∈t,0<=x/\x<32):nK (pad t):=
 ⟨by simp[pad];omega,λx J=>by
  rcases j9.1 J with h|h
  .exact a x h
  .have:=(List.mem_replicate.1 h).2;omega⟩
theorem Nb{b:Λ}(e:a.length=b.length)(h:pad a=pad b):a=b:=by
 grind [pad,List.append_inj]
theorem C4:(pad t).take t.length=t:=by simp[pad]
theorem pF{b o:Nat}(e:a.length=6)(h:w.rangeAt b o (ints .i8 a)):ad x8 (u5 cN (.pointer (σ ⟨b,o,ν⟩))) w K=K (ez a):=
 Bw cN.u rfl cN.i (by simp[e]) h
theorem Nc{b o:Nat}(e:a.length=6)(h:w.rangeAt b o (ints .i8 a)):ad x8 (do loadVar cN (<-asAddr (.pointer (σ ⟨b,o,ν⟩)))) w K=K (ez a):=ad.of λI J=>by
 have:=run_loadVar_mid I b o cN (ints .i8 a) (.array 6 gv) (pm J h) cN.u rfl (by rw[cN.i.size];simp[e]);simp only[asAddr,W5,V2,Result.andThen_ok,this];rfl
theorem sb{g:Nat}{K:Unit->x5->Prop}(e:a.length=6)(f:cs.length=6)(j:ak w g cN cs)(h:∀I,ai (λr=>r=g) w I->I.heap.size=w.heap.size->ak I g cN (ints .i8 a)->K () I):aL x8 (o7 cN (Γ g) (ez a)) w K:=
 cd (vs:=ints .i8 a) cN.i (by simp[e]) f (λv ac=>by obtain⟨x,_,rfl⟩:=l9.1 ac;rfl) j h
def ux:List x4:=[.int .i8 0,.int .i8 0,.int .i8 0,.int .i8 0,.int .i8 0,.int .i8 0]
theorem Nd{x:Int}:aq x8 tI [Δ x] w λv I=>v= .bool (decide (¬jM x))/\Ext w I:=by
 refine aE func230 ?_;simp only[cG,aW,bW,ao];refine⟨λh=>⟨?_,Ext.refl _⟩,λh=>⟨?_,Ext.refl _⟩⟩
 .rw[ms];intro a;have:=a.1;omega
 .congr 1;have:(32<x)=(¬jM x):=propext ⟨λe a=>by have:=a.2;omega,λe=>by
   by_cases f:32<x
   .exact f
   .exact m6 ⟨Ω,Ω⟩ e⟩
  simp only[this]
theorem Nf(h:aQ .i64 w sv l):
  aq x8 wP [sv,.func (.func tI) #[] #[]] w λv I=>Ext w I/\∃n:Int,v=Δ n/\((0<=n)=¬∀x∈l,jM x):=by
 have z:=h.le;refine aE func136 ?_;rw[ba au.u h];refine⟨λ_ t U=>Ext w U/\∃i:Nat,t=Δ i/\i<=l.length/\∀x∈l.take i,jM x,λ_ t _=>l.length-(b1 t).toNat,⟨Ext.refl _,0,rfl,W3 _,Ξ⟩,?_⟩;rintro _ _ U ⟨J,i,rfl,hi,e⟩;simp only[aW,ao];refine⟨λA=>?_,λB=>⟨J,-1,rfl,?_⟩⟩
 .obtain⟨x,f⟩:=aJ (l:=l) (i:=i) Ω;rw[bp au.u al.i Ψ (h.W J) f];show aq x8 tI [Δ x] U _;refine Nd.Y ?_;rintro _ ab _ ⟨rfl,j⟩;simp only[ao,aT];refine⟨λq=>⟨J.F j,i,rfl,?_⟩,λr=>?_⟩
  .exact propext ⟨λ_ s=>q (s x (x7 f)),λ_=>Ω⟩
  .rw[lm Ω Ω];refine⟨⟨J.F j,i+1,rfl,Ω,λy a=>?_⟩,?_⟩
   .rw[u9,f]at a;rcases j9.1 a with a|a
    .exact e y a
    .simp at a;subst a;exact X1.1 r
   .simp only[b1];omega
 .have:i=l.length:=Ω
  rw[this,o9]at e;exact propext ⟨λh=>Ω,λh=>m6 e h⟩
theorem C5(h:aQ .i64 w sv l):
  aq x8 wS [sv,.func (.func tI) #[] #[]] w λv I=>v= .bool (decide (¬∀x∈l,jM x))/\Ext w I:=by
 refine aE func231 ?_;refine(Nf h).Y ?_;rintro _ U _ ⟨J,n,rfl,a⟩;simp only[cU];exact⟨by congr 1;simp only[a],J⟩
abbrev Told:=List (Λ×Int)
def ld(p:Λ×Int):x4×x4:=(ez (pad p.1),Δ p.2)
def e5(w:x5)(g m:Nat)(an:Λ)(k o:Int)(D:Told):Prop:=
 (∃sv gs,ak w g gb [sv,Δ k,Δ o,.map (σ m)]/\aH .i64 al w gs sv an)/\db w m (D.map ld)/\cn an/\cE o k/\∀p∈D,dB an p.1/\cE p.2 k/\p.2≠o
theorem e5.W{g m:Nat}{o:Int}{D:Told}(h:e5 w g m an k o D)(J:Ext w I):e5 I g m an k o D:=by
 obtain⟨⟨sv,gs,h1,a⟩,e,f⟩:=h;exact⟨⟨sv,gs,h1.W J,a.W J⟩,e.W J,f⟩
theorem xH(V:cn an)(h:dB an t):t.length=an.length/\∀x∈t,0<=x/\x<32:=by
 obtain⟨h1,f⟩:=pB.1 h;refine⟨h1.symm,λx J=>?_⟩;obtain⟨i,hi,rfl⟩:=List.getElem_of_mem J;obtain⟨a,e⟩:=aJ (l:=an) (i:=i) Ω;have j:=f i a _ e (v8 hi);have q:=(V.2 a (x7 e)).2;omega
theorem sd(V:cn an)(h:dB an t):nK (pad t):=by
 obtain⟨h1,a⟩:=xH V h;exact Na (by rw[h1];exact V.1) a
theorem e5.qR{g m:Nat}{o:Int}{D:Told}(h:e5 w g m an k o D):∀p∈D.map ld,∃l,keyOf x8 cN p.1=σ l:=λp ae=>by
 obtain⟨q,a,rfl⟩:=l9.1 ae;exact xG (sd h.2.2.1 (h.2.2.2.2 q a).1)
theorem C6{s:Λ}(V:dB an s)(a:dB an t)(h:ez (pad s)=ez (pad t)):s=t:=
 Nb ((uf V).symm.F (uf a)) (M8 h)
theorem e5.nodup{g m:Nat}{o:Int}{D:Told}(h:e5 w g m an k o D):(D.map (·.1)).Nodup:=by
 have e:=h.2.1.nodup;rw[T6]at e;refine List.Pairwise.of_map (S:=λa b=>a≠b) (λt=>ez (pad t)) (λa b h he=>h (by rw[he])) ?_;rw[T6];exact e
def Ng(w:x5)(l:Λ)(k o:Int)(v:x4)(I:x5):Prop:=
 Ext w I/\(¬cn l->v= .tuple #[.pointer ν,Δ 1])/\(cn l->¬cE o k->v= .tuple #[.pointer ν,Δ 3])/\
  (cn l->cE o k->∃g m,v= .tuple #[Γ g,Δ 0]/\w.heap.size<=g/\w.heap.size<=m/\e5 I g m l k o [])
theorem C7{o:Int}(h:aQ .i64 w sv l):aq x8 qo [sv,Δ k,Δ o] w (Ng w l k o):=by
 refine aE func177 ?_;refine a6 (λv U=>Ext w U/\∃c,v= .bool c/\(c=s2↔¬cn l)) ?_ ?_
 .rintro _ U ⟨e,c,rfl,f⟩;rw[b4];refine⟨λs=>⟨e,λ_=>rfl,λh=>m6 h (f.1 s),λh=>m6 h (f.1 s)⟩,λah=>?_⟩;have V:=Classical.byContradiction λh=>by have:=f.2 h;rw[ah]at this;cases this
  have C:=V.1;refine k8.Y ?_;rintro _ ab _ ⟨rfl,a⟩;by_cases hi:cE o k
  rotate_left
  .simp only[hi,decide_false,bR,X5,bT];exact⟨e.F a,λh=>m6 V h,λ_ _=>rfl,λ_ h=>m6 h hi⟩
  simp only[hi,decide_true,bR,Y7,bb];refine(my ((h.W e).W a) Ω).Y ?_;rintro aX E _ ⟨x,z,G,hm⟩;have H:=hm.ls.cells;refine r7 λm I J j A=>?_;rw[dn (cs:=#[aX,Δ k,Δ o,.map (σ m)]) (by obtain⟨_,_,_,_,_,rfl,_⟩:=hm.ls;kernel_rfl)];refine br λg K L q B=>?_;have s1:=e.size;have M:=a.size;have N:=x.size;have O:=j.size;exact⟨((((e.F a).F x).F j).F q),λh=>m6 V h,λ_ h=>m6 hi h,λ_ _=>⟨g,m,rfl,Ω,Ω,⟨aX,z,B,(hm.W j).W q⟩,A.W q,V,hi,λp ae=>by cases ae⟩⟩
 .intro az y;rw[ba au.u h];simp only[bW,ao];refine⟨λP=>y _ _ ⟨Ext.refl _,s2,rfl,λ_ V=>by have:=V.1;omega,λ_=>rfl⟩,λQ=>?_⟩;refine(C5 h).Y ?_;rintro _ ab _ ⟨rfl,a⟩;refine y _ _ ⟨a,_,rfl,?_⟩;rw[ro];exact⟨λr V=>r V.2,λr V=>r ⟨Ω,V⟩⟩
def kL(t:Λ)(i:Nat):Λ:=t.take i++o5 (6-i) 0
theorem Nh{i:Nat}(hi:i<=t.length)(a:t.length<=6):(kL t i).length=6:=by simp[kL];omega
theorem Ni{i:Nat}{x:Int}(J:t[i]?=σ x)(e:t.length<=6):(kL t i).set i x=kL t (i+1):=by
 have hi:=(x6.1 J).1;unfold kL;have a:(t.take i).length=i:=by rw[Z3];omega
 rw[U7 _ _ Ω,a,V7,u9,J];have:6-i=(6-(i+1))+1:=Ω
 rw[this,List.replicate_succ];simp
theorem Nj(t:Λ):kL t t.length=pad t:=by simp[kL,pad]
def C8(w:x5)(an t:Λ)(v:x4)(I:x5):Prop:=Ext w I/\∃a e,v= .tuple #[ez a,Δ e]/\a.length=6/\(dB an t->a=pad t/\e=0)/\(¬dB an t->e=3)
theorem Nk{g m:Nat}{o:Int}{D:Told}{aX:x4}(h:e5 w g m an k o D)(G:aQ .i64 w aX t):aq x8 KG [Γ g,aX] w (C8 w an t):=by
 obtain⟨⟨sv,gs,H,hm⟩,_,V,_⟩:=h;have aG:=V.1;refine aE func232 ?_;refine bF cN.i λA U aH S B=>?_;refine bF cN.i λav ab aI I K=>?_;have s:=S.F I;have s1:=S.size;have aK:=I.size;have aM:=B.lt;have aN:=K.lt;have aP:=H.lt;have B:=B.W I;have ag:=H.W s;rw[dj fc.u];simp only[b9,bb];have L:∀{f:x5}{C:Λ}{e:Int},Ext w f->ak f av cN (ints .i8 C)->ak f A cN ux->C.length=6->(dB an t->C=pad t/\e=0)->(¬dB an t->e=3)->
   ad x8 (u5 cN (Γ av)) f λah=>aL x8 (o7 cN (Γ A) ah) f λ(_:Unit)M=>ad x8 (do loadVar cN (<-asAddr (Γ A))) M λai=>C8 w an t (.tuple #[ai,Δ e]) M:=by
  intro f C e q r y E ac N;rw[pF E r.range];refine sb E rfl y λM aj aR am=>?_;rw[Nc E am.range];exact⟨q.put aj Ω,C,e,rfl,E,ac,N⟩
 rw[ba au.u (G.W s),aO gb.p 0 ag rfl,ba au.u (hm.ls.W s)];simp only[bO,ao];have W:ints .i8 (kL t 0)=ux:=by simp[kL,ux,ints]
 refine⟨λap=>L s (by rw[W];exact K) B (by simp[kL]) (λac=>m6 (by rw[uf ac]) ap) (λ_=>rfl),λX=>?_⟩;have X:t.length=an.length:=Ω
 rw[ba au.u (G.W s)];refine cp.range t.length (λi _ f=>Ext w f/\ak f av cN (ints .i8 (kL t i))/\ak f A cN ux/\∀(j:Nat)(a x:Int),j<i->an[j]?=σ a->t[j]?=σ x->0<=x/\x<a) Ω
  ⟨s,by rw[W];exact K,B,λj a x aw=>Ω⟩ ?_ ?_
 .rintro i _ f ay hi ⟨q,r,y,O⟩ aA;simp only[aW,ao];refine⟨λ_=>?_,λh=>Ω⟩;obtain⟨x,J⟩:=aJ (l:=t) hi;obtain⟨a,z⟩:=aJ (l:=an) (i:=i) Ω;have aS:=V.2 a (x7 z);rw[bp au.u al.i Ψ (G.W q) J];have Y:=Nh (t:=t) (i:=i) Ω Ω;refine a6 (λv aB=>f=aB/\v= .bool (decide (¬(0<=x/\x<a)))) ?_ ?_
  .rintro _ _ ⟨rfl,rfl⟩;simp only[ao];refine⟨λaC=>L q r y Y (λac=>m6 ((pB.1 ac).2 i a x z J) aC) (λ_=>rfl),λP=>?_⟩;have P:=X1.1 P;rw[fM al.u gv.u,Lu Ω Ω,w4 cN.u gv.i Ω];refine bs gv.i rfl rfl r (by simp[Y];omega) λaU Z aV ae=>?_;simp only[aT];refine aA _ _ ⟨q.put Z Ω,?_,y.aa Z (by show¬(A=av);omega),λj a' aD aw Q R=>?_⟩
   .have e:(ints .i8 (kL t i)).set (0+i*1) (.int .i8 x)=ints .i8 (kL t (i+1)):=by
     rw[<-Ni J Ω];simp[ints,U2]
    rw[e]at ae;exact ae
   .by_cases aF:j=i
    .subst aF;rw[z]at Q;rw[J]at R;cases Q;cases R;exact P
    .exact O j a' aD Ω Q R
  .intro az af;simp only[aW,ao];refine⟨λaY=>af _ _ ⟨rfl,by rw[ms];omega⟩,λaZ=>?_⟩;rw[aO gb.p 0 (H.W q) rfl,bp au.u al.i Ψ (hm.ls.W q) z,cU];refine af _ _ ⟨rfl,?_⟩;congr 1;exact decide_eq_decide.2 ⟨λh ax=>Ω,λh=>Ω⟩
 .rintro _ f ay ⟨q,r,y,O⟩;simp only[aW,ao];refine⟨λh=>Ω,λ_=>?_⟩;rw[Nj]at r;exact L q r y (by simp[pad];omega) (λ_=>⟨rfl,rfl⟩) (λN=>m6 (pB.2 ⟨X.symm,λj a x z J=>O j a x (x6.1 J).1 z J⟩) N)
def jR(D:Told)(o:Int)(t:Λ):Int:=match D.find? (λp=>decide (p.1=t))with
 |some p=>p.2
 |none=>o
theorem C9{D:Told}(e:(D.map (·.1)).Nodup){p q:Λ×Int}(ae:p∈D)(f:q∈D)(h:p.1=q.1):p=q:=by
 obtain⟨i,hi⟩:=Y5.1 ae;obtain⟨j,a⟩:=Y5.1 f;have h1:(D.map (·.1))[i]?=σ p.1:=by rw[u4,hi];rfl
 have r:(D.map (·.1))[j]?=σ p.1:=by rw[u4,a,h];rfl
 have:=lT e h1 r;subst this;rw[hi]at a;exact Z5 a
theorem se{D:Told}{o:Int}(a:(D.map (·.1)).Nodup)(h:(t,c)∈D):jR D o t=c:=by
 unfold jR;cases ah:D.find? (λp=>decide (p.1=t))with
 |none=>
  have:=List.find?_eq_none.1 ah _ h;simp at this
 |some p=>
  have h1:=List.find?_some ah;have h1:p.1=t:=by simpa using h1
  have:=C9 a (List.mem_of_find?_eq_some ah) h h1;rw[this]
theorem sf{D:Told}{o:Int}(h:∀p∈D,p.1≠t):jR D o t=o:=by
 unfold jR;cases ah:D.find? (λp=>decide (p.1=t))with
 |none=>rfl
 |some p=>
  have h1:=List.find?_some ah;have h1:p.1=t:=by simpa using h1
  exact m6 h1 (h p (List.mem_of_find?_eq_some ah))
def mJ(D:Told)(t:Λ)(c o:Int)(D':Told):Prop:=(∀p,p∈D'↔(c≠o/\p=(t,c))\/(p∈D/\p.1≠t))/\D'.length<=D.length+1
theorem mJ.cost{D D':Told}{o:Int}(h:mJ D t c o D')(q:(D.map (·.1)).Nodup)(e:(D'.map (·.1)).Nodup)(s:Λ):jR D' o s=if s=t then c else jR D o s:=by
 by_cases V:s=t
 .subst V;rw[m3 rfl];by_cases f:c=o
  .subst f;exact sf λp ae he=>by
    rcases(h.1 p).1 ae with a|a
    .exact a.1 rfl
    .exact a.2 he
  .exact se e ((h.1 _).2 (.inl ⟨f,rfl⟩))
 .rw[m5 V];by_cases he:∃p∈D,p.1=s
  .obtain⟨p,ae,rfl⟩:=he;rw[se q ae];exact se e ((h.1 _).2 (.inr ⟨ae,V⟩))
  .have j:∀p∈D,p.1≠s:=λp ae h=>he ⟨p,ae,h⟩;rw[sf j];exact sf λp ae a=>by
    rcases(h.1 p).1 ae with⟨_,rfl⟩|⟨r,_⟩
    .exact V a.symm
    .exact j p r a
theorem Nl{D:Told}{o v0:Int}(h:(D.map (·.1)).Nodup)(e:D[j]?=σ (t,v0))(q:c≠o):mJ D t c o (D.set j (t,c)):=by
 have f:=(x6.1 e).1;refine⟨λp=>⟨λae=>?_,λae=>?_⟩,Ξ⟩
 .obtain⟨i,hi⟩:=Y5.1 ae;by_cases a:j=i
  .subst a;rw[Z6 f]at hi;exact .inl ⟨q,(Z5 hi).symm⟩
  .rw[Y8 a]at hi;refine .inr ⟨x7 hi,λhe=>a ?_⟩;exact lT h (by rw[u4,e];rfl) (by rw[u4,hi,Y6,he])
 .rcases ae with⟨_,rfl⟩|⟨ae,r⟩
  .exact x7 (Z6 f)
  .obtain⟨i,hi⟩:=Y5.1 ae;have a:j≠i:=λhe=>by subst he;rw[e]at hi;cases hi;exact r rfl
   exact x7 (by rw[Y8 a];exact hi)
theorem Da{D:Told}{o:Int}(a:∀p∈D,p.1≠t)(e:c≠o):mJ D t c o (D++[(t,c)]):=by
 refine⟨λp=>?_,Ξ⟩;rw[j9,Y4];exact⟨λh=>h.elim (λh=>.inr ⟨h,a p h⟩) (λh=>.inl ⟨e,h⟩),λh=>h.elim (λh=>.inr h.2) (λh=>.inl h.1)⟩
theorem Nn{D:Told}{o v0:Int}(e:(D.map (·.1)).Nodup)(a:D[j]?=σ (t,v0)):mJ D t o o (D.eraseIdx j):=by
 refine⟨λp=>⟨λae=>?_,λae=>?_⟩,by have:=List.length_eraseIdx_le D j;omega⟩
 .refine .inr ?_;obtain⟨i,f,hi⟩:=List.mem_eraseIdx_iff_getElem?.1 ae;refine⟨x7 hi,λhe=>f ?_⟩;exact lT e (by rw[u4,hi,Y6,he]) (by rw[u4,a];rfl)
 .rcases ae with⟨h,_⟩|⟨ae,q⟩
  .exact m6 rfl h
  .obtain⟨i,hi⟩:=Y5.1 ae;exact List.mem_eraseIdx_iff_getElem?.2 ⟨i,λhe=>by subst he;rw[a]at hi;cases hi;exact q rfl,hi⟩
theorem No{D:Told}{o:Int}(a:∀p∈D,p.1≠t):mJ D t o o D:=
 ⟨λp=>⟨λh=>.inr ⟨h,a p h⟩,λh=>h.elim (λh=>m6 rfl h.1) (λh=>h.1)⟩,Ω⟩
theorem Db{g m:Nat}{o:Int}{D:Told}(h:e5 w g m an k o D)(e:dB an t)(a:(D.map ld)[j]?=σ (ez (pad t),v)):∃c,D[j]?=σ (t,c)/\v=Δ c:=by
 rw[u4]at a;obtain⟨p,ae,he⟩:=Z9.1 a;have h1:=C6 (h.2.2.2.2 p (x7 ae)).1 e (congrArg Prod.fst he);exact⟨p.2,by rw[ae,<-h1],(congrArg Prod.snd he).symm⟩
theorem Dc{g m:Nat}{o:Int}{D:Told}(h:e5 w g m an k o D)(a:∀p∈D.map ld,p.1≠ez (pad t)):∀p∈D,p.1≠t:=λp ae he=>a (ld p) (l9.2 ⟨p,ae,rfl⟩) (by rw[ld,he])
def Np(w:x5)(g m:Nat)(an t:Λ)(k o c:Int)(D:Told)(v:x4)(I:x5):Prop:=
 (¬(dB an t/\cE c k)->v=Δ 3/\Ext w I)/\(dB an t/\cE c k->v=Δ 0/\ai (λr=>r=m) w I/\∃D',mJ D t c o D'/\e5 I g m an k o D')
theorem Dd{g m:Nat}{o:Int}{D:Told}{aX:x4}(h:e5 w g m an k o D)(af:aQ .i64 w aX t):aq x8 J3 [Γ g,aX,Δ c] w (Np w g m an t k o c D):=by
 refine aE func178 ?_;refine(Nk h af).Y ?_;rintro _ U _ ⟨R,aF,e,rfl,K,ag,ah⟩;rw[bA,bB];refine bF cN.i λav ab aG S W=>?_;refine sb K rfl W λX aj aH Y=>?_;have s1:=R.size;have aI:=S.size;have aJ:=W.lt;have G:=(R.F S).put aj Ω;refine a6 (λv L=>v=Δ 0/\(dB an t/\cE c k)/\ai (λr=>r=m) w L/\∃D',mJ D t c o D'/\e5 L g m an k o D') ?_ ?_
 .rintro _ L ⟨_,h1,C⟩;exact⟨λh=>m6 h1 h,λ_=>⟨rfl,C⟩⟩
 intro az ak;simp only[bO,ao];by_cases ac:dB an t
 rotate_left
 .have he:=ah ac;subst he;exact⟨λ_=>⟨λ_=>⟨rfl,G⟩,λh=>m6 h.1 ac⟩,λh=>by simp at h⟩
 obtain⟨rfl,rfl⟩:=ag ac;refine⟨λh=>m6 rfl h,λ_=>?_⟩;have x:=h.W G;obtain⟨⟨sv,gs,y,hm⟩,H,V,al,am⟩:=id x;rw[aO gb.p 1 y rfl];refine k8.Y ?_;rintro _ ap _ ⟨rfl,z⟩;have au:=G.F z;by_cases hi:cE c k
 rotate_left
 .simp only[hi,decide_false,bR,X5,bT];exact⟨λ_=>⟨rfl,au⟩,λh=>m6 h.2 hi⟩
 simp only[hi,decide_true,bR,Y7,bb];rw[aO gb.p 2 (y.W z) rfl];simp only[bl,ao,et];have Z:=xG (sd V ac);have aw:∀{D':Told},mJ D t c o D'->∀p∈D',dB an p.1/\cE p.2 k/\p.2≠o:=λhu p ae=>by
  rcases(hu.1 p).1 ae with⟨B,rfl⟩|⟨h1,_⟩
  .exact⟨ac,hi,B⟩
  .exact am p h1
 have I:∀{E A:x5}{D':Told},Ext ap E->ai (λr=>r=m) E A->db A m (D'.map ld)->mJ D t c o D'->az (Δ 0) A:=by
  intro E A D' f q ay hu;have aA:g≠m:=λhe=>by
   obtain⟨aB,aC,ax,_⟩:=H;have y:X.heap[g]?=_:=y;rw[he,ax]at y;cases y
  have aD:∀r,lc sv r->r≠m:=λr ad he=>by
   subst he;obtain⟨aB,aC,ax,_⟩:=H;obtain⟨_,⟨rfl,_⟩|⟨cap,cs,rfl,J,_⟩⟩:=hm
   .obtain⟨a,n,c,h1,_⟩:=ad;cases h1
   .obtain⟨a,n,c,h1,C⟩:=ad;cases h1;have J:X.heap[gs]?=_:=J;have C:gs=r:=C;rw[C,ax]at J;cases J
  have M:=z.F f;exact ak _ _ ⟨rfl,⟨ac,hi⟩,((G.F M).aa _).F q,D',hu,⟨sv,gs,(y.W M).aa q aA,bE (hm.W M) q aD⟩,ay,V,al,aw hu⟩
 refine⟨λB E f _ _=>?_,λB E f _ _=>?_⟩
 .rw[aO gb.p 3 ((y.W z).W f) rfl,pF K ((Y.W z).W f).range];subst B;refine M6 kc.u keys ((H.W z).W f) x.qR Z (λj v0 A N s q=>?_) (λA O s q=>?_)
  .obtain⟨gw,P,_⟩:=Db x ac N;rw[mI]at s;exact I f q s (Nn x.nodup P)
  .exact I f q s (No (Dc x O))
 .rw[aO gb.p 3 ((y.W z).W f) rfl,pF K ((Y.W z).W f).range];refine qQ kc.u keys ((H.W z).W f) x.qR Z (λj v0 A N s q=>?_) (λA O s q=>?_)
  .obtain⟨gw,P,_⟩:=Db x ac N;have Q:(D.map ld).set j (ez (pad t),Δ c)=(D.set j (t,c)).map ld:=by rw[U2];rfl
   rw[Q]at s;exact I f q s (Nl x.nodup P B)
  .have Q:D.map ld++[(ez (pad t),Δ c)]=(D++[(t,c)]).map ld:=by rw[Z0];rfl
   rw[Q]at s;exact I f q s (Da (Dc x O) B)
theorem Nq{g m:Nat}{o:Int}{D:Told}{b:Bool}(h:e5 w g m an k o D)(ac:dB an t)(h1:∀c,(t,c)∈D->K (if b then .tuple #[Δ c,.bool s2]else Δ c))(f:(∀p∈D,p.1≠t)->K (if b then .tuple #[Δ 0,.bool sp]else Δ 0)):
  ad x8 (Instr.lookup kc (.map (σ m)) (ez (pad t)) b) w K:=by
 have a:=xG (sd h.2.2.1 ac);by_cases he:∃p∈D,p.1=t
 .obtain⟨p,ae,rfl⟩:=he;obtain⟨j,r⟩:=Y5.1 ae;rw[sa kc.u keys h.2.1 h.qR a (j:=j) (v:=Δ p.2) (by rw[u4,r];rfl)];exact h1 p.2 ae
 .have e:∀p∈D,p.1≠t:=λp ae h=>he ⟨p,ae,h⟩;rw[ut kc.u keys ⟨_,_,ay.i⟩ h.2.1 h.qR a (λq s hk=>by
   obtain⟨p,ae,rfl⟩:=l9.1 s;exact e p ae (C6 (h.2.2.2.2 p ae).1 ac hk))]
  exact f e
theorem Nr{g m:Nat}{o:Int}{D:Told}(h:e5 w g m an k o D):aq x8 KK [Γ g] w λv I=>v=Δ D.length/\Ext w I:=by
 obtain⟨⟨sv,gs,a,hm⟩,e,_⟩:=h;refine aE func238 ?_;rw[dj fc.u];simp only[b9,bb];rw[aO gb.p 3 a rfl,C1 kc.u e];exact⟨Ξ,Ext.refl _⟩
theorem Ns{g m:Nat}{o:Int}{D:Told}(h:e5 w g m an k o D):aq x8 Li [Γ g] w λv I=>v=Δ k/\Ext w I:=by
 obtain⟨⟨sv,gs,a,hm⟩,_⟩:=h;refine aE func300 ?_;rw[dj fc.u];simp only[b9,bb];rw[aO gb.p 1 a rfl];exact⟨rfl,Ext.refl _⟩
theorem xI{g m:Nat}{o:Int}{D:Told}(h:e5 w g m an k o D):aq x8 KL [Γ g] w λv I=>Ext w I/\∃a,w.heap.size<=a/\aH .i64 al I a v an:=by
 obtain⟨⟨sv,gs,e,hm⟩,_,V,_⟩:=h;have f:=V.1;refine aE func239 ?_;rw[dj fc.u];simp only[b9,bb];rw[aO gb.p 0 e rfl];exact my hm.ls Ω
theorem Nt{g m:Nat}{o:Int}{D:Told}(h:e5 w g m an k o D):aq x8 Lj [Γ g] w λv I=>v=Δ an.length/\Ext w I:=by
 refine aE func301 ?_;refine(xI h).Y ?_;rintro v U _ ⟨J,a,_,hm⟩;rw[ba au.u hm.ls];exact⟨rfl,J⟩
end Go.Proofs.YtlcdcbgoaljiiaaGreatDoor
namespace Go.Vc
open Go Go.RowKit
set_option maxRecDepth 100000
def hx(v:x4)(r:Nat):Prop:=∃a n c,v= .slice (σ a) n c/\a.block=r
theorem gC(h:hx (.slice ν 0 0) r):False:=by
 obtain⟨a,n,c,h,_⟩:=h;cases h
section
variable{α:Type}{f:α->List x4}{k:Nat}
theorem jS:∀{L:List α},(∀a∈L,(f a).length=k)->(L.flatMap f).length=L.length*k
 :=by
 intro a;induction a<;>grind
theorem sg:∀{L:List α}(i:Nat),(∀a∈L,(f a).length=k)->(L.flatMap f).take (i*k)=(L.take i).flatMap f
 |[],i,_=>Ξ
 |a::L,0,_=>Ξ
 |a::L,i+1,h=>by
  have e:=h a (.head _);rw[T0,List.take_succ_cons,T0,<-sg i (by grind),T7,Nat.one_mul,Nat.add_comm,List.take_append,e]
  grind
theorem uy:∀{L:List α}(i:Nat),(∀a∈L,(f a).length=k)->(L.flatMap f).drop (i*k)=(L.drop i).flatMap f
 |[],i,_=>Ξ
 |a::L,0,_=>Ξ
 |a::L,i+1,h=>by
  have e:=h a (.head _);rw[T0,List.drop_succ_cons,<-uy i (by grind),T7,Nat.one_mul,Nat.add_comm,List.drop_append,e]
  grind [List.drop_of_length_le]
theorem qS{L:List α}{i:Nat}{a:α}(h:∀a∈L,(f a).length=k)(hi:L[i]?=σ a)(e:(f a)[j]?=σ v):(L.flatMap f)[i*k+j]?=σ v:=by
 have q:=(x6.1 e).1;rw[<-List.getElem?_drop,uy i h]
 grind [X2]
theorem xJ{L:List α}{i:Nat}{a:α}(h:∀a∈L,(f a).length=k)(e:(f a).length=k)(hi:i<L.length):over (L.flatMap f) (i*k) (f a)=(L.set i a).flatMap f:=by
 have j:=jS h;have q:(i+1)*k<=L.length*k:=V4 _ hi
 grind [T7,oi,sg,uy,List.set_eq_take_append_cons_drop]
theorem xK{vs:List x4}{o m:Nat}(h1:o+vs.length<=m)(a:m<=cs.length):(over cs o vs).take m=over (cs.take m) o vs:=by
 rw[oi Ω,oi (by rw[Z3];omega),T1,T1,List.take_append,List.take_append,List.take_take,List.take_take,List.drop_take,Z3]
 grind [j5]
def bn(f:α->List x4)(k:Nat)(e:o4)(w:x5)(g:Nat)(v:x4)(L:List α):Prop:=b7 w g e k v L.length (L.flatMap f)/\∀a∈L,(f a).length=k
variable{P:X8}{w:x5}{e:o4}{g:Nat}{v:x4}{L:List α}
theorem bn.nil(f:α->List x4)(k:Nat)(e:o4)(w:x5)(g:Nat):bn f k e w g (.slice ν 0 0) []:=⟨b7.nil w g e k,λa h=>by cases h⟩
theorem bn.lc(h:bn f k e w g v L)(j:hx v r):r=g/\g<w.heap.size:=by
 obtain⟨_,⟨rfl,_⟩|⟨cap,cs,rfl,q,_⟩⟩:=h.1
 .grind [gC]
 .obtain⟨a,n,c,h1,s⟩:=j;cases h1;exact⟨s.symm,q.lt⟩
theorem bn.aa(h:bn f k e w g v L)(J:ai S w I)(a:∀r,hx v r->¬S r):bn f k e I g v L:=
 ⟨⟨h.1.1,h.1.2.imp id λ⟨cap,cs,h1,j,q⟩=>⟨cap,cs,h1,j.aa J (a g ⟨_,_,_,h1,rfl⟩),q⟩⟩,h.2⟩
theorem bn.W(h:bn f k e w g v L)(J:Ext w I):bn f k e I g v L:=h.aa (J.aa λ_=>False) λ_ _ h=>h
theorem bn.sl(h:bn f k e w g v L):cj w k v L.length (L.flatMap f):=h.1.sl
theorem bn.le(h:bn f k e w g v L):L.length<=9223372036854775807:=by
 have:=cj.le h.sl
 grind [maxLen]
theorem eF{t a:o4}(j:P.underlying t=σ (.slice e))(h:bn f k e w g v L):ad P (X7 #[t] a #[v]) w K=K (Δ L.length):=by
 obtain⟨_,_,_,_,_,rfl,_⟩:=h.sl;exact ji j
theorem ct{t:o4}{q:o8}{b:Nat}{i:Nat}(a:y=(i:Int))(j:P.underlying t=σ (.slice e))(hi:aU P e k b z)(h:bn f k e w g v L)(r:i<L.length):
  ad P (n9 t v (.int q y)) w K=K (.pointer (σ ⟨g,i*k,ν⟩)):=by
 subst a;obtain⟨_,⟨rfl,s⟩|⟨cap,cs,rfl,x,A⟩⟩:=h.1
 .omega
 .rw[e2 j hi r (λ_=>rfl),V0]
theorem bn.range{i:Nat}{a:α}(h:bn f k e w g v L)(hi:L[i]?=σ a):w.rangeAt g (i*k) (f a):=λj u hu=>by
 have h1:=qS h.2 hi hu;have x:=(x6.1 hi).1;obtain⟨_,⟨rfl,y⟩|⟨cap,cs,rfl,r,_,_,z,s⟩⟩:=h.1
 .omega
 .have q:=(x6.1 h1).1;rw[jS h.2]at q;rw[<-s,V1 q]at h1;exact r.cell h1
theorem xL{t:o4}{b:Nat}{i:Nat}{a:α}{K:Unit->x5->Prop}(hi:aU P t k b z)(h:bn f k e w g v L)(j:(f a).length=k)(h1:∀u∈f a,u.oneCell'=s2)(q:i<L.length)(s:∀I,ai (λr=>hx v r) w I->I.heap.size=w.heap.size->bn f k e I g v (L.set i a)->K () I):aL P (o7 t (.pointer (σ ⟨g,i*k,ν⟩)) (.agg (f a).toArray)) w K:=by
 have F:=jS h.2;have x:(i+1)*k<=L.length*k:=V4 _ q;rw[T7,Nat.one_mul]at x;obtain⟨⟨G,⟨rfl,H⟩|⟨cap,cs,rfl,y,J,A,B,M⟩⟩,N⟩:=h
 .omega
 .have O:L.length*k<=cs.length:=by grind
  refine Bz hi j h1 y Ω λI C V E=>s I (C.Y λr _ he=>⟨_,_,_,rfl,he.symm⟩) V ⟨⟨?_,.inr ⟨cap,_,Ξ,E,by grind,A,by rw[nD,B],?_⟩⟩,λb Q=>?_⟩
  all_goals grind [jS,xJ,xK]
theorem lf{t:o4}{b:Nat}{u:x4}{i:Nat}{a a':α}{K:Unit->x5->Prop}(hi:aU P t 1 b z)(hu:u.cells= #[u])(h1:u.oneCell'=s2)(h:bn f k e w g v L)(q:L[i]?=σ a)(ah:f a'=(f a).set j u)(M:j<k)(A:∀I,ai (λr=>hx v r) w I->I.heap.size=w.heap.size->bn f k e I g v (L.set i a')->K () I):aL P (o7 t (.pointer (σ ⟨g,i*k+j,ν⟩)) u) w K:=by
 have s:=(x6.1 q).1;have N:=jS h.2;have B:(i+1)*k<=L.length*k:=V4 _ s;rw[T7,Nat.one_mul]at B;have O:(f a).length=k:=h.2 a (x7 q);have x:(f a').length=k:=by grind
 have Q:(L.flatMap f).set (i*k+j) u=(L.set i a').flatMap f:=by
  rw[<-xJ h.2 x s];refine Y2 λp=>?_;rw[qv _ _ _ Ω,X6,x];by_cases ae:i*k<=p/\p<i*k+k
  .rw[m3 ae,ah,X6];by_cases C:i*k+j=p
   .grind
   .rw[m5 C,m5 Ω];obtain⟨y,E⟩:∃y,(f a)[p-i*k]?=σ y:=⟨_,v8 Ω⟩;have:=qS h.2 q E
    grind
  grind
 obtain⟨⟨R,⟨rfl,S⟩|⟨cap,cs,rfl,F,T,G,U,W⟩⟩,X⟩:=h
 .omega
 .have Y:L.length*k<=cs.length:=by grind
  refine bs hi hu h1 F Ω λI H V J=>A I (H.Y λr _ he=>⟨_,_,_,rfl,he.symm⟩) V ⟨⟨?_,.inr ⟨cap,_,Ξ,J,by grind,G,by grind,?_⟩⟩,λb Z=>?_⟩
  all_goals grind [List.take_set]
theorem jT{t M:o4}{b:Nat}{x:x4}{a:α}{K:x4->x5->Prop}(y:P.underlying t=σ (.slice e))(hi:aU P e k b z)(F:z.cells.size=k)(h:bn f k e w g v L)(J:cj w k x 1 (f a))(h1:∀u∈f a,u.oneCell'=s2)(G:(L.length+1)*b<=140737488355328)(O:L.length+1<=9223372036854775807)(H:∀j q I,bn f k e I q j (L++[a])->(∀r,hx j r->hx v r\/w.heap.size<=r)->ai (λr=>hx v r) w I->K j I):aL P (c9 #[t,t] M #[v,x]) w K:=by
 have Q:(f a).length=k:=by have:=J.1;omega
 have A:∀j q I,b7 I q e k j (L.length+1) (L.flatMap f++f a)->bn f k e I q j (L++[a]):=λj q I hm=>⟨by grind,λb G=>by
  rcases j9.1 G with be|be
  .exact h.2 b be
  grind⟩
 rcases h.1.2 with⟨ac,N⟩|⟨cap,cs,ac,R,_⟩
 .have hm:b7 w w.heap.size e k v L.length (L.flatMap f):=⟨h.1.1,.inl ⟨ac,N⟩⟩;subst ac;refine pr y y hi F hm J h1 Ω (by grind [maxLen]) λj q I B s E=>H j q I (A _ _ _ s) (λr C=>.inr ?_) (E.Y Ω);have:=((A _ _ _ s).lc C).1;omega
 .refine pr y y hi F h.1 J h1 Ω (by grind [maxLen]) λj q I B s E=>H j q I (A _ _ _ s) (λr C=>?_) (E.Y λr C h=>⟨_,_,_,ac,h.symm⟩);have:=((A _ _ _ s).lc C).1;rcases B with B|B
  .exact .inl ⟨_,_,_,ac,by show g=r;omega⟩
  omega
theorem Nu{t q:o4}{b:Nat}{x:x4}{a:α}{K:x4->x5->Prop}(s:P.underlying t=σ (.slice e))(hi:aU P e k b z)(y:z.cells.size=k)(h:bn f k e w g v L)(J:cj w k x 1 (f a))(h1:∀a,∀u∈f a,u.oneCell'=s2)(A:(L.length+1)*b<=140737488355328)(B:L.length+1<=9223372036854775807)(C:∀j E I,bn f k e I E j (L++[a])->(∀r,hx j r->hx v r\/w.heap.size<=r)->ai (λr=>hx v r) w I->K j I):aL P (c9 #[t,t] q #[v,x]) w K:=jT s hi y h J (h1 a) A B C
theorem jr{t:o4}{b:Nat}{a:α}{x:x4}{K:x4->x5->Prop}(h:P.underlying t=σ (.slice e))(hi:aU P e k b z)(y:k<=100000)(J:x.cells=(f a).toArray)(A:(f a).length=k)(j:∀v g I,g=w.heap.size->Ext w I->bn f k e I g v [a]->K v I):aL P (Y3 t 1 #[(0,x)]) w K:=
 k5 h hi Ω (cs:=x.cells) (BI Ξ (by grind)) λg I q r s=>by
  have s:ak I g e (f a):=by grind
  exact j _ g I q r ⟨by simpa using(by grind [b7.full,maxLen]),by grind⟩
end
end Go.Vc
namespace Go.Proofs.YtlcdcbgoaljiiaaGreatDoor
open Go Go.Vc Go.RowKit Go.Proofs Go.Proofs.Tryz
set_option maxRecDepth 100000
theorem sh{α:Type}:∀{l:List α}{j:Nat}{x:α},l[j]?=σ x->(x::l.eraseIdx j).Perm l
 |[],j,x,h=>by simp at h
 |a::l,0,x,h=>by simp at h;subst h;exact S0.refl _
 |a::l,j+1,x,h=>by
  simp at h;rw[List.eraseIdx_cons_succ];exact(S0.swap a x _).F ((sh h).cons a)
theorem uz{α:Type}{l:List α}(h:j<l.length):(l.eraseIdx j).length+1=l.length:=by
 rw[List.length_eraseIdx,m3 h];omega
def lg(w:x5)(a:Nat):Nat:=match w.heap[a]? with
 |some (.mapIter (σ m) _ seen _)=>(match w.heap[m]? with
  |some (.map e _)=>(leftOf e seen).size
  |_=>0)
 |_=>0
theorem oz{a m:Nat}{d left:List (x4×x4)}{e:Option (x4×x4)}(h:io w a m d left e):lg w a=left.length:=by
 obtain⟨j,q,seen,gw,h1,_,_,f,_,rfl,_⟩:=h;unfold lg;rw[f];simp only;rw[h1];simp
theorem Nv{w0:x5}{a m:Nat}{d d0 left:List (x4×x4)}{e:Option (x4×x4)}(h:io w a m d left e)(hm:db w0 m d0)(h1:Ext w0 w)(j:Ext w0 I)(hi:fj w I):io I a m d left e:=by
 obtain⟨q,c,s,gw,r,x,y,z,A⟩:=h;obtain⟨B,C,f1,_⟩:=hm;have g1:=h1.a8 m _ f1 rfl;have f:=j.a8 m _ f1 rfl;rw[r]at g1;rw[<-g1]at f;exact⟨q,c,s,gw,f,x,y,hi a _ z rfl,A⟩
abbrev pG(w:x5)(g:Nat)(v:x4)(L:List (Λ)):Prop:=bn (ints .i8) 6 cN w g v L
theorem De{k:o8}:∀u∈ints k l,u.oneCell'=s2:=λu hu=>by
 obtain⟨x,_,rfl⟩:=l9.1 hu;rfl
theorem keysIter{m:Nat}{d:List (x4×x4)}{e:List (Λ)}{w0:x5}(Q:ak w0 dw kc [.map (σ m)])(hm:db w0 m d)(R:d.map (·.1)=e.map ez)(S:∀a∈e,a.length=6):
  qh x8 s2 nx [Γ dw] ([]:List (Λ)) (λh=>h.Perm e) (λh vs be _=>∃a∈e,h.length<e.length/\vs=[ez a]/\be=h++[a]) (λw=>Ext w0 w):=by
 refine⟨nx.enters,λl az aE w r _ V J W=>?_⟩;refine rN func298 ?_;rw[aF Ψ ((Q.W J).cell rfl)];refine aL.cQ (uu kc.u (hm.W J) λB U X s aG Y Z=>?_);refine⟨λab=>∃h f left C,az h ab/\Ext w0 ab/\w.heap.size<=ab.heap.size/\io ab B m d left C/\left.map (·.1)=f.map ez/\(h++f).Perm e,λab=>lg ab B,
  ⟨[],e,d,ν,r _ _ _ s Z.b W,J.F s,s.size,Y,R,S0.refl _⟩,?_⟩
 rintro ab ⟨h,f,left,C,E,aa,aH,G,x,q⟩;have ac:left.length=f.length:=by have:=congrArg List.length x;simpa using this
 refine uv G (λh=>by cases h) (λad=>?_) (λj p aI ae H af I=>?_)
 .rw[gd (v:=.bool sp) rfl,bb];subst ad;have:f=[]:=b8 (by rw[<-ac];rfl);subst this;rw[T5]at q;exact .inl ⟨h,q,E⟩
 .rw[gd (v:=.bool s2) rfl,bT];refine uw I ?_;obtain⟨a,y,ag⟩:∃a,f[j]?=σ a/\p.1=ez a:=by
   have h1:(left.map (·.1))[j]?=σ p.1:=by rw[u4,ae];rfl
   rw[x,u4]at h1;obtain⟨a,K,ah⟩:=Z9.1 h1;exact⟨a,K,ah.symm⟩
  have L:=q.mem_iff.1 (j9.2 (.inr (x7 y)));have M:=S a L;rw[gd (v:=p.1) rfl,ag];refine aL.cQ (bF cN.i λaJ aK aM ai aj al=>?_);refine aL.cQ (sb M rfl aj λam an aN ao ap=>?_);rw[pF M ao.range];have z:=ai.put an Ω;have N:=al.F ap;have O:=(aa.F H).F z;have aq:=r _ _ _ H (by rw[<-X];exact af) E;have au:=r _ _ _ z N.b aq;have av:=I.W z N.kv;have aw:h.length<e.length:=by
   have h1:=q.length_eq;have K:=(x6.1 y).1;rw[j6]at h1;omega
  refine⟨rfl,(V h (h++[a]) _ am O ⟨a,L,aw,rfl,rfl⟩ au).Y ?_⟩;rintro _ ax (⟨rfl,P,ay,aA⟩|⟨rfl,aB⟩)
  .simp only[bR,Y7,bb];have A:=Nv av hm O P (aA rfl).kv;have aC:w.heap.size<=ax.heap.size:=by
    obtain⟨_,_,_,_,_,_,_,aD,_⟩:=A;have:=(Y1.1 aD).1;omega
   refine⟨⟨h++[a],f.eraseIdx j,left.eraseIdx j,σ p,ay,P,aC,A,?_,?_⟩,?_⟩
   .rw[<-mI,x,mI]
   .refine S0.F ?_ q;rw[T1];exact S0.append_left h (sh y)
   .rw[oz A,oz G];have:=uz (x6.1 ae).1;omega
  .simp only[bR,X5,bT];exact .inr ⟨h,aB⟩
theorem Nw{m:Nat}:aq x8 KY [.map (σ m)] w λr I=>Ext w I/\∃g,r= .func (.func nx) #[] #[Γ g]/\w.heap.size<=g/\ak I g kc [.map (σ m)]:=by
 refine aE func262 ?_;refine br λg U f a e=>?_;rw[lM];exact⟨a,g,rfl,Ω,e⟩
theorem Nx{m:Nat}{d:List (x4×x4)}{s:List (Λ)}(Y:ak w dw kc [.map (σ m)])(hm:db w m d)(Z:d.map (·.1)=s.map ez)(G:∀j∈s,j.length=6)(aD:s.length<=1000000):
  aq x8 Ll [.slice ν 0 0,.func (.func nx) #[] #[Γ dw]] w λv I=>Ext w I/\∃g L,(∀r,hx v r->w.heap.size<=r)/\L.Perm s/\pG I g v L:=by
 refine jh func311 ?_;refine br λgs U aE H x=>?_;have x:=x;have aG:=x.lt;refine ky.old ⟨List (Λ),s2,_,_,_,_,_,_,λh I=>ai (λr=>w.heap.size<=r) w I/\∃v g,ak I gs k2 [v]/\(∀r,hx v r->w.heap.size<=r/\r≠gs)/\pG I g v h,λ_ _ _=>False,rfl,keysIter Y hm Z G,?_,λ_ _ J h=>h.F J,
  λ_ _ _ J h=>⟨h.1.F (J.aa _),by obtain⟨v,g,h1,ad,ae⟩:=h.2;exact⟨v,g,h1.W J,ad,ae.W J⟩⟩,λ_ _ _ _ _ h=>h,H,⟨H.aa _,_,0,x,λr h=>(gC h).elim,bn.nil _ _ _ _ _⟩,?_,?_,λ_ _ h=>h.elim,λ_ _ _ h=>h.elim⟩
 .rintro h _ be I ⟨j,_,_,rfl,_⟩;rfl
 .rintro a h be ab af ⟨j,ag,aH,ah,rfl⟩ ⟨K,v,g,A,dy,ac⟩;cases ah;have B:=G j ag;have aI:h.length<=1000000:=Ω
  refine aL.cQ (bF cN.i λaJ aK aM aj M al=>?_);refine aL.cQ (sb B rfl M λaN am aO an ao=>?_);intro aP N _ ap;have aQ:=M.lt;have au:=aj.put am Ω;have q:=au.F N;rw[aF Ψ ((A.W q).cell rfl),pF B (an.W N).range];refine aL.cQ (jr (f:=ints .i8) (a:=j) k2.u cN.i Ω (by simp[ez,x4.cells]) (by simp[B]) λa ga aR aS y av aw=>?_);have O:=av.sl;rw[T0,List.flatMap_nil,T5]at O;refine aL.cQ (Nu k2.u cN.i rfl ((ac.W q).W y) O (λa=>De) Ω Ω λP ax Q C ay z az=>?_);have aT:=K.size;have aU:=q.size;have aV:=y.size;have aW:=A.lt;have R:∀r,hx P r->w.heap.size<=r/\r≠gs:=λr e=>by
   rcases ay r e with h|h
   .exact dy r h
   .omega
  have E:ak Q gs k2 [v]:=((A.W q).W y).aa z (λh=>(dy gs h).2 rfl);refine aL.cQ (bs k2.i (by obtain⟨_,_,_,_,_,rfl,_⟩:=C.sl;rfl) (by obtain⟨_,_,_,_,_,rfl,_⟩:=C.sl;rfl) E Ξ λS V aX aA aB=>?_);have W:ai (λr=>w.heap.size<=r) ab S:=(((q.F y).aa _).F (z.Y λr _ h=>(dy r h).1)).F (V.Y λr _ h=>by show w.heap.size<=r;omega);refine⟨af.then W (λr e h=>by have h:=h;omega),⟨K.F W,P,ax,aA,R,C.aa V λr e h=>(R r e).2 h⟩,λ_=>?_⟩;exact((((al.kv.F ao.kv).F ap).F aw.kv).F az.kv).F aB.kv
 .rintro h Q aC ⟨z,v,g,E,dy,ac⟩;rw[aF Ψ (E.cell rfl)];intro S X _;exact⟨(z.W λr e h=>by have:w.heap.size<=r:=h;omega).F X,g,h,λr e=>(dy r e).1,aC,ac.W X⟩
theorem Ny{m:Nat}{d:List (x4×x4)}{a:List (Λ)}(e:ak w dw kc [.map (σ m)])(hm:db w m d)(f:d.map (·.1)=a.map ez)(j:∀q∈a,q.length=6)(s:a.length<=1000000):
  aq x8 Lf [.func (.func nx) #[] #[Γ dw]] w λv I=>Ext w I/\∃g L,(∀r,hx v r->w.heap.size<=r)/\L.Perm a/\pG I g v L:=by
 refine aE func296 ?_;exact(Nx e hm f j s).Y λ_ _ _ h=>h
def ip:Λ->Int
 |[]=>0
 |x::l=>x*32 ^ l.length+ip l
theorem xM(n:Nat):(0:Int)<32 ^ n:=Int.pow_pos Ω
theorem uA:∀(l:Λ),(∀x∈l,0<=x/\x<32)->0<=ip l/\ip l<32 ^ l.length
 |[],_=>by simp[ip]
 |x::l,h=>by
  have f:=uA l λy a=>h y (.tail _ a);have J:=h x (.head _);have ae:=xM l.length;simp only[ip,W0];have e:(32:Int) ^ (l.length+1)=32*32 ^ l.length:=by rw[Int.pow_succ,Int.mul_comm]
  have h1:x*32 ^ l.length<=31*32 ^ l.length:=Int.mul_le_mul_of_nonneg_right Ω Ω;have j:0<=x*32 ^ l.length:=Int.mul_nonneg J.1 Ω;rw[e];omega
def kj:Λ->Λ->Int
 |x::a,y::b=>if x<y then-1 else if y<x then 1 else kj a b
 |_,_=>0
theorem Df:∀(a b:Λ),a.length=b.length->(∀x∈a,0<=x/\x<32)->(∀x∈b,0<=x/\x<32)->(kj a b<0↔ip a<ip b)/\(ip a=ip b->a=b)
 |[],[],_,_,_=>by simp[kj]
 |[],_::_,h,_,_=>by simp at h
 |_::_,[],h,_,_=>by simp at h
 |x::a,y::b,h,w,A=>by
  have j:a.length=b.length:=by simpa using h
  have q:∀x∈a,0<=x/\x<32:=λz e=>w z (.tail _ e);have r:∀x∈b,0<=x/\x<32:=λz e=>A z (.tail _ e);have s:=Df a b j q r;have B:=uA a q;have E:=uA b r;have ae:=xM b.length;simp only[kj,ip];rw[j]at B ⊢;have step:∀u v:Int,u<v->u*32 ^ b.length+32 ^ b.length<=v*32 ^ b.length:=λu v F=>by
   have:=Int.mul_le_mul_of_nonneg_right (show u+1<=v by omega) (show(0:Int)<=32 ^ b.length by omega);rw[Int.add_mul,Int.one_mul]at this;exact this
  by_cases h1:x<y
  .rw[m3 h1];have:=step x y h1;exact⟨⟨λ_=>Ω,λ_=>Ω⟩,λh=>Ω⟩
  .rw[m5 h1];by_cases f:y<x
   .rw[m3 f];have:=step y x f;exact⟨⟨λh=>Ω,λh=>Ω⟩,λh=>Ω⟩
   .rw[m5 f];have C:x=y:=Ω
    subst C;exact⟨s.1.F ⟨λh=>Ω,λh=>Ω⟩,λh=>by rw[s.2 Ω]⟩
theorem xN:∀{a b:Λ}{i:Nat},(∀(j:Nat)(x y:Int),j<i->a[j]?=σ x->b[j]?=σ y->x=y)->i<=a.length->i<=b.length->kj a b=kj (a.drop i) (b.drop i)
 |_,_,0,_,_,_=>Ξ
 |[],_,i+1,_,h,_=>by simp at h
 |_::_,[],i+1,_,_,h=>by simp at h
 |x::a,y::b,i+1,he,h1,e=>by
  have f:=he 0 x y Ω rfl rfl;subst f;simp only[kj,Int.lt_irrefl,if_false,List.drop_succ_cons];exact xN (λj u v q hu ac=>he (j+1) u v Ω hu ac) (by simpa using h1) (by simpa using e)
theorem Dg{x:Int}:aq x8 Lk [.int .i8 x] w λv I=>v= .bool sp/\Ext w I:=by
 refine aE func310 ?_;simp only[bO];exact⟨Ξ,Ext.refl _⟩
theorem Nz{x:Int}:aq x8 Le [.int .i8 x,.int .i8 y] w λv I=>v=Δ (if x<y then-1 else if y<x then 1 else 0)/\Ext w I:=by
 refine aE func295 ?_;refine Dg.Y ?_;rintro _ U _ ⟨rfl,a⟩;refine Dg.Y ?_;rintro _ ab _ ⟨rfl,e⟩;simp only[bb,aW,bW,ao];exact⟨λh=>⟨by rw[m3 h],a.F e⟩,λh=>⟨λf=>⟨by rw[m5 h,m3 f],a.F e⟩,λf=>⟨by rw[m5 h,m5 f],a.F e⟩⟩⟩
theorem NA{bx bv:x4}{b:Λ}(r:aQ .i8 w bx a)(z:aQ .i8 w bv b)(V:a.length=b.length):aq x8 KW [bx,bv] w λv I=>v=Δ (kj a b)/\Ext w I:=by
 refine aE func260 ?_;have W:=r.le;rw[ba mo.u r];refine cp.range a.length (λi _ U=>Ext w U/\∀(j:Nat)(x y:Int),j<i->a[j]?=σ x->b[j]?=σ y->x=y) Ω ⟨Ext.refl _,λj x y K=>Ω⟩ ?_ ?_
 .rintro i _ U L hi ⟨e,s⟩ M;simp only[aW,ao];refine⟨λ_=>?_,λh=>Ω⟩;obtain⟨x,J⟩:=aJ (l:=a) hi;obtain⟨y,A⟩:=aJ (l:=b) (i:=i) Ω;rw[bp mo.u gv.i Ψ (r.W e) J,ba mo.u (z.W e)];simp only[cU,ao];refine⟨λh=>Ω,λ_=>?_⟩;rw[bp mo.u gv.i Ψ (z.W e) A];refine Nz.Y ?_;rintro _ ab _ ⟨rfl,E⟩;have f:kj a b=kj (a.drop i) (b.drop i):=xN s Ω Ω;have N:a.drop i=x::a.drop (i+1):=by rw[X2 hi,(x6.1 J).2]
  have O:b.drop i=y::b.drop (i+1):=by rw[X2 Ω,(x6.1 A).2]
  rw[N,O]at f;simp only[kj]at f;simp only[bO,ao,aT];refine⟨λG=>⟨?_,e.F E⟩,λP=>M _ _ ⟨e.F E,λj Q R K B C=>?_⟩⟩
  .rw[f];by_cases h1:x<y
   .rw[m3 h1,m3 h1]
   .by_cases q:y<x
    .rw[m5 h1,m3 q,m5 h1,m3 q]
    .rw[m5 h1,m5 q]at G;exact m6 rfl G
  .by_cases S:j=i
   .subst S;rw[J]at B;rw[A]at C;cases B;cases C;have H:=X1.1 P;by_cases h1:x<y
    .rw[m3 h1]at H;omega
    .by_cases q:y<x
     .rw[m5 h1,m3 q]at H;omega
     .omega
   .exact s j Q R Ω B C
 .rintro _ U L ⟨e,s⟩;simp only[aW,show decide ((a.length:Int)<(a.length:Int))=sp from rc Ω,bb];rw[ba mo.u (r.W e),ba mo.u (z.W e)];simp only[aW,ao];refine⟨λh=>Ω,λ_=>⟨?_,e⟩⟩;have f:kj a b=kj (a.drop a.length) (b.drop a.length):=xN s Ω Ω;rw[f,List.drop_length];cases b.drop a.length<;>rfl
theorem NB{b:Λ}(q:nK a)(r:nK b):aq x8 Bn [ez a,ez b] w λv I=>Ext w I/\v=Δ (kj a b):=by
 have C:∀{c:Λ},nK c->(ints .i8 c).length=6:=λh=>by simp[h.1]
 refine aE func259 ?_;refine br λg1 U E z e=>?_;refine br λG ab H s f=>?_;rw[C3]at e f;intro x j _ _;have e:=(e.W s).W j;have f:=f.W j;rw[tP cN.u gv.i (l:=0) (h:=6) (m:=6) ke k4 fy Ω Ω Ω,tP cN.u gv.i (l:=0) (h:=6) (m:=6) ke k4 fy Ω Ω Ω];rw[m5 Ω,m5 Ω];have ls:∀{g:Nat}{c:Λ},nK c->ak x g cN (ints .i8 c)->aQ .i8 x (.slice (σ ⟨g,0+0*1,ν⟩) (6-0) (6-0)) c:=λ{g c}y A=>by
  unfold aQ;refine⟨Ξ,g,0,_,6,by rw[y.1],by rw[y.1];omega,by simp[maxLen],λ_=>rfl,A.range⟩
 refine(NA (ls q e) (ls r f) (by rw[q.1,r.1])).Y ?_;rintro _ J _ ⟨rfl,B⟩;exact⟨((z.F s).F j).F B,rfl⟩
end Go.Proofs.YtlcdcbgoaljiiaaGreatDoor
namespace Go.Vc
open Go Go.RowKit Go.Shelf Go.Proofs Go.Sort
theorem grown_of(J:Ext w I)(a:cS w I):∃q os,I=grow (w.drewN q) os:=by
 refine⟨I.drawn-w.drawn,I.heap.extract w.heap.size I.heap.size,?_⟩;have hk:∀k,k<w.heap.size->I.heap[k]?=w.heap[k]?:=λk hk=>by
  have aC:=Array.getElem?_eq_getElem hk;rw[aC];cases V:fW w.heap[k]with
  |true=>exact J.a8 k _ aC V
  |false=>exact a.a8 k _ aC V
 have ax:I.heap=w.heap++I.heap.extract w.heap.size I.heap.size:=by
  apply Array.ext_getElem?
  grind
 have h1:=a.os;have e:=a.tape.1;have f:=a.output;have h:w.drawn+(I.drawn-w.drawn)=I.drawn:=by have:=a.tape.2;omega
 cases I
 grind [Sort.grow,x5.drewN]
section
variable{α:Type}[Inhabited α]
theorem Dh(enc:α->List x4)(k:Nat)(hk:∀x,(enc x).length=k)(d:Array α):(flatK enc k d).toList=d.toList.flatMap enc:=by
 apply Y2;intro t;by_cases h:t<d.size*k
 .have e:0<k:=by
   grind
  have f:=(Nat.div_lt_iff_lt_mul e).2 h;have j:=Nat.mod_lt t e;have q:(flatK enc k d).toList[t]?=σ ((enc d[t / k]!)[t % k]!):=by
   rw[Array.getElem?_toList,Array.getElem?_eq_getElem (by simpa using h)];have:=get_flatK enc k d t h
   grind
  have r:d.toList[t / k]?=σ d[t / k]!:=by
   grind
  grind [qS,Nat.mul_comm,Nat.div_add_mod]
 .rw[W7 (by simpa using h),W7];rw[jS λa _=>hk a]
  grind
theorem Di(enc:α->List x4)(k:Nat)(hk:∀x,(enc x).length=k){g m:Nat}{d:Array α}{os:Array Obj}(a:ak w g e cs)(q:d.size*k<=cs.length):
  ak (sortWorldK enc k w g 0 m d os) g e (d.toList.flatMap enc++cs.drop (d.size*k))/\∀r,r<w.heap.size->r≠g->(sortWorldK enc k w g 0 m d os).heap[r]?=w.heap[r]?:=by
 have f:=a.lt;have h:∀r,r<w.heap.size->(sortWorldK enc k w g 0 m d os).heap[r]?=(w.heap.modify g (onCells (putCells id 0 (flatK enc k d))))[r]?:=λr j=>by
  show((w.heap.modify g (onCells (putCells id 0 (flatK enc k d))))++os)[r]?=_
  grind
 refine⟨?_,λr j s=>?_⟩
 .unfold ak at a ⊢;rw[h g f,Array.getElem?_modify,m3 rfl,a];show σ (Obj.cells (putCells id 0 (flatK enc k d) cs.toArray) e (0,0))=_;refine congrArg σ (congrArg (λc=>Obj.cells c e (0,0)) ?_)
  grind [Array.size,jS,Sort.putCells,Dh]
 grind
end
theorem Dj{P:X8}{E:Ren}(H:SlLaysF0.n6 P E){α:Type}{f:α->List x4}{k:Nat}{G:α->Prop}{num:α->Int}{A:α->α->Int}{B:S8}{cap:Array x4}(ah:∀w,(isAgg (E.t 24)).run P w= .ok s2 w)(aj:∀w,(Go.sizeOf (E.t 24)).run P w= .ok k w)(h1:∀a,G a->∀u∈f a,u.oneCell'=s2)(hk:∀a,G a->(f a).length=k)(aJ:∀a b,G a->G b->(A a b<0↔num a<num b))(R:Enters P B){w:x5}{g:Nat}{v:x4}{L:List α}(h:bn f k e w g v L)(K:∀a∈L,G a)(al:L.length<65536)(am:∀N a b,ai (λr=>r=g) w N->G a->G b->aq P B ([.agg (f a).toArray,.agg (f b).toArray]++cap.toList) N λu an=>Ext N an/\u=Δ (A a b)):
  aq P (E.f 6) [v,.func (.func B) #[] cap] w λ_ I=>ai (λr=>hx v r) w I/\∃M,M.Perm L/\(∀(p q:Nat)(x y:α),p<q->M[p]?=σ x->M[q]?=σ y->num x<=num y)/\bn f k e I g v M:=by
 have S:=λargs w=>H.f6.enters rfl args w;obtain⟨⟨aK,ac⟩,aL⟩:=id h;have T:∀p c,v= .slice p 0 c->L=[]->aq P (E.f 6) [v,.func (.func B) #[] cap] w λ_ I=>ai (λr=>hx v r) w I/\∃M,M.Perm L/\(∀(p q:Nat)(x y:α),p<q->M[p]?=σ x->M[q]?=σ y->num x<=num y)/\bn f k e I g v M:=λp c ae al=>by
  refine .code S ?_;rw[ae];refine(AnyF.slices_SortFunc_none H p c _ w).Y ?_;rintro aM I ⟨rfl,rfl⟩;refine⟨_,rfl,cS.refl _,ai.refl _ _,L,.refl _,by grind,by grind⟩
 rcases ac with⟨rfl,ao⟩|⟨c,cs,rfl,C,aN,hm,aO,aP⟩
 .exact T _ _ rfl (b8 ao)
 cases U:L with
 |nil=>subst U;exact T _ _ rfl rfl
 |cons a0 aQ=>
 rw[<-U];let β:={a:α // G a};have:Inhabited β:=⟨⟨a0,by grind⟩⟩;let enc:β->List x4:=λx=>f x.1;let d:Array β:=(L.attach.map λx=>(⟨x.1,K x.1 x.2⟩:β)).toArray;have aR:d.toList.map Subtype.val=L:=by
  show(L.attach.map λx=>(⟨x.1,K x.1 x.2⟩:β)).map Subtype.val=L;rw[T6];exact List.attach_map_subtype_val L
 have ap:d.size=L.length:=by simp[d]
 have F:∀x:β,(enc x).length=k:=by grind
 have aS:d.toList.flatMap enc=L.flatMap f:=by
  grind [List.flatMap_map]
 have W:d.size*k<=cs.length:=by grind
 have au:HoldsK enc k w g 0 d:=by
  intro j av;rw[size_flatK]at av;have aT:j<cs.length:=Ω
  have aw:(flatK enc k d)[j]! =cs[j]:=by
   have aU:(flatK enc k d).toList[j]?=σ cs[j]:=by
    grind [Dh]
   grind
  refine⟨?_,?_⟩
  .show w.cell? ⟨g,0+j,ν⟩=σ ((flatK enc k d)[j]!);rw[aw];exact C.cell (by grind)
  grind [x5.frozen?,ak]
 have aV:∀x y:β,ltOf (λx y:β=>A x.1 y.1) x y=decide (num x.1<num y.1):=λx y=>by
  unfold ltOf
  grind
 have ax:SWO (ltOf λx y:β=>A x.1 y.1):=
  ⟨by grind,by grind,by grind⟩
 have X:∀m (d2:Array β) os,d2.size=d.size->ai (λr=>r=g) w (sortWorldK enc k w g 0 m d2 os)/\cS w (sortWorldK enc k w g 0 m d2 os):=λm d2 os V=>by
  obtain⟨aW,ay⟩:=Di enc k F C (by rw[V];exact W);have Y:w.heap.size<=(sortWorldK enc k w g 0 m d2 os).heap.size:=by
   show w.heap.size<=((w.heap.modify g _)++os).size;simp
  refine⟨⟨Y,λr o s _ Z=>?_⟩,rfl,⟨rfl,Nat.le_add_right _ _⟩,rfl,Y,λr o s V=>?_⟩
  .rw[ay r (Y1.1 s).1 Z];exact s
  .have Z:r≠g:=λhe=>by subst he;unfold ak at C;rw[C]at s;cases s;cases V
   grind
 have az:CmpLays P B cap enc k (λx y:β=>A x.1 y.1) g 0 d.size w:=λm os aA V x y=>by
  have J:=(am _ x.1 y.1 (X m aA os V).1 x.2 y.2).calls R;have O:([x4.agg (f x.1).toArray,.agg (f y.1).toArray]++cap.toList).toArray= #[.agg (enc x).toArray,.agg (enc y).toArray]++cap:=by
   apply Array.ext';simp[enc]
  rw[O]at J;refine J.Y ?_
  grind [grown_of]
 have aa:=AnyQ.slices_SortFunc H k ah aj enc F (by grind) (λx y:β=>A x.1 y.1) ax B cap g 0 c d w (λargs w=>R args w) az au C.lt Ω;rw[ap]at aa;refine .code S (aa.Y ?_);rintro _ I ⟨rfl,z,n,os,⟨aB,_,ae⟩,aC,rfl⟩;have ab:=aB;obtain⟨aD,aE⟩:=X n z os ab;obtain⟨aF,_⟩:=Di enc k F C (by rw[ab];exact W);have Q:(z.toList.map Subtype.val).Perm L:=by
  grind [Array.extract_size]
 have aG:=Q.length_eq;refine⟨_,rfl,aE,aD.Y λr _ s=>⟨_,_,_,rfl,s.symm⟩,z.toList.map Subtype.val,Q,λp q x y aH J ad=>?_,⟨?_,.inr ⟨c,_,by rw[aG],aF,Ω,hm,?_,?_⟩⟩,by grind⟩
 .rw[u4,Z9]at J ad;obtain⟨aX,af,rfl⟩:=J;obtain⟨aY,ag,rfl⟩:=ad;rw[Array.getElem?_toList]at af ag;have aZ:=(Y1.1 af);have a1:=(Y1.1 ag);have:=aC p q (W3 _) aH (by grind)
  grind
 .rw[jS λa O=>hk a (K a (Q.mem_iff.1 O))]
 .have aI:(z.toList.flatMap enc).length=z.size*k:=by rw[jS λa _=>F a];rfl
  grind [Nat.add_sub_cancel']
 .have aI:(z.toList.flatMap enc).length=z.size*k:=by rw[jS λa _=>F a];rfl
  grind [List.flatMap_map]
end Go.Vc
namespace Go.Proofs
open Go.Shelf
def Tryz.xO:Go.Shelf.Ren:=⟨λ|6=>297|15=>252|14=>312|28=>290|29=>291|20=>327|21=>328|22=>329|23=>330|24=>331|25=>332|26=>333|27=>334|46=>342|47=>304|48=>305|49=>343|50=>344|57=>347|n=>n,λ|22=>358|24=>333|25=>357|3=>3|39=>231|0=>0|53=>379|55=>58|4=>4|46=>373|45=>372|50=>306|5=>5|9=>9|66=>388|70=>392|76=>412|77=>413|n=>n,λ|n=>n⟩
theorem Tryz.NC:Go.Proofs.SlLaysF0.n6 Tryz.prog Tryz.xO:={
 mixed:=Ψ,
 f6:=⟨Tryz.f297.name,Φ,Tryz.func297.F (congrArg σ Ψ)⟩,
 f14:=⟨Tryz.f312.name,Φ,Tryz.func312.F (congrArg σ Ψ)⟩,
 f15:=Tryz.func252.F (congrArg σ Ψ),
 f20:=⟨Tryz.f327.name,Φ,Tryz.func327.F (congrArg σ Ψ)⟩,
 f21:=⟨Tryz.f328.name,Φ,Tryz.func328.F (congrArg σ Ψ)⟩,
 f22:=⟨Tryz.f329.name,Φ,Tryz.func329.F (congrArg σ Ψ)⟩,
 f23:=⟨Tryz.f330.name,Φ,Tryz.func330.F (congrArg σ Ψ)⟩,
 f24:=⟨Tryz.f331.name,Φ,Tryz.func331.F (congrArg σ Ψ)⟩,
 f25:=⟨Tryz.f332.name,Φ,Tryz.func332.F (congrArg σ Ψ)⟩,
 f26:=⟨Tryz.f333.name,Φ,Tryz.func333.F (congrArg σ Ψ)⟩,
 f27:=⟨Tryz.f334.name,Φ,Tryz.func334.F (congrArg σ Ψ)⟩,
 f28:=Tryz.func290.F (congrArg σ Ψ),
 f29:=Tryz.func291.F (congrArg σ Ψ),
 f46:=⟨Tryz.f342.name,Φ,Tryz.func342.F (congrArg σ Ψ)⟩,
 f47:=Tryz.func304.F (congrArg σ Ψ),
 f48:=Tryz.func305.F (congrArg σ Ψ),
 f49:=⟨Tryz.f343.name,Φ,Tryz.func343.F (congrArg σ Ψ)⟩,
 f50:=⟨Tryz.f344.name,Φ,Tryz.func344.F (congrArg σ Ψ)⟩,
 f57:=⟨Tryz.f347.name,Φ,Tryz.func347.F (congrArg σ Ψ)⟩,
 t0:=Tryz.underlying0,
 a0:=Tryz.isAgg0,
 z0:=Tryz.sizeOf0,
 v0:=Tryz.zeroValue0,
 t3:=Tryz.underlying3,
 a3:=Tryz.isAgg3,
 z3:=Tryz.sizeOf3,
 v3:=Tryz.zeroValue3,
 t4:=Tryz.underlying4,
 a4:=Tryz.isAgg4,
 z4:=Tryz.sizeOf4,
 v4:=Tryz.zeroValue4,
 t5:=Tryz.underlying5,
 a5:=Tryz.isAgg5,
 z5:=Tryz.sizeOf5,
 v5:=Tryz.zeroValue5,
 t9:=Tryz.underlying9,
 a9:=Tryz.isAgg9,
 z9:=Tryz.sizeOf9,
 v9:=Tryz.zeroValue9,
 t22:=Tryz.underlying358,
 a22:=Tryz.isAgg358,
 z22:=Tryz.sizeOf358,
 v22:=Tryz.zeroValue358,
 t25:=Tryz.underlying357,
 a25:=Tryz.isAgg357,
 z25:=Tryz.sizeOf357,
 v25:=Tryz.zeroValue357,
 t39:=Tryz.underlying231,
 a39:=Tryz.isAgg231,
 z39:=Tryz.sizeOf231,
 v39:=Tryz.zeroValue231,
 t45:=Tryz.underlying372,
 a45:=Tryz.isAgg372,
 z45:=Tryz.sizeOf372,
 v45:=Tryz.zeroValue372,
 t46:=Tryz.underlying373,
 a46:=Tryz.isAgg373,
 z46:=Tryz.sizeOf373,
 v46:=Tryz.zeroValue373,
 t50:=Tryz.underlying306,
 a50:=Tryz.isAgg306,
 z50:=Tryz.sizeOf306,
 v50:=Tryz.zeroValue306,
 t53:=Tryz.underlying379,
 a53:=Tryz.isAgg379,
 z53:=Tryz.sizeOf379,
 v53:=Tryz.zeroValue379,
 t55:=Tryz.underlying58,
 a55:=Tryz.isAgg58,
 z55:=Tryz.sizeOf58,
 v55:=Tryz.zeroValue58,
 t66:=Tryz.underlying388,
 a66:=Tryz.isAgg388,
 z66:=Tryz.sizeOf388,
 v66:=Tryz.zeroValue388,
 t70:=Tryz.underlying392,
 a70:=Tryz.isAgg392,
 z70:=Tryz.sizeOf392,
 v70:=Tryz.zeroValue392,
 t76:=Tryz.underlying412,
 a76:=Tryz.isAgg412,
 z76:=Tryz.sizeOf412,
 v76:=Tryz.zeroValue412,
 t77:=Tryz.underlying413,
 a77:=Tryz.isAgg413,
 z77:=Tryz.sizeOf413,
 v77:=Tryz.zeroValue413}
def Tryz.xP:Go.Shelf.Ren:=⟨λ|6=>191|15=>252|14=>251|28=>290|29=>291|20=>282|21=>283|22=>284|23=>285|24=>286|25=>287|26=>288|27=>289|46=>303|47=>304|48=>305|49=>306|50=>307|57=>326|n=>n,λ|22=>274|24=>279|25=>289|3=>3|39=>231|0=>0|53=>379|55=>58|4=>4|46=>373|45=>372|50=>306|5=>5|9=>9|66=>388|70=>392|76=>412|77=>413|n=>n,λ|n=>n⟩
theorem Tryz.ND:Go.Proofs.SlLaysF0.n6 Tryz.prog Tryz.xP:={
 mixed:=Ψ,
 f6:=⟨Tryz.f191.name,Φ,Tryz.func191.F (congrArg σ Ψ)⟩,
 f14:=⟨Tryz.f251.name,Φ,Tryz.func251.F (congrArg σ Ψ)⟩,
 f15:=Tryz.func252.F (congrArg σ Ψ),
 f20:=⟨Tryz.f282.name,Φ,Tryz.func282.F (congrArg σ Ψ)⟩,
 f21:=⟨Tryz.f283.name,Φ,Tryz.func283.F (congrArg σ Ψ)⟩,
 f22:=⟨Tryz.f284.name,Φ,Tryz.func284.F (congrArg σ Ψ)⟩,
 f23:=⟨Tryz.f285.name,Φ,Tryz.func285.F (congrArg σ Ψ)⟩,
 f24:=⟨Tryz.f286.name,Φ,Tryz.func286.F (congrArg σ Ψ)⟩,
 f25:=⟨Tryz.f287.name,Φ,Tryz.func287.F (congrArg σ Ψ)⟩,
 f26:=⟨Tryz.f288.name,Φ,Tryz.func288.F (congrArg σ Ψ)⟩,
 f27:=⟨Tryz.f289.name,Φ,Tryz.func289.F (congrArg σ Ψ)⟩,
 f28:=Tryz.func290.F (congrArg σ Ψ),
 f29:=Tryz.func291.F (congrArg σ Ψ),
 f46:=⟨Tryz.f303.name,Φ,Tryz.func303.F (congrArg σ Ψ)⟩,
 f47:=Tryz.func304.F (congrArg σ Ψ),
 f48:=Tryz.func305.F (congrArg σ Ψ),
 f49:=⟨Tryz.f306.name,Φ,Tryz.func306.F (congrArg σ Ψ)⟩,
 f50:=⟨Tryz.f307.name,Φ,Tryz.func307.F (congrArg σ Ψ)⟩,
 f57:=⟨Tryz.f326.name,Φ,Tryz.func326.F (congrArg σ Ψ)⟩,
 t0:=Tryz.underlying0,
 a0:=Tryz.isAgg0,
 z0:=Tryz.sizeOf0,
 v0:=Tryz.zeroValue0,
 t3:=Tryz.underlying3,
 a3:=Tryz.isAgg3,
 z3:=Tryz.sizeOf3,
 v3:=Tryz.zeroValue3,
 t4:=Tryz.underlying4,
 a4:=Tryz.isAgg4,
 z4:=Tryz.sizeOf4,
 v4:=Tryz.zeroValue4,
 t5:=Tryz.underlying5,
 a5:=Tryz.isAgg5,
 z5:=Tryz.sizeOf5,
 v5:=Tryz.zeroValue5,
 t9:=Tryz.underlying9,
 a9:=Tryz.isAgg9,
 z9:=Tryz.sizeOf9,
 v9:=Tryz.zeroValue9,
 t22:=Tryz.underlying274,
 a22:=Tryz.isAgg274,
 z22:=Tryz.sizeOf274,
 v22:=Tryz.zeroValue274,
 t25:=Tryz.underlying289,
 a25:=Tryz.isAgg289,
 z25:=Tryz.sizeOf289,
 v25:=Tryz.zeroValue289,
 t39:=Tryz.underlying231,
 a39:=Tryz.isAgg231,
 z39:=Tryz.sizeOf231,
 v39:=Tryz.zeroValue231,
 t45:=Tryz.underlying372,
 a45:=Tryz.isAgg372,
 z45:=Tryz.sizeOf372,
 v45:=Tryz.zeroValue372,
 t46:=Tryz.underlying373,
 a46:=Tryz.isAgg373,
 z46:=Tryz.sizeOf373,
 v46:=Tryz.zeroValue373,
 t50:=Tryz.underlying306,
 a50:=Tryz.isAgg306,
 z50:=Tryz.sizeOf306,
 v50:=Tryz.zeroValue306,
 t53:=Tryz.underlying379,
 a53:=Tryz.isAgg379,
 z53:=Tryz.sizeOf379,
 v53:=Tryz.zeroValue379,
 t55:=Tryz.underlying58,
 a55:=Tryz.isAgg58,
 z55:=Tryz.sizeOf58,
 v55:=Tryz.zeroValue58,
 t66:=Tryz.underlying388,
 a66:=Tryz.isAgg388,
 z66:=Tryz.sizeOf388,
 v66:=Tryz.zeroValue388,
 t70:=Tryz.underlying392,
 a70:=Tryz.isAgg392,
 z70:=Tryz.sizeOf392,
 v70:=Tryz.zeroValue392,
 t76:=Tryz.underlying412,
 a76:=Tryz.isAgg412,
 z76:=Tryz.sizeOf412,
 v76:=Tryz.zeroValue412,
 t77:=Tryz.underlying413,
 a77:=Tryz.isAgg413,
 z77:=Tryz.sizeOf413,
 v77:=Tryz.zeroValue413}
theorem Tryz.NE(w:x5):(isAgg (Tryz.xO.t 24)).run Tryz.prog w= .ok s2 w:=Tryz.isAgg333 w
theorem Tryz.NF(w:x5):(Go.sizeOf (Tryz.xO.t 24)).run Tryz.prog w= .ok 6 w:=Tryz.sizeOf333 w
theorem Tryz.NG:Tryz.prog.funcs[259]?=σ Tryz.f259:=Tryz.func259
theorem Tryz.NH(w:x5):(isAgg (Tryz.xP.t 24)).run Tryz.prog w= .ok s2 w:=Tryz.isAgg279 w
theorem Tryz.NI(w:x5):(Go.sizeOf (Tryz.xP.t 24)).run Tryz.prog w= .ok 2 w:=Tryz.sizeOf279 w
theorem Tryz.NJ:Tryz.prog.funcs[192]?=σ Tryz.f192:=Tryz.func192
end Go.Proofs
namespace Go.Proofs.YtlcdcbgoaljiiaaGreatDoor
open Go Go.Vc Go.RowKit Go.Proofs Go.Proofs.Tryz
set_option maxRecDepth 100000
def uB{α:Type}(f:α->Int)(L:List α)(a i:Nat):Prop:=∀(p q:Nat)(x y:α),a<=p->p<q->q<i->L[p]?=σ x->L[q]?=σ y->f x<=f y
def qT(L:List (Λ)):Prop:=∀a∈L,nK a
theorem qT.perm{L M:List (Λ)}(h:qT L)(ae:M.Perm L):qT M:=λa hk=>h a (ae.mem_iff.1 hk)
theorem NK{g:Nat}{L:List (Λ)}{i:Nat}(e:y=(i:Int))(h:pG w g v L)(hi:L[i]?=σ a):
  ad x8 (n9 k2 v (Δ y)) w (λp=>ad x8 (u5 cN p) w K)=K (ez a):=by
 have f:a.length=6:=by have:=h.2 a (x7 hi);simpa using this
 rw[ct e k2.u cN.i h (x6.1 hi).1,pF f (h.range hi)]
abbrev Dk:x4:=.func (.func Bn) #[] #[]
theorem uC{P:X8}{t:o4}{k:o8}{s:ByteArray}{i:Nat}(a:P.underlying t=σ .string)(hi:i<s.size):
  ad P (Instr.index t (.string s) (.int k (i:Int))) w K=K (.int .u8 (s[i].toNat:Int)):=ad.of λI _=>by
 simp[Instr.index,asIntOf,run_underlying a,hi]
def eG(n:Nat):Nat:=if n=0 then 0 else Nat.log2 n+1
theorem Dl(h:n<256):eG n<=8:=by
 unfold eG;by_cases a:n=0
 .rw[m3 a];omega
 .rw[m5 a];have e:Nat.log2 n<8:=(Nat.log2_lt a).2 Ω;omega
theorem NL{g:Nat}{L:List (Λ)}(h:pG w g v L)(j:qT L)(s:L.length<65536):
  aq x8 Lg [v,Dk] w λ_ I=>ai (λr=>hx v r) w I/\∃M,M.Perm L/\uB ip M 0 M.length/\pG I g v M:=by
 refine(Dj NC NE NF (λa _=>De) (λa e=>by simp[e.1]) (λa b e f=>(Df a b (by rw[e.1,f.1]) e.2 f.2).1) (Enters.of x8 NG rfl Ψ) h j s λC a b _ e f=>NB e f).Y ?_;rintro _ I _ ⟨z,M,ae,hu,hm⟩;exact⟨z,M,ae,λp q x y _ A _ J B=>hu p q x y A J B,hm⟩
end Go.Proofs.YtlcdcbgoaljiiaaGreatDoor
namespace Go.Vc
open Go Go.RowKit
set_option maxRecDepth 100000
theorem Keys.str{P:X8}{k:o4}(hk:P.underlying k=σ .string):Keys P k λv=>∃s,v= .string s:=by
 have key:∀s,MapKept.IsKey .string (.string s):=λs=>trivial;refine⟨λw f v ⟨n,h⟩=>?_,λw x ⟨n,h⟩ q r=>?_,λw v ⟨n,h⟩=>?_⟩
 .subst h;exact MapKept.run_checkKey hk (key n) f 9999
 .subst h;rcases MapKept.findNow_spec (key n) q 0 (λe he=>by obtain⟨m,h⟩:=r e he;rw[h];exact key m)with⟨h1,a⟩|⟨j,e,h1,a,y⟩
  .exact .inl ⟨MapKept.run_findKey hk h1,a⟩
  .exact .inr ⟨j,e,by have:=MapKept.run_findKey (P:=P) (w:=w) hk h1;simpa using this,a,y⟩
 .subst h;exact MapKept.run_keyThatStays (d:=.string) (key n)
section
variable{P:X8}{w:x5}
theorem mK{s:Sem x4}(h:∀K:x4->Prop,ad P s w K=K v):cc P s v w:=by
 have h1:ad P s w (λu=>u=v):=(h λu=>u=v).mpr rfl;obtain⟨u,hu,rfl⟩:=h1;exact hu
variable{k e:o4}{G:x4->Prop}
end
end Go.Vc
namespace Go.Proofs.YtlcdcbgoaljiiaaGreatDoor
open Go Go.Vc Go.RowKit Go.Proofs Go.Proofs.Tryz
set_option maxRecDepth 100000
def iq:Nat->Nat->Λ
 |0,_=>[]
 |n+1,u=>iq n (u / 10)++[48+((u % 10:Nat):Int)]
theorem si:∀(n u:Nat),(iq n u).length=n
 |0,_=>rfl
 |n+1,u=>by rw[iq,j6,si n];rfl
theorem NM(n u:Nat):iq (n+2) u=iq n (u / 100)++[48+((u / 10 % 10:Nat):Int),48+((u % 10:Nat):Int)]:=by
 rw[iq,iq,T1];rw[show u / 10 / 10=u / 100 by omega];rfl
theorem Dm:∀(n u:Nat),10 ^ n<=u->u<10 ^ (n+1)->iq (n+1) u=gA u
 |0,u,h1,a=>by
  rw[py,m3 (by simpa using a)];simp[iq]
 |n+1,u,h1,a=>by
  have e:(10:Nat) ^ (n+1)=10*10 ^ n:=by rw[Nat.pow_succ,Nat.mul_comm]
  have f:(10:Nat) ^ (n+1+1)=10*10 ^ (n+1):=by rw[Nat.pow_succ,Nat.mul_comm]
  have h:1<=10 ^ n:=Nat.one_le_iff_ne_zero.2 Ξ;rw[py,m5 Ω,iq,Dm n (u / 10) Ω Ω]
def gW(a C:Λ)(e u:Nat):Prop:=e<=a.length/\C.length=a.length/\∃t,C.drop e=t/\a=iq e u++t
theorem gW.two{e:Λ}{a u:Nat}(h:gW e C (a+2) u):gW e ((C.set (a+1) (48+((u % 10:Nat):Int))).set a (48+((u / 10 % 10:Nat):Int))) a (u / 100):=by
 obtain⟨h1,f,t,j,q⟩:=h;refine⟨Ω,by simp[f],_,rfl,?_⟩;rw[q,NM,T1];congr 1;rw[List.drop_set,m5 Ω,List.drop_set,m5 Ω,<-j];have r:a<C.length:=Ω
 have s:a+1<C.length:=Ω
 rw[X2 r,X2 s,V7,Nat.add_sub_cancel_left];rfl
theorem gW.one{u:Nat}(h:gW a C 1 u):C.set 0 (48+((u % 10:Nat):Int))=a:=by
 obtain⟨h1,e,t,f,j⟩:=h;rw[j,iq,iq,List.nil_append,<-f];cases C with
 |nil=>simp at e;omega
 |cons c C=>simp
theorem gW.zero{u:Nat}(h:gW a C 0 u):C=a:=by
 obtain⟨h1,j,t,e,f⟩:=h;rw[f,iq,List.nil_append,<-e,List.drop_zero]
def lh:ByteArray:=⟨#[48,48,48,49,48,50,48,51,48,52,48,53,48,54,48,55,48,56,48,57,49,48,49,49,49,50,49,51,49,52,49,53,49,54,49,55,49,56,49,57,50,48,50,49,50,50,50,51,50,52,50,53,50,54,50,55,50,56,50,57,51,48,51,49,51,50,51,51,51,52,51,53,51,54,51,55,51,56,51,57,52,48,52,49,52,50,52,51,52,52,52,53,52,54,52,55,52,56,52,57,53,48,53,49,53,50,53,51,53,52,53,53,53,54,53,55,53,56,53,57,54,48,54,49,54,50,54,51,54,52,54,53,54,54,54,55,54,56,54,57,55,48,55,49,55,50,55,51,55,52,55,53,55,54,55,55,55,56,55,57,56,48,56,49,56,50,56,51,56,52,56,53,56,54,56,55,56,56,56,57,57,48,57,49,57,50,57,51,57,52,57,53,57,54,57,55,57,56,57,57]⟩
theorem Dn:lh.size=200:=by decide+kernel
theorem NN:∀q:Fin 100,lh.data.toList[2*q.val]?=σ (UInt8.ofNat (48+q.val / 10))/\lh.data.toList[2*q.val+1]?=σ (UInt8.ofNat (48+q.val % 10)):=by decide+kernel
theorem xQ{q:Nat}(e:q<100):(∀h,(lh[2*q]'h).toNat=48+q / 10)/\∀h,(lh[2*q+1]'h).toNat=48+q % 10:=by
 obtain⟨h1,f⟩:=NN ⟨q,e⟩;refine⟨λh=>?_,λh=>?_⟩
 .have a:=(x6.1 h1).2;have:lh[2*q]=UInt8.ofNat (48+q / 10):=a;rw[this,UInt8.toNat_ofNat'];omega
 .have a:=(x6.1 f).2;have:lh[2*q+1]=UInt8.ofNat (48+q % 10):=a;rw[this,UInt8.toNat_ofNat'];omega
theorem wrap_u32{x:Int}(h1:0<=x)(a:x<4294967296):o8.u32.wrap x=x:=by
 simp[o8.wrap,o8.bits,o8.signed];omega
def li(w:x5)(g o:Nat)(a C e:Λ):Prop:=ak w g og (ints .u8 (a++C++e))/\a.length=o
theorem xR{g o c i:Nat}{a:o8}(e:y=(i:Int))(hi:i<n):
  ad x8 (n9 cV (.slice (σ ⟨g,o,ν⟩) n c) (.int a y)) w K=K (.pointer (σ ⟨g,o+i,ν⟩)):=by
 subst e;rw[e2 cV.u cT.i hi (λ_=>rfl),U3]
theorem xS{g o i:Nat}{x:Int}{f:Λ}{K:Unit->x5->Prop}(h:li w g o a C f)(hi:i<C.length)(q:∀I,ai (λr=>r=g) w I->li I g o a (C.set i x) f->K () I):aL x8 (o7 cT (.pointer (σ ⟨g,o+i,ν⟩)) (.int .u8 x)) w K:=by
 obtain⟨h,rfl⟩:=h;refine bs (g:=g) (o:=a.length+i) cT.i rfl rfl h Θ λI s V j=>q I s ⟨?_,rfl⟩;have e:(ints .u8 (a++C++f)).set (a.length+i) (.int .u8 x)=ints .u8 (a++C.set i x++f):=by
  unfold ints;rw[<-U2,T1,U7 _ _ Ω,Nat.add_sub_cancel_left,List.set_append_left _ _ hi,T1]
 rw[e]at j;exact j
theorem pH{g o c a q i:Nat}{f t:Int}{h j:Λ}{K:x5->Prop}(z:li w g o h C j)(Y:C.length=n)(Z:n<=1000)(ac:a<=n)(h1:(a:Int)-y=((i+1:Nat):Int))(F:(a:Int)-f=(i:Int))(G:i+1<n)(H:t=((2*q:Nat):Int))(s:q<100)(J:∀I,ai (λr=>r=g) w I->li I g o h ((C.set (i+1) (48+((q % 10:Nat):Int))).set i (48+((q / 10:Nat):Int))) j->K I):
  et w λab=>
  ad x8 (aS .sub al sp s2 (Δ (a:Int)) (Δ y)) ab λL=>
  ad x8 (aS .sub al sp s2 (Δ (a:Int)) (Δ f)) ab λA=>
  ad x8 (aS .add qu sp s2 (.int .u32 t) (.int .u32 1)) ab λM=>
  ad x8 (Instr.index df (.string lh) M) ab λt50=>
  ad x8 (Instr.index df (.string lh) (.int .u32 t)) ab λB=>
  ad x8 (n9 cV (.slice (σ ⟨g,o,ν⟩) n c) L) ab λt53=>
  aL x8 (o7 cT t53 t50) ab λ(_:Unit)e=>
   (Ext ab e\/cc x8 (Instr.index df (.string lh) (.int .u32 t)) B e/\cc x8 (aS .sub al sp s2 (Δ (a:Int)) (Δ f)) A e/\True)/\
  ad x8 (n9 cV (.slice (σ ⟨g,o,ν⟩) n c) A) e λN=>
   aL x8 (o7 cT N B) e λ(_:Unit)x=>K x:=by
 subst H;intro ab E _ _;have O:ai (λr=>r=g) w ab:=E.aa _;have P:li ab g o h C j:=⟨z.1.W E,z.2⟩;rw[dm,lm Ω Ω,dm,lm Ω Ω,aT,wrap_u32 Ω Ω];rw[show((2*q:Nat):Int)+1=((2*q+1:Nat):Int) by omega];have V:=Dn;rw[uC df.u (by rw[V];omega),uC df.u (by rw[V];omega)];rw[(xQ s).1,(xQ s).2,xR h1 G];refine xS P Ω λe Q R=>⟨.inr ⟨mK λK=>?_,mK λK=>?_,trivial⟩,?_⟩
 .rw[uC df.u (by rw[V];omega),(xQ s).1]
 .rw[dm,lm Ω Ω]
 .rw[xR F Ω];refine xS R Θ λx S U=>J x ((O.F Q).F S) ?_;have W:48+((q % 10:Nat):Int)=((48+q % 10:Nat):Int):=Ω
  have X:48+((q / 10:Nat):Int)=((48+q / 10:Nat):Int):=Ω
  rw[W,X];exact U
theorem gW.pair{e:Λ}{a u q:Nat}(h:gW e C (a+2) u)(f:q=u % 100):gW e ((C.set (a+1) (48+((q % 10:Nat):Int))).set a (48+((q / 10:Nat):Int))) a (u / 100):=by
 have:=h.two;rw[show u % 10=q % 10 by omega,show u / 10 % 10=q / 10 by omega]at this;exact this
theorem pI{t:o4}{k:o8}{a b:Nat}(e:b≠0):ad x8 (aS .rem t cx cy (.int k (a:Int)) (.int k (b:Int))) w K=K (.int k ((a % b:Nat):Int)):=by
 rw[rO Ω,Int.tmod_eq_emod_of_nonneg Ω,Int.natCast_emod]
theorem u32_quo{t:o4}{a b:Nat}(e:b≠0)(f:a<4294967296):ad x8 (aS .quo t cx cy (.int .u32 (a:Int)) (.int .u32 (b:Int))) w K=K (.int .u32 ((a / b:Nat):Int)):=by
 have:=Nat.div_le_self a b;rw[oh Ω,Int.tdiv_eq_ediv_of_nonneg Ω,<-Int.natCast_ediv];generalize a / b=m at this ⊢;rw[wrap_u32 Ω Ω]
theorem u64_quo{t:o4}{a b:Nat}(e:b≠0)(f:a<18446744073709551616):ad x8 (aS .quo t cx cy (.int .u64 (a:Int)) (.int .u64 (b:Int))) w K=K (.int .u64 ((a / b:Nat):Int)):=by
 have:=Nat.div_le_self a b;rw[oh Ω,Int.tdiv_eq_ediv_of_nonneg Ω,<-Int.natCast_ediv];generalize a / b=m at this ⊢;rw[lw Ω Ω]
theorem pJ{t:o4}{a b:Nat}(f:a*b<4294967296):ad x8 (aS .mul t cx cy (.int .u32 (a:Int)) (.int .u32 (b:Int))) w K=K (.int .u32 ((a*b:Nat):Int)):=by
 have e:(a:Int)*(b:Int)=((a*b:Nat):Int):=Ξ
 rw[fL,e];generalize a*b=m at f ⊢;rw[wrap_u32 Ω Ω]
theorem gW.start{u:Nat}(h:C.length=N):gW (iq N u) C N u:=⟨by rw[si];omega,by rw[si,h],[],by rw[List.drop_eq_nil_iff];omega,Ξ⟩
theorem NO{g o c u:Nat}{G H:Λ}(aj:li w g o G C H)(ak:C.length=N)(ay:N<=19)(hu:u<10 ^ N):
  aq x8 Lo [.slice (σ ⟨g,o,ν⟩) N c,.int .u64 (u:Int)] w λv I=>v= .tuple #[]/\ai (λr=>r=g) w I/\li I g o G (iq N u) H:=by
 have x:=si N u;refine aE func315 ?_;rw[ji cV.u];refine⟨λal R U=>∃e6 e:Nat,al= .int .u64 (e6:Int)/\R=Δ (e:Int)/\e6<10 ^ e/\e<=N/\ai (λr=>r=g) w U/\∃J,li U g o G J H/\gW (iq N u) J e e6,
  λ_ R _=>(b1 R).toNat,⟨u,N,rfl,rfl,hu,o6 _,ai.refl _ _,C,aj,gW.start ak⟩,?_⟩
 rintro _ _ U ⟨e6,e,rfl,rfl,K,z,S,J,V,ah⟩;have ad:J.length=N:=by rw[ah.2.1,x]
 have aA:(10:Nat) ^ e<=10 ^ 19:=T2 Ω Ω;have am:e6<18446744073709551616:=Ω
 have aB:(8:Int)=((8:Nat):Int):=rfl;rw[cU,ao];refine⟨λan=>?_,λan=>?_⟩
 .obtain⟨m,rfl⟩:∃m,e=m+8:=⟨e-8,Ω⟩;have aC:e6 % 100000000<100000000:=Nat.mod_lt _ Ω;rw[show V3 .u64 100000000=V3 .u64 ((100000000:Nat):Int)from rfl,pI Ω,fM fZ.u qu.u,wrap_u32 Ω Ω,u64_quo Ω am];rw[show V3 .u32 10000=V3 .u32 ((10000:Nat):Int)from rfl,show V3 .u32 100=V3 .u32 ((100:Nat):Int)from rfl,show V3 .u32 2=V3 .u32 ((2:Nat):Int)from rfl];rw[u32_quo Ω Ω,pI Ω,u32_quo Ω Ω,pJ Ω,pI Ω,pJ Ω,u32_quo Ω Ω,pJ Ω,pI Ω,pJ Ω];refine pH (i:=m+6) (q:=e6 % 100000000 % 10000 % 100) V ad Ω z Ω Ω Ω Ω Ω λab A B=>?_;have h:=ah.pair (q:=e6 % 100000000 % 10000 % 100) Ω;have L:=h.2.1.F x;refine pH (i:=m+4) (q:=e6 % 100000000 % 10000 / 100) B L Ω z Ω Ω Ω Ω Ω λE s j=>?_;have f:=gW.pair (q:=e6 % 100000000 % 10000 / 100) h Ω;have ae:=f.2.1.F x;refine pH (i:=m+2) (q:=e6 % 100000000 / 10000 % 100) j ae Ω z Ω Ω Ω Ω Ω λap W P=>?_;have af:=gW.pair (q:=e6 % 100000000 / 10000 % 100) f Ω;have au:=af.2.1.F x;refine pH (i:=m) (q:=e6 % 100000000 / 10000 / 100) P au Ω z Ω Ω Ω Ω Ω λaD av aw=>?_;have ag:=gW.pair (q:=e6 % 100000000 / 10000 / 100) af Ω;rw[dm,lm Ω Ω];refine⟨⟨e6 / 100000000,m,rfl,by congr 1;omega,?_,Ω,(((S.F A).F s).F W).F av,_,aw,?_⟩,by simp only[b1];omega⟩
  .rw[Nat.pow_add]at K;exact Nat.div_lt_of_lt_mul (by rw[Nat.mul_comm];exact K)
  .rw[show e6 / 100 / 100 / 100 / 100=e6 / 100000000 by omega]at ag;exact ag
 .have aF:e<8:=Ω
  have aG:(10:Nat) ^ e<=10 ^ 7:=T2 Ω Ω;rw[fM fZ.u qu.u,wrap_u32 Ω Ω];refine jF (λa b ab=>∃fe m:Nat,a=Δ (m:Int)/\b= .int .u32 (fe:Int)/\fe<10 ^ m/\m<4/\m<=N/\ai (λr=>r=g) w ab/\∃Q,li ab g o G Q H/\gW (iq N u) Q m fe) ?_ ?_
  rotate_left
  .intro az M;rw[cU,ao];refine⟨λX=>?_,λX=>M _ _ _ ⟨e6,e,rfl,rfl,K,Ω,z,S,J,V,ah⟩⟩;obtain⟨m,rfl⟩:∃m,e=m+4:=⟨e-4,Ω⟩;rw[show V3 .u32 10000=V3 .u32 ((10000:Nat):Int)from rfl,show V3 .u32 100=V3 .u32 ((100:Nat):Int)from rfl,show V3 .u32 2=V3 .u32 ((2:Nat):Int)from rfl];rw[pI Ω,u32_quo Ω Ω,u32_quo Ω Ω,pJ Ω,pI Ω,pJ Ω];refine pH (i:=m+2) (q:=e6 % 10000 % 100) V ad Ω z Ω Ω Ω Ω Ω λab A B=>?_;have h:=ah.pair (q:=e6 % 10000 % 100) Ω;have L:=h.2.1.F x;refine pH (i:=m) (q:=e6 % 10000 / 100) B L Ω z Ω Ω Ω Ω Ω λE s j=>?_;have f:=gW.pair (q:=e6 % 10000 / 100) h Ω;rw[dm,lm Ω Ω];refine M _ _ _ ⟨e6 / 10000,m,by congr 1;omega,rfl,?_,Ω,Ω,(S.F A).F s,_,j,?_⟩
   .rw[Nat.pow_add]at K;exact Nat.div_lt_of_lt_mul (by rw[Nat.mul_comm];exact K)
   .rw[show e6 / 100 / 100=e6 / 10000 by omega]at f;exact f
  rintro _ _ ab ⟨fe,m,rfl,rfl,Y,aH,Z,A,Q,B,h⟩;have L:=h.2.1.F x;have aI:(10:Nat) ^ m<=10 ^ 3:=T2 Ω Ω;refine jF (λa b E=>∃O m:Nat,a=Δ (m:Int)/\b= .int .u32 (O:Int)/\O<10 ^ m/\m<2/\m<=N/\ai (λr=>r=g) w E/\∃aa,li E g o G aa H/\gW (iq N u) aa m O) ?_ ?_
  rotate_left
  .intro az M;rw[cU,ao];refine⟨λX=>?_,λX=>M _ _ _ ⟨fe,m,rfl,rfl,Y,Ω,Z,A,Q,B,h⟩⟩;obtain⟨m,rfl⟩:∃bV,m=bV+2:=⟨m-2,Ω⟩;rw[show V3 .u32 100=V3 .u32 ((100:Nat):Int)from rfl,show V3 .u32 2=V3 .u32 ((2:Nat):Int)from rfl];rw[pI Ω,pJ Ω,u32_quo Ω Ω];refine pH (i:=m) (q:=fe % 100) B L Ω Z Ω Ω Ω Ω Ω λE s j=>?_;have f:=h.pair rfl;rw[dm,lm Ω Ω];refine M _ _ _ ⟨fe / 100,m,by congr 1;omega,rfl,?_,Ω,Ω,A.F s,_,j,f⟩;rw[Nat.pow_add]at Y;exact Nat.div_lt_of_lt_mul (by rw[Nat.mul_comm];exact Y)
  rintro _ _ E ⟨O,m,rfl,rfl,ac,aJ,Z,s,aa,j,f⟩;have ae:=f.2.1.F x;rw[bW,ao];refine⟨λax=>?_,λax=>?_⟩
  .obtain rfl:m=1:=Ω
   have ac:O<10:=by simpa using ac
   rw[aT,wrap_u32 Ω Ω,fM qu.u cT.u,wrap_u8 Ω Ω,xR (y:=0) (i:=0) rfl Ω];refine xS j Ω λap W P=>?_;have:=f.one;rw[Nat.mod_eq_of_lt ac]at this;rw[this]at P;exact⟨rfl,s.F W,P⟩
  .obtain rfl:m=0:=Ω
   rw[f.zero]at j;exact⟨rfl,s,j⟩
def sj:Λ:=[1,10,100,1000,10000,100000,1000000,10000000,100000000,1000000000,10000000000,100000000000,1000000000000,10000000000000,100000000000000,1000000000000000,10000000000000000,100000000000000000,1000000000000000000,10000000000000000000]
def fD(w:x5):Prop:=w.rangeAt 1 0 (ints .u64 sj)
theorem fD.W(h:fD w)(J:Ext w I):fD I:=pm J h
theorem NP:∀k:Nat,k<20->sj[k]?=σ (((10 ^ k:Nat)):Int):=Φ
theorem Do{s:Nat}(h:2 ^ s<=n):eG n=s+eG (n / 2 ^ s):=by
 have V:=Nat.two_pow_pos s;have h1:n / 2 ^ s≠0:=by have:=Nat.div_pos h V;omega
 have f:n≠0:=Ω
 unfold eG;rw[m5 f,m5 h1];have e:Nat.log2 n=Nat.log2 (n / 2 ^ s)+s:=by
  refine(Nat.log2_eq_iff f).2 ⟨?_,?_⟩
  .rw[Nat.pow_add];have:=V4 (2 ^ s) (Nat.log2_self_le h1);have:=Nat.div_mul_le_self n (2 ^ s);omega
  .have j:=Nat.lt_log2_self (n:=n / 2 ^ s);rw[show Nat.log2 (n / 2 ^ s)+s+1=(Nat.log2 (n / 2 ^ s)+1)+s by omega,Nat.pow_add];have:=V4 (2 ^ s) (show n / 2 ^ s+1<=2 ^ (Nat.log2 (n / 2 ^ s)+1) by omega);have q:=Nat.lt_div_mul_add V (a:=n);rw[T7]at this;omega
 omega
def sk:ByteArray:=⟨#[0,1,2,2,3,3,3,3,4,4,4,4,4,4,4,4,5,5,5,5,5,5,5,5,5,5,5,5,5,5,5,5,6,6,6,6,6,6,6,6,6,6,6,6,6,6,6,6,6,6,6,6,6,6,6,6,6,6,6,6,6,6,6,6,7,7,7,7,7,7,7,7,7,7,7,7,7,7,7,7,7,7,7,7,7,7,7,7,7,7,7,7,7,7,7,7,7,7,7,7,7,7,7,7,7,7,7,7,7,7,7,7,7,7,7,7,7,7,7,7,7,7,7,7,7,7,7,7,8,8,8,8,8,8,8,8,8,8,8,8,8,8,8,8,8,8,8,8,8,8,8,8,8,8,8,8,8,8,8,8,8,8,8,8,8,8,8,8,8,8,8,8,8,8,8,8,8,8,8,8,8,8,8,8,8,8,8,8,8,8,8,8,8,8,8,8,8,8,8,8,8,8,8,8,8,8,8,8,8,8,8,8,8,8,8,8,8,8,8,8,8,8,8,8,8,8,8,8,8,8,8,8,8,8,8,8,8,8,8,8,8,8,8,8,8,8,8,8,8,8,8,8,8,8,8,8]⟩
theorem NQ:sk.size=256:=by decide+kernel
theorem NR:∀q:Fin 256,sk.data.toList[q.val]?=σ (UInt8.ofNat (eG q.val)):=by decide+kernel
theorem NS{q:Nat}(a:q<256):∀h,(sk[q]'h).toNat=eG q:=λh=>by
 have h1:=NR ⟨q,a⟩;have e:=(x6.1 h1).2;have:sk[q]=UInt8.ofNat (eG q):=e;have f:=Dl a;rw[this,UInt8.toNat_ofNat'];omega
theorem NT(E:n<18446744073709551616):aq x8 Lb [.int .u64 (n:Int)] w λv I=>v=Δ (eG n:Int)/\Ext w I:=by
 refine aE func291 ?_;have step:∀{s x m:Nat}{az:x4->x4->x5->Prop}{y c:Int},s<64->x<18446744073709551616->m+eG x=eG n->m<=64->y=(2 ^ s:Nat)->c=(s:Int)->2 ^ s<=18446744073709551615->(∀a bV:Nat,a<2 ^ s\/(a=x / 2 ^ s/\bV=m+s)->a<=x->bV+eG a=eG n->bV<=m+s->az (.int .u64 (a:Int)) (Δ (bV:Int)) w)->
   ad x8 (aS .geq fZ sp s2 (.int .u64 (x:Int)) (.int .u64 y)) w λt4=>
    Split t4 (ad x8 (aS .shr fZ sp s2 (.int .u64 (x:Int)) (.int .u64 c)) w λr=>ad x8 (aS .add al sp s2 (Δ (m:Int)) (Δ c)) w λz=>az r z w) (az (.int .u64 (x:Int)) (Δ (m:Int)) w):=by
  intro s x m az y c V J hm G A B j e;subst A B;rw[cU,ao];refine⟨λh=>?_,λh=>e x m (.inl Ω) (o6 _) hm Ω⟩;rw[mB V,aT,lm Ω Ω];have:=Do (n:=x) (s:=s) Ω;have:=e (x / 2 ^ s) (m+s) (.inr ⟨rfl,rfl⟩) (Nat.div_le_self _ _) Ω Ω;exact this
 refine jF (λx m U=>w=U/\∃a bV:Nat,x= .int .u64 (a:Int)/\m=Δ (bV:Int)/\a<4294967296/\bV+eG a=eG n/\bV<=32) ?_ ?_
 rotate_left
 .intro az e;rw[cU,ao];refine⟨λh=>?_,λh=>e _ _ _ ⟨rfl,n,0,rfl,rfl,Ω,Ω,Ω⟩⟩;rw[show V3 .u64 32=V3 .u64 ((32:Nat):Int)from rfl,mB Ω];have:=Do (n:=n) (s:=32) Ω;exact e _ _ _ ⟨rfl,n / 2 ^ 32,32,rfl,rfl,Ω,Ω,Ω⟩
 rintro _ _ _ ⟨rfl,x,m,rfl,rfl,J,hm,q⟩;refine jF (λx m U=>w=U/\∃a bV:Nat,x= .int .u64 (a:Int)/\m=Δ (bV:Int)/\a<65536/\bV+eG a=eG n/\bV<=48) ?_ ?_
 rotate_left
 .intro az e;refine step (s:=16) Ω Ω hm Ω Ω Ω Ω λa bV h1 j f C=>e _ _ _ ⟨rfl,a,bV,rfl,rfl,?_,f,Ω⟩;rcases h1 with h1|⟨h1,_⟩<;>omega
 rintro _ _ _ ⟨rfl,x,m,rfl,rfl,J,hm,q⟩;refine jF (λx m U=>w=U/\∃a bV:Nat,x= .int .u64 (a:Int)/\m=Δ (bV:Int)/\a<256/\bV+eG a=eG n/\bV<=56) ?_ ?_
 rotate_left
 .intro az e;refine step (s:=8) Ω Ω hm Ω Ω Ω Ω λa bV h1 j f C=>e _ _ _ ⟨rfl,a,bV,rfl,rfl,?_,f,Ω⟩;rcases h1 with h1|⟨h1,_⟩<;>omega
 rintro _ _ _ ⟨rfl,x,m,rfl,rfl,J,hm,q⟩;have V:=NQ;have H:=Dl J;rw[fM fZ.u cT.u,wrap_u8 Ω Ω];refine(uC (s:=sk) df.u (by rw[V];omega)).mpr ?_;rw[NS J,fM cT.u al.u,lm Ω Ω,aT,lm Ω Ω];exact⟨by congr 1;omega,Ext.refl _⟩
theorem Dp{t:o4}{k:o8}{a:Nat}(f:n<64):ad x8 (aS .shr t cx cy (Δ (a:Int)) (.int k (n:Int))) w K=K (Δ ((a / 2 ^ n:Nat):Int)):=ad.of λI _=>by
 have e:(a:Int).fdiv (2 ^ min n X4.bits)=((a / 2 ^ n:Nat):Int):=by
  have:min n X4.bits=n:=Nat.min_eq_left (by show n<=64;omega);rw[this,Int.fdiv_eq_ediv_of_nonneg _ (by exact Int.le_of_lt (Int.pow_pos Ω))];simp
 simp only[aS,eqGuard,binOp,Op.shift,u7,e];rfl
theorem NU:∀L:Fin 64,7<=L.val->2 ^ L.val<=10 ^ (L.val*78913 / 262144+1)/\10 ^ (L.val*78913 / 262144)<=10*2 ^ (L.val-1)/\1<=L.val*78913 / 262144/\L.val*78913 / 262144<19:=by decide+kernel
theorem NV{d:Nat}(z:fD w)(h1:100<=d)(E:d<9223372036854775808):aq x8 Ln [.int .u64 (d:Int)] w λv I=>Ext w I/\∃n:Nat,v=Δ ((n+1:Nat):Int)/\n<19/\10 ^ n<=d/\d<10 ^ (n+1):=by
 have j:d≠0:=Ω
 have q:eG d=Nat.log2 d+1:=by unfold eG;rw[m5 j]
 have G:2 ^ (eG d-1)<=d:=by rw[q];exact Nat.log2_self_le j
 have H:d<2 ^ eG d:=by rw[q];exact Nat.lt_log2_self
 have A:7<=eG d:=by
  by_cases h:7<=eG d
  .exact h
  .have:2 ^ eG d<=2 ^ 6:=T2 Ω Ω;omega
 have B:eG d<64:=by
  by_cases h:eG d<64
  .exact h
  .have:2 ^ 63<=2 ^ (eG d-1):=T2 Ω Ω;omega
 obtain⟨C,r,t3,t4⟩:=NU ⟨eG d,B⟩ A;simp only at C r t3 t4;refine aE func314 ?_;refine(NT Ω).Y ?_;rintro _ U _ ⟨rfl,a⟩;generalize eG d=L at*;refine aq.Y (K:=λv ab=>v=Δ ((L*78913 / 262144:Nat):Int)/\Ext U ab) ?_ ?_
 .refine aE func335 ?_;rw[fL,lm Ω Ω,show V3 .u64 18=V3 .u64 ((18:Nat):Int)from rfl,show(L:Int)*78913=((L*78913:Nat):Int) by omega,Dp Ω];exact⟨rfl,Ext.refl _⟩
 rintro _ ab _ ⟨rfl,e⟩;generalize L*78913 / 262144=t at*;have ae:=NP t Ω;rw[w4 w1.u fZ.i Ω,aF Ψ (by rw[U3];exact((z.W a).W e) _ _ (mq ae)),cU];refine aq.Y (K:=λv x=>v=Δ ((if 10 ^ t<=d then 1 else 0:Nat):Int)/\Ext ab x) ?_ ?_
 .refine aE func336 ?_;rw[ao];refine⟨λh=>⟨by rw[m3 Ω];rfl,Ext.refl _⟩,λh=>⟨by rw[m5 Ω];rfl,Ext.refl _⟩⟩
 rintro _ x _ ⟨rfl,y⟩;rw[aT];by_cases f:10 ^ t<=d
 .rw[m3 f,lm Ω Ω];exact⟨(a.F e).F y,t,by congr 1,t4,f,Ω⟩
 .rw[m5 f,lm Ω Ω];obtain⟨s,rfl⟩:∃s,t=s+1:=⟨t-1,Ω⟩;rw[Nat.pow_succ]at r;exact⟨(a.F e).F y,s,by congr 1,Ω,Ω,Ω⟩
theorem Dq{t:o4}{k a:o8}{x:Int}{i:Nat}{s:ByteArray}(J:x=(i:Int))(e:y=(j:Int))(f:x8.underlying t=σ .string)(q:i<=j)(r:j<=s.size):
  ad x8 (V5 t (.string s) (σ (.int k x)) (σ (.int a y)) ν) w K=K (.string (s.extract i j)):=ad.of λI _=>by
 subst J e;have z:=tO (P:=x8) I (sl:=sp) (n:=s.size) (c:=s.size) (low:=σ (.int k (i:Int))) (high:=σ (.int a (j:Int))) (mx:=ν) (l:=i) (h:=j) (m:=s.size) ⟨k,rfl⟩ ⟨a,rfl⟩ fy q r (o6 _);simp[V5,Instr.slice,run_underlying f,z]
theorem NW:∀q:Fin 100,lh.extract (2*q.val) (2*q.val+2)=strOfNums [48+((q.val / 10:Nat):Int),48+((q.val % 10:Nat):Int)]:=by decide+kernel
def Dr:ByteArray:=⟨#[48,49,50,51,52,53,54,55,56,57,97,98,99,100,101,102,103,104,105,106,107,108,109,110,111,112,113,114,115,116,117,118,119,120,121,122]⟩
theorem NX:∀q:Fin 10,Dr.extract q.val (q.val+1)=strOfNums [48+(q.val:Int)]:=by decide+kernel
theorem Ds(h:n<10):gA n=[48+(n:Int)]:=by rw[py,m3 h,Nat.mod_eq_of_lt h];rfl
theorem NY(h1:10<=n)(a:n<100):gA n=[48+((n / 10:Nat):Int),48+((n % 10:Nat):Int)]:=by
 rw[py,m5 Ω,Ds Ω];rfl
theorem NZ(a:n<100):aq x8 Lm [Δ (n:Int)] w λv I=>v=ch (gA n)/\Ext w I:=by
 refine aE func313 ?_;rw[aW,ao];refine⟨λh=>?_,λh=>?_⟩
 .rw[aT,lm Ω Ω];refine(Dq (s:=Dr) (i:=n) (j:=n+1) rfl Ω df.u Ω (by show n+1<=36;omega)).mpr ?_;rw[NX ⟨n,Ω⟩,Ds Ω];exact⟨rfl,Ext.refl _⟩
 .rw[fL,lm Ω Ω,fL,lm Ω Ω,aT,lm Ω Ω];refine(Dq (s:=lh) (i:=2*n) (j:=2*n+2) Ω Ω df.u Ω (by rw[Dn];omega)).mpr ?_;rw[NW ⟨n,a⟩,NY Ω a];exact⟨rfl,Ext.refl _⟩
theorem N0{g:Nat}{e f:Λ}(a:li w g 1 e C f)(h:C.length<=23):aQ .u8 w (.slice (σ ⟨g,1,ν⟩) C.length 23) C:=by
 obtain⟨a,ae⟩:=a;refine⟨Ξ,g,1,_,23,rfl,h,by simp[maxLen],λ_=>rfl,λj v ac=>?_⟩;have q:j<C.length:=by have:=(x6.1 ac).1;simpa using this
 refine a.cell ?_;rw[ints,Z0,Z0,V9 Θ,X3 Θ,r9,ae,Nat.add_sub_cancel_left];exact ac
theorem Dt{g m:Nat}(a:y=((m+2:Nat):Int))(hm:m<=22):
  ad x8 (V5 og (Γ g) (σ (Δ 1)) (σ (Δ y)) ν) w K=K (.slice (σ ⟨g,1,ν⟩) (m+1) 23):=by
 subst a;have:=tP (w:=w) (b:=g) (o:=0) (low:=σ (Δ 1)) (high:=σ (Δ ((m+2:Nat):Int))) (mx:=ν) (l:=1) (h:=m+2) (m:=24) (K:=K) og.u cT.i ⟨_,rfl⟩ ⟨_,rfl⟩ fy Ω Ω Ω;rw[this,m5 Ω];rfl
theorem N1(s:fD w)(x:n<9223372036854775808):aq x8 Lh [Δ (n:Int),Δ 10] w λv I=>v=ch (gA n)/\Ext w I:=by
 refine aE func299 ?_;rw[bl];refine(ao).mpr ⟨λ_=>?_,λh=>m6 rfl h⟩;refine a6 (λv U=>w=U/\v= .bool (decide (n<100))) ?_ ?_
 rotate_left
 .intro az a;rw[lL,ao];refine⟨λ_=>?_,λh=>Ω⟩;rw[aW];exact a _ _ ⟨rfl,by congr 1;rw[U1,ro,ro];omega⟩
 rintro _ _ ⟨rfl,rfl⟩;rw[ao];refine⟨λh=>?_,λh=>?_⟩
 .exact (NZ h).Y λ_ _ _ h=>h
 refine bF og.i λg U G f y=>?_;rw[fM ay.u fZ.u,lw Ω Ω];refine a6 (λv ab=>U=ab/\v= .int .u64 (n:Int)) ?_ ?_
 rotate_left
 .intro az a;rw[aW,ao];exact⟨λh=>Ω,λ_=>a _ _ ⟨rfl,rfl⟩⟩
 rintro _ _ ⟨rfl,rfl⟩;refine(NV (s.W f) Ω x).Y ?_;rintro _ ab _ ⟨j,m,rfl,hm,z,q⟩;rw[aT,lm Ω Ω];rw[Dt (m:=m) Ω Ω];have A:li ab g 1 [0] (o5 (m+1) 0) (o5 (22-m) 0):=by
  refine⟨?_,rfl⟩;have e:[0]++o5 (m+1) (0:Int)++o5 (22-m) 0=o5 24 0:=by
   rw[show[(0:Int)]=o5 1 0 from rfl,List.replicate_append_replicate,List.replicate_append_replicate];congr 1;omega
  rw[e];exact y.W j
 refine(NO (N:=m+1) A Ξ Ω q).Y ?_;rintro _ H _ ⟨rfl,B,C⟩;refine ck Ω ?_;rw[aT,lm Ω Ω];rw[Dt (m:=m) Ω Ω];have E:=si (m+1) n;have V:=N0 C Ω;rw[E]at V;rw[xe cV.u cT.u df.u V,Dm m n z q];refine⟨rfl,(f.F j).then B λr J he=>?_⟩;have he:r=g:=he;omega
theorem N2(a:fD w)(e:n<9223372036854775808):aq x8 wR [Δ (n:Int)] w λv I=>v=ch (gA n)/\Ext w I:=by
 refine aE func229 ?_;refine aq.Y (K:=λv I=>v=ch (gA n)/\Ext w I) ?_ (λ_ _ _ h=>h);refine aE func273 ?_;exact(N1 a e).Y λ_ _ _ h=>h
theorem fD.aa(h:fD w)(J:ai S w I)(a:¬S 1):fD I:=iz J a h
def dz(w:x5)(g gs:Nat)(A:aj)(B:aj)(a:Bool)(s:Option aN):Prop:=match s with
 |some s=>ey w g gs A B s a
 |none=>fo w g gs A B
theorem gB.of{g:Nat}{A:aj}{B:aj}{a:Bool}{s:Option aN}(h:gB w g gs A B a s I):ai (bS g gs A) w I/\dz I g gs A B a s:=h
theorem gB.mk{g:Nat}{A:aj}{B:aj}{a:Bool}{s:Option aN}(h:ai (bS g gs A) w I)(e:dz I g gs A B a s):gB w g gs A B a s I:=⟨h,e⟩
theorem dz.aa{g:Nat}{A:aj}{B:aj}{a:Bool}{s:Option aN}(h:dz w g gs A B a s)(J:ai S w I)(e:∀r,bS g gs A r->¬S r)(f:∀r,cW g gs A B r->¬S r):dz I g gs A B a s:=by
 cases s with
 |none=>exact fo.aa h J e f
 |some s=>exact ey.aa h J e f
theorem dz.W{g:Nat}{A:aj}{B:aj}{a:Bool}{s:Option aN}(h:dz w g gs A B a s)(J:Ext w I):dz I g gs A B a s:=h.aa (J.aa λ_=>False) (λ_ _ h=>h) λ_ _ h=>h
theorem dz.side{g:Nat}{A:aj}{B:aj}{a:Bool}{s:Option aN}(h:dz w g gs A B a s):mH w g gs A B:=by
 cases s with
 |none=>exact h.1
 |some s=>exact h.1
def bk(lo hi:Int)(s:Option aN):Option (Int×aN):=s.bind (bq lo hi)
theorem nL{g:Nat}{A:aj}{B:aj}{s:Option aN}{a:Bool}(h:dz w g gs A B a s):aq x8 pc [Γ g,Δ lo,Δ hi] w λv I=>gB w g gs A B a ((bk lo hi s).map (·.2)) I/\∃n at_:Int,v= .tuple #[Δ n,Δ at_]/\(∀q,bk lo hi s=σ q->n=q.1)/\(bk lo hi s=ν->n=0):=by
 cases s with
 |none=>
  refine(M0 h).Y ?_;rintro _ U _ ⟨J,rfl⟩;exact⟨⟨J.aa _,fo.W h J⟩,0,0,rfl,λq h=>(by cases h),λ_=>rfl⟩
 |some s=>exact xC h
theorem qU{g:Nat}{A:aj}{B:aj}{s:Option aN}{a:Bool}(h:dz w g gs A B a s):aq x8 ml [Γ g] w λv I=>v= .bool s.isSome/\Ext w I:=by
 cases s with
 |none=>exact pD h
 |some s=>exact qN h
theorem N3{g:Nat}{A:aj}{B:aj}{s:Option aN}{a:Bool}{e:Int}(h:dz w g gs A B a s)(he:e≠0):aq x8 pd [Γ g,Δ e,Δ at_] w λ_ I=>gB w g gs A B a ν I:=by
 cases s with
 |none=>
  refine(MY h).Y ?_;rintro _ U _ J;exact⟨J.aa _,fo.W h J⟩
 |some s=>
  refine(ul h he).Y ?_;rintro _ U _ ⟨f,j⟩;exact⟨f.Y λr _ h=>.inl h,j⟩
theorem sm{g:Nat}{A:aj}{B:aj}{s:Option aN}{a b:Bool}(h:dz w g gs A B a s):aq x8 rH [Γ g,.bool b,Δ at_] w λ_ I=>gB w g gs A B a (s.map (bm b)) I:=by
 cases s with
 |none=>
  refine(CU h).Y ?_;rintro _ U _ J;exact⟨J.aa _,fo.W h J⟩
 |some s=>
  refine(um h).Y ?_;rintro _ U _ ⟨e,f⟩;exact⟨e.Y λr _ h=>.inl h,f⟩
theorem oA{n:Int}{s:Option aN}{s':aN}(h:bk lo hi s=σ (n,s')):lo<=n/\n<=hi:=by
 cases s with
 |none=>cases h
 |some s=>exact(jn h).1
def gD(a acc:Λ)(s:Option aN):Option (Λ×aN):=s.bind (kG a acc)
theorem Du{acc:Λ}{s:Option aN}:gD (k::a) acc s=match bk 0 (k-1) s with
  |none=>ν
  |some (v,s)=>kG a (acc++[v]) s:=by
 cases s with
 |none=>rfl
 |some s=>
  show kG (k::a) acc s=_;rw[kG];show _=match bq 0 (k-1) s with|none=>ν|some (v,s)=>kG a (acc++[v]) s
  cases bq 0 (k-1) s<;>rfl
theorem Dv:∀(t:Λ),(∀x∈t,0<=x/\x<=aD)->(eY t).length<=20*t.length
 |[],_=>by simp[eY]
 |x::t,h=>by
  have f:=Dv t λy a=>h y (.tail _ a);have J:=h x (.head _);have j:=xh 19 x.toNat (by unfold aD at J;omega) Ω;have e:eY (x::t)=gA x.toNat++[32]++eY t:=by simp[eY]
  rw[e];simp only[j6,W0,List.length_nil];omega
theorem N4{g av:Nat}{A B:aj}{s:Option aN}{S:Bool}{af:x4->x5->Prop}(h:dz w g gs A B S s)(ah:aQ .i64 w sv d6)(aG:∀r,lc sv r->¬bS g gs A r/\r≠av)(aI:∀z∈d6,1<=z/\z<=aD)(bO:d6.length<=100001)(aK:fD w)(h1:cW g gs A B 1)(am:ak w av eE [.slice ν 0 0,Δ 0])(an:¬bS g gs A av)(ao:¬B av)(ap:∀t I aX gt,t.length=d6.length->(∀x∈t,0<=x/\x<=aD)->ai (λr=>bS g gs A r\/r=av) w I->ak I av eE [aX,Δ 0]->aH .i64 ay I gt aX t->w.heap.size<=gt->
   dz I g gs A B S ((gD d6 [] s).map (·.2))->(∀q,gD d6 [] s=σ q->t=q.1)->af (ch (eY t)) I):
  cp (.string ⟨#[]⟩) (Δ 0) w λkey V y aM=>
   ad x8 (aS .lss al sp sp V (Δ (d6.length:Int))) y λaO=>
   Split aO (ad x8 (n9 aA sv V) y λaR=>
   ad x8 (u5 ay aR) y λaU=>
   ad x8 (aS .sub ay sp s2 aU (Δ 1)) y λaV=>
   aq x8 pc [Γ g,(Δ 0),aV] y λau E=>
   ad x8 (Z7 au 0) E λaw=>
   ad x8 (Z7 au 1) E λbP=>
   ad x8 (u6 eE (Γ av) 0) E λaW=>
   ad x8 (u5 aA aW) E λaY=>
   aL x8 (Y3 aA 1 #[(0,aw)]) E λa1 a2=>
   aL x8 (c9 #[aA,aA] aA #[aY,a1]) a2 λa6 ax=>
   ad x8 (u6 eE (Γ av) 0) ax λa7=>
   aL x8 (o7 aA a7 a6) ax λ(_:Unit)a8=>
   aq x8 wR [aw] a8 λba K=>
   ad x8 (aS .add df sp s2 ba (.string ⟨#[32]⟩)) K λbb=>
   ad x8 (aS .add df sp sp key bb) K λbc=>
   ad x8 (aS .add al sp s2 V (Δ 1)) K λbd=>
   aM bc bd K) (af key y):=by
 have bQ:=am.lt;have be:=h.side;obtain⟨bR,bT,bU,bf,bg⟩:=be;refine cp.range d6.length (λj key U=>∃t aX gt s1,key=ch (eY t)/\t.length=j/\(∀x∈t,0<=x/\x<=aD)/\ai (λr=>bS g gs A r\/r=av) w U/\ak U av eE [aX,Δ 0]/\aH .i64 ay U gt aX t/\w.heap.size<=gt/\
  dz U g gs A B S s1/\gD d6 [] s=gD (d6.drop j) t s1) ah.le ⟨[],_,w.heap.size,s,rfl,rfl,λx J=>(by cases J),ai.refl _ _,am,aH.nil _ _ _ _,o6 _,h,rfl⟩ ?_ ?_
 rotate_left
 .rintro _ U bh ⟨t,aX,gt,s1,rfl,L,G,C,M,N,W,O,he⟩;refine ck Ω ?_;rw[List.drop_length]at he;cases s1 with
  |none=>
   have he:=he;exact ap t U aX gt L G C M N W (by rw[he];exact O) (λq e=>by rw[he]at e;cases e)
  |some s1=>
   have he:=he;exact ap t U aX gt L G C M N W (by rw[he];exact O) (λq e=>by rw[he]at e;cases e;rfl)
 rintro j _ U bh az ⟨t,aX,gt,s1,rfl,L,G,C,M,N,W,O,he⟩ bi;obtain⟨z,X⟩:=aJ (l:=d6) az;have bj:=aI z (x7 X);have bV:z<=4611686018427387904:=bj.2;have bl:=jm ah C λr f a n c ac bm=>by
  have:=aG r ⟨a,n,c,ac,bm⟩;exact f.elim this.1 this.2
 have ag:∀r,bS g gs A r->r<w.heap.size:=bf;refine bK Ω ?_;rw[bp aA.u ay.i Ψ bl X,dm,lm Ω Ω];refine(nL O).Y ?_;rintro _ ab _ ⟨bn,n,at_,rfl,aB,bo⟩;obtain⟨P,bq⟩:=bn.of;have aC:0<=n/\n<=aD:=by
  cases e:bk 0 (z-1) s1 with
  |none=>rw[bo e];exact⟨Ω,by unfold aD;omega⟩
  |some q=>
   rw[aB q e];have:=oA e;exact⟨this.1,by unfold aD;omega⟩
 rw[bA,bB];have aE:=M.aa P an;have br:=N.aa P λ_ bt=>by have:=ag _ bt;omega
 rw[aP eE.p 0 aE rfl];refine e3 aA.u ay.i rfl λa ga bu bW H bw=>?_;refine kC aA.u ay.i rfl (br.W H) bw.ls Θ Θ λbx bz bC bX Y Q=>?_;have bY:=C.size;have bZ:=P.size;have z3:=H.size;have z4:=Q.size;rw[aZ eE.p rfl];have bD:=(aE.W H).aa Q (λhe=>by have he:=he;omega);refine bs (g:=av) (o:=0) aA.i Y.ls.cells.1 Y.ls.cells.2 bD Ξ λbE Z b0 ae=>?_;have ae:=ae;have bF:ai (λr=>bS g gs A r\/r=av) w bu:=(C.F (P.Y λr _ h=>.inl h)).F (H.aa _);have bG:ai (λr=>bS g gs A r\/r=av) w bC:=iU bF Q λr f he=>by have he:r=gt:=he;omega
 have aF:ai (λr=>bS g gs A r\/r=av) w bE:=bG.F (Z.Y λr _ h=>.inr h);have bH:¬(λr=>bS g gs A r\/r=av) 1:=λh=>h.elim h1.1 λh=>ao (h▸h1.2);obtain⟨m,rfl⟩:∃m:Nat,n=(m:Int):=⟨n.toNat,Ω⟩;unfold aD at aC;refine(N2 (aK.aa aF bH) Ω).Y ?_;rintro _ b1 _ ⟨rfl,R⟩;have b2:=xh 19 m Ω Ω;have b3:=Dv t G;rw[show(ByteArray.mk #[32])=strOfNums [32]from rfl,xd Θ,xd Θ,aT];refine bi _ _ ⟨t++[(m:Int)],bx,bz,(bk 0 (z-1) s1).map (·.2),?_,by simp[L],λx J=>?_,aF.F (R.aa _),ae.W R,(Y.aa Z (λ_ he=>by have he:=he;omega)).W R,Ω,?_,?_⟩
 .rw[Mk,u7]
 .rcases j9.1 J with J|J
  .exact G x J
  .rw[Y4.1 J];exact aC
 .refine dz.W ?_ R;have bI:=bq.W H;have bJ:∀r,bS g gs A r->¬(λr=>r=gt) r:=λr f he=>by have:=ag r f;have he:r=gt:=he;omega
  have bL:∀r,cW g gs A B r->¬(λr=>r=gt) r:=λr f he=>by have:=bg r f.2;have he:r=gt:=he;omega
  have bM:∀r,bS g gs A r->¬(λr=>r=av) r:=λr f he=>by have he:r=av:=he;exact an (he▸f)
  have bN:∀r,cW g gs A B r->¬(λr=>r=av) r:=λr f he=>by have he:r=av:=he;exact ao (he▸f.2)
  exact(bI.aa Q bJ bL).aa Z bM bN
 .rw[he,X2 az,show d6[j]=z from(x6.1 X).2,Du];cases e:bk 0 (z-1) s1 with
  |none=>rfl
  |some q=>
   rw[aB q e];rfl
def ee(s:aN):Prop:=s.big=sp->s.m1<=16384
def lj(n:Int)(s:aN):aN:=bm (decide (16384<min (s.m1+n) aD)) {s with m1:=min (s.m1+n) aD}
theorem N5(n:Int)(s:aN):ee (lj n s):=λh=>by
 have h:(s.big||decide (16384<min (s.m1+n) aD))=sp:=h;have:=of_decide_eq_false (T4.1 h).2;show min (s.m1+n) aD<=16384;omega
theorem N6{g:Nat}{A B:aj}{s:Option aN}{z:Bool}{n:Int}{K:x5->Prop}(h:dz w g gs A B z s)(O:∀t,s=σ t->0<=n/\n<=aD/\ee t)(J:∀I,ai (bS g gs A) w I->dz I g gs A B z (s.map (lj n))->K I):
  ad x8 (b0 (Γ g)) w λP=>
  ad x8 (u6 cK P 2) w λQ=>
  ad x8 (u5 ay Q) w λR=>
  ad x8 (aS .add ay sp sp R (Δ n)) w λS=>
  ad x8 (Z2.min_ #[ay,ay] ay #[S,(Δ 4611686018427387904)]) w λW=>
  ad x8 (b0 (Γ g)) w λX=>
  ad x8 (u6 cK X 2) w λY=>
  aL x8 (o7 ay Y W) w λ(_:Unit)q=>
  ad x8 (b0 (Γ g)) q λt77=>
  ad x8 (u6 cK t77 2) q λZ=>
  ad x8 (u5 ay Z) q λac=>
  ad x8 (aS .gtr ay sp s2 ac (Δ 16384)) q λae=>
  aq x8 rH [Γ g,ae,Δ at_] q λ_ af=>K af:=by
 cases s with
 |none=>
  obtain⟨V,e,big,C,E,m1,sv,l,x,y,G⟩:=id h;rw[aO cK.p 2 x rfl,aT,mp,b5,aZ cK.p rfl];refine bs (g:=g) (o:=5) ay.i rfl rfl x (by simp[jp]) λU a ag f=>?_;rw[aO cK.p 2 f rfl,bW];have L:fo U g gs A B:=⟨V.aa a,e,big,C,E,_,sv,l,f,y,aw.aa G a λr _ h H=>uj h V.2.1 H⟩;refine(CU L).Y ?_;rintro _ ab _ M;exact J _ ((a.Y λr _ h=>.inl h).F (M.aa _)) (L.W M)
 |some s=>
  obtain⟨ap,ah,hi⟩:=O s rfl;obtain⟨V,ak,al,big,C,E,m1,sv,x,y,G⟩:=id h;rw[aO cK.p 2 x rfl,aT,mp,b5,aZ cK.p rfl];refine bs (g:=g) (o:=5) ay.i rfl rfl x (by simp[jp]) λU a ag f=>?_;have f:=f;rw[aO cK.p 2 f rfl,bW];have key:s.big=sp->min (X4.wrap (m1+n)) 4611686018427387904=min (s.m1+n) aD:=λj=>by
   rw[y.2 j];have:=hi j;unfold aD at ah ⊢;rw[lm Ω Ω]
  have am:ey U g gs A B {s with m1:=min (s.m1+n) aD} z:=⟨V.aa a,ak.aa a (λhe=>V.1 he.symm) (λr an he=>an.1 (.inl he)),⟨by show 0<=min _ _;unfold aD;omega,by show min _ _<=_;omega,al.2.2⟩,big,C,E,_,sv,f,⟨y.1,key⟩,aw.aa G a λr _ h H=>uj h V.2.1 H⟩;refine(um am).Y ?_;rintro _ ab _ ⟨ao,N⟩;refine J _ ((a.F ao).Y λr _ h=>.inl h) ?_;have e:bm (decide (16384<min (X4.wrap (m1+n)) 4611686018427387904)) {s with m1:=min (s.m1+n) aD}=lj n s:=by
   cases j:s.big with
   |false=>rw[key j,<-j];rfl
   |true=>simp[lj,bm,j]
  rw[e]at N;exact N
def kk(d6:Λ)(s:Option aN):Option (List (Λ×Int)×aN):=s.bind (ed d6)
def mL(w:x5)(m:Nat)(acc:List (Λ×Int)):Prop:=db w m (acc.map λp=>(ch (eY p.1),Δ 1))
def lU(w:x5)(m:Nat):Prop:=∃d,db w m d/\∀p∈d,∃(k:ByteArray)(c:Int),p=(.string k,Δ c)
theorem mL.any{m:Nat}{acc:List (Λ×Int)}(h:mL w m acc):lU w m:=⟨_,h,λp ae=>by
 obtain⟨q,_,rfl⟩:=l9.1 ae;exact⟨_,_,rfl⟩⟩
theorem N7{m:Nat}{k:ByteArray}(h:lU w m)(e:∀c:Int,K (Δ c)):ad x8 (Instr.lookup iy (.map (σ m)) (.string k) sp) w K:=by
 obtain⟨d,hm,f⟩:=h;have hk:=Keys.str df.u;have q:∀p∈d,∃s,p.1=x4.string s:=λp ae=>by obtain⟨s,c,rfl⟩:=f p ae;exact⟨s,rfl⟩
 by_cases he:∃p∈d,p.1=x4.string k
 .obtain⟨p,ae,a⟩:=he;obtain⟨j,r⟩:=Y5.1 ae;obtain⟨s,c,rfl⟩:=f p ae;have a:x4.string s=x4.string k:=a;rw[a]at r;rw[sa iy.u hk hm q ⟨k,rfl⟩ r];exact e c
 .have x:∀p∈d,p.1≠x4.string k:=λp ae h=>he ⟨p,ae,h⟩;rw[ut iy.u hk ⟨_,_,al.i⟩ hm q ⟨k,rfl⟩ x];exact e 0
theorem N8{m:Nat}{k:ByteArray}{K:Unit->x5->Prop}(h:lU w m)(q:∀I,ai (λr=>r=m) w I->lU I m->K () I):aL x8 (Instr.mapUpdate iy (.map (σ m)) (.string k) (Δ c)) w K:=by
 obtain⟨d,hm,a⟩:=h;have x:∀p∈d,∃s,p.1=x4.string s:=λp ae=>by obtain⟨s,c,rfl⟩:=a p ae;exact⟨s,rfl⟩
 refine qQ iy.u (Keys.str df.u) hm x ⟨k,rfl⟩ (λj v0 I y e f=>q I f ⟨_,e,λp ae=>?_⟩) (λI z e f=>q I f ⟨_,e,λp ae=>?_⟩)
 .rcases U5 ae with ae|rfl
  .exact a p ae
  .exact⟨_,_,rfl⟩
 .rcases j9.1 ae with ae|ae
  .exact a p ae
  .rw[Y4.1 ae];exact⟨_,_,rfl⟩
theorem Dw{b:Λ}(e:∀x∈a,0<=x)(f:∀x∈b,0<=x)(h:ch (eY a)=ch (eY b)):a=b:=by
 have h:=x4.string.inj h;exact Ce e f (str_inj (Cf a) (Cf b) h)
theorem xT{acc:List (Λ×Int)}:∀p∈acc.map λp=>(ch (eY p.1),V3 .i64 1),∃s,p.1=x4.string s:=λp ae=>by
 obtain⟨q,_,rfl⟩:=l9.1 ae;exact⟨_,rfl⟩
theorem Dx{m:Nat}{acc:List (Λ×Int)}(h:mL w m acc)(e:∀p∈acc,∀x∈p.1,0<=x)(f:∀x∈t,0<=x):
  ad x8 (Instr.lookup iy (.map (σ m)) (ch (eY t)) sp) w K=K (Δ (if t∈acc.map (·.1)then 1 else 0)):=by
 have hk:=Keys.str df.u;by_cases he:t∈acc.map (·.1)
 .rw[m3 he];obtain⟨p,ae,rfl⟩:=l9.1 he;obtain⟨j,r⟩:=Y5.1 ae;rw[sa iy.u hk h xT ⟨_,rfl⟩ (by rw[u4,r];rfl)];simp
 .rw[m5 he];rw[ut iy.u hk ⟨_,_,al.i⟩ h xT ⟨_,rfl⟩ (λp ae s=>?_)]
  .simp
  .obtain⟨q,a,rfl⟩:=l9.1 ae;have:=Dw (e q a) f s;exact he (l9.2 ⟨q,a,this⟩)
theorem N9{m:Nat}{acc:List (Λ×Int)}{K:Unit->x5->Prop}(h:mL w m acc)(z:∀p∈acc,∀x∈p.1,0<=x)(A:∀x∈t,0<=x)(B:t∉acc.map (·.1))(C:∀I,ai (λr=>r=m) w I->mL I m (acc++[(t,c)])->K () I):aL x8 (Instr.mapUpdate iy (.map (σ m)) (ch (eY t)) (Δ 1)) w K:=by
 refine qQ iy.u (Keys.str df.u) h xT ⟨_,rfl⟩ (λj v0 I e f s=>?_) (λI _ f s=>C I s ?_)
 .rw[u4]at e;obtain⟨q,y,a⟩:=Z9.1 e;have a:=congrArg Prod.fst a;have:=Dw (z q (x7 y)) A a;exact m6 (l9.2 ⟨q,x7 y,this⟩) B
 .unfold mL;rw[Z0];exact f
theorem Oa{m:Nat}{acc:List (Λ×Int)}{ok:Prop}{K:Unit->x5->Prop}(e:lU w m)(z:ok->mL w m acc/\(∀p∈acc,∀x∈p.1,0<=x)/\(∀x∈t,0<=x)/\t∉acc.map (·.1))(f:∀I,ai (λr=>r=m) w I->lU I m->(ok->mL I m (acc++[(t,c)]))->K () I):
  ad x8 (Instr.lookup iy (.map (σ m)) (ch (eY t)) sp) w λA=>
  ad x8 (aS .add al sp s2 A (Δ 1)) w λB=>
  aL x8 (Instr.mapUpdate iy (.map (σ m)) (ch (eY t)) B) w K:=by
 by_cases j:ok
 .obtain⟨h1,q,s,y⟩:=z j;rw[Dx h1 q s,m5 y,aT,lm Ω Ω];exact N9 h1 q s y λI a V=>f I a V.any λ_=>V
 .refine N7 e λgw=>?_;rw[aT];exact N8 e λI a V=>f I a V λh=>m6 h j
def fR{α:Type}(f:List α->aN->Option (α×aN))(n:Nat)(acc:List α)(o:Option aN):Option (List α×aN):=o.bind (da f n acc)
theorem lU.aa{m:Nat}(h:lU w m)(J:ai S w I)(a:¬S m):lU I m:=by
 obtain⟨d,h1,e⟩:=h;exact⟨d,h1.aa J a,e⟩
theorem dz.words{g:Nat}{A:aj}{B:aj}{a:Bool}{s:aN}(h:dz w g gs A B a (σ s)):s.hp.length<=100000:=by
 have h:=h;exact h.2.1.words.1
theorem Dy{acc:List (Λ×Int)}{st:aN}(j:∀q,gD d6 [] (σ st)=σ q->t=q.1)(a:∀q,bk 0 aD ((gD d6 [] (σ st)).map (·.2))=σ q->c=q.1):
  (bk 0 aD ((gD d6 [] (σ st)).map (·.2))=ν->eX d6 acc st=ν)/\∀q,bk 0 aD ((gD d6 [] (σ st)).map (·.2))=σ q->eX d6 acc st=if t∈acc.map (·.1)then ν else σ ((t,c),q.2):=by
 have e:gD d6 [] (σ st)=kG d6 [] st:=rfl;rw[e]at j a ⊢;unfold eX;cases h1:kG d6 [] st with
 |none=>exact⟨λ_=>rfl,λq f=>(by cases f)⟩
 |some q=>
  obtain⟨bu,s1⟩:=q;rw[h1]at j a;have:=j _ rfl;subst this;have r:bk 0 aD ((σ (t,s1)).map (·.2))=bq 0 aD s1:=rfl;rw[r]at a ⊢;simp only;cases s:bq 0 aD s1 with
  |none=>exact⟨λ_=>rfl,λq f=>(by cases f)⟩
  |some q=>
   obtain⟨w,x⟩:=q;rw[s]at a;have:=a _ rfl;subst this;exact⟨λh=>(by cases h),λq f=>(by cases f;rfl)⟩
theorem Ob{g:Nat}{A B:aj}{s:Option aN}{Z:Bool}{Q:x4->x5->Prop}(h:dz w g gs A B Z s)(b0:aQ .i64 w sv d6)(aV:∀r,lc sv r->¬bS g gs A r/\r<w.heap.size)(b2:∀z∈d6,1<=z/\z<=aD)(b3:d6.length<=100001)(b4:fD w)(h1:cW g gs A B 1)(b5:(N:Int)<=aD)(bt:∀v I l,gB w g gs A B Z ((fR (eX d6) N [] s).map (·.2)) I->bw (e4 w.heap.size) bU I [v] (show List (Λ×Int)from l)->(∀q,fR (eX d6) N [] s=σ q->l=q.1)->Q v I):
  aL x8 (Instr.makeMap iy ν) w λaY y=>
 cp (.slice ν 0 0) (Δ 0) y λout i H k=>
  cG (α:=x4->x5->Prop) (λ(b6:x4)(U:x5)=>
   Split b6 (aL x8 (Instr.alloc eE s2 (.tuple #[])) U λx j=>
  ad x8 (X7 #[aA] al #[sv]) j λb7=>
  cp (.string ⟨#[]⟩) (Δ 0) j λkey a1 V b8=>
   ad x8 (aS .lss al sp sp a1 b7) V λb9=>
   Split b9 (ad x8 (n9 aA sv a1) V λca=>
   ad x8 (u5 ay ca) V λcb=>
   ad x8 (aS .sub ay sp s2 cb (Δ 1)) V λcc=>
   aq x8 pc [Γ g,(Δ 0),cc] V λbu ab=>
   ad x8 (Z7 bu 0) ab λbx=>
   ad x8 (Z7 bu 1) ab λdu=>
   ad x8 (u6 eE x 0) ab λcd=>
   ad x8 (u5 aA cd) ab λce=>
   aL x8 (Y3 aA 1 #[(0,bx)]) ab λcf K=>
   aL x8 (c9 #[aA,aA] aA #[ce,cf]) K λcg bz=>
   ad x8 (u6 eE x 0) bz λch=>
   aL x8 (o7 aA ch cg) bz λ(_:Unit)ci=>
   aq x8 wR [bx] ci λcj aF=>
   ad x8 (aS .add df sp s2 cj (.string ⟨#[32]⟩)) aF λck=>
   ad x8 (aS .add df sp sp key ck) aF λcl=>
   ad x8 (aS .add al sp s2 a1 (Δ 1)) aF λcm=>
   b8 cl cm aF)
    (aq x8 pc [Γ g,(Δ 0),(Δ 4611686018427387904)] V λbC aG=>
  ad x8 (Z7 bC 0) aG λcn=>
  ad x8 (Z7 bC 1) aG λcq=>
  ad x8 (u6 eE x 1) aG λcr=>
  aL x8 (o7 ay cr cn) aG λ(_:Unit)ct=>
  cG (α:=x5->Prop) (λ(W:x5)=>
   ad x8 (Instr.lookup iy aY key sp) W λcu=>
   ad x8 (aS .add al sp s2 cu (Δ 1)) W λcw=>
   aL x8 (Instr.mapUpdate iy aY key cw) W λ(_:Unit)af=>
   ad x8 (u5 eE x) af λcz=>
   aL x8 (Y3 kb 1 #[(0,cz)]) af λcA au=>
   aL x8 (c9 #[kb,kb] kb #[out,cA]) au λcB aI=>
   ad x8 (aS .add ay sp s2 i (Δ 1)) aI λcC=>
  k cB cC aI) λbE=>
  cG (α:=x4->x5->Prop) (λ(cD:x4)(O:x5)=>
   Split cD (aq x8 pd [Γ g,(Δ 4),cq] O λdv bG=>
    bE bG)
    (bE O)) λbH=>
  aq x8 ml [Γ g] ct λcE ah=>
  Split cE (ad x8 (Instr.lookup iy aY key sp) ah λcF=>
  ad x8 (aS .gtr al sp s2 cF (Δ 0)) ah λcH=>
  bH cH ah)
   (bH (.bool sp) ah)))
    (Q out U)) λbJ=>
  ad x8 (aS .lss ay sp sp i (Δ (N:Int))) H λcI=>
  Split cI (aq x8 ml [Γ g] H λcJ cK=>
  bJ cJ cK)
   (bJ (.bool sp) H):=by
 obtain⟨dw,dx,dy,cL,aJ⟩:=h.side;have ag:∀r,bS g gs A r->r<w.heap.size:=cL;unfold aD at b5;refine r7 λC y dA a2 a7=>?_;have dC:=a2.size;have dD:=a7.lt;generalize E:fR (eX d6) N [] s=bK at bt;refine⟨λout a8 H=>∃(i:Nat)(acc:List (Λ×Int))(so:Option aN),a8=Δ (i:Int)/\i<=N/\ai (bS g gs A) w H/\y.heap.size<=H.heap.size/\bw (e4 y.heap.size) bU H [out] acc/\dz H g gs A B Z so/\
   bK=fR (eX d6) (N-i) acc so/\lU H C/\acc.length<=100001/\∀st,so=σ st->mL H C acc/\(∀p∈acc,∀x∈p.1,0<=x)/\acc.length+st.hp.length<=100000,
  λ_ a8 _=>N-(b1 a8).toNat,⟨0,[],s,rfl,W3 _,a2.aa _,o6 _,gx,h.W a2,E.symm,⟨[],a7,λp ae=>(by cases ae)⟩,Ξ,λst cM=>⟨a7,λp ae=>(by cases ae),?_⟩⟩,?_⟩
 .subst cM;have:=h.words;simpa using this
 rintro out _ H ⟨i,acc,so,rfl,dE,bL,z9,aC,bc,aK,cN,dF,bd⟩;refine a6 (λv U=>Ext H U/\((v= .bool s2/\i<N/\∃st,so=σ st)\/(v= .bool sp/\(so=ν\/i=N)))) ?_ ?_
 rotate_left
 .intro az bf;rw[aW,ao];refine⟨λcO=>?_,λdG=>bf _ _ ⟨Ext.refl _,.inr ⟨rfl,.inr Ω⟩⟩⟩;refine(qU bc).Y ?_;rintro _ U _ ⟨rfl,P⟩;cases so with
  |none=>exact bf _ _ ⟨P,.inr ⟨rfl,.inl rfl⟩⟩
  |some st=>exact bf _ _ ⟨P,.inl ⟨rfl,Ω,st,rfl⟩⟩
 rintro _ U ⟨P,cP⟩;rcases cP with⟨rfl,cO,st,rfl⟩|⟨rfl,cQ⟩
 rotate_left
 .rw[bb];have bM:bK=so.map λst=>(acc,st):=by
   rcases cQ with rfl|rfl
   .exact aK
   .rw[V7]at aK;rw[aK];cases so<;>rfl
  refine bt out U acc (gB.mk (bL.F (P.aa _)) ?_) (bD (aw.Y aC (λr _ h=>by have h:y.heap.size<=r:=h;show w.heap.size<=r;omega) λ_ _ h=>h) P) (λq L=>?_)
  .rw[bM,Option.map_map];have e:V6 ((λx=>x.2)∘λst=>(acc,st)) so=so:=by cases so<;>rfl
   rw[e];exact bc.W P
  .rw[bM]at L;cases so with
   |none=>cases L
   |some st=>cases L;rfl
 rw[bT];obtain⟨bd,bg,dH⟩:=bd st rfl;have dI:=P.size;refine bF eE.i λav j dJ bN bO=>?_;have ax:=P.F bN;have bh:ai (bS g gs A) w j:=bL.F (ax.aa _);have bP:aQ .i64 j sv d6:=jm b0 bh λr f a n c ac cR=>(aV r ⟨a,n,c,ac,cR⟩).1 f;rw[ba aA.u bP];have aM:¬bS g gs A av:=λE=>by have:=ag _ E;omega
 refine N4 (s:=σ st) (bc.W ax) bP (λr f=>⟨(aV r f).1,by have:=(aV r f).2;omega⟩) b2 b3 (b4.aa bh h1.1) h1 bO aM (λcS=>by have:=aJ _ cS;omega) λt V aX gt dK cT bQ cU cV cX cY cZ=>?_;have dL:=bN.size;have z12:=bQ.size;have dM:=bO.lt;have bi:∀x∈t,0<=x:=λx J=>(cT x J).1;refine(nL cY).Y ?_;rintro _ ab _ ⟨bj,c,dN,rfl,c0,dO⟩;obtain⟨aO,c1⟩:=bj.of;have dP:=aO.size;rw[bA,bB,aZ eE.p rfl];refine bs (g:=av) (o:=1) ay.i rfl rfl (cU.aa aO aM) Ξ λK aP dQ bl=>?_;have bl:ak K av eE [aX,Δ c]:=bl;have c2:aH .i64 ay K gt aX t:=(cV.aa aO (λ_ E=>by have:=ag _ E;omega)).aa aP (λ_ he=>by have he:gt=av:=he;omega);have bm:ai (λr=>bS g gs A r\/r=av) j K:=(bQ.F (aO.Y λr _ h=>.inl h)).F (aP.Y λr _ h=>.inr h);have X:dz K g gs A B Z ((bk 0 aD ((gD d6 [] (σ st)).map (·.2))).map (·.2)):=c1.aa aP (λr f he=>by have he:r=av:=he;exact aM (he▸f)) (λr f he=>by have:=aJ r f.2;have he:r=av:=he;omega);have bR:¬(λr=>bS g gs A r\/r=av) C:=λh=>h.elim (λh=>by have:=ag _ h;omega) (λh=>Ω);have c3:lU K C:=(cN.aa (ax.aa (λ_=>False)) (λh=>h)).aa bm bR;have bV:mL K C acc:=(db.W bd ax).aa bm bR;obtain⟨bn,bo⟩:=Dy (acc:=acc) cZ c0;refine dd (λW=>ai (bS g gs A) K W/\dz W g gs A B Z ((eX d6 acc st).map (·.2))) ?_ ?_
 .rintro W ⟨am,c4⟩;have bp:¬bS g gs A C:=λh=>by have:=ag _ h;omega
  have dR:=aP.size;have dS:=am.size;refine Oa (acc:=acc) (t:=t) (c:=c) (ok:=∃q,eX d6 acc st=σ q) (c3.aa am bp) (λ⟨q,L⟩=>⟨db.aa bV am bp,bg,bi,λS=>?_⟩) λaf aB c5 c6=>?_
  .cases M:bk 0 aD ((gD d6 [] (σ st)).map (·.2))with
   |none=>rw[bn M]at L;cases L
   |some an=>rw[bo an M,m3 S]at L;cases L
  have dT:=aB.size;have c7:ak af av eE [aX,Δ c]:=(bl.aa am aM).aa aB (λhe=>by have he:av=C:=he;omega);have c8:aH .i64 ay af gt aX t:=(c2.aa am (λ_ E=>by have:=ag _ E;omega)).aa aB (λ_ he=>by have he:gt=C:=he;omega);rw[bI eE.p eE.i rfl c7.range];have bX:bw (e4 j.heap.size) bU af [aX,Δ c] (t,c):=⟨[aX],[Δ c],e4 j.heap.size,bU,rfl,λ_ h=>h,λ_ h=>h.elim,λ_ _ _ h=>h,aw.Y (mr c8) (λr _ h=>by subst h;exact cX) (λ_ _ h=>h),rfl⟩;refine jL (α:=Λ×Int) (a:=(t,c)) (cs:=[aX,Δ c]) (A:=e4 j.heap.size) (R:=bU) kb.u eE.i Φ rfl bX λu au ap _ da=>?_;have z22:=ap.size;have dc:bw (λr=>e4 y.heap.size r/\r<j.heap.size/\r≠av) bU j [out] acc:=bD (aw.Y (nE aC) (λr _ h=>⟨h.1,by have:=h.2;omega,by have:=h.2;omega⟩) λ_ _ h=>h) ax;have bY:ai (λr=>bS g gs A r\/r=av\/r=C) j au:=(((bm.Y λr _ h=>h.elim .inl λh=>.inr (.inl h)).F (am.Y λr _ h=>.inl h)).F (aB.Y λr _ h=>.inr (.inr h))).F (ap.aa _);have de:=aw.aa dc bY λr f h E=>by
   rcases h with h|h
   .have aR:y.heap.size<=r:=h.1;rcases E with E|E|E
    .have:=ag _ E;omega
    .exact h.2.2 E
    .omega
   .exact h
  refine oj (α:=Λ×Int) (a:=(t,c)) (A:=e4 j.heap.size) kb.u eE.i rfl de da (bD bX ap) (λr _ h be=>?_) Ω Ω λdU aI dg aE=>?_
  .rcases be with be|be
   .have:=h.2;have:j.heap.size<=r:=be;omega
   .exact be
  have dV:=aE.size;rw[aT,lm Ω Ω];have dh:ai (bS g gs A) w au:=iU bh bY λr f h=>by
   rcases h with h|h|h
   .exact h
   .omega
   .omega
  have di:ai (bS g gs A) w aI:=iU dh aE λr f h=>by have aR:y.heap.size<=r:=h.1;omega
  have dj:dz au g gs A B Z ((eX d6 acc st).map (·.2)):=(c4.aa aB (λr f he=>by have he:r=C:=he;exact bp (he▸f)) (λr f he=>by have:=aJ r f.2;have he:r=C:=he;omega)).W ap;have dk:∀r,bS g gs A r->¬(e4 y.heap.size r/\r<j.heap.size/\r≠av):=λr f he=>by have:=ag _ f;have aR:y.heap.size<=r:=he.1;omega
  have dl:∀r,cW g gs A B r->¬(e4 y.heap.size r/\r<j.heap.size/\r≠av):=λr f he=>by have:=aJ r f.2;have aR:y.heap.size<=r:=he.1;omega
  have bZ:¬(e4 y.heap.size C/\C<j.heap.size/\C≠av):=λhe=>by have aR:y.heap.size<=C:=he.1;omega
  refine⟨⟨i+1,acc++[(t,c)],(eX d6 acc st).map (·.2),rfl,Ω,di,Ω,?_,dj.aa aE dk dl,?_,(c5.aa (ap.aa (λ_=>False)) (λh=>h)).aa aE bZ,Θ,λdm dn=>?_⟩,by simp only[b1];omega⟩
  .refine aw.Y dg (λr _ h=>?_) λ_ _ h=>h;show y.heap.size<=r;rcases h with h|h|h
   .exact h.1
   .have h:j.heap.size<=r:=h;omega
   .omega
  .rw[aK,show N-i=(N-(i+1))+1 by omega];cases G:eX d6 acc st with
   |none=>exact qO G
   |some q=>
    obtain⟨a,dm⟩:=q;have dp:a=(t,c):=by
     cases M:bk 0 aD ((gD d6 [] (σ st)).map (·.2))with
     |none=>rw[bn M]at G;cases G
     |some an=>
      rw[bo an M]at G;split at G
      .cases G
      .cases G;rfl
    subst dp;exact uq G
  .obtain⟨q,L,rfl⟩:=Z9.1 dn;have dW:=(qL L).2.2.2.1;refine⟨db.aa ((db.W (c6 ⟨q,L⟩) ap)) aE bZ,λp ae=>?_,by simp only[j6,List.length_singleton];omega⟩;rcases j9.1 ae with ae|ae
   .exact bg p ae
   .rw[Y4.1 ae];exact bi
 .intro dX bq;cases M:bk 0 aD ((gD d6 [] (σ st)).map (·.2))with
  |none=>
   rw[M]at X;have G:=bn M;refine a6 (λv O=>Ext K O/\v= .bool sp) ?_ ?_
   .rintro _ O ⟨Y,rfl⟩;rw[bb];exact bq _ ⟨Y.aa _,by rw[G];exact X.W Y⟩
   .intro dq br;refine(qU X).Y ?_;rintro _ ah _ ⟨rfl,aU⟩;rw[show((ν:Option (Int×aN)).map (·.2)).isSome=sp from rfl,bb];exact br _ _ ⟨aU,rfl⟩
  |some an=>
   rw[M]at X;have G:=bo an M;refine a6 (λv O=>Ext K O/\v= .bool (decide (t∈acc.map (·.1)))) ?_ ?_
   .rintro _ O ⟨Y,rfl⟩;rw[ao];refine⟨λS=>?_,λdr=>?_⟩
    .refine (N3 (X.W Y) Ω).Y ?_;rintro _ bG _ bj;obtain⟨ds,dt⟩:=bj.of;exact bq _ ⟨(Y.aa _).F ds,by rw[G,m3 S];exact dt⟩
    .exact bq _ ⟨Y.aa _,by rw[G,m5 dr];exact X.W Y⟩
   .intro dq br;refine(qU X).Y ?_;rintro _ ah _ ⟨rfl,aU⟩;rw[show((σ an:Option (Int×aN)).map (·.2)).isSome=s2 from rfl,bT,Dx (db.W bV aU) bg bi,bW];refine br _ _ ⟨aU,?_⟩;congr 1;by_cases S:t∈acc.map (·.1)
    .rw[m3 S,ms S];rfl
    .rw[m5 S,rc S];rfl
theorem Dz(d6:Λ)(s:Option aN):kk d6 s=match bk (-aD) aD s with
 |none=>ν
 |some (n,s)=>
  if n<0 then match s.m2[(-n-1).toNat]? with
   |none=>ν
   |some (z,l)=>if z=d6 then σ (l,s)else ν
  else da (eX d6) n.toNat [] (lj n s):=by
 cases s with
 |none=>rfl
 |some s=>
  show ed d6 s=_;unfold ed;show _=match bq (-aD) aD s with
   |none=>ν
   |some (n,s)=>
    if n<0 then match s.m2[(-n-1).toNat]? with
     |none=>ν
     |some (z,l)=>if z=d6 then σ (l,s)else ν
    else da (eX d6) n.toNat [] (lj n s)
  cases bq (-aD) aD s<;>rfl
theorem DA{m:Bool}{S R:aj}{a:lR}(h:aw.rep (α:=lR) m S R w cs a):∃u v,cs=[u,v]/\aw.rep (α:=Λ) sp bU R w [u] a.1/\aw.rep (α:=List (Λ×Int)) sp bU R w [v] a.2:=by
 obtain⟨c,d,f,j,rfl,_,_,_,h1,e⟩:=h;have h1:=h1;have e:=e;obtain⟨u,rfl⟩:=X9.1 (show c.length=1 from aw.len h1);obtain⟨v,rfl⟩:=X9.1 (show d.length=1 from aw.len e);exact⟨u,v,rfl,h1,e⟩
theorem Oc{g:Nat}{A B:aj}{s:Option aN}{L:Bool}(h:dz w g gs A B L s)(hi:∀t,s=σ t->ee t)(ap:aQ .i64 w sv d6)(ad:∀r,lc sv r->¬bS g gs A r/\r<w.heap.size)(au:∀z∈d6,1<=z/\z<=aD)(av:d6.length<=100001)(aw:fD w)(h1:cW g gs A B 1):
  aq x8 JZ [Γ g,sv] w λv I=>gB w g gs A B L ((kk d6 s).map (·.2)) I/\∃l,Seen (λr=>cW g gs A B r\/w.heap.size<=r) I [v] (show List (Λ×Int)from l)/\∀q,kk d6 s=σ q->l=q.1:=by
 have ax:=h.side;obtain⟨a2,a7,a8,ay,ba⟩:=id ax;have ag:∀r,bS g gs A r->r<w.heap.size:=ay;refine aE func173 ?_;refine(nL (lo:=-aD) (hi:=aD) h).Y ?_;rintro _ U _ ⟨aA,n,at_,rfl,M,bc⟩;obtain⟨H,ae⟩:=aA.of;have bd:=H.size;have j:=Dz d6 s;rw[bA,bB];have af:=jm ap H λr O a n c ac P=>(ad r ⟨a,n,c,ac,P⟩).1 O;have be:∀r,lc sv r->¬bS g gs A r/\r<U.heap.size:=by grind
 have rest:∀ab,Ext U ab->(∀q,bk (-aD) aD s=σ q->¬n<0)->∀N:Nat,n=(N:Int)->(N:Int)<=aD->∀x,ai (bS g gs A) ab x->dz x g gs A B L (((bk (-aD) aD s).map (·.2)).map (lj n))->
   ∀v I l,gB x g gs A B L ((fR (eX d6) N [] (((bk (-aD) aD s).map (·.2)).map (lj n))).map (·.2)) I->bw (e4 x.heap.size) bU I [v] (show List (Λ×Int)from l)->(∀q,fR (eX d6) N [] (((bk (-aD) aD s).map (·.2)).map (lj n))=σ q->l=q.1)->
   gB w g gs A B L ((kk d6 s).map (·.2)) I/\∃l,Seen (λr=>cW g gs A B r\/w.heap.size<=r) I [v] (show List (Λ×Int)from l)/\∀q,kk d6 s=σ q->l=q.1:=by
  intro ab y J N Q R x E S v I l aB aC aG;obtain⟨aH,aI⟩:=aB.of;have aJ:=y.size;have z3:=E.size;have e:kk d6 s=fR (eX d6) N [] (((bk (-aD) aD s).map (·.2)).map (lj n)):=by
   rw[j];cases f:bk (-aD) aD s with
   |none=>rfl
   |some q=>
    obtain⟨aK,s1⟩:=q;have:=M _ f;subst this;simp only;rw[m5 (J _ f),Q,u7];rfl
  rw[e];refine⟨gB.mk (((H.F (y.aa _)).F E).F aH) aI,l,qx aC λr _ h=>?_,aG⟩
  grind
 refine a6 (λv ab=>Ext U ab/\v= .bool (decide (n<0/\(bk (-aD) aD s).isSome=s2))) ?_ ?_
 rotate_left
 .intro az V;refine(qU ae).Y ?_;rintro _ ab _ ⟨rfl,y⟩;cases f:bk (-aD) aD s with
  |none=>
   rw[show((ν:Option (Int×aN)).map (·.2)).isSome=sp from rfl,bb]
   grind
  |some q=>
   rw[show((σ q:Option (Int×aN)).map (·.2)).isSome=s2 from rfl,bT,aW]
   grind
 rintro _ ab ⟨y,rfl⟩;have G:=ae.W y;have aJ:=y.size;rw[ao];refine⟨λJ=>?_,λbf=>?_⟩
 rotate_left
 .have J:∀q,bk (-aD) aD s=σ q->¬n<0:=by grind
  obtain⟨N,Q,R⟩:∃N:Nat,n=(N:Int)/\(N:Int)<=aD:=by
   cases f:bk (-aD) aD s with
   |none=>grind [aD]
   |some q=>
    have h1:=J q f;have aL:=oA f
    grind
  refine N6 G (λt aM=>?_) λx E S=>?_
  .obtain⟨q,f,rfl⟩:=Z9.1 aM;have aL:=oA f;have bg:=M q f;refine⟨Ω,Ω,?_⟩;cases s with
   |none=>cases f
   |some s0=>
    have ah:=(dP f).eqs;have ak:=hi s0 rfl;intro al;rw[ah.1];rw[ah.2.1]at al;exact ak al
  .have z3:=E.size;have aP:ai (bS g gs A) w x:=(H.F (y.aa _)).F E;subst Q;refine Ob S ((jm (af.W y) E λr O a n c ac P=>(ad r ⟨a,n,c,ac,P⟩).1 O)) (by grind) au av (aw.aa aP h1.1) h1 R λv I l a b c=>?_;exact rest ab y J N rfl R x E S v I l a b c
 .obtain⟨aR,aS⟩:=J;obtain⟨⟨aK,s1⟩,f⟩:=Option.isSome_iff_exists.1 aS;have:=M _ f;subst this;have bh:=oA f;rw[f]at j G;simp only at j;rw[m3 aR]at j;have G:=G;obtain⟨_,ak,bi,big,bj,bl,m1,bm,W,bn,X⟩:=id G;have bo:aD=4611686018427387904:=rfl;refine a6 (λv x=>Ext ab x/\v= .bool (decide (kk d6 s=ν))) ?_ ?_
  .rintro _ x ⟨C,rfl⟩;rw[ao];refine⟨λaT=>?_,λaU=>?_⟩
   .refine (ul (G.W C) Ω).Y ?_;rintro _ bp _ ⟨aV,aX⟩;rw[aT];refine⟨gB.mk (((H.F (y.aa _)).F (C.aa _)).F (aV.Y λr _ h=>.inl h)) aX,[],gx,by grind⟩
   .cases K:s1.m2[(-n-1).toNat]? with
    |none=>rw[K]at j;exact m6 j aU
    |some q=>
     obtain⟨z,l⟩:=q;rw[K]at j;simp only at j;have aY:z=d6:=by
      grind
     rw[m3 aY]at j;rw[aO cK.p 3 (W.W C) rfl,nA,lm Ω Ω,dm,lm Ω Ω];refine k7 (i:=(-n-1).toNat) Ω iR.u k1.i (bD X C) K λb o cs Y Z=>?_;obtain⟨u,v,rfl,hu,ac⟩:=DA Z;rw[aZ k1.p rfl,aF Ψ (Y 1 v rfl)];rw[j];refine⟨gB.mk ((H.F (y.aa _)).F (C.aa _)) (G.W C),l,qx ac λr _ h=>?_,by grind⟩
     grind
  .intro az V;rw[nA,lm Ω Ω,aO cK.p 3 W rfl,ij iR.u X,bW,ao];refine⟨λam=>V _ _ ⟨Ext.refl _,?_⟩,λan=>?_⟩
   .have am:(s1.m2.length:Int)<0-n:=am;rw[W7 Ω]at j;rw[ms j]
   .have an:¬(s1.m2.length:Int)<0-n:=an;have a1:(-n-1).toNat<s1.m2.length:=Ω
    obtain⟨⟨z,l⟩,K⟩:∃q,s1.m2[(-n-1).toNat]?=σ q:=⟨_,v8 a1⟩;rw[aO cK.p 3 W rfl,nA,lm Ω Ω,dm,lm Ω Ω];refine k7 (i:=(-n-1).toNat) Ω iR.u k1.i X K λb o cs Y Z=>?_;obtain⟨u,v,rfl,hu,ac⟩:=DA Z;rw[aZ k1.p rfl,aF Ψ (Y 0 u rfl)];refine(LI (ew hu) (af.W y)).Y ?_;rintro _ x _ ⟨rfl,C⟩;rw[bR];refine V _ _ ⟨C,?_⟩;rw[K]at j;simp only at j;by_cases bq:z=d6
    all_goals grind
abbrev qV(n:Nat):aj:=λr=>r<n
def sn(n:Int)(k:Nat)(s:Option aN):Option (Λ×aN):=s.bind (fm n k)
theorem Od{g k:Nat}{A B:aj}{s:Option aN}{m:Int}(h:dz w g gs A B f s)(hk:k<=4611686018427387904)(hm:0<=m/\m<=1000000):
  aq x8 A8 [Γ g,Δ (k:Int),Δ m] w λv I=>gB w g gs A B f ((sn m k s).map (·.2)) I/\
   ∃gr l,aH .i64 ay I gr v l/\(∀r,lc v r->w.heap.size<=r)/\l.length<=100001/\∀q,sn m k s=σ q->l=q.1:=by
 cases s with
 |some s=>exact M3 h hk hm
 |none=>
  have h:=h;refine aE func171 ?_;refine⟨λout x U=>w=U/\out= .slice ν 0 0/\x=Δ 0,λ_ _ _=>0,⟨rfl,rfl,rfl⟩,?_⟩;rintro _ _ _ ⟨rfl,rfl,rfl⟩;refine a6 (λv ab=>Ext w ab/\v= .bool sp) ?_ ?_
  .rintro _ ab ⟨e,rfl⟩;rw[bb];exact⟨gB.mk (e.aa _) (h.W e),0,[],aH.nil _ _ _ _,λr y=>m6 y (λh=>by obtain⟨a,n,c,h,_⟩:=h;cases h),Ξ,λq z=>by cases z⟩
  .intro az j;rw[aW,ao];refine⟨λ_=>?_,λ_=>j _ _ ⟨Ext.refl _,rfl⟩⟩;refine(pD h).Y ?_;rintro _ ab _ ⟨rfl,e⟩;exact j _ _ ⟨e,rfl⟩
def uD(z:Λ)(l:List (Λ×Int))(s:aN):aN:={s with m2:=s.m2++[(z,l)]}
def DB(w:x5)(g gs:Nat):Prop:=∃(e big a f m1:Int)(sv:x4),ak w g cK (jp gs e big a f m1 sv)/\e≠0
def iW(w:x5)(g gs:Nat)(A:aj)(B:aj)(a:Bool)(s:Option aN):Prop:=match s with
 |some s=>ey w g gs A B s a
 |none=>DB w g gs
theorem dz.q{g:Nat}{A:aj}{B:aj}{a:Bool}{s:Option aN}(h:dz w g gs A B a s):iW w g gs A B a s:=by
 cases s with
 |some s=>exact h
 |none=>
  obtain⟨_,e,big,f,j,m1,sv,l,r,x,_⟩:=h;exact⟨e,big,f,j,m1,sv,r,x.1⟩
theorem iW.aa{g:Nat}{A:aj}{B:aj}{a:Bool}{s:Option aN}(h:iW w g gs A B a s)(J:ai S w I)(j:¬S g)(q:∀r,bS g gs A r->r<w.heap.size->¬S r)(x:∀r,cW g gs A B r->¬S r):iW I g gs A B a s:=by
 cases s with
 |some s=>
  have h:=h;exact ey.aa h J (λr f=>q r f (h.1.2.2.2.1 r f)) x
 |none=>
  obtain⟨e,big,y,z,m1,sv,C,E⟩:=h;exact⟨e,big,y,z,m1,sv,C.aa J j,E⟩
theorem iW.W{g:Nat}{A:aj}{B:aj}{a:Bool}{s:Option aN}(h:iW w g gs A B a s)(J:Ext w I):iW I g gs A B a s:=h.aa (J.aa λ_=>False) (λh=>h) (λ_ _ _ h=>h) (λ_ _ h=>h)
theorem DC{g:Nat}{A:aj}{B:aj}{s:Option aN}{a:Bool}(h:iW w g gs A B a s):aq x8 ml [Γ g] w λv I=>v= .bool s.isSome/\Ext w I:=by
 cases s with
 |none=>
  obtain⟨e,big,q,r,m1,sv,f,j⟩:=h;refine(xB f).Y ?_;rintro _ U _ ⟨rfl,J⟩;exact⟨by rw[rc j];rfl,J⟩
 |some s=>exact qN h
theorem iV.a8{g:Nat}{R':Nat->Prop}(h:iV w g R hp f)(J:ai S w I)(q:¬S g)(s:∀r,R r->¬S r)(x:∀r,R r->R' r):iV I g R' hp f:=by
 obtain⟨y,p,a,⟨h1,z,A,B,bf,C⟩,j,E⟩:=h;exact⟨y,p,a,⟨h1,z,A,B.aa J q,bf,bE C J λr e=>s r (j r e)⟩,λr e=>x r (j r e),E⟩
theorem nM{α:Type}[aw α]{m:Bool}{S R:aj}{l:List α}(h:aw.rep m S R w [v] l):∃a n c,v= .slice a n c:=by
 obtain⟨vs,e,F,ae,he,V,hm⟩:=jK h;obtain⟨f,b,o,base,cap,rfl,_⟩:=V;exact⟨_,_,_,rfl⟩
def nN(w:x5)(g gs:Nat)(A:aj)(B:aj)(R:aj)(a:Bool)(s:Option aN):Prop:=match s with
 |some s=>mH w g gs A B/\iV w gs R s.hp a/\(0<=s.m1/\s.m1<=aD/\s.m2.length+s.hp.length<=100000)/\
  ∃big e f m1 sv,ak w g cK (jp gs 0 big e f m1 sv)/\((s.big=s2↔big≠0)/\(s.big=sp->m1=s.m1))/\bw A R w [sv] (show List lR from s.m2)
 |none=>DB w g gs
theorem nN.aa{g:Nat}{A R:aj}{B:aj}{x:Bool}{s:Option aN}(h:nN w g gs A B R x s)(J:ai S w I)(y:¬S g)(z:∀r,bS g gs A r->r<w.heap.size->¬S r)(C:∀r,R r->¬S r):nN I g gs A B R x s:=by
 cases s with
 |some s=>
  obtain⟨h1,E,F,big,a,f,m1,sv,j,q,G⟩:=h;have H:=h1.2.2.2.1;exact⟨h1.aa J,E.aa J (z gs (.inr (.inl rfl)) (H _ (.inr (.inl rfl)))) C,F,big,a,f,m1,sv,j.aa J y,q,aw.aa G J λr K h=>h.elim (λh=>z r (.inr (.inr h)) K) (C r)⟩
 |none=>
  obtain⟨e,big,a,f,m1,sv,j,q⟩:=h;exact⟨e,big,a,f,m1,sv,j.aa J y,q⟩
theorem nN.out{g:Nat}{A R B e:aj}{s:Option aN}(h:nN w g gs A B R f s)(j:∀r,R r->cW g gs A e r)(q:∀r,e r->r<w.heap.size):iW w g gs A e f s:=by
 cases s with
 |some s=>
  obtain⟨⟨x,y,z,C,P⟩,⟨E,p,a,F,G,H⟩,I,big,J,K,m1,sv,L,M,N⟩:=h;exact⟨⟨x,y,z,C,q⟩,⟨E,p,a,F,λr O=>j r (G r O),H⟩,I,big,J,K,m1,sv,L,M,aw.Y N (λ_ _ h=>h) λr _ h=>j r h⟩
 |none=>exact h
theorem dz.qr{g:Nat}{A R:aj}{B:aj}{y:Bool}{s:Option aN}(h:dz w g gs A B y s)(z:∀r,cW g gs A B r->R r):nN w g gs A B R y s:=by
 cases s with
 |some s=>
  obtain⟨h1,⟨C,p,a,E,F,G⟩,H,big,f,j,m1,sv,q,x,I⟩:=h;exact⟨h1,⟨C,p,a,E,λr J=>z r (F r J),G⟩,H,big,f,j,m1,sv,q,x,aw.Y I (λ_ _ h=>h) λr _ h=>z r h⟩
 |none=>
  obtain⟨_,e,big,f,j,m1,sv,l,q,x,_⟩:=h;exact⟨e,big,f,j,m1,sv,q,x.1⟩
theorem Oe{g M:Nat}{A B R:aj}{s:Option aN}{N:Bool}{a1 ay u:x4}{z:Λ}{l:List (Λ×Int)}{K:x5->Prop}(h:dz w g gs A B N s)(O:∀r,cW g gs A B r->R r)(ah:∀r,R r->cW g gs A (qV w.heap.size) r)(al:∀t,s=σ t->t.m2.length+1+t.hp.length<=100000)(am:ak w M cu [a1,u,ay,v])(hu:aw.rep (α:=Λ) sp bU R w [u] z)(ac:aw.rep (α:=List (Λ×Int)) sp bU R w [v] l)(az:∀I aR,ai (bS g gs A) w I->(∀r,aR r->A r\/w.heap.size<=r)->nN I g gs aR (qV w.heap.size) R N (s.map (uD z l))->K I):
  ad x8 (b0 (Γ g)) w λP=>
  ad x8 (u6 cK P 3) w λQ=>
  ad x8 (u5 iR Q) w λan=>
  ad x8 (u6 cu (Γ M) 1) w λt76=>
  ad x8 (u5 aA t76) w λt77=>
  ad x8 (u6 cu (Γ M) 3) w λaB=>
  ad x8 (u5 kb aB) w λaD=>
  ad x8 (Instr.build k1 #[(0,t77),(1,aD)]) w λaE=>
  aL x8 (Y3 iR 1 #[(0,aE)]) w λaF F=>
   (Ext w F\/cc x8 (u5 iR Q) an F/\cc x8 (u6 cK P 3) Q F/\cc x8 (b0 (Γ g)) P F/\True)/\
   aL x8 (c9 #[iR,iR] iR #[an,aF]) F λaG S=>
    ad x8 (b0 (Γ g)) S λaH=>
    ad x8 (u6 cK aH 3) S λaI=>
    aL x8 (o7 iR aI aG) S λ(_:Unit)aJ=>K aJ:=by
 obtain⟨aK,e,big,j,q,m1,sv,H,y,aC,a2,aM⟩:mH w g gs A B/\∃e big j q m1 sv,∃H:List lR,ak w g cK (jp gs e big j q m1 sv)/\bw A R w [sv] H/\H.length<=100000/\
   ∀I aR C,mH I g gs aR (qV w.heap.size)->ai (λr=>A r\/r=g) w I->ak I g cK (jp gs e big j q m1 C)->bw aR R I [C] (H++[((z,l):lR)])->nN I g gs aR (qV w.heap.size) R N (s.map (uD z l)):=by
  cases s with
  |none=>
   obtain⟨h1,e,big,j,q,m1,sv,l',W,L,X⟩:=h;exact⟨h1,e,big,j,q,m1,sv,l',W,aw.Y X (λ_ _ h=>h) λr _ h=>O r h,L.2,λI aR C V _ y aC=>⟨e,big,j,q,m1,C,y,L.1⟩⟩
  |some s=>
   obtain⟨h1,aQ,ao,big,j,q,m1,sv,W,L,X⟩:=h;have al:=al s rfl;refine⟨h1,0,big,j,q,m1,sv,s.m2,W,aw.Y X (λ_ _ h=>h) λr _ h=>O r h,(show s.m2.length<=100000 by omega),λI aR C V aS y aC=>⟨V,?_,⟨ao.1,ao.2.1,?_⟩,big,j,q,m1,C,y,L,aC⟩⟩
   .exact iV.a8 aQ aS (λhe=>he.elim h1.2.2.1 λh=>h1.1 h.symm) (λr f he=>he.elim (λh=>f.1 (.inr (.inr h))) λh=>f.1 (.inl h)) O
   .show (s.m2++[(z,l)]).length+s.hp.length<=100000;simp;omega
 obtain⟨aT,Y,aU,ap,a6⟩:=id aK;rw[aO cK.p 3 y rfl,aP cu.p 1 am rfl,aP cu.p 3 am rfl];rw[dn (cs:=#[u,v]) (by obtain⟨_,_,_,rfl⟩:=nM hu;obtain⟨_,_,_,rfl⟩:=nM ac;kernel_rfl)];have aq:bw (λ_=>False) R w [u,v] ((z,l):lR):=⟨[u],[v],bU,bU,rfl,λ_ h=>h,λ_ h=>h,λ_ _ h _=>h,hu,ac⟩;refine jL (α:=lR) (a:=(z,l)) (R:=R) iR.u k1.i Φ rfl aq λx U E _ J=>?_;have a7:=E.size;refine⟨.inl E,?_⟩;refine oj iR.u k1.i rfl (bD aC E) J (bD aq E) (λr _ aV G=>?_) Ω Ω λaW ab Z ae=>?_
 .rcases G with G|G
  .exact G
  .exact (ah r G).1 (.inr (.inr aV))
 have ba:=ae.size;have aX:=(y.W E).aa ae Y;rw[b5,aZ cK.p rfl];refine bs (g:=g) (o:=6) iR.i (lO Z) (k6 Z) aX (by simp[jp]) λaf au bb ag=>?_;have ag:=ag;have av:ai (λr=>A r\/r=g) w af:=((E.aa _).F (ae.Y λr _ h=>.inl h)).F (au.Y λr _ h=>.inr h);let aR:aj:=λr=>(A r\/w.heap.size<=r)/\r<ab.heap.size;have bc:g<w.heap.size:=ap g (.inl rfl);have bd:=ap gs (.inr (.inl rfl));have aY:=aw.Y (S':=aR) (R':=R) Z (λr f h=>⟨h.elim .inl λh=>h.elim False.elim λh=>.inr Ω,f⟩) (λr f h=>h);refine az af aR (av.Y λr _ h=>h.elim (λh=>.inr (.inr h)) .inl) (λr f=>f.1) (aM af aR aW ⟨aT,λh=>h.1.elim Y λh=>Ω,λh=>h.1.elim aU λh=>Ω,λr f=>?_,?_⟩ av ag (aw.aa aY au λr f ax he=>?_))
 .rcases f with rfl|rfl|f
  .omega
  .omega
  .have:=f.2;omega
 .intro r f;have f:r<w.heap.size:=f;omega
 .have he:r=g:=he;subst he;rcases ax with ax|ax
  .exact ax.1.elim Y λh=>Ω
  .exact (ah _ ax).1 (.inl rfl)
theorem Of{e:Nat}{a1 E:x4}{M:x5->Prop}(N:ak w e cu [a1,.slice ν 0 0,Δ 0,.slice ν 0 0])(O:aQ .i64 w a1 scope)(X:∀r,lc a1 r->r≠e)(Y:aQ .i64 w E all)(Z:∀r,lc E r->r≠e)(ac:∀v∈scope,0<=v/\v<all.length)(aE:scope.length<=100001)(ae:∀I hv gz,ai (λr=>r=e) w I->ak I e cu [a1,hv,Δ 0,.slice ν 0 0]->aH .i64 ay I gz hv (scope.map λv=>all.getD v.toNat 0)->w.heap.size<=gz->M I):
 b3 (Δ 0) w λF s k=>
  ad x8 (aS .lss al sp sp F (Δ (scope.length:Int))) s λaf=>
  Split af (ad x8 (n9 aA a1 F) s λag=>
  ad x8 (u5 ay ag) s λah=>
  et s λf=>
  ad x8 (u6 cu (Γ e) 1) f λt39=>
  ad x8 (u5 aA t39) f λP=>
  ad x8 (n9 aA E ah) f λaj=>
  ad x8 (u5 ay aj) f λam=>
  aL x8 (Y3 aA 1 #[(0,am)]) f λt45 z=>
   (Ext f z\/cc x8 (u5 aA t39) P z/\cc x8 (u6 cu (Γ e) 1) t39 z/\True)/\
  aL x8 (c9 #[aA,aA] aA #[P,t45]) z λt46 Q=>
   ad x8 (u6 cu (Γ e) 1) Q λan=>
   aL x8 (o7 aA an t46) Q λ(_:Unit)R=>
    ad x8 (aS .add al sp s2 F (Δ 1)) R λap=>
  k ap R) (M s):=by
 have aF:=N.lt;refine b3.range scope.length (λi U=>ai (λr=>r=e) w U/\∃hv gz,ak U e cu [a1,hv,Δ 0,.slice ν 0 0]/\aH .i64 ay U gz hv ((scope.take i).map λv=>all.getD v.toNat 0)/\w.heap.size<=gz) O.le ⟨ai.refl _ _,_,w.heap.size,N,aH.nil _ _ _ _,o6 _⟩ ?_ ?_
 rotate_left
 .rintro U aq ⟨j,hv,gz,A,B,S⟩;rw[o9]at B;rw[aW,ao];exact⟨λh=>Ω,λ_=>ae U hv gz j A B S⟩
 rintro i U aq hi ⟨j,hv,gz,A,B,S⟩ au;obtain⟨v,G⟩:=aJ (l:=scope) hi;have aG:=ac v (x7 G);have av:all[v.toNat]?=σ (all.getD v.toNat 0):=by
  rw[r8,v8 Ω];rfl
 have aw:=jm O j λr C a n c H J=>X r ⟨a,n,c,H,J⟩ C;have ax:=jm Y j λr C a n c H J=>Z r ⟨a,n,c,H,J⟩ C;refine bK Ω ?_;rw[bp aA.u ay.i Ψ aw G];intro ab q _ _;have aI:=j.size;have aK:=q.size;rw[aP cu.p 1 (A.W q) rfl];rw[fz (y:=v) (i:=v.toNat) Ω aA.u ay.i Ψ (ax.W q) av];refine e3 aA.u ay.i rfl λa ga aM aN x az=>?_;refine⟨.inl x,?_⟩;have z3:=x.size;refine kC aA.u ay.i rfl ((B.W q).W x) az.ls Θ Θ λaB aC aO aR K V=>?_;rw[aZ cu.p rfl];have aD:=((A.W q).W x).aa V (λhe=>by have he:=he;omega);refine bs (g:=e) (o:=1) aA.i K.ls.cells.1 K.ls.cells.2 aD Ξ λaU W aV L=>?_;have L:=L;rw[aT];refine au _ ⟨(iU (j.F ((q.F x).aa _)) V λr C he=>by have he:r=gz:=he;omega).F W,aB,aC,L,?_,Ω⟩;rw[u9,G,j4,Z0];exact K.aa W (λ_ he=>by have he:=he;omega)
abbrev jU:Type:=Rd (Λ)×Rd (Λ)×Int×Rd (List (Λ×Int))
def iX(f:cI):jU:=(f.scope,f.d6,f.other,f.lines)
theorem DD{R:aj}{a1 hv cw:x4}{o:Int}{sc:Λ}{l:List (Λ×Int)}(h1:aw.rep (α:=Λ) sp bU R w [a1] sc)(e:aw.rep (α:=Λ) sp bU R w [hv] a)(f:aw.rep (α:=List (Λ×Int)) sp bU R w [cw] l):
  Seen R w [a1,hv,Δ o,cw] ((sc,a,o,l):jU):=
 ⟨[a1],[hv,Δ o,cw],bU,bU,rfl,λ_ h=>h,λ_ h=>h,λ_ _ h _=>h,h1,[hv],[Δ o,cw],bU,bU,rfl,λ_ h=>h,λ_ h=>h,λ_ _ h _=>h,e,[Δ o],[cw],bU,bU,rfl,λ_ h=>h,λ_ h=>h,λ_ _ h _=>h,rfl,f⟩
theorem sq{R:aj}{g:Nat}(h:aH .i64 e w g v l)(s:∀r,lc v r->R r):aw.rep (α:=Λ) sp bU R w [v] l:=by
 have h1:bw (λr=>r=g) bU w [v] l:=mr h;obtain⟨vs,x,F,ae,he,V,hm⟩:=jK h1;refine⟨v,rfl,vs,x,λ_ _=>False,⟨λ_ _ h=>h,λh=>(by cases h),λh=>by cases h⟩,⟨he.1,λi c a y z=>?_⟩,?_,λh=>by cases h⟩
 .exact he.2 i c a y z
 .obtain⟨f,b,o,base,cap,rfl,A,B,j,G,C⟩:=V;refine⟨f,b,o,base,cap,rfl,A,B,j,λq=>.inr (s b ?_),C⟩;have E:0<l.length:=by
   rw[f]at q;rcases Nat.eq_zero_or_pos l.length with h|h
   .rw[h,Nat.zero_mul]at q;omega
   .exact h
  exact⟨⟨b,o,ν⟩,l.length,cap,by rw[j E],rfl⟩
theorem DE{α:Type}[aw α]{R R':aj}{a:α}(h:Seen R w cs a)(e:∀r,r<w.heap.size->R r->R' r):Seen R' w cs a:=aw.Y h (λ_ _ h=>h) e
theorem DF{f a:Nat}{K:x4->x5->Prop}(e:cs.length=4)(h1:∀v∈cs,v.oneCell'=s2)(q:ak w f cu cs){h:List x4}(s:h.length=4)(x:ak w a cu h)(y:∀I,ai (λr=>r=a) w I->K (.agg cs.toArray) I):
  ad x8 (u5 cu (Γ f)) w λz=>
  aL x8 (o7 cu (Γ a) z) w λ(_:Unit)j=>
  ad x8 (do loadVar cu (<-asAddr (Γ a))) j λA=>K A j:=by
 rw[bI cu.p cu.i e q.range];refine cd cu.i e s h1 x λI B _ C=>?_;rw[fA cu.p cu.i e C.range];exact y I B
theorem DG{s s':aN}{l:List (Λ×Int)}(h:ed d6 s=σ (l,s')):s'.m2=s.m2/\s'.hp.length<=s.hp.length:=by
 unfold ed at h;cases e:bq (-aD) aD s with
 |none=>rw[e]at h;cases h
 |some q=>
  obtain⟨n,s1⟩:=q;rw[e]at h;simp only at h;have h1:=dP e;obtain⟨w,x,f⟩:=h1.eqs;split at h
  .cases V:s1.m2[(-n-1).toNat]? with
   |none=>rw[V]at h;cases h
   |some q=>
    obtain⟨z,l'⟩:=q;rw[V]at h;simp only at h;split at h
    .simp only[W6,R2]at h;obtain⟨rfl,rfl⟩:=h;exact⟨f,by have:=h1.1;omega⟩
    .cases h
  .have:=mF (λacc t=>t.m2=s.m2/\t.hp.length<=s.hp.length) (λacc t a bu ⟨r,y⟩ g=>by
    obtain⟨A,B,C,j⟩:=qL g;obtain⟨f1,f2,f3⟩:=j.eqs;exact⟨by rw[f3,r],by have:=j.1;omega⟩) n.toNat [] (bm (decide (16384<min (s1.m1+n) aD)) {s1 with m1:=min (s1.m1+n) aD}) l s' ⟨f,by have:=h1.1;show s1.hp.length<=_;omega⟩ h
   exact this.1
theorem Og{g:Nat}{A B:aj}{s:aN}{S:Bool}{bb:x4}(h:ey w g gs A B s S)(hi:ee s)(bJ:aQ .i64 w bb all)(bc:∀r,lc bb r->¬bS g gs A r/\r<w.heap.size)(cj:∀z∈all,1<=z/\z<=aD)(di:all.length<=100001)(ck:fD w)(h1:cW g gs A B 1):
  aq x8 A1 [Γ g,bb] w λv I=>∃aR V cs,∃bK:jU,v= .agg cs.toArray/\cs.length=4/\ai (bS g gs A) w I/\(∀r,aR r->A r\/w.heap.size<=r)/\(∀r,V r->(B r\/w.heap.size<=r)/\r<I.heap.size)/\(∀r,B r->V r)/\iW I g gs aR V S ((dv all s).map (·.2))/\
   Seen (cW g gs aR V) I cs bK/\∀q,dv all s=σ q->bK=iX q.1:=by
 have cl:=h.1;obtain⟨dj,dk,bd,cm,Q⟩:=id cl;have ag:∀r,bS g gs A r->r<w.heap.size:=cm;have dl:aD=4611686018427387904:=rfl;have dm:=h.2.2.1.2.2;refine aE func111 ?_;refine bF cu.i λE U dp bf aL=>?_;have aL:=aL;have dq:=bf.size;have dr:=aL.lt;have K:¬bS g gs A E:=λj=>by have:=ag _ j;omega
 refine(xC (h.W bf)).Y ?_;rintro _ ab _ ⟨W,a,at_,rfl,bL,cn⟩;obtain⟨bg,bh⟩:=W.of;have ds:=bg.size;rw[bA,bB,aW,nA];have dt: -aD<=a/\a<=aD:=by
  cases C:bq (-aD) aD s with
  |none=>rw[cn C];unfold aD;omega
  |some q=>rw[bL q C];exact(jn C).1
 rw[lm Ω Ω,rP,show max a (0-a)=((a.natAbs:Nat):Int) by omega];have bM:=(bf.aa _).F bg;have cp:=jm bJ bM λr f a n c ac bi=>(bc r ⟨a,n,c,ac,bi⟩).1 f;rw[ba aA.u cp];refine(Od bh Ω Ω).Y ?_;rintro a1 du _ ⟨W,gr,scope,ax,cq,dw,cr⟩;obtain⟨bj,ct⟩:=W.of;have z3:=bj.size;rw[dn (cs:=#[a1,.slice ν 0 0,Δ 0,.slice ν 0 0]) (by obtain⟨_,_,_,_,_,rfl,_⟩:=ax.ls;kernel_rfl)];refine bF cu.i λy dx dy aB aM=>?_;have aM:=aM;have z4:=aB.size;have dA:=aM.lt;have bl:=ax.ls.cells;refine cd (vs:=[a1,.slice ν 0 0,Δ 0,.slice ν 0 0]) cu.i rfl rfl (by intro v ac;simp at ac;rcases ac with rfl|rfl|rfl|rfl<;>first|exact bl.2|rfl) aM λaO aF dC cz=>?_;have ah:¬bS g gs A y:=λj=>by have:=ag _ j;omega
 have bN:dz aO g gs A B S ((sn all.length a.natAbs ((bq (-aD) aD s).map (·.2))).map (·.2)):=(ct.W aB).aa aF (λr f he=>by have he:r=y:=he;exact ah (he▸f)) (λr f he=>by have:=Q r f.2;have he:r=y:=he;omega);have bO:ai (bS g gs A) w aO:=iU ((bM.F bj).F (aB.aa _)) aF λr f he=>by have he:r=y:=he;omega
 have cA:ak aO E cu [.slice ν 0 0,.slice ν 0 0,Δ 0,.slice ν 0 0]:=(((aL.aa bg K).aa bj K).W aB).aa aF (λhe=>by have he:E=y:=he;omega);have cB:aH .i64 ay aO gr a1 scope:=bE (ax.W aB) aF λr f he=>by
  obtain⟨cC,bh⟩:=ca ax f;have he:r=y:=he;omega
 refine(qU bN).Y ?_;rintro _ bP _ ⟨rfl,X⟩;have al:=bN.W X;have aG:=cB.W X;have bn:=cz.W X;have bQ:=cA.W X;have dD:=X.size;have z5:=aF.size;have N:∀r,lc a1 r->ab.heap.size<=r/\r≠y/\r≠E:=λr f=>by
  obtain⟨cC,bh⟩:=ca ax f;have:=cq r f;exact⟨this,Ω,Ω⟩
 have J:dv all s=match sn all.length a.natAbs ((bq (-aD) aD s).map (·.2))with
   |none=>ν
   |some (sc,H)=>(kk (sc.map λv=>all.getD v.toNat 0) ((bk 0 aD (σ (bm (decide (6<a.natAbs)||dL (sc.map λv=>all.getD v.toNat 0)) H))).map (·.2))).map λq=>((⟨sc,sc.map λv=>all.getD v.toNat 0,((bq 0 aD (bm (decide (6<a.natAbs)||dL (sc.map λv=>all.getD v.toNat 0)) H)).map (·.1)).getD 0,q.1⟩:cI),if a<0 then uD (sc.map λv=>all.getD v.toNat 0) q.1 q.2 else q.2):=by
  unfold dv;cases C:bq (-aD) aD s with
  |none=>rfl
  |some q=>
   obtain⟨a',s1⟩:=q;have:=bL _ C;subst this;simp only;show _=match fm all.length a.natAbs s1 with
    |none=>ν
    |some (sc,H)=>_
   cases fm all.length a.natAbs s1 with
   |none=>rfl
   |some q=>
    obtain⟨sc,H⟩:=q;simp only;show _=V6 _ (kk _ ((bq 0 aD _).map (·.2)));cases bq 0 aD (bm (decide (6<a.natAbs)||dL (sc.map λv=>all.getD v.toNat 0)) H)with
    |none=>rfl
    |some q=>
     obtain⟨o,G⟩:=q;simp only;show _=V6 _ (ed _ G);cases ed (sc.map λv=>all.getD v.toNat 0) G with
     |none=>rfl
     |some q=>rfl
 rw[bR,b4];cases Y:sn all.length a.natAbs ((bq (-aD) aD s).map (·.2))with
 |none=>
  rw[Y]at al J;simp only at J;refine⟨λ_=>?_,λh=>by simp at h⟩;refine DF rfl (by intro v ac;simp at ac;rcases ac with rfl|rfl|rfl|rfl<;>first|exact bl.2|rfl) bn rfl bQ λZ L=>?_;have cD:=L.size;refine⟨A,λr=>(B r\/w.heap.size<=r)/\r<Z.heap.size,_,(scope,[],0,[]),rfl,rfl,iU (bO.F (X.aa _)) L λr f he=>by have he:r=E:=he;omega,λr f=>.inl f,λr f=>f,λr f=>⟨.inl f,by have:=Q r f;omega⟩,?_,?_,λq C=>by rw[J]at C;cases C⟩
  .rw[J];have cE:iW Z g gs A B S (V6 (λx=>x.2) (ν:Option (Λ×aN))):=al.q.aa L (λhe=>by have:=ag g (.inl rfl);have he:g=E:=he;omega) (λr f _ he=>by have he:r=E:=he;exact K (he▸f)) (λr f he=>by have:=Q r f.2;have he:r=E:=he;omega);exact cE
  .refine DD (sq (bE aG L λr f he=>(N r f).2.2 he) λr f=>?_) gx gx;have M:=N r f;have am:=(ca aG f);exact⟨λj=>by have:=ag _ j;omega,.inr Ω,Ω⟩
 |some q=>
  obtain⟨sc,H⟩:=q;have:=cr _ Y;subst this;rw[Y]at al J;simp only at J;refine⟨λh=>by simp at h,λ_=>?_⟩;have al:=al;obtain⟨s1,cF,cG⟩:∃s1,(bq (-aD) aD s).map (·.2)=σ s1/\fm all.length a.natAbs s1=σ (scope,H):=by
   cases C:(bq (-aD) aD s).map (·.2)with
   |none=>rw[C]at Y;cases Y
   |some s1=>rw[C]at Y;exact⟨s1,rfl,Y⟩
  obtain⟨dE,cH,rfl⟩:=Z9.1 cF;have bT:=dP cH;obtain⟨bV,dF,dG,bX⟩:=xy cG;have bo:=bT.eqs;have bp:=bV.eqs;have cJ:ee H:=λO=>by rw[bp.1,bo.1];rw[bp.2.1,bo.2.1]at O;exact hi O
  have cK:H.m2.length+1+H.hp.length<=100000:=by rw[bp.2.2,bo.2.2];have:=bT.1;have:=bV.1;omega
  generalize br:(scope.map λv=>all.getD v.toNat 0)=d6 at J;have bY:∀z∈d6,1<=z/\z<=aD:=λz aS=>by
   rw[<-br]at aS;obtain⟨v,ac,rfl⟩:=l9.1 aS;have:=bX v ac;refine cj _ ?_;rw[r8,v8 Ω];exact S3 _
  have dH:d6.length=scope.length:=by rw[<-br,r9]
  have bZ:ai (bS g gs A) w bP:=bO.F (X.aa _);have cL:=jm bJ bZ λr f a n c ac bi=>(bc r ⟨a,n,c,ac,bi⟩).1 f;rw[aP cu.p 0 bn rfl,ba aA.u aG.ls];refine Of bn aG.ls (λr f=>(N r f).2.1) cL (λr f=>by have:=(bc r f).2;omega) bX Ω λZ hv gz L b0 aT dI=>?_;rw[br]at aT;have cD:=L.size;have bt:∀r,cW g gs A B r->¬(λr=>r=y) r:=λr f he=>by have:=Q r f.2;have he:r=y:=he;omega
  have bu:∀r,bS g gs A r->¬(λr=>r=y) r:=λr f he=>by have he:r=y:=he;exact ah (he▸f)
  have b1:=al.aa L bu bt;have cM:ai (bS g gs A) w Z:=iU bZ L λr f he=>by have he:r=y:=he;omega
  refine dd (λaU=>ai (bS g gs A) Z aU/\ey aU g gs A B (bm (decide (6<a.natAbs)||dL d6) H) S) ?_ ?_
  rotate_left
  .intro az aI;rw[bW,ao];refine⟨λdJ=>?_,λdK=>?_⟩
   .refine (um b1).Y ?_;rintro _ cN _ ⟨cO,cP⟩;refine aI _ ⟨cO.Y λr _ h=>.inl h,?_⟩;rw[ms Ω,Bool.true_or];exact cP
   .rw[aP cu.p 1 b0 rfl];refine(CX aT.ls λz aS=>(bY z aS).1).Y ?_;rintro _ cN _ ⟨rfl,b2⟩;refine(um (b1.W b2)).Y ?_;rintro _ dM _ ⟨cQ,cR⟩;refine aI _ ⟨(b2.aa _).F (cQ.Y λr _ h=>.inl h),?_⟩;rw[rc Ω,Bool.false_or];exact cR
  rintro aU ⟨aV,aX⟩;have dN:=aV.size;generalize bd:bm (decide (6<a.natAbs)||dL d6) H=G at J aX;have cS:ee G:=λO=>by
   subst bd;have O:(H.big||_)=sp:=O;exact cJ (T4.1 O).1
  have dO:G.m2.length+1+G.hp.length<=100000:=by subst bd;exact cK
  have aX:dz aU g gs A B S (σ G):=aX;refine(nL (lo:=0) (hi:=aD) aX).Y ?_;rintro _ b3 _ ⟨W,o,dQ,rfl,aC,dR⟩;obtain⟨aY,cT⟩:=W.of;have dS:=aY.size;rw[bA,bB,aZ cu.p rfl];have cU:=(b0.aa aV ah).aa aY ah;refine bs (g:=y) (o:=2) ay.i rfl rfl cU Ξ λcV an dT a2=>?_;have a2:=a2;rw[aP cu.p 1 a2 rfl];have cX:=cT.aa an bu bt;have bw:ai (bS g gs A) Z b3:=aV.F aY;have cY:ai (bS g gs A) w b3:=cM.F bw;have b5:ai (bS g gs A) w cV:=iU cY an λr f he=>by have he:r=y:=he;omega
  have ad:∀r,lc hv r->bP.heap.size<=r/\r<Z.heap.size:=λr f=>by have:=ca aT f;omega
  have b6:=bE (bE aT bw λr f j=>by have:=ag _ j;have:=ad r f;omega) an λr f he=>by have he:r=y:=he;have:=ad r f;omega
  have cZ:=bE (bE (bE aG L λr f he=>(N r f).2.1 he) bw λr f j=>by have:=ag _ j;have:=N r f;omega) an λr f he=>(N r f).2.1 he;have dU:=an.size;refine(Oc cX (λt bx=>?_) b6.ls (λr f=>⟨λj=>by have:=ag _ j;have:=ad r f;omega,by have:=ad r f;omega⟩) bY Ω (ck.aa b5 h1.1) h1).Y ?_
  .obtain⟨q,C,rfl⟩:=Z9.1 bx;have b7:=(dP C).eqs;intro O;rw[b7.1];rw[b7.2.1]at O;exact cS O
  rintro cw c0 _ ⟨W,l,bz,b8⟩;obtain⟨ap,c1⟩:=W.of;have dV:=ap.size;have bC:cw.cells= #[cw]/\cw.oneCell'=s2:=⟨lO bz,k6 bz⟩;rw[aZ cu.p rfl];have c2:=a2.aa ap ah;refine bs (g:=y) (o:=3) kb.i bC.1 bC.2 c2 Ξ λP ae dW a6=>?_;have a6:=a6;have dX:=ae.size;have b9:=c1.aa ae bu bt;have c3:ai (bS g gs A) w c0:=b5.F ap;have c4:ai (bS g gs A) w P:=iU c3 ae λr f he=>by have he:r=y:=he;omega
  have cb:=bE (bE cZ ap λr f j=>by have:=ag _ j;have:=N r f;omega) ae λr f he=>(N r f).2.1 he;have a7:=bE (bE b6 ap λr f j=>by have:=ag _ j;have:=ad r f;omega) ae λr f he=>by have he:r=y:=he;have:=ad r f;omega
  have c5:ak P E cu [.slice ν 0 0,.slice ν 0 0,Δ 0,.slice ν 0 0]:=((((((bQ.aa L (λhe=>by have he:=he;omega)).aa aV K).aa aY K).aa an (λhe=>by have he:=he;omega)).aa ap K).aa ae (λhe=>by have he:=he;omega));let R:aj:=λr=>(B r\/w.heap.size<=r)/\r<P.heap.size;have cc:aw.rep sp bU (λr=>cW g gs A R r/\r≠y/\r≠E) P [cw] l:=by
   refine DE (aw.aa bz ae λr f h he=>?_) λr f h=>?_
   .have he:r=y:=he;rcases h with h|h
    .exact h
    .rcases h with h|h
     .have:=Q r h.2;omega
     .omega
   .rcases h with h|h
    .have:=Q r h.2;exact⟨⟨h.1,.inl h.2,f⟩,Ω,Ω⟩
    .exact⟨⟨λj=>by have:=ag _ j;omega,.inr Ω,f⟩,Ω,Ω⟩
  have c6:∀r,lc a1 r->cW g gs A R r/\r≠y/\r≠E:=λr f=>by
   have M:=N r f;have am:=(ca cb f);exact⟨⟨λj=>by have:=ag _ j;omega,.inr Ω,Ω⟩,M.2⟩
  have ce:∀r,lc hv r->cW g gs A R r/\r≠y/\r≠E:=λr f=>by
   have M:=ad r f;have am:=(ca a7 f);exact⟨⟨λj=>by have:=ag _ j;omega,.inr Ω,Ω⟩,Ω,Ω⟩
  have c7:Seen (λr=>cW g gs A R r/\r≠y/\r≠E) P [a1,hv,Δ o,cw] ((scope,d6,o,l):jU):=DD (sq cb c6) (sq a7 ce) cc;have c8:∀q,dv all s=σ q->((scope,d6,o,l):jU)=iX q.1:=λq C=>by
   rw[J]at C;obtain⟨dY,bG,rfl⟩:=Z9.1 C;have M:=b8 _ bG;cases au:bq 0 aD G with
   |none=>have e:bk 0 aD (σ G)=ν:=au;rw[e]at bG;cases bG
   |some af=>
    have am:=aC af au;rw[M,am];rfl
  have c9:∀v∈[a1,hv,V3 .i64 o,cw],v.oneCell'=s2:=by
   intro v ac;simp at ac;rcases ac with rfl|rfl|rfl|rfl
   .exact bl.2
   .exact a7.ls.cells.2
   .rfl
   .exact bC.2
  have cf:∀r,cW g gs A B r->cW g gs A R r/\r≠y/\r≠E:=λr f=>by
   have:=Q r f.2;exact⟨⟨f.1,.inl f.2,Ω⟩,Ω,Ω⟩
  refine dd (λbH=>∃aR,ai (bS g gs A) P bH/\(∀r,aR r->A r\/P.heap.size<=r)/\∃V,nN bH g gs aR V (λr=>cW g gs A R r/\r≠y/\r≠E) S ((dv all s).map (·.2))) ?_ ?_
  .rintro bH ⟨aR,aJ,aK,V,da⟩;have dZ:=aJ.size;refine DF rfl c9 (a6.aa aJ ah) rfl (c5.aa aJ K) λcg a8=>?_;have ea:=a8.size;have ch:∀r,bS g gs aR r->¬(λr=>r=E) r:=λr f he=>by
    have he:r=E:=he;subst he;rcases f with f|f|f
    .exact K (.inl f)
    .exact K (.inr (.inl f))
    .rcases aK _ f with f|f
     .exact K (.inr (.inr f))
     .omega
   have ci:∀r,(cW g gs A R r/\r≠y/\r≠E)->cW g gs aR (λr=>(B r\/w.heap.size<=r)/\r<cg.heap.size/\(r<P.heap.size\/B r)) r:=λr h=>⟨λj=>h.1.1 (j.imp id (Or.imp id λj=>(aK r j).elim id λbe=>by have:=h.1.2.2;omega)),h.1.2.1,by have:=h.1.2.2;omega,.inl h.1.2.2⟩;have db:=da.aa a8 (ch g (.inl rfl)) (λr f _=>ch r f) (λr f=>f.2.2);refine⟨aR,λr=>(B r\/w.heap.size<=r)/\r<cg.heap.size/\(r<P.heap.size\/B r),_,(scope,d6,o,l),rfl,rfl,iU (c4.F aJ) a8 λr f he=>by have he:r=E:=he;omega,λr f=>(aK r f).imp id λh=>Ω,λr f=>⟨f.1,f.2.1⟩,λr f=>⟨.inl f,by have:=Q r f;omega,.inr f⟩,db.out ci λr f=>f.2.1,?_,c8⟩;refine DE (aw.aa (aw.aa c7 aJ λr _ h j=>?_) a8 λr _ h he=>?_) λr _ h=>ci r h
   .rcases h with h|h
    .exact h
    .exact h.1.1 j
   .rcases h with h|h
    .exact h
    .exact h.2.2 he
  .intro az aI;rw[ao];refine⟨λdc=>?_,λde=>?_⟩
   .intro bI av _ _;have eb:=av.size;have df:∀r,(cW g gs A R r/\r≠y/\r≠E)->cW g gs A (qV bI.heap.size) r:=λr h=>⟨h.1.1,by have:=h.1.2.2;show r<bI.heap.size;omega⟩;refine Oe (b9.W av) cf df (λt bx=>?_) (a6.W av) (sq (a7.W av) ce) (bD cc av) λec aR dg aK dh=>?_
    .obtain⟨q,C,rfl⟩:=Z9.1 bx;cases au:bq 0 aD G with
     |none=>have e:bk 0 aD (σ G)=ν:=au;rw[e]at C;cases C
     |some af=>
      have e:bk 0 aD (σ G)=σ af:=au;rw[e]at C;have h1:q.2.m2=af.2.m2/\q.2.hp.length<=af.2.hp.length:=DG (l:=q.1) (s':=q.2) C;have M:=dP (n:=af.1) (s':=af.2) au;have am:=M.eqs.2.2;have ef:=M.1;rw[h1.1,am];have:=h1.2;omega
    .refine aI _ ⟨aR,(av.aa _).F dg,λr f=>(aK r f).imp id λh=>Ω,qV bI.heap.size,?_⟩;have e:(dv all s).map (·.2)=((kk d6 ((bk 0 aD (σ G)).map (·.2))).map (·.2)).map (uD d6 l):=by
      rw[J];cases C:kk d6 ((bk 0 aD (σ G)).map (·.2))with
      |none=>rfl
      |some q=>
       have M:=b8 _ C;simp only[Y6,m3 dc,M]
     rw[e];exact dh
   .refine aI _ ⟨A,ai.refl _ _,λr f=>.inl f,B,?_⟩;have e:(dv all s).map (·.2)=(kk d6 ((bk 0 aD (σ G)).map (·.2))).map (·.2):=by
     rw[J];cases C:kk d6 ((bk 0 aD (σ G)).map (·.2))with
     |none=>rfl
     |some q=>simp only[Y6,m5 de]
    rw[e];exact b9.qr cf
def nO(l:Λ):Prop:=∀v∈l,0<=v/\v<64
theorem DH(h:nO l){v:Int}:v∈bH l↔v∈l:=by
 unfold bH;rw[S6,ro];refine⟨λh=>h.2,λac=>⟨?_,ac⟩⟩;obtain⟨h1,a⟩:=h v ac;exact l9.2 ⟨v.toNat,by grind,Ω⟩
theorem Oh(l:Λ):nO (bH l):=λv ac=>by
 obtain⟨n,a,rfl⟩:=l9.1 (S6.1 ac).1
 grind
theorem xU(l:Λ):(bH l).Pairwise (·< ·):=by
 grind [bH,List.pairwise_lt_range]
theorem DI(l:Λ):(bH l).Nodup:=(xU l).imp Ω
where
 nodup_le' {a b:Λ} (h:a.Nodup) (V:∀x∈a,x∈b):a.length<=b.length:=by
  induction a generalizing b with
  |nil=>grind
  |cons x a ih=>
   have be:=List.nodup_cons.1 h;have J:=V x (.head _);have:=ih be.2 λy hy=>(List.mem_erase_of_ne (λ(he:y=x)=>be.1 (by rw[<-he];exact hy))).2 (V y (.tail _ hy))
   grind
theorem DJ(n:Nat):(0:Int)<64 ^ n:=Int.pow_pos Ω
theorem uE:∀(l:Λ),nO l->0<=kK l/\kK l<64 ^ l.length
 |[],_=>by simp[kK]
 |x::l,h=>by
  have f:=uE l λy a=>h y (.tail _ a);have J:=h x (.head _);have ae:=DJ l.length;simp only[kK,W0];have e:(64:Int) ^ (l.length+1)=64*64 ^ l.length:=Ω
  have h1:x*64 ^ l.length<=63*64 ^ l.length:=Int.mul_le_mul_of_nonneg_right Ω Ω;have j:0<=x*64 ^ l.length:=Int.mul_nonneg J.1 Ω;omega
def jV:Λ->Λ->Int
 |x::a,y::b=>if x<y then-1 else if y<x then 1 else jV a b
 |[],[]=>0
 |[],_::_=>-1
 |_::_,[]=>1
theorem DK:∀(a b:Λ),a.length=b.length->nO a->nO b->(jV a b<0↔kK a<kK b)/\(jV a b=0↔a=b)/\(kK a=kK b->a=b)
 |[],[],_,_,_=>by simp[jV]
 |[],_::_,h,_,_=>by simp at h
 |_::_,[],h,_,_=>by simp at h
 |x::a,y::b,h,s,w=>by
  have f:a.length=b.length:=by grind
  have j:=λz e=>s z (.tail _ e);have q:=λz e=>w z (.tail _ e);have B:=DK a b f j q;have A:=uE a j;have C:=uE b q;have ae:=DJ b.length;simp only[jV,kK];rw[f]at A ⊢;have step:∀u v:Int,u<v->u*64 ^ b.length+64 ^ b.length<=v*64 ^ b.length:=λu v E=>by
   have:=Int.mul_le_mul_of_nonneg_right (show u+1<=v by omega) (show(0:Int)<=64 ^ b.length by omega)
   grind
  by_cases h1:x<y
  .grind
  .rw[m5 h1];by_cases r:y<x
   .rw[m3 r];have:=step y x r
    grind
   grind
def lV(l:Λ):Prop:=nO l/\l.length<=6
theorem DL(h:lV l):0<=kK l/\kK l<64 ^ 6:=by
 have:=uE l h.1;have e:(64:Int) ^ l.length<=64 ^ 6:=by
  have a:=h.2
  match l.length,a with
  |0,_=>decide
  |1,_=>decide
  |2,_=>decide
  |3,_=>decide
  |4,_=>decide
  |5,_=>decide
  |6,_=>decide
  |n+7,h=>omega
 omega
theorem xV{b:Λ}(f:lV a)(h:lV b):(dq a<dq b↔a.length<b.length\/(a.length=b.length/\jV a b<0))/\(dq a=dq b->a=b):=by
 have h1:=DL f;have j:=DL h;have e:(64:Int) ^ 6=68719476736:=Φ
 rw[e]at h1 j;unfold dq;rw[e];by_cases q:a.length=b.length
 .have:=DK a b q f.1 h.1
  grind
 omega
theorem xW(g:c0):∀l:List c0,(jo g l).Perm (g::l)
 :=by
 intro a;induction a<;>grind [jo]
theorem Oi{g:c0}:∀{l:List c0},l.Pairwise (λa b=>dq a.1<dq b.1)->(∀h∈l,dq h.1≠dq g.1)->(jo g l).Pairwise (λa b=>dq a.1<dq b.1)
 :=by
 intro a;induction a<;>grind [jo,List.pairwise_cons,xW]
theorem DM:∀(l acc:List c0),acc.Pairwise (λa b=>dq a.1<dq b.1)->l.Pairwise (λa b=>dq a.1≠dq b.1)->(∀a∈acc,∀b∈l,dq a.1≠dq b.1)->
  (l.foldl (λl g=>jo g l) acc).Pairwise (λa b=>dq a.1<dq b.1)/\(l.foldl (λl g=>jo g l) acc).Perm (acc++l)
 |[],acc,h,_,_=>by grind
 |g::l,acc,h,e,j=>by
  have f:=List.pairwise_cons.1 e;have:=DM l (jo g acc) (by grind [Oi]) f.2 (by grind [xW])
  grind [xW]
theorem xX{α:Type}{f:α->Int}:∀{L M:List α},L.Pairwise (λa b=>f a<f b)->M.Pairwise (λa b=>f a<f b)->(∀x,x∈L↔x∈M)->L=M
 |[],M,_,_,h=>by
  cases M with
  |nil=>rfl
  |cons y M=>exact m6 ((h y).2 (.head _)) Ξ
 |x::L,[],_,_,h=>m6 ((h x).1 (.head _)) Ξ
 |x::L,y::M,h1,e,h=>by
  have j:=List.pairwise_cons.1 h1;have q:=List.pairwise_cons.1 e;have r:x=y:=by
   grind
  subst r;rw[xX j.2 q.2 λz=>⟨λs=>?_,λs=>?_⟩]
  all_goals grind
structure gi(d6:Λ)(k:Int)(g:c0):Prop where
 scope:lV g.1
 up:g.1.Pairwise (·< ·)
 d9:∀v∈g.1,v<d6.length
 len:g.2.length=(aV (b6 d6 g.1)).toNat
 small:aV (b6 d6 g.1)<=4096
 iY:∀c∈g.2,0<=c/\c<=k
theorem pK{sc:Λ}(a:∀z∈d6,1<=z/\z<=32)(ac:∀v∈sc,0<=v/\v<d6.length):∀z∈b6 d6 sc,1<=z/\z<=32:=λz h=>by
 obtain⟨v,e,rfl⟩:=l9.1 h
 grind [S3]
theorem Oj{b:Λ}(h:a.Perm b):aV a=aV b:=by
 induction h<;>grind [aV]
theorem Ol{b:Λ}(h:a.length=b.length):(eP k a b).length=b.length:=by simp[eP,h]
theorem Om{b:Λ}(hk:0<=k)(f:∀c∈a,0<=c/\c<=k)(h:∀c∈b,0<=c/\c<=k):∀c∈eP k a b,0<=c/\c<=k:=by
 induction a generalizing b with
 |nil=>intro c e;simp[eP]at e
 |cons x a j=>
  cases b with
  |nil=>intro c e;simp[eP]at e
  |cons y b=>
   intro c e;have J:=f x (.head _);have q:=h y (.head _);rcases List.mem_cons.1 (show c∈min (x+y) k::eP k a b from e)with rfl|e
   .omega
   .exact j (by grind) (by grind) c e
def kM(l:List c0):Prop:=(l.map (·.1)).Nodup
theorem On{acc:List c0}{g:c0}(hk:0<=k)(f:∀h∈acc,gi d6 k h)(j:kM acc)(a:gi d6 k g):(∀h∈jQ k acc g,gi d6 k h)/\kM (jQ k acc g)/\(jQ k acc g).length<=acc.length+1:=by
 unfold jQ;split
 .refine⟨λh ax=>?_,?_,Ξ⟩
  .obtain⟨e,hm,rfl⟩:=l9.1 ax;have h1:=f e hm;split
   .rename_i he;have q:e.2.length=g.2.length:=by rw[h1.len,a.len,he]
    exact⟨h1.scope,h1.up,h1.d9,by grind [Ol,gi.len],h1.small,Om hk h1.iY a.iY⟩
   .exact h1
  grind [kM]
 grind [kM]
theorem xY{d6:Λ}{k:Int}(hk:0<=k):∀{l acc:List c0},(∀h∈acc,gi d6 k h)->kM acc->(∀g∈l,gi d6 k g)->(∀h∈l.foldl (jQ k) acc,gi d6 k h)/\kM (l.foldl (jQ k) acc)/\(l.foldl (jQ k) acc).length<=acc.length+l.length
 |[],acc,a,e,_=>by grind
 |g::l,acc,a,e,f=>by
  obtain⟨h1,j,q⟩:=On hk a e (f g (.head _));obtain⟨r,s,w⟩:=xY hk h1 j λx J=>f x (.tail _ J)
  grind
theorem uF(h:nO l)(a:l.Nodup):(bH l).Perm l:=by grind [DI,DH]
theorem xZ:∀{l:Λ},(∀z∈l,1<=z/\z<=32)->l.map (λz=>min z 4097)=l
 |[],_=>rfl
 |z::l,h=>by
  have a:=h z (.head _);rw[List.map_cons,xZ (by grind)]
  grind
theorem Oo{x:cI}(hk:0<=k)(aC:0<=x.other)(a:∀p∈x.lines,0<=p.2):0<=lb x k t/\lb x k t<=k:=by
 grind [lb]
theorem uG{x:cI}(h:ui all N x)(a:all.length<=64):nO x.scope:=λv ac=>by
 have:=h.scope.2 v ac;omega
theorem qW{f:cg}{x:cI}(ah:fC N f)(J:x∈f.ho):gi f.d6 f.k (jP f.d6 f.k x):=by
 obtain⟨h1,h,s⟩:=ah.ho x J;have j:=ah.d6.2.1;have ac:=uG h1 j;have ae:=uF ac h1.scope.1;have a:∀v∈bH x.scope,0<=v/\v<f.d6.length:=λv hm=>h1.scope.2 v (by grind);have q:=pK ah.d6.2.2 a;have w:aV (b6 f.d6 (bH x.scope))=aV x.d6:=by rw[h1.d6];exact Oj (ae.map _)
 refine⟨⟨Oh _,?_⟩,xU _,λv hm=>(a v hm).2,?_,?_,λc r=>?_⟩
 .show (bH x.scope).length<=6;rw[ae.length_eq];exact h
 .show ((bt _).map _).length=_;rw[r9,kF q];rfl
 .show aV (b6 f.d6 (bH x.scope))<=4096;have y:∀z∈x.d6,1<=z/\z<=32:=λz e=>by
   rw[h1.d6]at e;exact pK ah.d6.2.2 (by grind) z e
  grind [dL,xZ]
 .obtain⟨t,_,rfl⟩:=l9.1 r;exact Oo (by have:=ah.k.1;omega) h1.other λp ae=>(h1.lines.2 p ae).2
theorem mM{f:cg}(ah:fC N f):(∀g∈gg f,gi f.d6 f.k g)/\kM (gg f)/\(gg f).length<=f.ho.length:=by
 have:=xY (k:=f.k) (by have:=ah.k.1;omega) (acc:=[]) (by grind) List.nodup_nil λg e=>by
  obtain⟨x,J,rfl⟩:=l9.1 e;exact qW ah J
 refine⟨this.1,this.2.1,?_⟩;have a:=this.2.2;rw[List.length_nil,r9,V0]at a;exact a
theorem DN{l:List c0}(e:∀g∈l,gi d6 k g)(q:kM l):l.Pairwise λa b=>dq a.1≠dq b.1:=by
 have h1:l.Pairwise λa b=>a.1≠b.1:=by
  grind [kM]
 exact h1.imp_of_mem λ{a b}f h j he=>j ((xV (e a f).scope (e b h).scope).2 he)
theorem sr{f:cg}(ah:fC N f):(gh f).Pairwise (λa b=>dq a.1<dq b.1)/\(gh f).Perm ((gg f).filter gf):=by
 obtain⟨h1,h,_⟩:=mM ah;have j:∀g∈(gg f).filter gf,gi f.d6 f.k g:=by grind
 have q:kM ((gg f).filter gf):=(List.Sublist.map _ List.filter_sublist).nodup h;have:=DM ((gg f).filter gf) [] List.Pairwise.nil (DN j q) (by grind);refine⟨this.1,?_⟩;have e:=this.2;rw[List.nil_append]at e;exact e
theorem uH{f:cg}(ah:fC N f):∀g∈gh f,gi f.d6 f.k g:=by grind [mM,sr]
theorem Oq{f:cg}(ah:fC N f){M:List c0}(ae:M.Perm ((gg f).filter gf))(V:M.Pairwise λa b=>dq a.1<=dq b.1):M=gh f:=by
 obtain⟨h1,r⟩:=sr ah;have e:kM ((gg f).filter gf):=(List.Sublist.map _ List.filter_sublist).nodup (mM ah).2.1;have h:=(ae.map (λg:c0=>g.1)).nodup_iff.2 e;have j:∀g∈M,gi f.d6 f.k g:=by grind [mM]
 have q:=DN j h;refine xX ?_ h1 (by grind);exact V.imp₂ Ω q
structure kN(n:aI):Prop where
 k:1<=n.k/\n.k<=2147483648
 d6:1<=n.d6.length/\n.d6.length<=64/\∀z∈n.d6,1<=z/\z<=32
 zero:0<=n.zero/\n.zero<=n.k
 lW:n.unary.length=n.d6.length
 unary:∀(i:Nat)(z:Int)(u:Λ),n.d6[i]?=σ z->n.unary[i]?=σ u->u.length=z.toNat/\∀c∈u,0<=c/\c<=n.k
 ho:∀g∈n.ho,gi n.d6 n.k g/\2<=g.1.length
theorem Ot(z:Int):aV [z]=z:=by simp[aV]
theorem uI:∀{l:List c0}{n:aI},kN n->(∀g∈l,gi n.d6 n.k g)->kN (l.foldl (λn g=>match g.1 with
 |[]=>{n with zero:=g.2.getD 0 0}
 |[v]=>{n with unary:=n.unary.set v.toNat g.2}
 |_=>{n with ho:=n.ho++[g]}) n)/\(l.foldl (λn g=>match g.1 with
 |[]=>{n with zero:=g.2.getD 0 0}
 |[v]=>{n with unary:=n.unary.set v.toNat g.2}
 |_=>{n with ho:=n.ho++[g]}) n).d6=n.d6
 |[],n,h,_=>⟨h,rfl⟩
 |g::l,n,h,j=>by
  have e:=j g (.head _);have f:∀x∈l,gi n.d6 n.k x:=by grind
  rw[List.foldl_cons];obtain⟨sc,cs⟩:=g
  match sc,e with
  |[],e=>
   have w:=e.len;refine uI ⟨h.k,h.d6,?_,h.lW,h.unary,h.ho⟩ f;have h1:cs.length=1:=by grind [b6,aV]
   have q:cs[0]?=σ (cs.getD 0 0):=by grind
   exact e.iY _ (x7 q)
  |[v],e=>
   have ac:=e.scope.1 v (.head _);have y:=e.d9 v (.head _);refine uI ⟨h.k,h.d6,h.zero,by grind [kN.lW],λi z u s hu=>?_,h.ho⟩ f;by_cases hi:v.toNat=i
   .subst hi;have A:=h.lW;rw[Z6 Ω]at hu;cases hu;have B:b6 n.d6 [v]=[z]:=by
     grind [b6]
    refine⟨?_,e.iY⟩;have:=e.len
    grind [Ot]
   .rw[Y8 hi]at hu;exact h.unary i z u s hu
  |a::b::r,e=>
   refine uI ⟨h.k,h.d6,h.zero,h.lW,h.unary,λx J=>?_⟩ f;rcases j9.1 J with J|J
   .exact h.ho x J
   grind
theorem DO{f:cg}(ah:fC N f):kN (cA f)/\(cA f).d6=f.d6:=by
 unfold cA;have e:=ah.d6;refine uI ⟨ah.k,e,⟨by grind,by show(0:Int)<=f.k;have:=ah.k.1;omega⟩,Ξ,λi z u h1 a=>?_,by grind⟩ (uH ah);have a:(f.d6.map λz=>o5 z.toNat (0:Int))[i]?=σ u:=a;have h1:=h1;rw[u4,h1]at a;cases a;refine⟨Ξ,λc h=>?_⟩;rw[(List.mem_replicate.1 h).2];have:=ah.k.1
 grind
def mN(x:cI)(k:Int)(i:Nat)(t:Λ):Int:=match(x.lines.take i).find? (λp=>decide (p.1=t))with
 |some p=>min p.2 k
 |none=>min x.other k
theorem DP(x:cI)(k:Int)(t:Λ):mN x k 0 t=min x.other k:=by simp[mN]
theorem DQ(x:cI)(k:Int)(t:Λ):mN x k x.lines.length t=lb x k t:=by
 unfold mN lb;rw[o9]<;>cases x.lines.find? (λp=>decide (p.1=t))<;>rfl
theorem DR{x:cI}{i:Nat}{p:Λ×Int}(a:(x.lines.map (·.1)).Nodup)(hi:x.lines[i]?=σ p)(t:Λ):mN x k (i+1) t=if t=p.1 then min p.2 k else mN x k i t:=by
 unfold mN;rw[u9,hi,j4,List.find?_append];by_cases e:t=p.1
 all_goals grind [Y5,V8]
theorem uJ{v:Int}(h:v∈l):l[l.idxOf v]?=σ v:=by
 grind
theorem Ou{i:Nat}{v:Int}(a:l.Nodup)(h:l[i]?=σ v):l.idxOf v=i:=by
 grind
def gE(scope a:Λ):Λ:=a.map λv=>((scope.idxOf v:Nat):Int)
theorem uK{h:Λ}(q:scope.Nodup)(a:h.Perm scope):Good (gE scope h) scope.length:=by
 have r:=a.nodup_iff.2 q;refine⟨by simp[gE,a.length_eq],λi p ae=>?_⟩;unfold gE at ae;rw[u4]at ae;obtain⟨v,ac,rfl⟩:=Z9.1 ae;have hm:v∈scope:=a.mem_iff.1 (x7 ac);have x:=List.idxOf_lt_length_iff.2 hm;refine⟨Ω,λj y f=>?_⟩;unfold gE at f;rw[u4]at f;obtain⟨u,hu,he⟩:=Z9.1 f;have s:=a.mem_iff.1 (x7 hu);have e:scope.idxOf u=scope.idxOf v:=Ω
 have h1:=uJ s;rw[e,uJ hm]at h1;have w:v=u:=Z5 h1;subst w;have z:=Ou r hu
 grind
theorem Ov{v:Int}(ac:a[j]?=σ v):(gE scope a)[j]?=σ ((scope.idxOf v:Nat):Int):=by
 grind [gE]
theorem Ow(e:scope.Nodup)(f:a.Perm scope):fd (b6 d6 scope) (gE scope a)=b6 d6 a:=by
 refine Y2 λj=>?_
 grind [ug,gE,b6,uK,CH,u7,uJ]
theorem DS(f:scope.Nodup)(h:a.Perm scope)(q:t.length=scope.length):ov (gE scope a) t=qM scope a t:=by
 have r:=uK f h;refine(CG r q (by simp[qM]) λj p e=>?_).symm;unfold gE at e;rw[u4]at e
 grind [Z9,S0.length_eq,qM,u7]
theorem Ox{f:cg}{x:cI}{cs:Λ}(ah:fC N f)(J:x∈f.ho)(C:cs.length=(aV x.d6).toNat)(r:∀t,dB x.d6 t->bz x.d6 cs t=lb x f.k t):
  fd x.d6 (gE x.scope (bH x.scope))=b6 f.d6 (bH x.scope)/\pC x.d6 cs (gE x.scope (bH x.scope))=(jP f.d6 f.k x).2:=by
 obtain⟨h1,E,F⟩:=ah.ho x J;have ac:=uG h1 ah.d6.2.1;have ae:=uF ac h1.scope.1;have s:=h1.d6;have a:fd x.d6 (gE x.scope (bH x.scope))=b6 f.d6 (bH x.scope):=by rw[s];exact Ow h1.scope.1 ae
 have w:=uK h1.scope.1 ae;have y:∀v∈bH x.scope,0<=v/\v<f.d6.length:=λv hm=>h1.scope.2 v (by grind);have e:dU (b6 f.d6 (bH x.scope)):=pK ah.d6.2.2 y;refine⟨a,?_⟩;have z:x.d6.length=x.scope.length:=by grind
 unfold pC;rw[a];show _=(bt (b6 f.d6 (bH x.scope))).map λt=>lb x f.k (qM x.scope (bH x.scope) t);refine Y2 λq=>?_;rw[u4,u4];have G:=nJ e;by_cases h:q<(aV (b6 f.d6 (bH x.scope))).toNat
 .have A:=r0 e (i:=q) Ω;rw[A,List.getElem?_range h];simp only[Y6];have B:=xt e h;have j:(du (b6 f.d6 (bH x.scope)) q).length=x.scope.length:=by rw[kE];simp[b6,ae.length_eq]
  rw[DS h1.scope.1 ae j,r];have:=MS w z (by rw[a];exact B);rw[DS h1.scope.1 ae j]at this;exact this
 grind [kF]
theorem Oy{e:Λ}(V:dU an)(h1:a.length=(aV an).toNat)(f:e.length=(aV an).toNat):
  eP k a e=(Y9 (aV an).toNat).map λ(q:Nat)=>min (bz an a (du an q)+bz an e (du an q)) k:=by
 grind [xr,eP,List.zipWith_self]
theorem Oz{m:Nat}{d:List (x4×x4)}{a:List (Λ)}(f:ak w dw kc [.map (σ m)])(hm:db w m d)(j:d.map (·.1)=a.map ez)(e:qT a)(B:a.length<65536):
  aq x8 KX [.func (.func nx) #[] #[Γ dw],Dk] w λv I=>Ext w I/\∃g M,M.Perm a/\uB ip M 0 M.length/\pG I g v M:=by
 refine aE func261 ?_;refine(Ny f hm j (λq h=>(e q h).1) Ω).Y ?_;rintro v U _ ⟨s,g,L,dy,ae,x⟩;refine(NL x (e.perm ae) (by rw[ae.length_eq];omega)).Y ?_;rintro _ ab _ ⟨y,M,z,hu,A⟩;exact⟨s.then y (λr C h=>by have:=dy r h;omega),g,M,z.F ae,hu,A⟩
theorem DT{α β:Type}{f:α->β}:∀{M:List β}{D:List α},M.Perm (D.map f)->∃L:List α,L.Perm D/\L.map f=M
 |[],D,h=>by
  have h1:=h.length_eq;simp at h1;have:D=[]:=b8 h1.symm;exact⟨[],by rw[this],rfl⟩
 |x::M,D,h=>by
  have J:x∈D.map f:=h.mem_iff.1 (.head _);obtain⟨p,ae,rfl⟩:=l9.1 J;obtain⟨A,B,rfl⟩:=List.append_of_mem ae;have a:(f p::M).Perm (f p::(A++B).map f):=h.F (by
   rw[Z0,List.map_cons,Z0];exact List.perm_middle)
  obtain⟨L,e,j⟩:=DT (S0.cons_inv a);exact⟨p::L,(e.cons p).F List.perm_middle.symm,by rw[List.map_cons,j]⟩
theorem DU{g:Nat}(r:a.length=6)(s:n<=6)(e:cs=ints .i8 a)(f:ak w g cN cs):aQ .i8 w (.slice (σ (if 6=0 then⟨g,0,ν⟩else⟨g,0+0*1,ν⟩)) (n-0) (6-0)) (a.take n):=by
 subst e;rw[m5 Ω];unfold aQ;have h:(a.take n).length=n:=by rw[Z3];omega
 rw[h];refine⟨Θ,g,0,_,6,rfl,Ω,by simp[maxLen],λ_=>rfl,λj v ac=>?_⟩;have q:=(x6.1 ac).1;refine f.range j v ?_;rw[ints,List.map_take,V1 (by simp[ints]at q;omega)]at ac;exact ac
def OA(D L:Told):Prop:=L.Perm D/\uB (λp=>ip (pad p.1)) L 0 L.length
theorem OB{g m:Nat}{o:Int}{D:Told}(h:e5 w g m an k o D)(a8:D.length<65536):aq x8 Kg [Γ g] w λv I=>Ext w I/\∃L:Told,OA D L/\bw (e4 w.heap.size) bU I [v] L:=by
 obtain⟨⟨sv,gs,X,hm⟩,bc,V,bR,az⟩:=id h;have bd:qT (D.map λp=>pad p.1):=λbS hk=>by
  obtain⟨p,ae,rfl⟩:=l9.1 hk;exact sd V (az p ae).1
 refine aE func198 ?_;rw[dj fc.u];simp only[b9,bb];rw[aO gb.p 3 X rfl];refine Nw.Y ?_;rintro _ U _ ⟨Y,dw,rfl,bT,bf⟩;refine(Oz bf (bc.W Y) (by rw[T6,T6];rfl) bd (by simpa using a8)).Y ?_;rintro bV ab _ ⟨aA,bW,M,bg,bh,aB⟩;obtain⟨L,Z,K⟩:=DT bg;have aD:M.length=L.length:=by rw[<-K];simp
 have bX:=Z.length_eq;have s1:=Y.size;have bY:=aA.size;have aF:=Y.F aA;rw[eF k2.u aB];refine cp.range L.length (λi out e=>Ext ab e/\bw (e4 ab.heap.size) bU e [out] (L.take i)) Ω ⟨Ext.refl _,by rw[List.take_zero];exact gx⟩ ?_ ?_
 rotate_left
 .rintro out e bi ⟨B,aC⟩;rw[aD];simp only[aW,ao];refine⟨λh=>Ω,λ_=>⟨aF.F B,L,⟨Z,λp q x y h1 bj bZ J bk=>?_⟩,?_⟩⟩
  .exact bh p q (pad x.1) (pad y.1) h1 bj Ω (by rw[<-K,u4,J];rfl) (by rw[<-K,u4,bk];rfl)
  .rw[o9]at aC;exact aw.Y aC (λr _ h=>by have h:=h;show w.heap.size<=r;omega) λ_ _ h=>h
 rintro i out e bi hi ⟨B,aC⟩ bl;obtain⟨⟨t,c⟩,ad⟩:∃p,L[i]?=σ p:=⟨_,v8 hi⟩;have af:(t,c)∈D:=Z.mem_iff.1 (x7 ad);have ag:=(az _ af).1;have aG:=xH V ag;have ah:t.length=an.length:=aG.1;have aI:=V.1;have bm:nK (pad t):=sd V ag;have N:=bm.1;have bn:M[i]?=σ (pad t):=by rw[<-K,u4,ad];rfl
 rw[aD];simp only[aW,ao];refine⟨λ_=>?_,λh=>Ω⟩;rw[NK rfl (aB.W B) bn];refine bF cN.i λav b0 b1 aK aL=>?_;refine sb N rfl aL λbo bq b2 O=>?_;have b4:=aK.size;have b5:=aL.lt;have br:Ext e bo:=aK.put bq Ω;intro aM E _ _;have aj:=br.F E;have am:=(aF.F B).F aj;have aN:=h.W am;obtain⟨⟨b6,b7,b8,ca⟩,cb,_⟩:=id aN;have cc:=aj.size;rw[aO gb.p 3 (X.W am) rfl,pF N (O.W E).range];refine Nq aN ag (λf bt=>?_) (λbu=>m6 rfl (bu _ af));have bx:f=c:=by
  have:=C9 h.nodup bt af rfl;exact congrArg Prod.snd this
 subst bx;simp only[Bool.false_eq_true,if_false];rw[dn (cs:=#[.slice ν 0 0,Δ f]) Ψ];refine bF gR.i λP ce cf ap aQ=>?_;refine⟨.inl ap,?_⟩;refine cd (vs:=[.slice ν 0 0,Δ f]) gR.i rfl rfl (by intro v ac;simp at ac;rcases ac with rfl|rfl<;>rfl) aQ λC bz cg aR=>?_;have ch:=ap.size;have ci:=aQ.lt;have Q:Ext aM C:=ap.put bz Ω;have aS:=aj.F Q;have aU:=am.F Q;rw[aO gb.p 0 (X.W aU) rfl,ba au.u (hm.ls.W aU)];rw[tP cN.u gv.i (l:=0) (h:=an.length) (m:=6) ke (po _ _ rfl) fy Ω Ω Ω];have aV:=DU N aI rfl ((O.W E).W Q);rw[<-ah,C4]at aV;rw[<-ah,ba mo.u aV];have bA:=(O.W E).W Q;have cj:av<aM.heap.size:=(O.W E).lt;have ck:P<C.heap.size:=aR.lt;refine b3.range t.length (λj s=>ai (λr=>r=P\/C.heap.size<=r) C s/\∃aX gt,C.heap.size<=gt/\ak s P gR [aX,Δ f]/\aH .i64 al s gt aX (t.take j)) Ω ⟨ai.refl _ _,_,C.heap.size,o6 _,aR,aH.nil _ _ _ _⟩ ?_ ?_
 .rintro j s bB bC ⟨z,aX,gt,bE,S,W⟩ bG;obtain⟨x,ax⟩:=aJ (l:=t) bC;have cl:=aG.2 x (x7 ax);have cm:Ext e s:=aS.then z (λr aY he=>by rcases he with rfl|he<;>omega);have a1:=DU N aI rfl (bA.aa z (λhe=>by rcases he with he|he<;>omega));rw[<-ah,C4]at a1;simp only[aW,ao];refine⟨λ_=>?_,λh=>Ω⟩;rw[bp mo.u gv.i Ψ a1 ax,aP gR.p 0 S rfl,fM gv.u al.u,lm Ω Ω];refine e3 au.u al.i rfl λa ga bH cn A bJ=>?_;refine kC au.u al.i rfl (W.W A) bJ.ls Θ Θ λa2 bK bL cq G H=>?_;have bM:=z.size;have bN:=A.size;have cr:=H.size;rw[aZ gR.p rfl];refine bs (g:=P) (o:=0) au.i G.ls.cells.1 G.ls.cells.2 ((S.W A).aa H (λhe=>by have he:=he;omega)) Ξ λct a6 cu bO=>?_;simp only[aT];refine bG _ ⟨((z.F (A.aa _)).F (H.Y λr _ he=>.inr (by have he:r=gt:=he;omega))).F (a6.Y λr _ he=>.inl he),a2,bK,Ω,bO,?_⟩;rw[u9,ax];exact G.aa a6 (λ_ he=>by have he:=he;omega)
 .rintro s bB ⟨z,aX,gt,bE,S,W⟩;simp only[aW,ao];refine⟨λh=>Ω,λ_=>?_⟩;rw[o9]at W;rw[bI gR.p gR.i rfl S.range];have bM:=z.size;have bP:=aS.then z (λr aY he=>by rcases he with rfl|he<;>omega);have a7:bw (e4 e.heap.size) bU s [aX,Δ f] (t,f):=⟨[aX],[Δ f],e4 e.heap.size,bU,rfl,λ_ h=>h,λ_ h=>h.elim,λ_ _ _ h=>h,aw.Y (mr W) (λr _ h=>by subst h;show e.heap.size<=r;omega) (λ_ _ h=>h),rfl⟩;refine jL (α:=Λ×Int) (R:=bU) qt.u gR.i Φ rfl a7 λu bH A _ bQ=>?_;have ay:=bP.F A;have bN:=ay.size;refine oj qt.u gR.i rfl (bD (nE aC) ay) bQ (bD a7 A) (λr _ h be=>?_) Θ Θ λa2 bL G H=>?_
  .rcases be with be|be
   .have:=h.2;have:e.heap.size<=r:=be;omega
   .exact be
  simp only[aT];have cw:=B.size;refine bl _ _ ⟨(B.F ay).then H (λr aY h=>by have h:=h.1;have h:=h;omega),?_⟩;rw[u9,ad];refine aw.Y G (λr _ h=>?_) λ_ _ h=>h;show ab.heap.size<=r;rcases h with h|h|h
  .exact h.1
  .have h:=h;omega
  .omega
theorem DV{s:Λ}(V:dU s):t∈bt s↔dB s t:=by
 refine⟨λh=>?_,λ⟨n,h⟩=>x7 (ou V h)⟩;obtain⟨i,hi⟩:=Y5.1 h;exact⟨_,kJ V hi⟩
theorem DW:∀{s:Λ},dU s->(bt s).Pairwise λa b=>ip a<ip b
 |[],_=>by simp[bt]
 |k::s,V=>by
  have z:=DW V.tail;have f:∀t∈bt s,0<=ip t/\ip t<32 ^ s.length:=λt q=>by
   have ac:=(DV V.tail).1 q;have h1:=pB.1 ac;have r:=uA t λx J=>by
    obtain⟨i,hi,rfl⟩:=List.getElem_of_mem J;obtain⟨a,e⟩:=aJ (l:=s) (i:=i) Ω;have B:=h1.2 i a _ e (v8 hi);have C:=(V.tail a (x7 e)).2;omega
   rw[h1.1];exact r
  have j:∀t∈bt s,t.length=s.length:=λt q=>tS q;show((Y9 k.toNat).flatMap λ(v:Nat)=>(bt s).map λt=>(v:Int)::t).Pairwise _;rw[List.pairwise_flatMap];refine⟨λv _=>?_,?_⟩
  .rw[List.pairwise_map];refine z.imp_of_mem λ{a b}e f h=>?_;simp only[ip,j a e,j b f];omega
  .refine List.pairwise_lt_range.imp λ{u v}E x J y A=>?_;obtain⟨a,e,rfl⟩:=l9.1 J;obtain⟨b,w,rfl⟩:=l9.1 A;simp only[ip,j a e,j b w];have h1:=f a e;have r:=f b w;have:=Int.mul_le_mul_of_nonneg_right (show(u:Int)+1<=v by omega) (show(0:Int)<=32 ^ s.length by have:=xM s.length;omega);rw[Int.add_mul,Int.one_mul]at this;omega
theorem OC{D L:Told}{o:Int}(e:(D.map (·.1)).Nodup)(ae:L.Perm D)(t:Λ):jR L o t=jR D o t:=by
 have h:=(ae.map (·.1)).nodup_iff.2 e;by_cases he:∃p∈D,p.1=t
 .obtain⟨p,f,rfl⟩:=he;rw[se e f,se h (ae.mem_iff.2 f)]
 .rw[sf λp h1 a=>he ⟨p,h1,a⟩,sf λp h1 a=>he ⟨p,ae.mem_iff.1 h1,a⟩]
def jW(an:Λ)(f:Λ->Int)(cs:Λ):Prop:=cs.length=(aV an).toNat/\∀t,dB an t->bz an cs t=f t
theorem jW.eq{f:Λ->Int}{cs:Λ}(V:dU an)(h1:jW an f cs)(e:jW an f a):cs=a:=MI V h1.1 e.1 λt h=>by rw[h1.2 t h,e.2 t h]
theorem jW.congr{f a:Λ->Int}{cs:Λ}(h:jW an f cs)(he:∀t,dB an t->f t=a t):jW an a cs:=⟨h.1,λt e=>by rw[h.2 t e,he t e]⟩
theorem x0(V:dU an)(h:dB an t):∃n:Nat,cr an t 0=σ (n:Int)/\n<(aV an).toNat:=by
 obtain⟨n,a⟩:=h;have:=mv V a;simp only[Int.zero_mul,Int.zero_add,Int.one_mul]at this;exact⟨n.toNat,by rw[a];congr 1;omega,Ω⟩
theorem OD(V:dU an)(c:Int):jW an (λ_=>c) (o5 (aV an).toNat c):=⟨Ξ,λt a=>by
 obtain⟨n,e,f⟩:=x0 V a;unfold bz;rw[e];simp only[u7,r8,List.getElem?_replicate,f,if_true,Option.getD_some]⟩
theorem jW.put{f:Λ->Int}{cs:Λ}(V:dU an)(h:jW an f cs)(ac:dB an t)(r:cE c k):jW an (λs=>if s=t then c else f s) (tU an t k c cs):=by
 obtain⟨n,e,w⟩:=x0 V ac;unfold tU;rw[e];simp only[r,if_true,u7];refine⟨by simp[h.1],λs q=>?_⟩;obtain⟨m,hm,x⟩:=x0 V q;have a:=h.2 s q;unfold bz at a ⊢;rw[hm]at a ⊢;simp only[u7]at a ⊢;by_cases he:s=t
 .subst he;rw[e]at hm;have j:n=m:=by have:=Z5 hm;omega
  subst j;rw[m3 rfl,r8,Z6 (by rw[h.1];exact w)];rfl
 .rw[m5 he,r8,Y8 (λj=>he ?_),<-r8,a];subst j;rw[<-CA V hm,<-CA V e]
def OE(w:x5)(an:Λ)(k o:Int)(D:Told)(v:x4)(I:x5):Prop:=Ext w I/\(4096<aV an->v= .tuple #[.pointer ν,Δ 5])/\
 (aV an<=4096->∃g a sv cs,v= .tuple #[Γ g,Δ 0]/\w.heap.size<=g/\(w.heap.size<=a/\∀r,lc sv r->w.heap.size<=r)/\dp I g a sv an k cs/\jW an (jR D o) cs)
theorem DX{g m:Nat}{o:Int}{D:Told}(h:e5 w g m an k o D)(W:D.length<65536):aq x8 Jm [Γ g] w (OE w an k o D):=by
 obtain⟨⟨sv,gs,X,hm⟩,aS,V,Y,Z⟩:=id h;have N:=h.nodup;refine aE func123 ?_;rw[dj fc.u];simp only[b9,bb];intro U a _ _;have G:=X.W a;rw[aO gb.p 0 G rfl,aO gb.p 1 G rfl,aO gb.p 2 G rfl];refine(xa (hm.ls.W a)).Y ?_;rintro _ ab _ ⟨x,_,ad,_,af⟩;by_cases ae:aV an<=4096
 rotate_left
 .have:=ad V Ω;subst this;rw[bA,bB];simp only[bO,ao];exact⟨λ_=>⟨a.F x,λ_=>rfl,λh=>m6 h ae⟩,λh=>by simp at h⟩
 obtain⟨gt,f,aX,rfl,aU,aY,ag,O⟩:=af V ae Y;rw[bA,bB];simp only[bO,ao];refine⟨λh=>m6 rfl h,λ_=>?_⟩;have s1:=a.size;have aZ:=x.size;refine(OB ((h.W a).W x) W).Y ?_;rintro dy ah _ ⟨H,L,y,P⟩;have a1:=H.size;have a2:f<ab.heap.size:=by
  obtain⟨⟨bg,a6,_,_,aj⟩,⟨_,_,a7⟩,ak,al⟩:=id O;have a8:=nJ ak.2;obtain⟨_,⟨_,am⟩|⟨cap,cs,_,ap,_⟩⟩:=aj
  .rw[al]at am;omega
  .exact ap.lt
 have ba:=y.1.length_eq;rw[ij qt.u P];refine b3.range L.length (λi z=>ai (λr=>r=f) ah z/\∃cs,dp z gt f aX an k cs/\jW an (jR (L.take i) o) cs) Ω ⟨ai.refl _ _,_,O.W H,by rw[List.take_zero];exact OD V.2 o⟩ ?_ ?_
 .rintro i z au hi ⟨C,cs,I,E⟩ av;simp only[aW,ao];refine⟨λ_=>?_,λh=>Ω⟩;obtain⟨⟨t,c⟩,q⟩:∃p,L[i]?=σ p:=⟨_,v8 hi⟩;have ax:(t,c)∈D:=y.1.mem_iff.1 (x7 q);obtain⟨ay,az,aA⟩:=Z _ ax;have aB:=aw.aa P C λr Q aC he=>by
   have he:r=f:=he;rcases aC with h|h
   .have h:=h;omega
   .exact h
  refine nH gR.p rfl qt.u gR.i aB q λus aD=>?_;obtain⟨bc,bd,A,B,rfl,be,bf,_,h1,aF⟩:=aD;have aG:=aF;subst aG;obtain⟨aH,rfl,_⟩:=id h1;have hu:=ew h1;refine bF gR.i λbh bi bj aI R=>?_;refine cd (vs:=[aH,Δ c]) gR.i rfl rfl (by intro v ac;simp at ac;rcases ac with rfl|rfl;exact hu.cells.2;rfl) R λbk aJ bl S=>?_;have bm:=R.lt;have J:=aI.put aJ Ω;rw[aP gR.p 0 S rfl,aP gR.p 1 S rfl];refine(LQ (I.W J) (hu.W J)).Y ?_;rintro _ bn _ ⟨rfl,aK,aL⟩;simp only[aT];refine av _ ⟨(C.F (J.aa _)).F aK,_,aL,(E.put V.2 ay az).congr λs bo=>?_⟩;rw[u9,q];have K:=(y.1.map (·.1)).nodup_iff.2 N;have aM:∀p∈L.take i,p.1≠t:=λp ae he=>by
   obtain⟨j,M⟩:=Y5.1 ae;have aN:j<i:=by have:=(x6.1 M).1;rw[Z3]at this;omega
   rw[V1 aN]at M;have:=lT K (by rw[u4,M,Y6,he]) (by rw[u4,q];rfl);omega
  have aQ:((L.take i).map (·.1)).Nodup:=by rw[List.map_take];exact(List.take_sublist _ _).nodup K
  have aR:((L.take i++[(t,c)]).map (·.1)).Nodup:=by
   have e:L.take i++[(t,c)]=L.take (i+1):=by rw[u9,q];rfl
   rw[e,List.map_take];exact(List.take_sublist _ _).nodup K
  exact((Da aM aA).cost aQ aR s).symm
 .rintro z au ⟨C,cs,I,E⟩;simp only[aW,ao];refine⟨λh=>Ω,λ_=>?_⟩;rw[o9]at E;exact⟨((a.F x).F H).put C Ω,λh=>Ω,λ_=>⟨gt,f,aX,cs,rfl,Ω,⟨Ω,λr Q=>by have:=ag r Q;omega⟩,I,E.congr λs _=>OC N y.1 s⟩⟩
theorem OF{s cs:Λ}(V:dU s)(a:cs.length=(aV s).toNat){i:Nat}(h:(bt s)[i]?=σ t):cs[i]?=σ (bz s cs t):=by
 have hi:=(x6.1 h).1;rw[kF V,<-a]at hi;unfold bz;rw[kJ V h];simp only[u7,r8,v8 hi,Option.getD_some]
theorem ss{k:o8}{g:Nat}(h:aH k e w g v l)(f:0<l.length):g<w.heap.size:=by
 obtain⟨_,⟨_,h1⟩|⟨_,_,_,a,_⟩⟩:=h
 .omega
 .exact a.lt
def gF(w:x5)(g m:Nat)(sv:x4)(gs:Nat)(an:Λ)(k o:Int)(D:Told):Prop:=
 ak w g gb [sv,Δ k,Δ o,.map (σ m)]/\aH .i64 al w gs sv an/\db w m (D.map ld)/\cn an/\cE o k/\∀p∈D,dB an p.1/\cE p.2 k/\p.2≠o
theorem gF.is{g m:Nat}{o:Int}{D:Told}(h:gF w g m sv gs an k o D):e5 w g m an k o D:=⟨⟨sv,gs,h.1,h.2.1⟩,h.2.2⟩
theorem e5.at{g m:Nat}{o:Int}{D:Told}(h:e5 w g m an k o D):∃sv gs,gF w g m sv gs an k o D:=by
 obtain⟨⟨sv,gs,h1,a⟩,e⟩:=h;exact⟨sv,gs,h1,a,e⟩
theorem gF.W{g m:Nat}{o:Int}{D:Told}(h:gF w g m sv gs an k o D)(J:Ext w I):gF I g m sv gs an k o D:=by
 obtain⟨h1,a,e,f⟩:=h;exact⟨h1.W J,a.W J,e.W J,f⟩
theorem gF.aa{g m:Nat}{o:Int}{D:Told}(h:gF w g m sv gs an k o D)(J:ai S w I)(a:¬S g)(hm:¬S m)(V:∀r,lc sv r->¬S r):gF I g m sv gs an k o D:=by
 obtain⟨h1,e,f,j⟩:=h;exact⟨h1.aa J a,bE e J V,f.aa J hm,j⟩
theorem uL{g m:Nat}{d:List (x4×x4)}(h:ak w g e cs)(hm:db w m d):g≠m:=by
 rintro rfl;obtain⟨a,c,h1,_⟩:=hm;unfold ak at h;rw[h1]at h;cases h
theorem DY{g m:Nat}{k:o8}{d:List (x4×x4)}(h:aH k e w g v l)(hm:db w m d)(f:lc v r):r≠m:=by
 obtain⟨rfl,_⟩:=ca h f;obtain⟨_,⟨rfl,_⟩|⟨_,_,_,j,_⟩⟩:=h
 .obtain⟨a,n,c,h,_⟩:=f;cases h
 .exact uL j hm
theorem gF.put{g m:Nat}{o:Int}{D D':Told}(h:gF w g m sv gs an k o D)(a:ai (λr=>r=m) w I)(be:e5 I g m an k o D'):gF I g m sv gs an k o D':=
 ⟨h.1.aa a (λhe=>uL h.1 h.2.2.1 he),bE h.2.1 a (λr e he=>DY h.2.1 h.2.2.1 e he),be.2⟩
theorem gF.r5{g m:Nat}{o:Int}{D:Told}(h:gF w g m sv gs an k o D):g<w.heap.size/\m<w.heap.size/\∀r,lc sv r->r<w.heap.size:=
 ⟨h.1.lt,h.2.2.1.lt,λr a=>by obtain⟨rfl,e⟩:=ca h.2.1 a;exact e⟩
instance (s t:Λ):Decidable (dB s t):=decidable_of_iff ((cr s t 0).isSome=s2) ⟨λh=>by
 cases a:cr s t 0 with
 |none=>rw[a]at h;cases h
 |some n=>exact⟨n,a⟩,λ⟨n,h⟩=>by rw[h];rfl⟩
theorem uM(h:aQ .i64 w sv l)(H:l.length<=1000000):aq x8 A2 [sv] w λv I=>Ext w I/\∃g,w.heap.size<=g/\aH .i64 al I g v l:=by
 refine aE func114 ?_;rw[ba aA.u h];refine kD (k:=.i64) au.u al.i Ω Ω λg U J j q=>?_;have z:aH .i64 al U g (.slice (σ ⟨g,0,ν⟩) l.length l.length) (o5 l.length 0):=by
  have:=b7.full (k:=1) (n:=l.length) q Ξ (by simp[maxLen];omega);exact aH.of this
 rw[ba aA.u (h.W j)];have K:=q.lt;refine b3.range l.length (λi ab=>ai (λr=>r=g) U ab/\aH .i64 al ab g (.slice (σ ⟨g,0,ν⟩) l.length l.length) (l.take i++o5 (l.length-i) 0)) h.le ⟨ai.refl _ _,by simpa using z⟩ ?_ ?_
 rotate_left
 .rintro ab A ⟨f,a⟩;rw[aW,ao];rw[o9,V7,List.replicate_zero,T5]at a;exact⟨λh=>Ω,λ_=>⟨j.put f Ω,g,Ω,a⟩⟩
 rintro i ab A hi ⟨f,a⟩ B;obtain⟨x,s⟩:=aJ (l:=l) hi;have C:Ext w ab:=j.put f Ω;refine bK Ω ?_;rw[bp aA.u ay.i Ψ (h.W C) s];rw[jk rfl au.u al.i a Θ];refine jl al.i a Θ λL E M y=>?_;rw[aT];refine B _ ⟨f.F E,?_⟩;have e:(l.take i++o5 (l.length-i) 0).set i x=l.take (i+1)++o5 (l.length-(i+1)) 0:=by
  have G:(l.take i).length=i:=by rw[Z3];omega
  rw[U7 _ _ Ω,G,V7,show l.length-i=(l.length-(i+1))+1 by omega,List.replicate_succ,List.set_cons_zero,u9,s,j4,T1];rfl
 rw[e]at y;exact y
def OG(w:x5)(l:Λ)(k o:Int)(v:x4)(I:x5):Prop:=
 Ext w I/\(¬cn l->v= .tuple #[.pointer ν,Δ 1])/\(cn l->¬cE o k->v= .tuple #[.pointer ν,Δ 3])/\
  (cn l->cE o k->∃g m sv gs,v= .tuple #[Γ g,Δ 0]/\w.heap.size<=g/\w.heap.size<=m/\(∀r,lc sv r->w.heap.size<=r)/\gF I g m sv gs l k o [])
theorem OH{o:Int}(h:aQ .i64 w sv l):aq x8 qo [sv,Δ k,Δ o] w (OG w l k o):=by
 refine aE func177 ?_;refine a6 (λv U=>Ext w U/\∃c,v= .bool c/\(c=s2↔¬cn l)) ?_ ?_
 .rintro _ U ⟨e,c,rfl,f⟩;rw[b4];refine⟨λx=>⟨e,λ_=>rfl,λh=>m6 h (f.1 x),λh=>m6 h (f.1 x)⟩,λah=>?_⟩;have V:cn l:=Classical.byContradiction λh=>by have:=f.2 h;rw[ah]at this;cases this
  have G:=V.1;refine k8.Y ?_;rintro _ ab _ ⟨rfl,a⟩;by_cases hi:cE o k
  rotate_left
  .simp only[hi,decide_false,bR,X5,bT];exact⟨e.F a,λh=>m6 V h,λ_ _=>rfl,λ_ h=>m6 h hi⟩
  simp only[hi,decide_true,bR,Y7,bb];refine(my ((h.W e).W a) Ω).Y ?_;rintro aX H _ ⟨y,A,I,hm⟩;have J:=hm.ls.cells;refine r7 λm K L j B=>?_;rw[dn (cs:=#[aX,Δ k,Δ o,.map (σ m)]) (by obtain⟨_,_,_,_,_,rfl,_⟩:=hm.ls;kernel_rfl)];refine br λg M N q C=>?_;have s1:=e.size;have O:=a.size;have P:=y.size;have Q:=j.size;exact⟨((((e.F a).F y).F j).F q),λh=>m6 V h,λ_ h=>m6 hi h,λ_ _=>⟨g,m,aX,A,rfl,Ω,Ω,λr E=>by have:=(ca hm E).1;omega,C,(hm.W j).W q,B.W q,V,hi,λp ae=>by cases ae⟩⟩
 .intro az z;rw[ba au.u h];simp only[bW,ao];refine⟨λR=>z _ _ ⟨Ext.refl _,s2,rfl,λ_ V=>by have:=V.1;omega,λ_=>rfl⟩,λS=>?_⟩;refine(C5 h).Y ?_;rintro _ ab _ ⟨rfl,a⟩;refine z _ _ ⟨a,_,rfl,?_⟩;rw[ro];exact⟨λs V=>s V.2,λs V=>s ⟨Ω,V⟩⟩
structure DZ where
 an:Λ
 k:Int
 o:Int
 D:Told
instance VF:aw DZ where
 n:=1
 rep _ _ R w cs a:=∃g m sv gs,cs=[Γ g]/\gF w g m sv gs a.an a.k a.o a.D/\R g/\R m/\∀r,lc sv r->R r
 len:=by rintro _ _ _ _ _ _ ⟨_,_,_,_,rfl,_⟩;rfl
 one:=by rintro _ _ _ _ _ _ ⟨_,_,_,_,rfl,_⟩ u hu;simp at hu;subst hu;rfl
 aa:=by
  rintro _ _ R T w I _ a ⟨g,m,sv,gs,rfl,h1,f,h,j⟩ J q;obtain⟨s,x,y⟩:=h1.r5;exact⟨g,m,sv,gs,rfl,h1.aa J (q g s (.inr f)) (q m x (.inr h)) λr e=>q r (y r e) (.inr (j r e)),f,h,j⟩
 Y:=by
  rintro _ _ _ R R' w _ a ⟨g,m,sv,gs,rfl,h1,f,h,j⟩ _ z;obtain⟨s,x,y⟩:=h1.r5;exact⟨g,m,sv,gs,rfl,h1,z g s f,z m x h,λr e=>z r (y r e) (j r e)⟩
 j8:=by
  rintro _ _ R w _ a ⟨g,m,sv,gs,rfl,h1,f,h,j⟩;exact⟨g,m,sv,gs,rfl,h1,.inr f,.inr h,λr e=>.inr (j r e)⟩
abbrev iB:Type:=Rd (Λ)×DZ
def su(k:Int)(x:cI)(f:iB):Prop:=f.1=x.scope/\f.2.an=x.d6/\f.2.k=k/\f.2.o=min x.other k/\f.2.D.length<=x.lines.length/\∀t,jR f.2.D f.2.o t=lb x k t
theorem OI{m:Bool}{S R:aj}{x:cI}(h:aw.rep m S R w cs (iX x)):∃a1 hv cw,cs=[a1,hv,Δ x.other,cw]/\aw.rep (α:=Λ) sp bU R w [a1] x.scope/\aw.rep (α:=Λ) sp bU R w [hv] x.d6/\aw.rep (α:=List (Λ×Int)) sp bU R w [cw] x.lines:=by
 obtain⟨j,d1,r,s,rfl,_,_,_,h1,q,d2,z,A,rfl,_,_,_,a,B,d3,C,E,rfl,_,_,_,f,e⟩:=h;have h1:=h1;have a:=a;have f:=f;have e:=e;obtain⟨u,rfl⟩:=X9.1 (show j.length=1 from aw.len h1);obtain⟨v,rfl⟩:=X9.1 (show q.length=1 from aw.len a);obtain⟨y,rfl⟩:=X9.1 (show d3.length=1 from aw.len e);subst f;exact⟨u,v,y,rfl,h1,a,e⟩
theorem OJ{m:Bool}{S R:aj}{p:Λ×Int}(h:aw.rep m S R w cs p):∃aX,cs=[aX,Δ p.2]/\aQ .i64 w aX p.1:=by
 obtain⟨e,d1,f,j,rfl,_,_,_,h1,a⟩:=h;obtain⟨u,rfl⟩:=X9.1 (show e.length=1 from aw.len h1);have a:=a;subst a;exact⟨u,rfl,ew h1⟩
structure uN(k:Int)(x:cI):Prop where
 k:right k
 d6:cn x.d6
 other:0<=x.other
 lines:ow x.d6 x.lines
 len:x.lines.length<=60000
 scope:x.scope.length<=100001
theorem dr{k:o8}(h:aQ k w v l):∃a n c,v= .slice a n c:=by
 obtain⟨_,b,o,base,cap,rfl,_⟩:=h;exact⟨_,_,_,rfl⟩
theorem OK{af:Nat}{aI aK aL:x4}{K:Int}{R:aj}{x:cI}(ah:ak w af cM [aI,Δ K,aK,aL])(J:Seen R w cs (iX x))(aC:uN K x):
  aq x8 wO [Γ af,.agg cs.toArray] w λv I=>Ext w I/\∃bJ,∃f:iB,v= .agg bJ.toArray/\bJ.length=2/\Seen (e4 w.heap.size) I bJ f/\su K x f:=by
 obtain⟨a1,hv,cw,rfl,h1,al,O⟩:=OI J;obtain⟨C,P,bh,am,bi,bj⟩:=aC;have bk:=P.1;refine aE func115 ?_;refine br λav U bl an j=>?_;have j:ak U av cu [a1,hv,Δ x.other,cw]:=by
  obtain⟨_,_,_,rfl⟩:=nM h1;obtain⟨_,_,_,rfl⟩:=nM al;obtain⟨_,_,_,rfl⟩:=nM O;exact j
 refine bF cR.i λao ab bm Q E=>?_;have E:=E;intro bn G _ _;have S:=(an.F Q).F G;have V:=Q.F G;have bo:=an.size;have bp:=Q.size;have z3:=G.size;have bq:=E.lt;have ap:=ah.W S;rw[aP cu.p 1 (j.W V) rfl,aO cM.p 1 ap rfl,
  aP cu.p 2 (j.W V) rfl,aO cM.p 1 ap rfl,mp]
 refine(uM ((ew al).W S) Ω).Y ?_;rintro bs bt _ ⟨s,bu,bw,aM⟩;refine⟨.inl s,?_⟩;have z4:=s.size;have aN:cE (min x.other K) K:=⟨C,by have:=C.1;omega,Ω⟩;refine(OH aM.ls).Y ?_;rintro _ aQ _ ⟨H,_,_,aR⟩;obtain⟨ag,m,sv,gs,rfl,bx,bz,au,aS⟩:=aR P aN;rw[bA,bB];have z5:=H.size;have W:=(S.F s).F H;have aw:=(V.F s).F H;rw[aP cu.p 3 (j.W aw) rfl];have ax:=bD O W;rw[ij kb.u ax];refine b3.range x.lines.length (λi L=>ai (λr=>r=m) aQ L/\∃D,D.length<=i/\gF L ag m sv gs x.d6 K (min x.other K) D/\∀t,jR D (min x.other K) t=mN x K i t) (pt ax) ⟨ai.refl _ _,[],o6 _,aS,λt=>by rw[DP];rfl⟩ ?_ ?_
 .rintro i L aU hi ⟨a,D,ay,y,X⟩ aV;obtain⟨p,ae⟩:=aJ (l:=x.lines) hi;have az:=am.2 p (x7 ae);have z:=W.put a Ω;have aW:=a.size;have aY:=bD O z;refine bK Ω ?_;refine nH eE.p rfl kb.u eE.i aY ae λbC aZ=>?_;obtain⟨aX,rfl,aA⟩:=OJ aZ;refine bF eE.i λbG bH bI aB a2=>?_;have bL:=aB.size;refine cd (vs:=[aX,Δ p.2]) eE.i rfl rfl (by intro v ac;simp at ac;rcases ac with rfl|rfl<;>first|exact aA.cells.2|rfl) a2 λbM a6 bN aD=>?_;have a7:=aB.put a6 Ω;intro bO Y _ _;have q:=a7.F Y;have z9:=q.size;rw[aP eE.p 0 (aD.W Y) rfl,aP eE.p 1 (aD.W Y) rfl,aO cM.p 1 ((ah.W z).W q) rfl,mp];have bP:=xH P az.1;refine(uM (aA.W q) Ω).Y ?_;rintro bQ bR _ ⟨A,bS,bT,a8⟩;refine⟨.inl A,?_⟩;have bV:=A.size;refine(Dd ((y.W q).W A).is a8.ls).Y ?_;rintro _ bW _ ⟨_,ba⟩;have bb:cE (min p.2 K) K:=⟨C,by have:=C.1;omega,Ω⟩;obtain⟨rfl,aF,D',aG,aH⟩:=ba ⟨az.1,bb⟩;rw[aT];refine aV _ ⟨(a.F ((q.F A).aa _)).F aF,D',by have:=aG.2;omega,gF.put ((y.W q).W A) aF aH,λt=>?_⟩;rw[DR am.1 ae,aG.cost y.is.nodup aH.nodup];by_cases M:t=p.1
  .rw[m3 M,m3 M]
  .rw[m5 M,m5 M,X]
 .rintro L aU ⟨a,D,ay,y,X⟩;have z:=W.put a Ω;have bc:=aw.put a Ω;have aW:=a.size;refine ck Ω ?_;rw[aP cu.p 0 (j.W bc) rfl];refine(uM ((ew h1).W z) Ω).Y ?_;rintro Z bX _ ⟨N,bY,bZ,B⟩;have z12:=N.size;rw[dn (cs:=#[Z,Γ ag]) (by obtain⟨_,_,_,rfl⟩:=dr B.ls;kernel_rfl)];have bd:=((G.F s).F H).put a Ω;refine cd (vs:=[Z,Γ ag]) cR.i rfl rfl (by intro v ac;simp at ac;rcases ac with rfl|rfl<;>first|exact B.ls.cells.2|rfl) ((E.W bd).W N) λb0 ad b1 be=>?_;rw[fA cR.p cR.i rfl be.range];have bf:=(y.W N).aa ad (λhe=>by have he:=he;omega) (λhe=>by have he:=he;omega) (λr e he=>by have he:r=ao:=he;have:=au r e;omega);have bg:=bE B ad λr e he=>by have he:r=ao:=he;have:=(ca B e).1;omega
  refine⟨(z.F N).put ad Ω,_,(x.scope,⟨x.d6,K,min x.other K,D⟩),rfl,rfl,?_,rfl,rfl,rfl,rfl,ay,λt=>?_⟩
  .exact⟨[Z],[Γ ag],bU,bU,rfl,λ_ h=>h,λ_ h=>h,λ_ _ h _=>h,sq bg λr e=>by have:=(ca B e).1;show w.heap.size<=r;omega,
    ⟨ag,m,sv,gs,rfl,bf,by show w.heap.size<=ag;omega,by show w.heap.size<=m;omega,λr e=>by have:=au r e;show w.heap.size<=r;omega⟩⟩
  .rw[X,DQ]
end Go.Proofs.YtlcdcbgoaljiiaaGreatDoor
