/- own texts, made small by a tool (wip/ holds them as they were written): no statement of the seat. -/
import Derived.Test.YtikkpokkcdocoabGreatDoorXa
set_option linter.unusedVariables false
set_option linter.unusedSimpArgs false
set_option linter.unnecessarySimpa false
open Array renaming getElem?_eq_some_iff→j4,getElem?_toList→S9
open BitVec renaming ofInt→T4
open Bool renaming not_true→Y7,not_false→V0,eq_iff_iff→V9,and_eq_true→U1,or_eq_false_iff→S7
open Decidable renaming not_not→Y0
open Go renaming Value→x1,World→x3,TypeId→p8,IntKind→o6,Builtin→Z6,Program→W8,FuncId→R7
open Go.Builtin renaming append_→Z2,len_→V2
open Go.Instr renaming loadAt→u5,fieldAt→u6,storeAt→o9,indexAt→c9,extract→Y1,buildSlice→Y3,sliceAt→U3
open Go.IntKind renaming i64→X9,u64→T0
open Go.Proofs.Tryz renaming prog→x7
open Go.Result renaming andThen→W7
open Go.Sem renaming run_bind→W6,run_pure→V3
open Go.Value renaming int→V5
open Int renaming toNat_natCast→r9
open List renaming getElem?_eq_some_iff→x4,mem_of_getElem?→x5,getElem?_eq_getElem→x6,getElem?_map→x8,getD_eq_getElem?_getD→u4,take_add_one→u7,length_map→u9,length_append→r8,replicate→p9,mem_append→o5,take_length→o7,length_take→n9,mem_singleton→l9,mem_map→j5,take_of_length_le→j6,length_cons→j9,eq_nil_of_length_eq_zero→c8,length_set→b8,getElem?_set_self→b9,map_append→Z3,getElem?_eq_none→Z4,getElem?_take_of_lt→Z9,getElem?_set_ne→Y4,ext_getElem?→Y5,append_assoc→Y6,getElem?_append_left→Y9,getElem?_append_right→X0,getElem?_set→X2,range→X3,append_nil→X5,mem_iff_getElem?→X7,flatMap_cons→W0,drop_eq_getElem_cons→W3,mem_or_eq_of_mem_set→W5,length_eq_one_iff→W9,mem_cons→V4,length_singleton→V6,pairwise_iff_getElem→V8,map_set→U9,map_cons→T1,getElem_mem→T2,set_append_right→T8,length→S5,flatMap_append→S8,mem_flatMap→R2,map_map→R4
open Nat renaming le_refl→o4,le_trans→Y8,mul_le_mul_right→X1,zero_le→X6,zero_add→X8,add_mul→U4,mul_one→U7,sub_self→U8,pow_le_pow_right→S2,add_sub_cancel_left→R6,lt_of_lt_of_le→Q1,eq_zero_or_pos→Q2
open Option renaming toList_some→o8,some→c7,isNone_some→Z5,map_some→Z7,map_eq_some_iff→X4,getD_some→V1,map→V7
open Option.some renaming inj→Z0,injEq→Y2
open Prod renaming mk→Q3
open Prod.mk renaming injEq→T5
set_option maxHeartbeats 16000000
open Option renaming some→σ,none→ν
variable{C aj ks l sizes:Λ}{N a gs j n r:Nat}{e t:p8}{K:x1->Prop}{at_ c hi k lo y:Int}{clean cx cy:Bool}{sv v z:x1}{w w':x3}{R S:Nat->Prop}{cs:List x1}{toks:List (Λ)}
namespace Go.Vc
open Go Go.RowKit
set_option maxRecDepth 100000
theorem Kf:(⟨#[]⟩:ByteArray)=strOfNums []:=rfl
theorem Kg{aB:x1->x1->x1->x3->Prop}{B:(x1->x1->x1->x3->Prop)->Prop}(G:x1->x1->x1->x3->Prop)(h1:∀t u v w,G t u v w->aB t u v w)(e:∀a:x1->x1->x1->x3->Prop,(∀t u v w,G t u v w->a t u v w)->B a):cz aB B:=e aB h1
theorem AO{aB:x1->x1->x1->x1->x3->Prop}{B:(x1->x1->x1->x1->x3->Prop)->Prop}(G:x1->x1->x1->x1->x3->Prop)(h1:∀s t u v w,G s t u v w->aB s t u v w)(e:∀a:x1->x1->x1->x1->x3->Prop,(∀s t u v w,G s t u v w->a s t u v w)->B a):cz aB B:=e aB h1
abbrev bL(l:Λ):x1:=.string (strOfNums l)
def Bytes(l:Λ):Prop:=∀b∈l,0<=b/\b<256
theorem mU(l:Λ):(strOfNums l).size=l.length:=strOfNums_size l
theorem Kh(h:Bytes l){i:Nat}{b:Int}(hi:l[i]?=σ b):(strOfNums l)[i]?=σ (UInt8.ofNat b.toNat)/\((UInt8.ofNat b.toNat).toNat:Int)=b:=by
 have f:=h b (x5 hi);have e:=x4.1 hi;refine⟨?_,by rw[UInt8.toNat_ofNat'];omega⟩;have U:i<(strOfNums l).size:=by rw[mU];exact e.1
 rw[getElem?_pos (strOfNums l) i U];congr 1;show(strOfNums l).data[i]=_;have a:(strOfNums l).data.toList[i]?=σ (UInt8.ofNat b.toNat):=by rw[strOfNums_data,x8,hi];rfl
 rw[S9]at a;exact(j4.1 a).2
theorem str_inj{a b:Λ}(e:Bytes a)(f:Bytes b)(h:strOfNums a=strOfNums b):a=b:=by
 have h1:(strOfNums a).data.toList=(strOfNums b).data.toList:=by rw[h]
 rw[strOfNums_data,strOfNums_data]at h1;have key:∀{l:Λ},Bytes l->(l.map λn=>UInt8.ofNat n.toNat).map (λu=>((u.toNat:Nat):Int))=l:=λ{l}p=>by
  rw[R4]
  conv=>rhs;rw[<-List.map_id l]
  refine List.map_congr_left λx J=>?_;have:=p x J;show(((UInt8.ofNat x.toNat).toNat:Nat):Int)=x;rw[UInt8.toNat_ofNat'];omega
 rw[<-key e,<-key f,h1]
theorem Ki(a b:Λ):strOfNums a++strOfNums b=strOfNums (a++b):=by
 apply ByteArray.ext;rw[ByteArray.data_append];simp[strOfNums]
theorem Kj(l:Λ)(i j:Nat):(strOfNums l).extract i j=strOfNums ((l.take j).drop i):=by
 apply ByteArray.ext;rw[ByteArray.data_extract];apply Array.toList_inj.1;rw[Array.toList_extract];simp[strOfNums,List.extract_eq_take_drop,List.map_drop,List.map_take,List.drop_take]
theorem AP(l:Λ):(strOfNums l).toList=l.map λn=>UInt8.ofNat n.toNat:=by
 rw[ByteArray.toList_eq];exact strOfNums_data l
theorem AQ{a b:Λ}(e:Bytes a)(f:Bytes b):((strOfNums a).toList == (strOfNums b).toList)=decide (a=b):=by
 rw[V9,beq_iff_eq,decide_eq_true_eq,AP,AP];refine⟨λh=>str_inj e f ?_,λh=>by rw[h]⟩;unfold strOfNums;rw[h]
section
variable{P:W8}{w:x3}
theorem n5{a:p8}(e:P.underlying t=σ .string):ac P (V2 #[t] a #[bL l]) w K=K (Δ l.length):=ac.of λw' _=>by
 simp[V2,run_underlying e,goInt,mU]
theorem qG{k:o6}{b:Int}{i:Nat}(a:y=(i:Int))(f:P.underlying t=σ .string)(h:Bytes l)(hi:l[i]?=σ b):ac P (Instr.index t (bL l) (.int k y)) w K=K (.int .u8 b):=ac.of λw' _=>by
 subst a;obtain⟨h1,p⟩:=Kh h hi;have e:(0:Int)<=(i:Int):=Ω
 simp only[Instr.index,asIntOf,W6,V3,W7,run_underlying f];rw[if_pos e,r9,h1];simp only[V3,p]
theorem v8{a b:Λ}(h:a.length+b.length<=9223372036854775807):ac P (aN .add t cx cy (bL a) (bL b)) w K=K (bL (a++b)):=ac.of λw' _=>by
 have:=run_string_add_sum (P:=P) (w:=w') (strOfNums a) (strOfNums b) (by rw[mU,mU];exact h);simp only[aN,eqGuard,binOp];simp[this,Ki]
theorem wa{a b:Λ}(e:Bytes a)(f:Bytes b):ac P (aN .eql t cx cy (bL a) (bL b)) w K=K (.bool (decide (a=b))):=ac.of λw' _=>by
 simp[aN,eqGuard,binOp,Op.stringOp,AQ e f]
theorem Kk{a b:Λ}(e:Bytes a)(f:Bytes b):ac P (aN .neq t cx cy (bL a) (bL b)) w K=K (.bool (decide (a≠b))):=ac.of λw' _=>by
 simp[aN,eqGuard,binOp,Op.stringOp,AQ e f]
theorem AR{k:o6}{i:Nat}(a:y=(i:Int))(f:P.underlying t=σ .string)(hi:i<=l.length):ac P (U3 t (bL l) (σ (.int k y)) ν ν) w K=K (bL (l.drop i)):=ac.of λw' _=>by
 have p:=sO (P:=P) w' (sl:=false) (n:=(strOfNums l).size) (c:=(strOfNums l).size) (low:=σ (.int k y)) (high:=ν) (mx:=ν) (l:=i) (h:=(strOfNums l).size) (m:=(strOfNums l).size) (nT i y a) jl fc (by rw[mU];exact hi) (o4 _) (o4 _);have e:(strOfNums l).extract i (strOfNums l).size=strOfNums (l.drop i):=by rw[Kj,mU,o7]
 simp[U3,Instr.slice,run_underlying f,p,e]
theorem wb{s:p8}(U:P.underlying s=σ (.slice e))(he:P.underlying e=σ (.int .u8))(f:P.underlying t=σ .string)(h:aH .u8 w v l):ac P (convert s t v) w K=K (bL l):=ac.of λw' J=>by
 obtain⟨p,b,o,base,cap,rfl,_,_,r,x⟩:=h.ext J;have p:l.length=l.length*1:=by simpa using p
 by_cases y:0<l.length
 .rw[r y];refine run_convert_bytes_arg w' s e U he b o l.length cap l rfl (λi hi=>?_) t f;have q:l[i]?=σ l[i]:=x6 hi;rw[u4,q];exact x i _ (lf q)
 .have z:l=[]:=c8 Ω;subst z;cases base with
  |none=>
   rw[run_convert_bytes_nil w' s e U he _ _ t f];rfl
  |some a=>
   rw[run_convert_bytes_string w' s t e _ _ _ U he f];have:=run_bytesToString (P:=P) w' a 0 cap [] (by have:=run_loadCells_list (P:=P) w' a [] (λj v A=>by simp at A);simpa using this);simp only[List.length_nil];rw[this];rfl
theorem wc{s:p8}{u:TypeDesc}{K:x1->x3->Prop}(U:P.underlying s=σ u)(x:P.underlying t=σ (.slice e))(he:P.underlying e=σ (.int .u8))(y:Bytes l)(hm:l.length<=1000000000)(z:∀v w',Ext w w'->aH .u8 w' v l->(∀r,(∃a n c,v= .slice (σ a) n c/\a.block=r)->w.heap.size<=r)->K v w'):aD P (convert s t (bL l)) w K:=by
 have A:=Lib.bytesWorld_at_new w e (strOfNums l);have p:=λj f=>Lib.bytesWorld_at_old w e (strOfNums l) j f;have B:=Lib.bytesWorld_size w e (strOfNums l);refine .of (Lib.run_convert_string_bytes w s t e (strOfNums l) U x he) ⟨rfl,⟨rfl,Nat.le_succ _⟩,rfl,Ω,λr o h _=>?_⟩ (z _ _ ⟨Ω,λr o h _=>?_⟩ ?_ ?_)
 .rw[p r (j4.1 h).1];exact h
 .rw[p r (j4.1 h).1];exact h
 .rw[mU];refine⟨Ξ,w.heap.size,0,_,_,rfl,?_,?_,λ_=>rfl,λj v ad=>?_⟩
  .exact grownCap_ge w _ _ _
  .exact grownCap_le_maxLen w _ _ _ (by simp[maxLen];omega)
  .have f:j<l.length:=by have:=(x4.1 ad).1;simpa using this
   have q:l[j]?=σ l[j]:=x6 f;rw[X8,Lib.bytesWorld_cell w e (strOfNums l) j (by rw[mU];exact f)];rw[lf q]at ad;rw[<-Z0 ad,strOfNums_data,u4,x8,q];have:=y l[j] (T2 f);simp only[Z7,V1];congr 2;rw[UInt8.toNat_ofNat'];omega
 .rintro r ⟨a,n,c,h1,rfl⟩;cases h1;exact o4 _
end
end Go.Vc
namespace Go.Proofs.YtikkpokkcdocoabGreatDoor
open Go Go.Vc Go.RowKit Go.Proofs Go.Proofs.Tryz
set_option maxRecDepth 100000
theorem AS{b:Int}(h:cA b=true):bO b=false:=by
 have h:=of_decide_eq_true h;unfold bO;rw[decide_eq_false_iff_not];omega
theorem AT{b:Int}{p:Λ}(h:cA b=true):lex (b::p)=lex p:=by
 rw[kC,kC p,List.dropWhile_cons,if_pos h]
theorem Kl{b:Int}{p:Λ}(h:cA b=false)(a:bO b=false):lex (b::p)=([],false):=by
 rw[kC,List.dropWhile_cons,if_neg (by simp[h])];simp only[a,Bool.false_eq_true,if_false]
theorem AU{b:Int}{p:Λ}(h:bO b=true):lex (b::p)=match p.dropWhile bO with
  |[]=>([b::p.takeWhile bO],true)
  |c::r=>if cA c then((b::p.takeWhile bO)::(lex (c::r)).1,(lex (c::r)).2)else([],false):=by
 have U:cA b=false:=by
  cases a:cA b with
  |false=>rfl
  |true=>rw[AS a]at h;cases h
 rw[kC,List.dropWhile_cons,if_neg (by simp[U])];simp only[h,if_true,List.dropWhile_cons,List.takeWhile_cons]
 all_goals (cases List.dropWhile bO p<;>rfl)
def ij:Λ->List (Λ)->Λ->Bool->List (Λ)×Bool
 |[],out,w,op=>(if op then out++[w]else out,true)
 |b::p,out,w,op=>
  if cA b then ij p (if op then out++[w]else out) [] false
  else if bO b then ij p out (if op then w++[b]else[b]) true
  else(out,false)
theorem qH:∀(p:Λ)(out:List (Λ))(w:Λ),ij p out w false=(out++(lex p).1,(lex p).2)/\
  ij p out w true=match p.dropWhile bO with
   |[]=>(out++[w++p.takeWhile bO],true)
   |c::r=>if cA c then(out++[w++p.takeWhile bO]++(lex (c::r)).1,(lex (c::r)).2)else(out,false)
 |[],out,w=>by simp[ij,kC []]
 |b::p,out,w=>by
  by_cases U:cA b=true
  .have hw:=AS U;refine⟨?_,?_⟩
   .rw[ij,if_pos U,(qH p _ _).1,AT U];simp
   .rw[ij,if_pos U,if_pos rfl,(qH p _ _).1,List.dropWhile_cons,if_neg (by simp[hw])];simp only[U,if_true,AT U,List.takeWhile_cons,hw,Bool.false_eq_true,if_false,X5]
  .have e:cA b=false:=by cases h:cA b;rfl;exact absurd h U
   by_cases hw:bO b=true
   .refine⟨?_,?_⟩
    .rw[ij,if_neg U,if_pos hw,if_neg Ξ,(qH p _ _).2,AU hw];cases p.dropWhile bO with
     |nil=>simp
     |cons c r=>
      simp only;by_cases a:cA c=true
      .simp[a]
      .simp[a]
    .rw[ij,if_neg U,if_pos hw,if_pos rfl,(qH p _ _).2,List.dropWhile_cons,if_pos hw,List.takeWhile_cons,if_pos hw];cases p.dropWhile bO with
     |nil=>simp
     |cons c r=>
      simp only;by_cases a:cA c=true
      .simp[a]
      .simp[a]
   .have f:bO b=false:=by cases h:bO b;rfl;exact absurd h hw
    refine⟨?_,?_⟩
    .rw[ij,if_neg U,if_neg hw,Kl e f];simp
    .rw[ij,if_neg U,if_neg hw,List.dropWhile_cons,if_neg hw];simp[e]
theorem Km(p:Λ):ij p [] [] false=lex p:=by rw[(qH p [] []).1];simp
def pp:Nat->Nat->Λ
 |0,_=>[]
 |k+1,n=>(if n<10 then[]else pp k (n / 10))++[48+((n % 10:Nat):Int)]
def fq(n:Nat):Λ:=pp (n+1) n
theorem AV:∀{k m n:Nat},n<k->n<m->pp k n=pp m n
 |k+1,m+1,n,h1,a=>by
  unfold pp;by_cases h:n<10
  .rw[if_pos h,if_pos h]
  .rw[if_neg h,if_neg h,AV (k:=k) (m:=m) (n:=n / 10) Ω Ω]
theorem n7(n:Nat):fq n=(if n<10 then[]else fq (n / 10))++[48+((n % 10:Nat):Int)]:=by
 unfold fq;rw[pp];by_cases h:n<10
 .rw[if_pos h,if_pos h]
 .rw[if_neg h,if_neg h,AV (k:=n) (m:=n / 10+1) Ω Ω]
theorem AW:∀(k n:Nat),n<k->∀b∈fq n,48<=b/\b<=57
 |k+1,n,hk,b,a=>by
  rw[n7]at a;rcases o5.1 a with a|a
  .by_cases h:n<10
   .rw[if_pos h]at a;simp at a
   .rw[if_neg h]at a;exact AW k (n / 10) Ω b a
  .rw[l9]at a;omega
theorem AX(n:Nat):∀b∈fq n,48<=b/\b<=57:=AW (n+1) n Ω
def qI(l:Λ):Int:=l.foldl (λn b=>10*n+(b-48)) 0
theorem Kn(l:Λ)(b:Int):qI (l++[b])=10*qI l+(b-48):=by simp[qI]
theorem we:∀(k n:Nat),n<k->qI (fq n)=n
 |k+1,n,hk=>by
  rw[n7,Kn];by_cases h:n<10
  .rw[if_pos h];have:qI []=0:=rfl;omega
  .rw[if_neg h,we k (n / 10) Ω];omega
theorem Ko{b:Nat}(h:fq a=fq b):a=b:=by
 have h1:=we (a+1) a Ω;have e:=we (b+1) b Ω;rw[h,e]at h1;omega
theorem wg:∀(k n:Nat),n<10 ^ k->1<=k->(fq n).length<=k
 |k+1,n,h,_=>by
  rw[n7,r8];by_cases a:n<10
  .rw[if_pos a];simp
  .rw[if_neg a];have hk:1<=k:=by
    rcases k with _|k
    .simp at h;omega
    .omega
   have e:(10:Nat) ^ (k+1)=10*10 ^ k:=by rw[Nat.pow_succ,Nat.mul_comm]
   have:=wg k (n / 10) Ω hk;simp only[V6];omega
def dY(t:Λ):Λ:=t.flatMap λv=>fq v.toNat++[32]
theorem Kp(t:Λ)(v:Int):dY (t++[v])=dY t++(fq v.toNat++[32]):=by simp[dY]
theorem AY{r:Λ}(a:∀b∈l,b≠32):(l++32::r).takeWhile (λb=>decide (b≠32))=l/\(l++32::r).dropWhile (λb=>decide (b≠32))=32::r:=by
 induction l with
 |nil=>simp
 |cons x l e=>
  have J:=a x (.head _);have:=e λb f=>a b (.tail _ f);simp only[List.cons_append,List.takeWhile_cons,List.dropWhile_cons];simp only[J,ne_eq,not_false_eq_true,decide_true,if_true];exact⟨by rw[this.1],this.2⟩
theorem AZ:∀{a b:Λ},(∀x∈a,0<=x)->(∀x∈b,0<=x)->dY a=dY b->a=b
 |[],[],_,_,_=>rfl
 |[],y::b,_,_,h=>by simp[dY]at h
 |x::a,[],_,_,h=>by simp[dY]at h
 |x::a,y::b,p,q,h=>by
  have e:∀(z:Int)(l:Λ),dY (z::l)=fq z.toNat++32::dY l:=λz l=>by simp[dY]
  rw[e,e]at h;have d:∀z:Int,∀c∈fq z.toNat,c≠32:=λz c w=>by have:=AX _ c w;omega
  have s1:=AY (r:=dY a) (d x);have s:=AY (r:=dY b) (d y);rw[h]at s1;have A:fq x.toNat=fq y.toNat:=s1.1.symm.trans s.1;have B:=s1.2.symm.trans s.2;have J:=p x (.head _);have E:=q y (.head _);have:=Ko A;have C:x=y:=Ω
  subst C;rw[AZ (λz f=>p z (.tail _ f)) (λz f=>q z (.tail _ f)) (List.cons.inj B).2]
theorem A0(t:Λ):Bytes (dY t):=λb a=>by
 obtain⟨v,_,a⟩:=R2.1 a;rcases o5.1 a with a|a
 .have:=AX _ b a;omega
 .rw[l9]at a;omega
theorem A1{b:Int}:am x7 Ip [.int .u8 b] w λv w'=>v= .bool (cA b)/\Ext w w':=by
 refine az func186 ?_;refine aV (λv V=>v= .bool (cA b)/\Ext w V) (λ_ _ h=>h) λaB a=>?_;rw[be,al];refine⟨λh=>a _ _ ⟨by unfold cA;rw[decide_eq_true (.inl h)],Ext.refl _⟩,λh1=>?_⟩;rw[be,al];refine⟨λh=>a _ _ ⟨by unfold cA;rw[decide_eq_true (.inr (.inl h))],Ext.refl _⟩,λe=>?_⟩;rw[be,al];refine⟨λh=>a _ _ ⟨by unfold cA;rw[decide_eq_true (.inr (.inr (.inl h)))],Ext.refl _⟩,λf=>?_⟩;rw[be];refine a _ _ ⟨?_,Ext.refl _⟩;congr 1;unfold cA;rw[V9,decide_eq_true_eq,decide_eq_true_eq];omega
theorem Kq{b:Int}:am x7 Io [.int .u8 b] w λv w'=>v= .bool (bO b)/\Ext w w':=by
 refine az func185 ?_;refine aV (λv V=>v= .bool (bO b)/\Ext w V) (λ_ _ h=>h) λaB a=>?_;rw[cn,al];refine⟨λh=>?_,λh=>a _ _ ⟨by unfold bO;rw[decide_eq_false Ω],Ext.refl _⟩⟩;rw[mL];refine a _ _ ⟨?_,Ext.refl _⟩;congr 1;unfold bO;rw[V9,decide_eq_true_eq,decide_eq_true_eq];omega
def me(w:x3)(g:Nat)(a:x1)(p:Λ)(at_:Nat)(bad:Int):Prop:=Bytes p/\p.length<=100000/\at_<=p.length/\af w g hR [a,Δ (at_:Int),Δ bad]/\∃bk,av .u8 cK w bk a p
theorem me.ext{g:Nat}{a:x1}{p:Λ}{at_:Nat}{bad:Int}(h:me w g a p at_ bad)(J:Ext w w'):me w' g a p at_ bad:=by
 obtain⟨h1,e,f,q,bk,r⟩:=h;exact⟨h1,e,f,q.ext J,bk,r.ext J⟩
theorem Kr(h:aH .u8 w v l)(B:l.length<=100000):am x7 Ij [v] w λf w'=>Ext w w'/\∃g,av .u8 cK w' g f l:=by
 have e:=h;obtain⟨C,b,o,base,cap,rfl,E,hm,q,G⟩:=h;refine az func179 ?_;rw[pe cP.u,bZ];refine⟨λr=>⟨Ext.refl _,0,?_⟩,λ_=>?_⟩
 .have:l=[]:=by
   cases base with
   |none=>
        by_cases e:0<l.length
        .have:=q e;cases this
        .exact c8 Ω
   |some a=>cases r
  subst this;exact av.nil _ _ _ _
 .refine kw (k:=1) (cs:=#[]) cP.u cK.i Ω Ψ λg V H p s=>?_;have x:av .u8 cK V g (.slice (σ ⟨g,0,ν⟩) 0 0) []:=av.of (n:=0) (bX.full (by simpa using s) rfl Ξ);refine jn cP.u cK.i rfl x (e.ext p) Θ Θ λf y aa I z A=>?_;exact⟨p.put A Ω,y,by simpa using z⟩
theorem A2(h:aH .u8 w v l)(r:Bytes l)(e:l.length<=100000):am x7 zH [v] w λs w'=>Ext w w'/\∃g,s=Γ g/\w.heap.size<=g/\∃a,me w' g a l 0 (-1):=by
 refine az func104 ?_;refine(Kr h e).mono ?_;rintro a V _ ⟨f,bk,p⟩;rw[cZ (cs:=#[a,Δ 0,Δ (-1)]) (by obtain⟨_,_,_,_,_,rfl,_⟩:=p.ls;kernel_rfl)];refine bf λg aa y q x=>?_;have s1:=f.size;exact⟨f.trans q,g,rfl,Ω,a,r,e,X6 _,x,bk,p.ext q⟩
def runN(f:Int->Bool)(p:Λ):Nat:=(p.takeWhile f).length
theorem Ks(f:Int->Bool)(p:Λ):runN f p<=p.length:=(List.takeWhile_sublist f).length_le
theorem A3{f:Int->Bool}{p:Λ}{i:Nat}{b:Int}(hi:p[i]?=σ b)(ag:f b=true):i+runN f (p.drop i)=(i+1)+runN f (p.drop (i+1)):=by
 have a:=x4.1 hi;unfold runN;rw[W3 a.1,a.2,List.takeWhile_cons,if_pos ag,j9];omega
theorem A4{f:Int->Bool}{p:Λ}{i:Nat}(h:∀b,p[i]?=σ b->f b=false):runN f (p.drop i)=0:=by
 unfold runN;cases a:p[i]? with
 |none=>
  rw[List.drop_of_length_le (List.getElem?_eq_none_iff.1 a)];rfl
 |some b=>
  have e:=x4.1 a;rw[W3 e.1,e.2,List.takeWhile_cons,if_neg (by simp[h b a])];rfl
theorem Kt{g at_:Nat}{A:x1}{p:Λ}{bad:Int}(h:me w g A p at_ bad):am x7 In [Γ g] w λv w'=>v=Δ ((at_+runN cA (p.drop at_):Nat):Int)/\Ext w w':=by
 obtain⟨K,L,B,a,bk,r⟩:=h;refine az func184 ?_;rw[aQ hR.p 1 a rfl];refine⟨λv V=>Ext w V/\∃i:Nat,v=Δ (i:Int)/\i<=p.length/\i+runN cA (p.drop i)=at_+runN cA (p.drop at_),λv _=>p.length-(bU v).toNat,⟨Ext.refl _,at_,rfl,B,rfl⟩,?_⟩;rintro _ V ⟨q,i,rfl,hi,he⟩;refine aV (λv aa=>Ext w aa/\∃c:Bool,v= .bool c/\(c=true↔ ∃b,p[i]?=σ b/\cA b=true)) ?_ ?_
 .rintro _ aa ⟨s,c,rfl,x⟩;rw[bZ];refine⟨λC=>?_,λag=>?_⟩
  .obtain⟨b,e,E⟩:=x.1 C;have G:=(x4.1 e).1;rw[aO,wrap_i64 Ω Ω];exact⟨⟨s,i+1,rfl,G,by rw[<-he,A3 e E]⟩,by simp only[bU];omega⟩
  .have H:=A4 (f:=cA) (p:=p) (i:=i) λb a=>by
    cases U:cA b with
    |false=>rfl
    |true=>rw[x.2 ⟨b,a,U⟩]at ag;cases ag
   exact⟨by rw[<-he,H,Nat.add_zero],s⟩
 .intro aB y;have z:=a.ext q;rw[aQ hR.p 0 z rfl,aW cP.u (r.ext q).ls,aS,al];refine⟨λM=>?_,λN=>y _ _ ⟨q,false,rfl,⟨λh=>(by cases h),λ⟨b,a,_⟩=>by have:=(x4.1 a).1;omega⟩⟩⟩;have I:i<p.length:=Ω
  have e:p[i]?=σ p[i]:=x6 I;rw[aQ hR.p 0 z rfl,bh cP.u cK.i Ψ (r.ext q).ls e];refine A1.mono ?_;rintro _ O _ ⟨rfl,J⟩;exact y _ _ ⟨q.trans J,_,rfl,⟨λh=>⟨_,e,h⟩,λ⟨b,a,h⟩=>by rw[e]at a;cases a;exact h⟩⟩
inductive Ku where
 |word (from_ to:Nat)
 |none
 |text (at_:Nat)
def gA(p:Λ)(at_:Nat):Nat:=at_+runN cA (p.drop at_)
def iM(p:Λ)(a:Nat):Nat:=a+runN bO (p.drop a)
open Classical in
noncomputable def pq(p:Λ)(at_:Nat):Ku:=
 if iM p (gA p at_)<p.length/\(∀c,p[iM p (gA p at_)]?=σ c->cA c=false)then .text (iM p (gA p at_))else if gA p at_=iM p (gA p at_)then .none else .word (gA p at_) (iM p (gA p at_))
def qJ(w:x3)(g:Nat)(e:x1)(p:Λ)(at_:Nat)(v:x1)(w':x3):Prop:=
 match pq p at_ with
 | .word a b=>v= .tuple #[bL ((p.take b).drop a),Δ (a:Int),Δ 0]/\ai (λr=>r=g) w w'/\me w' g e p b (-1)
 | .none=>∃n:Nat,v= .tuple #[bL [],Δ (n:Int),Δ 2]/\Ext w w'
 | .text b=>v= .tuple #[bL [],Δ (b:Int),Δ 11]/\ai (λr=>r=g) w w'/\me w' g e p at_ (b:Int)
theorem hz{aX:Nat->Prop}{a b c:x3}(h:ai S a b)(k:ai aX b c)(p:∀r,r<a.heap.size->aX r->S r):ai S a c:=
 ⟨Y8 h.size k.size,λr o e U f=>k.aZ r o (h.aZ r o e U f) U λhu=>f (p r (j4.1 e).1 hu)⟩
theorem cc{g p:Nat}{k:o6}{q:p8}(h:av k e w g v l)(s:af w p q cs)(y:e≠q)(x:leads v r):r≠p:=by
 obtain⟨rfl,_⟩:=bQ h x;obtain⟨_,⟨rfl,_⟩|⟨_,_,_,f,_⟩⟩:=h
 .obtain⟨a,n,c,h,_⟩:=x;cases h
 .rintro rfl;unfold af at s f;rw[s]at f;injection f with h1;injection h1 with A z;exact y z.symm
theorem Kv{s:p8}{e f:o6}{b i:Nat}(p:x7.underlying s=σ (.slice t))(hi:aR x7 t 1 b z)(h:aH .u8 w v l)(q:i<=j)(r:j<=l.length)(x:∀a,aH .u8 w a ((l.take j).drop i)->K a):ac x7 (U3 s v (σ (.int e (i:Int))) (σ (.int f (j:Int))) ν) w K:=by
 refine sZ p hi h (nT i _ rfl) (nU j _ rfl) q r λa h'=>x a (aH.of (n:=j-i) ?_);have y:((ints .u8 l).drop (i*1)).take ((j-i)*1)=ints .u8 ((l.take j).drop i):=by
  rw[U7,U7,ints,ints,List.map_drop,List.map_take,List.drop_take]
 rw[y]at h';exact h'
theorem Kw{g at_:Nat}{G:x1}{p:Λ}(h:me w g G p at_ (-1)):am x7 vE [Γ g] w (qJ w g G p at_):=by
 obtain⟨Q,R,ao,e,bk,H⟩:=id h;refine az func110 ?_;rw[dc sI.u,Z5,a1,aQ hR.p 2 e rfl,cn,al];refine⟨λh=>Ω,λ_=>?_⟩;refine(Kt h).mono ?_;rintro _ aa _ ⟨rfl,ap⟩;obtain⟨a,S⟩:∃a,a=at_+runN cA (p.drop at_):=⟨_,rfl⟩;rw[<-S];have aq:a<=p.length:=by have:=Ks cA (p.drop at_);rw[List.length_drop]at this;omega
 refine⟨λv I=>Ext aa I/\∃i:Nat,v=Δ (i:Int)/\a<=i/\i<=p.length/\i+runN bO (p.drop i)=a+runN bO (p.drop a),λv _=>p.length-(bU v).toNat,⟨Ext.refl _,a,rfl,o4 _,aq,rfl⟩,?_⟩;rintro _ I ⟨V,i,rfl,au,hi,he⟩;have J:=ap.trans V;have W:=e.ext J;have X:=H.ext J;refine aV (λv z=>Ext I z/\∃c:Bool,v= .bool c/\(c=true↔ ∃b,p[i]?=σ b/\bO b=true)) ?_ ?_
 rotate_left
 .intro aB s;rw[aQ hR.p 0 W rfl,aW cP.u X.ls,aS,al];refine⟨λav=>?_,λaw=>s _ _ ⟨Ext.refl _,false,rfl,⟨λh=>(by cases h),λ⟨b,e,_⟩=>by have:=(x4.1 e).1;omega⟩⟩⟩;have A:i<p.length:=Ω
  have q:p[i]?=σ p[i]:=x6 A;rw[aQ hR.p 0 W rfl,bh cP.u cK.i Ψ X.ls q];refine Kq.mono ?_;rintro _ z _ ⟨rfl,B⟩;exact s _ _ ⟨B,_,rfl,⟨λh=>⟨_,q,h⟩,λ⟨b,e,h⟩=>by rw[q]at e;cases e;exact h⟩⟩
 rintro _ z ⟨B,c,rfl,x⟩;have K:=J.trans B;have Y:=e.ext K;have Z:=H.ext K;rw[bZ];refine⟨λL=>?_,λag=>?_⟩
 .obtain⟨b,q,ax⟩:=x.1 L;have ay:=(x4.1 q).1;rw[aO,wrap_i64 Ω Ω];exact⟨⟨V.trans B,i+1,rfl,Ω,ay,by rw[<-he,A3 q ax]⟩,by simp only[bU];omega⟩
 have aF:=A4 (f:=bO) (p:=p) (i:=i) λb e=>by
  cases U:bO b with
  |false=>rfl
  |true=>rw[x.2 ⟨b,e,U⟩]at ag;cases ag
 have aA:i=a+runN bO (p.drop a):=Ω
 refine aV (λv M=>Ext z M/\∃c:Bool,v= .bool c/\(c=true↔i<p.length/\∀c,p[i]?=σ c->cA c=false)) ?_ ?_
 rotate_left
 .intro aB s;rw[aQ hR.p 0 Y rfl,aW cP.u Z.ls,aS,al];refine⟨λav=>?_,λaw=>s _ _ ⟨Ext.refl _,false,rfl,⟨λh=>(by cases h),λh=>Ω⟩⟩⟩;have A:i<p.length:=Ω
  have q:p[i]?=σ p[i]:=x6 A;rw[aQ hR.p 0 Y rfl,bh cP.u cK.i Ψ Z.ls q];refine A1.mono ?_;rintro _ M _ ⟨rfl,N⟩;rw[bE];refine s _ _ ⟨N,_,rfl,⟨λh=>⟨A,λc x=>?_⟩,λh=>by rw[h.2 _ q];rfl⟩⟩;rw[q]at x;cases x;cases U:cA p[i]with
  |false=>rfl
  |true=>rw[U]at h;cases h
 rintro _ M ⟨N,aG,rfl,ac⟩;have y:=K.trans N;have C:=e.ext y;have E:=H.ext y;have ad:∀r,leads G r->r≠g:=λr aC=>cc E C Φ aC;have O:pq p at_=open Classical in if i<p.length/\(∀c,p[i]?=σ c->cA c=false)then .text i else if a=i then .none else .word a i:=by
  unfold pq;rw[show gA p at_=a from S.symm,show iM p a=i from aA.symm]
 rw[bZ];refine⟨λL=>?_,λae=>?_⟩
 .rw[bV,aU hR.p rfl];refine bl (g:=g) (o:=2) ah.i rfl rfl C Ξ λaH af aI aD=>?_;unfold qJ;rw[O,if_pos (ac.1 L)];exact⟨rfl,(y.ab _).trans af,Q,R,ao,aD,bk,bt E af ad⟩
 .have ai:¬(i<p.length/\∀c,p[i]?=σ c->cA c=false):=λh=>by rw[ac.2 h]at ae;cases ae
  rw[be,al];refine⟨λaJ=>?_,λaK=>?_⟩
  .intro aL P _ _;rw[aQ hR.p 0 (C.ext P) rfl,aW cP.u (E.ext P).ls];unfold qJ;rw[O,if_neg ai,if_pos Ω];exact⟨p.length,rfl,y.trans P⟩
  .rw[bV,aU hR.p rfl];refine bl (g:=g) (o:=1) ah.i rfl rfl C Ξ λaM aj aN ak=>?_;have an:=bt E aj ad;rw[aQ hR.p 0 ak rfl];refine Kv (i:=a) (j:=i) cP.u cK.i an.ls au hi λaP aE=>?_;rw[wb cP.u cK.u cS.u aE];unfold qJ;rw[O,if_neg ai,if_neg Ω];exact⟨rfl,(y.ab _).trans aj,Q,R,hi,ak,bk,an⟩
abbrev bB:ak:=λ_=>False
abbrev eH(n:Nat):ak:=λr=>n<=r
theorem Kx{a b:Λ}{bg bv:x1}(e:aH .i64 w bg a)(s:aH .i64 w bv b):
  am x7 Ic [bg,bv] w λv w'=>v= .bool (decide (a=b))/\Ext w w':=by
 refine az func173 ?_;rw[aW an.u e,aW an.u s];simp only[bD,al];refine⟨λp=>⟨?_,Ext.refl _⟩,λz=>?_⟩
 .rw[decide_eq_false];rintro rfl;exact p rfl
 .have z:a.length=b.length:=Ω
  rw[aW an.u e];refine b5.range a.length (λi _ V=>Ext w V/\a.take i=b.take i) e.le ⟨Ext.refl _,rfl⟩ ?_ ?_
  .rintro i t4 V k A ⟨J,q⟩ hk;simp only[aS,al,er];refine⟨λ_ aa B _ _=>?_,λh=>Ω⟩;have J:=J.trans B;obtain⟨x,r⟩:=aI (l:=a) A;obtain⟨y,f⟩:=aI (l:=b) (i:=i) Ω;rw[bh an.u ah.i Ψ (e.ext J) r,bh an.u ah.i Ψ (s.ext J) f];simp only[bD,al,aO];refine⟨λp=>⟨?_,J⟩,λC=>hk _ _ ⟨J,vS q r f Ω⟩⟩;rw[decide_eq_false];rintro rfl;rw[r]at f;cases f;exact p rfl
  .rintro _ V k ⟨J,q⟩;simp only[aS,al];refine⟨λh=>Ω,λ_=>⟨?_,J⟩⟩;rw[decide_eq_true];rwa [o7,z,o7]at q
def js(rest:List (Λ))(i:Nat):List (Λ):=(X3 i).flatMap λ(v:Nat)=>rest.map λt=>(v:Int)::t
theorem Ky(rest:List (Λ))(i:Nat):js rest (i+1)=js rest i++rest.map λt=>(i:Int)::t:=by
 simp[js,List.range_succ]
theorem A5(rest:List (Λ))(i:Nat):(js rest i).length=i*rest.length:=by
 simp only[js,List.length_flatMap,u9];rw[List.map_const',List.length_range,List.sum_replicate_nat]
def pr(l:Λ):Prop:=l.length<=90/\(∀x∈l,1<=x/\x<=32)/\aP l<=1073741824
theorem b3.p(h:b3 l):pr l:=⟨by have:=h.1;omega,h.2,(prod_bound h).2⟩
theorem pr.tail{s:Λ}(h:pr (k::s)):pr s:=by
 have h1:=h.2.1 k (.head _);have a:=(mR s λx J=>h.2.1 x (.tail _ J)).1;have e:k*aP s<=1073741824:=h.2.2;have f:=Int.mul_le_mul_of_nonneg_right h1.1 (show 0<=aP s by omega);refine⟨?_,λx J=>h.2.1 x (.tail _ J),Ω⟩;have:=h.1;rw[j9]at this;omega
theorem A6:∀(s:Λ){sv:x1}{w:x3},aH .i64 w sv s->pr s->
  am x7 zG [sv] w λv w'=>Ext w w'/\bG (eH w.heap.size) bB w' [v] (bj s)
 |[],sv,w,h,U=>by
  refine az func83 ?_;rw[aW an.u h];simp only[be,List.length_nil,Int.natCast_zero,decide_true,bT];refine kA (α:=Λ) (a:=[]) (cs:=[.slice ν 0 0]) (A:=bB) dx.u an.i Φ rfl ht λv w' J f _=>⟨J,aq.mono f (λr _ h=>?_) λ_ _ h=>h⟩;exact h.elim False.elim id
 |k::s,sv,w,h,U=>by
  have ao:1<=aP (k::s)/\aP (k::s)<=1073741824:=⟨(mR _ U.2.1).1,U.2.2⟩;have z:pr s:=U.tail;have hk:=U.2.1 k (.head _);have O:=iK z.2.1;have ap:1<=aP s/\aP s<=1073741824:=⟨(mR _ z.2.1).1,z.2.2⟩;obtain⟨kn,rfl⟩:∃kn:Nat,k=kn:=⟨k.toNat,Ω⟩;have au:kn*(bj s).length<=1073741824:=by
   have e:((kn*(bj s).length:Nat):Int)=aP ((kn:Int)::s):=by
    rw[Int.natCast_mul,O,aP,Int.toNat_of_nonneg Ω]
   omega
  refine az func83 ?_;rw[aW an.u h];simp only[be,al];refine⟨λP=>by simp at P;omega,λ_=>?_⟩;refine J5 (i:=1) rfl an.u ah.i h Ξ λQ h'=>?_;refine(A6 s h' z).mono ?_;rintro av aa _ ⟨E,B⟩;have aw:=mO B;refine b5.range kn (λi out V=>Ext aa V/\bG (eH aa.heap.size) bB V [out] (js (bj s) i)) Ω ⟨Ext.refl _,ht⟩ ?_ ?_
  .rintro i out S W L ⟨q,f⟩ X;have Y:=b0 B q;rw[fN (y:=0) (i:=0) rfl an.u ah.i Ψ (h.ext (E.trans q)) (by rfl)];simp only[aS,al];refine⟨λ_=>?_,λh=>Ω⟩;rw[jq dx.u Y];refine b5.range (bj s).length (λj out V=>Ext aa V/\bG (eH aa.heap.size) bB V [out] (js (bj s) i++((bj s).take j).map λt=>(i:Int)::t)) Ω ⟨q,by simpa using f⟩ ?_ ?_
   .rintro j out p Z ab ⟨C,f⟩ ac;simp only[aS,al];refine⟨λ_=>?_,λh=>Ω⟩;obtain⟨x,G⟩:=aI (l:=(bj s)) ab;have ax:x.length<=100:=by
     have:=vV G;have:=z.1;omega
    refine mQ rfl rfl dx.u an.i Ψ (b0 B C) G λu hu=>?_;refine ee an.u ah.i rfl λa ga ay aA H ad=>?_;refine jn an.u ah.i rfl ad (eG (b0 hu H)) Θ Θ λb aB ae aC I af=>?_;have aD:=H.size;have M:Ext p ae:=H.then af (by rintro r B rfl;omega);have aE:=M.size;refine kA (α:=Λ) (a:=(i:Int)::x) (cs:=[b]) (A:=eH p.heap.size) (R:=bB) dx.u an.i Φ (qC (n1 I (R:=bB))) (aq.mono (n1 I) (λr _ h=>by subst h;show p.heap.size<=r;omega) λ_ _ h=>h) λc aF K _ ag=>?_;have N:=M.trans K;have aG:=K.size;refine n0 (α:=Λ) (a:=(i:Int)::x) (A:=eH p.heap.size) dx.u an.i rfl (b0 (mO f) N) ag (b0 (aq.mono (n1 I) (λr _ h=>by subst h;show p.heap.size<=r;omega) λ_ _ h=>h) K) (λr _ h h'=>?_) ?_ ?_ λQ aJ ai aj=>?_
    .rcases h' with h'|h'
     .have:=h.2;have:p.heap.size<=r:=h';omega
     .exact h'
    .have ak:(js (bj s) i++((bj s).take j).map λt=>(i:Int)::t).length+1<=kn*(bj s).length:=by
      simp only[r8,A5,u9,n9];have:(i+1)*(bj s).length<=kn*(bj s).length:=X1 _ L;rw[U4]at this;omega
     omega
    .have ak:(js (bj s) i++((bj s).take j).map λt=>(i:Int)::t).length+1<=kn*(bj s).length:=by
      simp only[r8,A5,u9,n9];have:(i+1)*(bj s).length<=kn*(bj s).length:=X1 _ L;rw[U4]at this;omega
     omega
    .simp only[aO];have aK:=C.size;refine ac _ _ ⟨(C.trans N).then aj (λr B h=>?_),?_⟩
     .have:=h.1;have:aa.heap.size<=r:=this;omega
     .have e:js (bj s) i++((bj s).take (j+1)).map (λt=>(i:Int)::t)=(js (bj s) i++((bj s).take j).map λt=>(i:Int)::t)++[(i:Int)::x]:=by
       rw[u7,G];simp
      rw[e];refine aq.mono ai (λr _ h=>?_) λ_ _ h=>h;show aa.heap.size<=r;rcases h with h|h|h
      .exact h.1
      .have:p.heap.size<=r:=h;omega
      .omega
   .rintro out p Z ⟨C,f⟩;simp only[aS,al,aO];refine⟨λh=>Ω,λ_=>X _ _ ⟨C,?_⟩⟩;rw[Ky];simpa using f
  .rintro out S W ⟨q,f⟩;rw[fN (y:=0) (i:=0) rfl an.u ah.i Ψ (h.ext (E.trans q)) (by rfl)];simp only[aS,al];refine⟨λh=>Ω,λ_=>⟨E.trans q,?_⟩⟩;have aL:=E.size;have e:bj ((kn:Int)::s)=js (bj s) kn:=by simp[bj,js]
   rw[e];exact aq.mono f (λr _ h=>by have:aa.heap.size<=r:=h;show w.heap.size<=r;omega) λ_ _ h=>h
theorem A7(s:Λ)(h:aH .i64 w sv s)(U:b3 s):am x7 zG [sv] w λv w'=>Ext w w'/\bG (eH w.heap.size) bB w' [v] (bj s):=A6 s h U.p
theorem Kz:∀(x:Nat),0<x->∃k m,x=2 ^ k*(2*m+1):=by
 intro x;induction x using Nat.strongRecOn with
 |_ x a=>
  intro h;by_cases e:x % 2=1
  .exact⟨0,x / 2,Ω⟩
  .obtain⟨k,m,hk⟩:=a (x / 2) Ω Ω;refine⟨k+1,m,?_⟩;rw[Nat.pow_succ,Nat.mul_assoc,Nat.mul_comm 2,<-Nat.mul_assoc,<-hk];omega
theorem wh{k m i:Nat}:(2 ^ k*(2*m+1)).testBit i=(decide (i=k)||decide (k<i)&&m.testBit (i-k-1)):=by
 rw[Nat.testBit_two_pow_mul];by_cases h:k<=i
 .obtain⟨d,rfl⟩:=Nat.exists_eq_add_of_le h;cases d with
  |zero=>simp
  |succ d=>
   have e:(2*m+1).testBit (d+1)=m.testBit d:=by rw[Nat.testBit_succ];congr 1;omega
   simp[e,show k+(d+1)-k=d+1 by omega]
 .simp[h,show i≠k by omega,show¬k<i by omega]
theorem KA{k m:Nat}(J:2 ^ k*(2*m+1)<2 ^ 64):(2 ^ k*(2*m+1)) &&& (2 ^ 64-2 ^ k*(2*m+1))=2 ^ k:=by
 have q:0<2 ^ k:=Nat.two_pow_pos k;have hk:k<64:=by
  rcases Nat.lt_or_ge k 64 with h|h
  .exact h
  .have:2 ^ 64<=2 ^ k:=S2 Ω h;have:2 ^ k*1<=2 ^ k*(2*m+1):=Nat.mul_le_mul_left _ Ω;omega
 have e:2 ^ k*(2*m+1)=(2 ^ k*(2*m)+(2 ^ k-1))+1:=by rw[Nat.mul_add];omega
 apply Nat.eq_of_testBit_eq;intro i;rw[Nat.testBit_and,wh]
 conv=>lhs;rhs;rw[e]
 rw[Nat.testBit_two_pow_sub_succ Ω,Nat.testBit_two_pow_mul_add _ Ω,Nat.testBit_two_pow];by_cases h1:i=k
 .subst h1;simp[hk]
 .by_cases a:k<i
  .have f:(2*m).testBit (i-k)=m.testBit (i-k-1):=by
    obtain⟨d,p⟩:∃d,i-k=d+1:=⟨i-k-1,Ω⟩;rw[p,Nat.testBit_succ];congr 1;omega
   simp[h1,a,show¬i<k by omega,f,show k≠i by omega];intro h;simp[h]
  .simp[h1,a,show k≠i by omega]
def jV(a c:Nat):Nat:=(BitVec.ofNat 64 a &&& ~~~BitVec.ofNat 64 c).toNat
theorem A8(a c i:Nat):(jV a c).testBit i=(decide (i<64)&&(a.testBit i&& !c.testBit i)):=by
 unfold jV;rw[BitVec.testBit_toNat,BitVec.getLsbD_and,BitVec.getLsbD_not,BitVec.getLsbD_ofNat,BitVec.getLsbD_ofNat];by_cases h:i<64<;>simp[h]
theorem KB(a c:Nat):jV a c<2 ^ 64:=BitVec.isLt _
theorem KC(h:∀i,n<=i->a.testBit i=false):a<2 ^ n:=Nat.lt_pow_two_of_testBit a h
theorem Ba{i:Nat}(h:a<2 ^ n)(hi:n<=i):a.testBit i=false:=Nat.testBit_lt_two_pow (Q1 h (S2 Ω hi))
def fs(b n:Nat):List Nat:=(X3 n).filter λi=>b.testBit i
theorem Bb(b n:Nat):(fs b n).Pairwise (·< ·):=List.Pairwise.filter _ List.pairwise_lt_range
theorem wi{b i:Nat}:i∈fs b n↔i<n/\b.testBit i=true:=by simp[fs]
def n8:Option Nat->Int
 |some i=>(i:Int)
 |none=>-1
def jW(b n:Nat)(v:Int):Int:=n8 ((X3 n).find? (λi:Nat=>decide (v<(i:Int))&&b.testBit i))
theorem Bc:∀{l:List Nat}{k x:Nat},l.Pairwise (·< ·)->l[k]?=σ x->l.filter (λi=>decide (x<i))=l.drop (k+1)
 |y::l,0,x,h,hk=>by
  simp at hk;subst hk;rw[List.pairwise_cons]at h;simp only[List.drop_succ_cons,List.drop_zero];rw[List.filter_cons_of_neg Ξ,List.filter_eq_self.2 λa e=>by simpa using h.1 a e]
 |y::l,k+1,x,h,hk=>by
  simp only[List.getElem?_cons_succ]at hk;rw[List.pairwise_cons]at h;have:y<x:=h.1 x (x5 hk);rw[List.filter_cons_of_neg Θ,List.drop_succ_cons];exact Bc h.2 hk
theorem Bd(b n:Nat)(v:Int):jW b n v=n8 (((fs b n).filter (λi:Nat=>decide (v<i))).head?):=by
 unfold jW fs;rw[<-List.head?_filter,List.filter_filter]
theorem KD(b n:Nat):jW b n (-1)=n8 ((fs b n)[0]?):=by
 rw[Bd,List.filter_eq_self.2 (λa _=>Θ),List.head?_eq_getElem?]
theorem Be{b k x:Nat}(h:(fs b n)[k]?=σ x):jW b n x=n8 ((fs b n)[k+1]?):=by
 have e:(λi:Nat=>decide ((x:Int)<i))=λi=>decide (x<i):=by funext i;simp
 rw[Bd,e,Bc (Bb b n) h,List.head?_eq_getElem?,List.getElem?_drop]
theorem KE{b:Nat}{v:Int}(h:(n:Int)-1<=v):jW b n v= -1:=by
 unfold jW;rw[List.find?_eq_none.2 λi hi=>by simp at hi ⊢;omega];rfl
theorem KF{b k m s:Nat}(y:n<=64)(f:b<2 ^ n)(e:∀i,r.testBit i=(decide (s<=i)&&b.testBit i))(hk:r=2 ^ k*(2*m+1)){v:Int}(ad:v+1=s):jW b n v=k:=by
 have p:r.testBit k=true:=by rw[hk,wh];simp
 have q:∀i,i<k->r.testBit i=false:=λi hi=>by rw[hk,wh];simp[show i≠k by omega,show¬k<i by omega]
 have a:=p;rw[e]at a;simp at a;have w:k<n:=by
  rcases Nat.lt_or_ge k n with h|h
  .exact h
  .rw[Ba f h]at a;cases a.2
 unfold jW;have:(X3 n).find? (λi:Nat=>decide (v<(i:Int))&&b.testBit i)=σ k:=by
  rw[List.find?_range_eq_some];refine⟨by simp[a.2];omega,by simpa using w,λj x=>?_⟩;have:=q j x;rw[e]at this;simp only[Bool.not_eq_true',Bool.and_eq_false_iff,decide_eq_false_iff_not]at this ⊢;rcases this with h|h
  .exact .inl Ω
  .exact .inr h
 rw[this];rfl
theorem KG{b s:Nat}(a:∀i,r.testBit i=(decide (s<=i)&&b.testBit i))(hk:r=0){v:Int}(ad:v+1=s):jW b n v= -1:=by
 unfold jW;rw[List.find?_eq_none.2]
 .rfl
 .intro i hi;have:=a i;rw[hk,Nat.zero_testBit]at this;simp at hi this ⊢;intro h;exact this Ω
section
variable{P:W8}{w:x3}{t:p8}{cx cy:Bool}{a b:Nat}{K:x1->Prop}
theorem mV(a:Nat):T4 64 (a:Int)=BitVec.ofNat 64 a:=BitVec.ofInt_natCast _ _
theorem Bf(x:BitVec 64):T0.wrap (x.toNat:Int)=(x.toNat:Int):=by
 have:=x.isLt;rw[wrap_u64 Ω Ω]
theorem u64_and(f:a<2 ^ 64)(h:b<2 ^ 64):ac P (aN .and t cx cy (.int .u64 a) (.int .u64 b)) w K=K (.int .u64 ((a &&& b:Nat):Int)):=ac.of λw' _=>by
 have e:(T4 64 (a:Int) &&& T4 64 (b:Int)).toNat=a &&& b:=by
  rw[mV,mV,BitVec.toNat_and,BitVec.toNat_ofNat,BitVec.toNat_ofNat,Nat.mod_eq_of_lt f,Nat.mod_eq_of_lt h]
 have hw:T0.wrap ((a &&& b:Nat):Int)=((a &&& b:Nat):Int):=by rw[<-e];exact Bf _
 have p:(T4 T0.bits (a:Int) &&& T4 T0.bits (b:Int)).toNat=a &&& b:=e;simp only[aN,eqGuard,binOp,Op.intBits,p,hw];rfl
theorem Bg:ac P (aN .andNot t cx cy (.int .u64 a) (.int .u64 b)) w K=K (.int .u64 (jV a b:Int)):=ac.of λw' _=>by
 have e:(T4 64 (a:Int) &&& ~~~T4 64 (b:Int)).toNat=jV a b:=by rw[mV,mV];rfl
 have hw:T0.wrap (jV a b:Int)=(jV a b:Int):=Bf _;have f:(T4 T0.bits (a:Int) &&& ~~~T4 T0.bits (b:Int)).toNat=jV a b:=e;simp only[aN,eqGuard,binOp,Op.intBits,f,hw];rfl
theorem lj{k:o6}(f:n<64):ac P (aN .shr t cx cy (.int .u64 (a:Int)) (.int k (n:Int))) w K=K (.int .u64 ((a / 2 ^ n:Nat):Int)):=ac.of λw' _=>by
 have e:(a:Int).fdiv (2 ^ min n T0.bits)=((a / 2 ^ n:Nat):Int):=by
  have:min n T0.bits=n:=Nat.min_eq_left (by show n<=64;omega);rw[this,Int.fdiv_eq_ediv_of_nonneg _ (by exact Int.le_of_lt (Int.pow_pos Ω))];simp
 simp only[aN,eqGuard,binOp,Op.shift,r9,e];simp[show¬(n:Int)<0 by omega]
theorem wj{k:o6}(a:n<64):ac P (aN .shl t cx cy (.int .u64 1) (.int k (n:Int))) w K=K (.int .u64 ((2 ^ n:Nat):Int)):=by
 rw[Ad Ω];have e:min ((n:Int).toNat) T0.bits=n:=Nat.min_eq_left (by show n<=64;omega);have f:2 ^ n<2 ^ 64:=Nat.pow_lt_pow_right Ω a;rw[e,Int.one_mul,show((2:Int) ^ n)=((2 ^ n:Nat):Int) by simp];generalize 2 ^ n=q at f ⊢;rw[wrap_u64 Ω Ω]
end
def s6:Λ:=[0,1,56,2,57,49,28,3,61,58,42,50,38,29,17,4,62,47,59,36,45,43,51,22,53,39,33,30,24,18,12,5,63,55,48,27,60,41,37,16,46,35,44,21,52,32,23,11,54,26,40,15,34,20,31,10,25,14,19,9,13,8,7,6]
def Laid(w:x3):Prop:=w.rangeAt 0 0 (ints .u8 s6)
theorem Laid.ext(h:Laid w)(J:Ext w w'):Laid w':=nS J h
theorem KH:∀k:Nat,k<64->s6[(2 ^ k*285870213051353865 % 2 ^ 64) / 2 ^ 58]?=σ (k:Int):=Φ
theorem KI{x k m:Nat}(f:Laid w)(J:x=2 ^ k*(2*m+1))(p:x<2 ^ 64):
  am x7 Ig [.int .u64 (x:Int)] w λv w'=>v=Δ (k:Int)/\Ext w w':=by
 have z:0<2 ^ k:=Nat.two_pow_pos k;have A:2 ^ k<=x:=by
  have:2 ^ k*1<=2 ^ k*(2*m+1):=Nat.mul_le_mul_left _ Ω;omega
 have hk:k<64:=by
  rcases Nat.lt_or_ge k 64 with h|h
  .exact h
  .have:2 ^ 64<=2 ^ k:=S2 Ω h;omega
 refine az func176 ?_;simp only[be,al];refine⟨λh=>Ω,λ_=>?_⟩;rw[l7];have q:T0.wrap (0-(x:Int))=((2 ^ 64-x:Nat):Int):=by
  simp only[o6.wrap,o6.bits,o6.signed];simp;omega
 rw[q,u64_and p Ω,J,KA Ω];simp only[hS];have r:T0.wrap (((2 ^ k:Nat):Int)*285870213051353865)=((2 ^ k*285870213051353865 % 2 ^ 64:Nat):Int):=by
  have e:((2 ^ k:Nat):Int)*285870213051353865=((2 ^ k*285870213051353865:Nat):Int):=Ξ
  rw[e];simp only[o6.wrap,o6.bits,o6.signed];simp
 have s:(58:Int)=((58:Nat):Int):=rfl;rw[r,s,lj Ω];have a:=KH k hk;have y:=(x4.1 a).1;rw[sN (t:=sJ) sJ.u cK.i y,aw Ψ (by rw[U7];exact f _ _ (lf a)),fm cK.u ah.u,wrap_i64 Ω Ω];exact⟨rfl,Ext.refl _⟩
def jt(b n:Nat):x1:=.agg #[.int .u64 (b:Int),Δ (n:Int)]
def mf(b n:Nat):Prop:=n<=32/\b<2 ^ n
theorem Bh(s i:Nat):(2 ^ s-1).testBit i=decide (i<s):=Nat.testBit_two_pow_sub_one s i
theorem Bi{b:Nat}{v:Int}:am x7 If [jt b n,Δ v] w λr w'=>r= .bool (decide (0<=v/\v<n))/\Ext w w':=by
 refine az func175 ?_;refine bf λg V f a e=>?_;simp only[cz,cn,al];refine⟨λh=>?_,λh=>⟨?_,a⟩⟩
 .rw[aM b1.p 1 e rfl];simp only[aS];exact⟨by simp[h],a⟩
 .rw[decide_eq_false];omega
theorem wk{b:Nat}:am x7 Hs [jt b n] w λr w'=>r=Δ n/\Ext w w':=by
 refine az func93 ?_;refine bf λg V f a e=>?_;rw[aM b1.p 1 e rfl];exact⟨rfl,a⟩
theorem KJ{n:Int}:am x7 Hq [Δ n] w λr w'=>Ext w w'/\r=(if 1<=n/\n<=32 then .tuple #[jt (2 ^ n.toNat-1) n.toNat,Δ 0]else .tuple #[jt 0 0,Δ 1]):=by
 refine az func91 ?_;refine bo b1.i λg V A f q=>?_;refine aV (λv aa=>v= .bool (decide (¬(1<=n/\n<=32)))/\V=aa) ?_ ?_
 .rintro _ _ ⟨rfl,rfl⟩;simp only[al];refine⟨λh=>?_,λh=>?_⟩
  .rw[cZ (cs:=#[.int .u64 0,Δ 0]) Ψ];refine cb (vs:=[.int .u64 0,Δ 0]) b1.i rfl rfl (by intro u hu;simp at hu;rcases hu with rfl|rfl<;>rfl) q λx a y e=>?_;rw[fO b1.p b1.i rfl e.range,if_neg h];exact⟨f.then a (by rintro r z rfl;omega),rfl⟩
  .have h:1<=n/\n<=32:=Y0.1 h;obtain⟨m,rfl⟩:∃m:Nat,n=m:=⟨n.toNat,Ω⟩;rw[wj Ω];have B:0<2 ^ m:=Nat.two_pow_pos m;have C:2 ^ m<=2 ^ 32:=S2 Ω Ω;simp only[dO];rw[wrap_u64 Ω Ω,show(((2 ^ m:Nat):Int)-1)=((2 ^ m-1:Nat):Int) by omega];rw[cZ (cs:=#[.int .u64 ((2 ^ m-1:Nat):Int),Δ m]) Ψ];refine cb (vs:=[.int .u64 ((2 ^ m-1:Nat):Int),Δ m]) b1.i rfl rfl (by intro u hu;simp at hu;rcases hu with rfl|rfl<;>rfl) q λx a y e=>?_;rw[fO b1.p b1.i rfl e.range,if_pos h];exact⟨f.then a (by rintro r z rfl;omega),rfl⟩
 .intro aB s;simp only[aS,bN,al];refine⟨λh=>s _ _ ⟨?_,rfl⟩,λh=>s _ _ ⟨?_,rfl⟩⟩
  .rw[decide_eq_true];omega
  .congr 1;simp;omega
theorem Bj{b:Nat}{v:Int}(z:mf b n)(A:Laid w)(ad: -1<=v):am x7 Hv [jt b n,Δ v] w λr w'=>r=Δ (jW b n v)/\Ext w w':=by
 obtain⟨H,e⟩:=z;have f:b<2 ^ 64:=Q1 e (S2 Ω Ω);refine az func97 ?_;refine bf λg V I a q=>?_;rw[aM b1.p 1 q rfl];simp only[dO,cn,al];rw[wrap_i64 Ω Ω];refine⟨λh=>⟨by rw[KE h],a⟩,λJ=>?_⟩;rw[aM b1.p 0 q rfl];refine aV (λu aa=>V=aa/\∃r s:Nat,u= .int .u64 (r:Int)/\r<2 ^ 64/\v+1=s/\∀i,r.testBit i=(decide (s<=i)&&b.testBit i)) ?_ ?_
 .rintro _ _ ⟨rfl,r,s,rfl,B,U,x⟩;simp only[be,al];refine⟨λC=>⟨by rw[KG x Ω U],a⟩,λC=>?_⟩;obtain⟨k,m,hk⟩:=Kz r Ω;refine(KI (A.ext a) hk B).mono ?_;rintro _ K _ ⟨rfl,E⟩;exact⟨by rw[KF Ω e x hk U],a.trans E⟩
 .intro aB y;refine⟨λh=>?_,λh=>?_⟩
  .obtain⟨s,rfl⟩:∃s:Nat,v=s:=⟨v.toNat,Ω⟩;have L:0<2 ^ (s+1):=Nat.two_pow_pos _;have M:2 ^ (s+1)<=2 ^ 32:=S2 Ω Ω;simp only[aO];rw[wrap_i64 Ω Ω,show((s:Int)+1)=((s+1:Nat):Int) by omega,wj Ω];simp only[dO];rw[wrap_u64 Ω Ω,show(((2 ^ (s+1):Nat):Int)-1)=((2 ^ (s+1)-1:Nat):Int) by omega,Bg];refine y _ _ ⟨rfl,_,s+1,rfl,KB _ _,Ω,λi=>?_⟩;rw[A8,Bh];by_cases G:i<64
   .by_cases hi:s+1<=i
    .simp[G,hi,show¬i<s+1 by omega]
    .simp[hi,show i<s+1 by omega]
   .rw[Ba f Ω];simp
  .exact y _ _ ⟨rfl,b,0,rfl,f,Ω,λi=>Ξ⟩
theorem KK{b:Nat}(e:mf b n)(f:Laid w):am x7 Hu [jt b n] w λr w'=>r=Δ (jW b n (-1))/\Ext w w':=by
 refine az func96 ?_;refine bf λg V s a h=>?_;rw[bK b1.p b1.i rfl h.range];refine(Bj e (f.ext a) Ω).mono ?_;rintro _ aa _ ⟨rfl,q⟩;exact⟨rfl,a.trans q⟩
theorem KL{b:Nat}{v:Int}(I:mf b n):am x7 Ht [jt b n,Δ v] w λr w'=>r=jt (if 0<=v/\v<n then jV b (2 ^ v.toNat)else b) n/\Ext w w':=by
 refine az func94 ?_;refine bf λg V R y z=>?_;refine bo b1.i λJ aa S A B=>?_;have s1:=y.size;have U:=z.lt;refine c5 (λe=>∃f,af e g b1 [.int .u64 ((f:Nat):Int),Δ (n:Int)]/\af e J b1 [.int .u64 0,Δ 0]/\Ext w e/\f=(if 0<=v/\v<n then jV b (2 ^ v.toNat)else b)) ?_ ?_
 .rintro e ⟨f,K,L,M,rfl⟩;rw[bK b1.p b1.i rfl K.range];refine cb (vs:=[_,_]) b1.i rfl rfl (by intro u hu;simp at hu;rcases hu with rfl|rfl<;>rfl) L λW N X O=>?_;rw[fO b1.p b1.i rfl O.range];exact⟨rfl,M.then N (by rintro r P rfl;omega)⟩
 .intro aB C;have q:=z.ext A;rw[bK b1.p b1.i rfl q.range];refine Bi.mono ?_;rintro _ Y _ ⟨rfl,a⟩;have E:=(y.trans A).trans a;simp only[al,er];refine⟨λh Z x _ _=>?_,λh=>C _ ⟨b,q.ext a,B.ext a,E,by rw[if_neg h]⟩⟩;have G:=(q.ext a).ext x;rw[aM b1.p 0 G rfl];obtain⟨s,rfl⟩:∃s:Nat,v=s:=⟨v.toNat,Ω⟩;have ac:=I.1;rw[wj Ω,Bg,aU b1.p rfl];refine bl fJ.i rfl rfl G (by simp[jt,x1.cells]) λad H ae Q=>?_;refine C _ ⟨_,Q,((B.ext a).ext x).ab H Ω,(E.trans x).then H (by rintro r P rfl;omega),?_⟩;rw[if_pos h,r9]
def ps(v:Int):Nat:=if v<0 then 0 else 40-v.toNat
theorem wm(x:Nat):ps x=40-x:=by unfold ps;rw[if_neg Ω];omega
theorem lk{b g:Nat}(a:mf b n):
  oW x7 ic [Γ g] (fs b n).length (λk vs _=>∃v:Nat,(fs b n)[k]?=σ v/\vs=[Δ (v:Int)])
   (λw=>af w g b1 [.int .u64 (b:Int),Δ (n:Int)]/\Laid w):=by
 refine⟨ic.enters,λl aB P w q _ C ⟨r,s⟩ E=>?_⟩;have Q:=a.1;refine qz func95 ?_;rw[bK b1.p b1.i rfl r.range];refine(KK a s).free.mono ?_;rintro _ V ⟨G,rfl,J⟩;refine⟨λv aa=>∃k,k<=(fs b n).length/\v=Δ (n8 (fs b n)[k]?)/\aB k aa/\af aa g b1 [.int .u64 (b:Int),Δ (n:Int)]/\Laid aa,
  λv _=>ps (bU v),⟨0,X6 _,by rw[KD],q 0 _ _ J G.b E,r.ext J,s.ext J⟩,?_⟩
 rintro _ aa ⟨k,hk,rfl,z,H,I⟩;cases ad:(fs b n)[k]? with
 |none=>
  have:k=(fs b n).length:=by
   have:=List.getElem?_eq_none_iff.1 ad;omega
  subst this;simp only[n8,cn,al];exact⟨λh=>Ω,λ_=>.inl z⟩
 |some x=>
  have e:=(x4.1 ad).1;have R:=(wi.1 (x5 ad)).1;simp only[n8,cn,al];refine⟨λ_=>?_,λh=>Ω⟩;refine⟨rfl,(C k _ aa e ⟨H,I⟩ ⟨x,ad,rfl⟩ z).mono ?_⟩;rintro _ S (⟨rfl,⟨A,B⟩,K⟩|⟨rfl,L⟩)
  .simp only[bE,Y7,a1];rw[bK b1.p b1.i rfl A.range];refine(Bj a B Ω).free.mono ?_;rintro _ U ⟨M,rfl,f⟩;refine⟨⟨k+1,e,congrArg (V5 .i64) (Be ad),q _ _ _ f M.b K.1,A.ext f,B.ext f⟩,?_⟩;rw[Be ad];cases N:(fs b n)[k+1]? with
   |none=>show 0<ps x;rw[wm];omega
   |some y=>
    have W:x<y:=by
     have h1:=(x4.1 ad).2;have O:=(x4.1 N).2;rw[<-h1,<-O];exact V8.1 (Bb b n) k (k+1) _ _ Ω
    show ps y<ps x;rw[wm,wm];omega
  .simp only[bE,V0,bT];exact .inr ⟨k,e,L⟩
theorem ll{b:Nat}:am x7 GS [jt b n] w λr w'=>Ext w w'/\∃g,r= .func (.func ic) #[] #[Γ g]/\w.heap.size<=g/\af w' g b1 [.int .u64 (b:Int),Δ (n:Int)]:=by
 refine az func46 ?_;refine bf λg V f a e=>?_;rw[ig];exact⟨a,g,rfl,Ω,e⟩
abbrev dF(s:Λ):Prop:=∀x∈s,1<=x/\x<=32
theorem dF.tail{s:Λ}(h:dF (k::s)):dF s:=λx J=>h x (.tail _ J)
theorem mg{s:Λ}(h:dF s):1<=aP s:=(mR s h).1
theorem pt:∀(s t:Λ)(m:Int),cJ s t m=(cJ s t 0).map λn=>n+m*aP s
 |[],[],m=>by simp[cJ,aP]
 |k::s,v::t,m=>by
  unfold cJ;split
  .rw[pt s t (m*k+v),pt s t (0*k+v)];simp only[Option.map_map,aP];congr 1;funext n;simp only[Function.comp];rw[Int.add_mul,Int.add_mul,<-Int.mul_assoc];simp;omega
  .rfl
 |[],_::_,_=>rfl
 |_::_,[],_=>rfl
theorem wn{L j:Nat}{rest:List (Λ)}(e:rest.length=L):∀{kn v:Nat},v<kn->∀{x:Λ},rest[j]?=σ x->
  ((X3 kn).flatMap λ(v:Nat)=>rest.map λt=>(v:Int)::t)[v*L+j]?=σ ((v:Int)::x)
 |0,v,h,_,_=>Ω
 |kn+1,v,h,x,J=>by
  have f:=(x4.1 J).1;have a:((X3 kn).flatMap λ(v:Nat)=>rest.map λt=>(v:Int)::t).length=kn*L:=by
   simp only[List.length_flatMap,u9,e];rw[List.map_const',List.length_range,List.sum_replicate_nat]
  rw[List.range_succ,S8];by_cases ad:v<kn
  .have:(v+1)*L<=kn*L:=X1 _ ad;rw[U4]at this;rw[Y9 (by rw[a];omega)];exact wn e ad J
  .have ad:v=kn:=Ω
   subst ad;rw[X0 (by rw[a];omega),a,show v*L+j-v*L=j by omega];simp[J]
theorem ju:∀{s:Λ},dF s->∀{i:Nat}{t:Λ},(bj s)[i]?=σ t->cJ s t 0=σ (i:Int)
 |[],_,i,t,h=>by
  cases i with
  |zero=>simp[bj]at h;subst h;rfl
  |succ i=>simp[bj]at h
 |k::s,U,i,t,h=>by
  have hk:=U k (.head _);have a:=iK U.tail;have r:=mg U.tail;obtain⟨kn,rfl⟩:∃kn:Nat,k=kn:=⟨k.toNat,Ω⟩;have hi:=(x4.1 h).1;rw[iK U,aP,Int.toNat_mul Ω Ω,<-a,r9]at hi;have f:0<(bj s).length:=Ω
  have ad:i / (bj s).length<kn:=Nat.div_lt_of_lt_mul (by rw[Nat.mul_comm];exact hi);have p:i % (bj s).length<(bj s).length:=Nat.mod_lt _ f;obtain⟨x,J⟩:∃x,(bj s)[i % (bj s).length]?=σ x:=⟨_,x6 p⟩;have e:=wn (kn:=kn) rfl ad J;rw[Nat.mul_comm,Nat.div_add_mod]at e;have h':((X3 ((kn:Int).toNat)).flatMap λ(v:Nat)=>(bj s).map λt=>(v:Int)::t)[i]?=σ t:=h;rw[r9,e]at h';cases h';unfold cJ;rw[if_pos ⟨Int.natCast_nonneg _,Int.ofNat_lt.2 ad⟩,pt,ju U.tail J];simp only[Z7,Y2,Int.zero_mul,Int.zero_add];have q:aP s=((bj s).length:Int):=by rw[a];omega
  rw[q,<-Int.natCast_mul,<-Int.natCast_add];congr 1;rw[Nat.mul_comm,Nat.add_comm,Nat.div_add_mod]
theorem mW:∀{s:Λ},dF s->∀{t:Λ}{n:Int},cJ s t 0=σ n->(bj s)[n.toNat]?=σ t
 |[],_,[],n,h=>by simp[cJ]at h;subst h;rfl
 |k::s,U,v::t,n,h=>by
  have hk:=U k (.head _);have p:=iK U.tail;have x:=mg U.tail;obtain⟨kn,rfl⟩:∃kn:Nat,k=kn:=⟨k.toNat,Ω⟩;unfold cJ at h;split at h
  .rename_i ad;rw[pt]at h;cases f:cJ s t 0 with
   |none=>rw[f]at h;cases h
   |some q=>
    rw[f]at h;simp only[Z7,Y2,Int.zero_mul,Int.zero_add]at h;have r:=n2 U.tail f;simp only[Int.zero_mul,Int.zero_add,Int.one_mul]at r;obtain⟨a,rfl⟩:∃a:Nat,v=a:=⟨v.toNat,Ω⟩;have w:=wn (kn:=kn) (v:=a) rfl Ω (mW U.tail f);have e:n.toNat=a*(bj s).length+q.toNat:=by
     rw[<-h,p];have:((a*(aP s).toNat:Nat):Int)=(a:Int)*aP s:=by rw[Int.natCast_mul,Int.toNat_of_nonneg Ω]
     omega
    rw[e];show((X3 ((kn:Int).toNat)).flatMap λ(v:Nat)=>(bj s).map λt=>(v:Int)::t)[_]?=_;rw[r9];exact w
  .cases h
 |[],_,_::_,_,h=>by cases h
 |_::_,_,[],_,h=>by cases h
theorem Bk:∀(s:Λ),dF s->∀(n c:Int),cQ s (n+c*aP s)=cQ s n
 |[],_,_,_=>rfl
 |k::s,U,n,c=>by
  have a:=mg U.tail;simp only[cQ,aP];rw[<-Int.mul_assoc,Bk s U.tail,Int.add_mul_ediv_right _ _ Ω,Int.add_mul_emod_self_right]
theorem s7:∀{s:Λ},dF s->∀{n:Int},0<=n->n<aP s->cJ s (cQ s n) 0=σ n
 |[],_,n,a,h1=>by simp[aP]at h1;simp[cQ,cJ];omega
 |k::s,U,n,a,h1=>by
  have hk:=U k (.head _);have p:=mg U.tail;simp only[cQ,aP]at h1 ⊢;have f:n / aP s<k:=Int.ediv_lt_of_lt_mul Ω h1;have h:0<=n / aP s:=Int.ediv_nonneg a Ω;have hm:n / aP s % k=n / aP s:=Int.emod_eq_of_lt h f;rw[hm];unfold cJ;rw[if_pos ⟨h,f⟩,pt];have e:cQ s n=cQ s (n % aP s):=by
   have:=Bk s U.tail (n % aP s) (n / aP s);rw[<-this];congr 1;have:=Int.emod_add_mul_ediv n (aP s);rw[Int.mul_comm (n / aP s)];omega
  rw[e,s7 U.tail (Int.emod_nonneg _ Ω) (Int.emod_lt_of_pos _ Ω)];simp only[Z7,Y2,Int.zero_mul,Int.zero_add];have:=Int.emod_add_mul_ediv n (aP s);rw[Int.mul_comm (n / aP s)];omega
theorem pu{s:Λ}(U:dF s){i:Nat}(h:(i:Int)<aP s):(bj s)[i]?=σ (cQ s i):=by
 have:=mW U (s7 U (n:=(i:Int)) Ω h);simpa using this
def bm(s cs t:Λ):Int:=match cJ s t 0 with
 |some n=>cs.getD n.toNat 0
 |none=>0
def upto{α:Type}(l:List α)(d:α)(i:Nat):List α:=l.take i++p9 (l.length-i) d
theorem qK{α:Type}(l:List α)(d:α)(i:Nat):(upto l d i).length=l.length:=by simp[upto];omega
theorem qL{α:Type}(l:List α)(d:α):upto l d 0=p9 l.length d:=by simp[upto]
theorem qM{α:Type}(l:List α)(d:α):upto l d l.length=l:=by simp[upto]
theorem qN{α:Type}{l:List α}{d x:α}{i:Nat}(h:l[i]?=σ x):(upto l d i).set i x=upto l d (i+1):=by
 have hi:=(x4.1 h).1;unfold upto;rw[T8 _ _ Θ,u7,h];have e:i-(l.take i).length=0:=Θ
 obtain⟨m,hm⟩:∃m,l.length-i=m+1:=⟨l.length-i-1,Ω⟩;rw[e,hm,show l.length-(i+1)=m by omega];simp[List.replicate_succ]
theorem qO{α:Type}{l:List α}{i:Nat}{x:α}(h:l[i]?=σ x):l.set i x=l:=by
 apply Y5;intro j;rw[X2];split
 .rename_i a;subst a;rw[if_pos (x4.1 h).1,h]
 .rfl
def wo:Λ->Int
 |[]=>0
 |x::l=>l.foldl min x
def Bl(P:Int->Prop)(m:Int):Prop:=P m/\∀x,P x->m<=x
def dl(s t:Λ):Prop:=∃n,cJ s t 0=σ n
theorem KM(k v:Int)(s t:Λ):cJ (k::s) (v::t) 0=if 0<=v/\v<k then(cJ s t 0).map (λn=>n+(0*k+v)*aP s)else ν:=by
 conv=>lhs;unfold cJ
 rw[pt]
theorem Bm{v:Int}{s t:Λ}:dl (k::s) (v::t)↔(0<=v/\v<k)/\dl s t:=by
 unfold dl;rw[KM];constructor
 .rintro⟨n,h⟩;split at h
  .rename_i ad;cases a:cJ s t 0 with
   |none=>rw[a]at h;cases h
   |some q=>exact⟨ad,q,rfl⟩
  .cases h
 .rintro⟨ad,q,a⟩;rw[if_pos ad,a];exact⟨_,rfl⟩
theorem Bn{t:Λ}:dl [] t↔t=[]:=by
 cases t with
 |nil=>exact⟨λ_=>rfl,λ_=>⟨0,rfl⟩⟩
 |cons v t=>
  constructor
  .rintro⟨_,h⟩;cases h
  .intro h;cases h
theorem s8{s t:Λ}(h:dl s t):s.length=t.length:=by
 obtain⟨n,h⟩:=h;rcases Nat.decEq s.length t.length with a|a
 .rw[vU s t 0 a]at h;cases h
 .exact a
theorem Bo{s t:Λ}(U:dF s){n:Int}(h:cJ s t 0=σ n):cQ s n=t:=by
 have f:=n2 U h;have h1:=mW U h;simp only[Int.zero_mul,Int.zero_add,Int.one_mul]at f;have a:=pu U (i:=n.toNat) Ω;rw[h1]at a;have e:((n.toNat:Nat):Int)=n:=Ω
 rw[e]at a;exact(Z0 a).symm
theorem s9{s cs:Λ}(U:dF s)(a:cs.length=(aP s).toNat):cs=(X3 (aP s).toNat).map λ(q:Nat)=>bm s cs (cQ s q):=by
 apply List.ext_getElem
 .simp[a]
 .intro i h1 e;rw[List.getElem_map,List.getElem_range];have f:=mg U;have hi:(i:Int)<aP s:=Ω
  unfold bm;rw[s7 U Ω hi];simp only[r9];rw[u4,x6 h1];rfl
theorem wp{s:Λ}(U:dF s){q:Nat}(a:q<(aP s).toNat):dl s (cQ s q):=⟨_,s7 U Ω (by have:=mg U;omega)⟩
theorem KN{s cs a:Λ}(U:dF s)(e:cs.length=(aP s).toNat)(f:a.length=(aP s).toNat)(h:∀t,dl s t->bm s cs t=bm s a t):cs=a:=by
 rw[s9 U e,s9 U f];apply List.map_congr_left;intro q p;exact h _ (wp U (by simpa using p))
theorem KO(h:l≠[]):Bl (λc=>c∈l) (wo l):=by
 obtain⟨x,r,rfl⟩:∃v r,l=v::r:=by cases l with
  |nil=>exact absurd rfl h
  |cons v r=>exact⟨v,r,rfl⟩
 clear h;show Bl (λc=>c∈x::r) (r.foldl min x);induction r generalizing x with
 |nil=>exact⟨.head _,λy f=>by simp at f;simp[f]⟩
 |cons y r p=>
  rw[List.foldl_cons];obtain⟨h1,e⟩:=p (min x y);refine⟨?_,λz a=>?_⟩
  .rcases V4.1 h1 with h1|h1
   .rw[h1];rcases Int.le_total x y with h|h
    .rw[Int.min_eq_left h];exact .head _
    .rw[Int.min_eq_right h];exact .tail _ (.head _)
   .exact .tail _ (.tail _ h1)
  .rcases V4.1 a with rfl|a
   .have:=e _ (.head _);omega
   .rcases V4.1 a with rfl|a
    .have:=e _ (.head _);omega
    .exact e _ (.tail _ a)
def pv(m:Λ)(i j:Nat):Prop:=∀(p q:Nat)(x y:Int),p<q->q<=i->q≠j->m[p]?=σ x->m[q]?=σ y->x<=y
def qP(m:Λ)(i:Nat):Prop:=∀(p q:Nat)(x y:Int),p<q->q<i->m[p]?=σ x->m[q]?=σ y->x<=y
theorem KP{m:Λ}{i:Nat}(h:qP m i):pv m i i:=λp q x y h1 f r a e=>h p q x y h1 Ω a e
theorem KQ{m:Λ}{i:Nat}(h:pv m i 0):qP m (i+1):=λp q x y h1 f a e=>h p q x y h1 Ω Ω a e
theorem KR{m:Λ}{i:Nat}{a b:Int}(h:pv m i j)(B:0<j)(r:m[j-1]?=σ a)(w:m[j]?=σ b)(z:a<=b):qP m (i+1):=by
 intro p q x y h1 C e f;by_cases s:q=j
 .subst s;rw[w]at f;cases f;by_cases A:p=q-1
  .subst A;rw[r]at e;cases e;exact z
  .have:=h p (q-1) x a Ω Ω Ω e r;omega
 .exact h p q x y h1 Ω s e f
theorem KT{m:Λ}{i:Nat}{a b:Int}(h:pv m i j)(H:0<j)(hi:j<=i)(z:m[j-1]?=σ a)(A:m[j]?=σ b)(I:b<a):pv ((m.set j a).set (j-1) b) i (j-1):=by
 intro p q x y h1 w B e f;have C:=(x4.1 A).1;have E:∀(r:Nat),((m.set j a).set (j-1) b)[r]?=if r=j-1 then σ b else if r=j then σ a else m[r]?:=λr=>by
  by_cases h:r=j-1
  .subst h;rw[b9 Θ,if_pos rfl]
  .rw[Y4 (Ne.symm h),if_neg h];by_cases h':r=j
   .subst h';rw[b9 C,if_pos rfl]
   .rw[Y4 (Ne.symm h'),if_neg h']
 rw[E]at e f;rw[if_neg B]at f;by_cases s:q=j
 .rw[if_pos s]at f;cases f;split at e
  .cases e;omega
  .split at e
   .omega
   .exact h p (j-1) x a Ω Ω Ω e z
 .rw[if_neg s]at f;split at e
  .cases e;have:=h j q b y;by_cases F:j<q
   .exact this F w s A f
   .omega
  .split at e
   .rename_i G;subst G;cases e;exact h (p-1) q a y Ω w s z f
   .exact h p q x y h1 w s e f
theorem swap_perm{m:Λ}{i:Nat}{a b:Int}(q:i<j)(h:m[i]?=σ a)(f:m[j]?=σ b):((m.set j a).set i b).Perm m:=by
 induction m generalizing i j with
 |nil=>simp at h
 |cons x m p=>
  cases j with
  |zero=>omega
  |succ j=>
   cases i with
   |zero=>
    simp at h f ⊢;subst h;obtain⟨r,f⟩:=x4.1 f;rw[show m=m.take j++m[j]::m.drop (j+1) by simp];rw[T8 _ _ Θ];have e:j-(m.take j).length=0:=Θ
    rw[e,f];simp only[List.set_cons_zero];refine(List.Perm.cons b (List.perm_middle)).trans ?_;refine(List.Perm.swap x b _).trans ?_;exact List.Perm.cons x List.perm_middle.symm
   |succ i=>
    simp at h f ⊢;exact p Ω h f
theorem KU{m:Λ}(h:qP m m.length):m.Pairwise (·<= ·):=by
 rw[V8];intro i j hi a e;exact h i j _ _ e a (x6 hi) (x6 a)
def Good(o:Λ)(n:Nat):Prop:=o.length=n/\∀(i:Nat)(p:Int),o[i]?=σ p->(0<=p/\p<n)/\∀j,j<i->o[j]? ≠σ p
theorem Good.inj{o:Λ}{i:Nat}{p:Int}(h:Good o n)(hi:o[i]?=σ p)(a:o[j]?=σ p):i=j:=by
 rcases Nat.lt_trichotomy i j with h1|h1|h1
 .exact absurd hi ((h.2 j p a).2 i h1)
 .exact h1
 .exact absurd a ((h.2 i p hi).2 j h1)
def Bp(m:Λ):Prop:=∀i:Nat,i<m.length->m[i]?=σ (i:Int)
theorem Bq{o m:Λ}(h:Good o n)(a:m.Perm o)(U:m.Pairwise (·<= ·)):Bp m:=by
 have s:o.Nodup:=V8.2 λi j hi w B he=>by
  have:=h.inj (i:=i) (j:=j) (p:=o[j]) (by rw[x6 hi,he]) (x6 w);omega
 have y:m.Nodup:=a.nodup_iff.2 s;have C:m.length=n:=by rw[a.length_eq,h.1]
 have q:∀x∈m,0<=x/\x<(n:Int):=λx J=>by
  obtain⟨i,hi,he⟩:=List.getElem_of_mem (a.mem_iff.1 J);exact(h.2 i x (by rw[x6 hi,he])).1
 have r:∀(i:Nat)(hi:i+1<m.length),m[i]<m[i+1]:=λi hi=>by
  have h1:=V8.1 U i (i+1) Ω hi Ω;have e:=V8.1 y i (i+1) Ω hi Ω;omega
 have z:∀(i:Nat)(hi:i<m.length),(i:Int)<=m[i]:=by
  intro i;induction i with
  |zero=>intro hi;exact(q _ (T2 hi)).1
  |succ i f=>
   intro hi;have h1:=f Ω;have e:=r i hi;omega
 have A:∀(d i:Nat)(hi:i<m.length),i+d+1=m.length->m[i]<=(i:Int):=by
  intro d;induction d with
  |zero=>
   intro i hi he;have:=(q _ (T2 hi)).2;omega
  |succ d f=>
   intro i hi he;have h1:=f (i+1) Ω Ω;have e:=r i Ω;omega
 intro i hi;rw[x6 hi];have h1:=z i hi;have e:=A (m.length-i-1) i hi Ω;congr 1;omega
theorem KV{o m:Λ}(h:Bp m)(e:m.Perm o):Good o m.length:=by
 have s:m.Nodup:=V8.2 λi j hi a x he=>by
  have h1:=h i hi;have f:=h j a;rw[x6 hi]at h1;rw[x6 a]at f;have h1:=Z0 h1;have f:=Z0 f;omega
 have w:o.Nodup:=e.nodup_iff.1 s;refine⟨e.length_eq.symm,λi p hi=>⟨?_,λj a q=>?_⟩⟩
 .obtain⟨k,hk,he⟩:=List.getElem_of_mem (e.mem_iff.2 (x5 hi));have h1:=h k hk;rw[x6 hk,he]at h1;cases h1;omega
 .have r:i<o.length:=(x4.1 hi).1;have:=V8.1 w j i Ω r a;rw[x6 r]at hi;rw[x6 (show j<o.length by omega)]at q;exact this ((Z0 q).trans (Z0 hi).symm)
theorem Good.Br{o:Λ}{p:Nat}(h:Good o n)(f:p<n):∃j:Nat,o[j]?=σ (p:Int):=by
 let le:Int->Int->Bool:=λa b=>decide (a<=b);have h1:(o.mergeSort le).Perm o:=List.mergeSort_perm o le;have e:(o.mergeSort le).Pairwise (·<= ·):=by
  refine(List.pairwise_mergeSort (le:=le) (λa b c h1 e=>?_) (λa b=>?_) o).imp λh=>by simpa[le]using h
  .simp[le]at*;omega
  .simp[le];omega
 have q:=Bq h h1 e p (by rw[h1.length_eq,h.1];exact f);obtain⟨j,r,he⟩:=List.getElem_of_mem (h1.mem_iff.1 (x5 q));exact⟨j,by rw[x6 r,he]⟩
def mh(o x:Λ):Λ:=(X3 o.length).map λ(p:Nat)=>x.getD (o.idxOf (p:Int)) 0
theorem Bs(o x:Λ):(mh o x).length=o.length:=by simp[mh]
theorem Bt{o x:Λ}{p:Int}(h:Good o n)(J:x.length=n)(a:o[j]?=σ p):(mh o x)[p.toNat]?=x[j]?:=by
 have h1:=(h.2 j p a).1;have r:j<o.length:=(x4.1 a).1;have hm:p∈o:=x5 a;have e:=List.idxOf_lt_length_of_mem hm;have f:o.idxOf p=j:=h.inj (by rw[x6 e,List.getElem_idxOf e]) a;have q:((p.toNat:Nat):Int)=p:=Ω
 have s:=h.1;unfold mh;rw[x8,List.getElem?_range Ω];simp only[Z7,q,f];rw[u4,x6 (show j<x.length by omega)];rfl
theorem Bu{o x y:Λ}(h:Good o n)(J:x.length=n)(r:y.length=n)(f:∀(j:Nat)(p:Int),o[j]?=σ p->y[p.toNat]?=x[j]?):y=mh o x:=by
 refine Y5 λp=>?_;have s:=h.1;by_cases q:p<n
 .obtain⟨j,a⟩:=h.Br q;have h1:=f j p a;have e:=Bt h J a;rw[r9]at h1 e;rw[h1,e]
 .rw[Z4 Ω,Z4 (by rw[Bs];omega)]
theorem oa:∀{s t:Λ},dl s t↔s.length=t.length/\∀(i:Nat)(a v:Int),s[i]?=σ a->t[i]?=σ v->0<=v/\v<a
 |[],t=>by
  rw[Bn];exact⟨λh=>⟨by rw[h],λi a v h _=>by simp at h⟩,λh=>c8 h.1.symm⟩
 |k::s,[]=>⟨λh=>absurd (s8 h) Ξ,λh=>absurd h.1 Ξ⟩
 |k::s,v::t=>by
  rw[Bm,oa (s:=s) (t:=t)];refine⟨λ⟨h1,f,p⟩=>⟨by simp[f],λi a u e hu=>?_⟩,λ⟨h1,f⟩=>⟨f 0 k v rfl rfl,by simpa using h1,λi a u e hu=>f (i+1) a u (by simpa using e) (by simpa using hu)⟩⟩;cases i with
  |zero=>simp at e hu;subst e;subst hu;exact h1
  |succ i=>exact p i a u (by simpa using e) (by simpa using hu)
def ei(s o:Λ):Λ:=o.map λp=>s.getD p.toNat 0
theorem ta(s o:Λ):(ei s o).length=o.length:=by simp[ei]
theorem Bv{s o:Λ}{p:Int}(h:Good o n)(U:s.length=n)(a:o[j]?=σ p):(ei s o)[j]?=s[p.toNat]?:=by
 have h1:=(h.2 j p a).1;unfold ei;rw[x8,a,Z7,u4,x6 (show p.toNat<s.length by omega)];rfl
theorem KW{s o:Λ}(h:Good o n)(U:s.length=n){x:Int}(J:x∈ei s o):x∈s:=by
 obtain⟨p,a,rfl⟩:=j5.1 J;obtain⟨j,e,he⟩:=List.getElem_of_mem a;have h1:=(h.2 j p (by rw[x6 e,he])).1;rw[u4,x6 (show p.toNat<s.length by omega)];exact T2 _
theorem b3.KX{s o:Λ}(a:b3 s)(h:Good o n)(U:s.length=n):b3 (ei s o):=
 ⟨by rw[ta,h.1,<-U];exact a.1,λx J=>a.2 x (KW h U J)⟩
theorem KY{s o x:Λ}(h:Good o n)(U:s.length=n)(J:dl (ei s o) x):dl s (mh o x):=by
 obtain⟨h1,w⟩:=oa.1 J;rw[ta,h.1]at h1;refine oa.2 ⟨by rw[Bs,h.1,U],λp a v e ad=>?_⟩;have y:p<n:=by have:=(x4.1 e).1;omega
 obtain⟨j,f⟩:=h.Br y;have q:=Bv h U f;have r:=Bt h h1.symm f;rw[r9]at q r;exact w j a v (by rw[q,e]) (by rw[<-r,ad])
def ob(s cs o:Λ):Λ:=(X3 (aP (ei s o)).toNat).map λ(q:Nat)=>bm s cs (mh o (cQ (ei s o) q))
theorem Bw(s cs o:Λ):(ob s cs o).length=(aP (ei s o)).toNat:=by simp[ob]
theorem wq{f:Int->Bool}{x:Int}:runN f (x::l)=if f x=true then runN f l+1 else 0:=by
 unfold runN;rw[List.takeWhile_cons];by_cases h:f x=true
 .rw[if_pos h,if_pos h,j9]
 .rw[if_neg h,if_neg h];rfl
theorem wr(f:Int->Bool):∀l:Λ,l.dropWhile f=l.drop (runN f l)
 |[]=>rfl
 |x::l=>by
  rw[List.dropWhile_cons,wq];by_cases h:f x=true
  .rw[if_pos h,if_pos h,wr f l];rfl
  .rw[if_neg h,if_neg h];rfl
theorem Bx(f:Int->Bool):∀l:Λ,l.takeWhile f=l.take (runN f l)
 |[]=>rfl
 |x::l=>by
  rw[List.takeWhile_cons,wq];by_cases h:f x=true
  .rw[if_pos h,if_pos h,List.take_succ_cons,Bx f l]
  .rw[if_neg h,if_neg h];rfl
theorem By{f:Int->Bool}:∀{l:Λ}{b:Int}{q:Λ},l.dropWhile f=b::q->f b=false
 |x::l,b,q,h=>by
  rw[List.dropWhile_cons]at h;by_cases J:f x=true
  .rw[if_pos J]at h;exact By h
  .rw[if_neg J]at h;have:=(List.cons.inj h).1;subst this;cases ag:f x
   .rfl
   .exact absurd ag J
theorem ws{p:Λ}{b:Int}{q:Λ}(h:p.drop a=b::q):p[a]?=σ b:=by
 have:=List.getElem?_drop (xs:=p) (i:=a) (j:=0);rw[h]at this;simpa using this.symm
theorem KZ(p:Λ)(at_:Nat):match pq p at_ with
  | .word a b=>lex (p.drop at_)=(((p.take b).drop a)::(lex (p.drop b)).1,(lex (p.drop b)).2)
  | .none=>lex (p.drop at_)=([],true)
  | .text _=>lex (p.drop at_)=([],false):=by
 have h:(p.drop at_).dropWhile cA=p.drop (gA p at_):=by rw[wr,List.drop_drop];rfl
 have s:(p.drop (gA p at_)).dropWhile bO=p.drop (iM p (gA p at_)):=by rw[wr,List.drop_drop];rfl
 have y:(p.drop (gA p at_)).takeWhile bO=(p.take (iM p (gA p at_))).drop (gA p at_):=by
  rw[Bx,List.drop_take];congr 1;unfold iM;omega
 have f:runN bO (p.drop (gA p at_))=iM p (gA p at_)-gA p at_:=by unfold iM;omega
 have K:gA p at_<=iM p (gA p at_):=by unfold iM;omega
 unfold pq;generalize gA p at_=a at*;generalize iM p a=b at*;by_cases h1:b<p.length/\(∀c,p[b]?=σ c->cA c=false)
 .rw[if_pos h1];simp only;rw[kC,h];cases e:p.drop a with
  |nil=>
   have:=List.drop_eq_nil_iff.1 e;omega
  |cons x q=>
   simp only;rw[e]at s y f;by_cases J:bO x=true
   .rw[if_pos J,s];cases w:p.drop b with
    |nil=>have:=List.drop_eq_nil_iff.1 w;omega
    |cons c r=>
     simp only;rw[h1.2 c (ws w)];rfl
   .rw[if_neg J]
 .rw[if_neg h1];by_cases z:a=b
  .rw[if_pos z];simp only;subst z;rw[kC,h];cases e:p.drop a with
   |nil=>rfl
   |cons x q=>
    exfalso;have A:=ws e;have F:=(x4.1 A).1;rw[e]at f;rw[e]at h;have G:=By h;refine h1 ⟨F,λc B=>?_⟩;rw[A]at B;cases B;exact G
  .rw[if_neg z];simp only;rw[kC (p.drop at_),h];cases e:p.drop a with
   |nil=>
    rw[e]at f;have:runN bO []=0:=rfl;omega
   |cons x q=>
    simp only;rw[e]at s y f;have J:bO x=true:=by
     rw[wq]at f;by_cases J:bO x=true
     .exact J
     .rw[if_neg J]at f;omega
    rw[if_pos J,s,y];cases w:p.drop b with
    |nil=>simp only;rw[kC []];rfl
    |cons c r=>
     simp only;have C:=ws w;have H:=(x4.1 C).1;have I:cA c=true:=by
      cases U:cA c with
      |true=>rfl
      |false=>exact absurd ⟨H,λd E=>by rw[C]at E;cases E;exact U⟩ h1
     rw[if_pos I]
def hA(w:x3)(g:Nat)(R:Nat->Prop)(toks:List (Λ))(clean:Bool):Prop:=∃a p at_,me w g a p at_ (-1)/\(∀r,leads a r->R r)/\lex (p.drop at_)=(toks,clean)
theorem hA.ab{g:Nat}(h:hA w g R toks clean)(J:ai S w w')(f:¬S g)(q:∀r,R r->¬S r):hA w' g R toks clean:=by
 obtain⟨s,p,a,⟨h1,x,y,z,bk,A⟩,e,B⟩:=h;exact⟨s,p,a,⟨h1,x,y,z.ab J f,bk,bt A J λr C=>q r (e r C)⟩,e,B⟩
theorem hA.words{g:Nat}(h:hA w g R toks clean):toks.length<=100000/\∀t∈toks,Bytes t/\t≠[]/\t.length<=100000:=by
 obtain⟨x,p,a,⟨y,z,A,_⟩,_,f⟩:=h;have B:(p.drop a).length<=100000:=by rw[List.length_drop];omega
 have e:=pm _ (p.drop a) (o4 _);rw[f]at e;refine⟨by show toks.length<=_;have e:toks.length<=_:=e;omega,λt r=>?_⟩;have q:=sW _ (p.drop a) (o4 _) t (by rw[f];exact r);refine⟨λb s=>?_,q.1,Ω⟩;have:=of_decide_eq_true (q.2.1 b s);omega
def K0(w:x3)(g:Nat)(R:Nat->Prop)(toks:List (Λ))(clean:Bool)(v:x1)(w':x3):Prop:=ai (λr=>r=g) w w'/\match toks with
 |t::l=>hA w' g R l clean/\∃n:Int,v= .tuple #[bL t,Δ n,Δ 0]
 |[]=>∃n:Int,v= .tuple #[bL [],Δ n,Δ (if clean then 2 else 11)]
theorem qQ{g:Nat}(h:hA w g R toks clean):am x7 vE [Γ g] w (K0 w g R toks clean):=by
 obtain⟨A,p,a,h1,B,r⟩:=h;refine(Kw h1).mono ?_;intro v w' _ hw;have e:=KZ p a;unfold qJ at hw;cases s:pq p a with
 |word x y=>
  rw[s]at hw e;simp only at hw e;rw[r]at e;obtain⟨rfl,z,U⟩:=hw;obtain⟨f,q⟩:=Q3.inj e;subst f q;exact⟨z,⟨A,p,y,U,B,rfl⟩,_,rfl⟩
 |none=>
  rw[s]at hw e;simp only at hw e;rw[r]at e;obtain⟨f,q⟩:=Q3.inj e;subst f q;obtain⟨n,rfl,J⟩:=hw;exact⟨J.ab _,_,rfl⟩
 |text b=>
  rw[s]at hw e;simp only at hw e;rw[r]at e;obtain⟨f,q⟩:=Q3.inj e;subst f q;obtain⟨rfl,z,_⟩:=hw;exact⟨z,_,rfl⟩
def kE(w:Λ):x1:=match gx w with
 |some n=>.tuple #[Δ n,Δ 0]
 |none=>.tuple #[Δ 0,Δ 4]
theorem Bz{i:Nat}{b:Int}(hi:l[i]?=σ b):(l.take (i+1)).all gw=((l.take i).all gw&&gw b):=by
 rw[u7,hi,List.all_append];simp
theorem BA{i:Nat}{b:Int}(hi:l[i]?=σ b):(l.take (i+1)).foldl e2 0=e2 ((l.take i).foldl e2 0) b:=by
 rw[u7,hi,List.foldl_append];rfl
theorem BB(a:l≠[])(h:l.all gw=true):kD l=σ (l.foldl e2 0):=by
 unfold kD;cases l with
 |nil=>exact absurd rfl a
 |cons x l=>simp only[h,if_true]
theorem BC{i:Nat}{b:Int}(hi:l[i]?=σ b)(a:gw b=false):kD l=ν:=by
 unfold kD;cases l with
 |nil=>simp at hi
 |cons x l=>
  simp only;rw[if_neg];intro h;have:=List.all_eq_true.1 h b (x5 hi);rw[a]at this;cases this
def pw(w l:Λ)(s:Int):Prop:=(s=1\/s= -1)/\gx w=(kD l).map λn=>s*n
theorem BD:pw (45::l) l (-1):=⟨.inr rfl,by simp only[gx];congr 1;funext n;omega⟩
theorem BE{w:Λ}(h:∀b,w[0]?=σ b->b≠45):pw w w 1:=⟨.inl rfl,by
 have e:gx w=kD w:=by
  unfold gx;cases w with
  |nil=>rfl
  |cons x l=>
   have:=h x rfl;split
   .rename_i l' he;exact absurd (List.cons.inj he).1 this
   .rfl
 rw[e];cases kD w with
 |none=>rfl
 |some n=>simp⟩
theorem tb{w:Λ}{s:Int}(h:pw w l s)(a:kD l=ν):kE w= .tuple #[Δ 0,Δ 4]:=by
 unfold kE;rw[h.2,a];rfl
theorem BF{w:Λ}{s n:Int}(h:pw w l s)(a:kD l=σ n):kE w= .tuple #[Δ (s*n),Δ 0]:=by
 unfold kE;rw[h.2,a];rfl
theorem K1(C:Bytes l)(L:l.length<=100000):am x7 Ik [bL l] w λv w'=>v=kE l/\Ext w w':=by
 refine az func180 ?_;rw[Kf];refine jh (λR S V=>Ext w V/\∃(m:Λ)(s:Int),R=bL m/\S=Δ s/\Bytes m/\m.length<=100000/\pw l m s) ?_ ?_
 .rintro _ _ V ⟨I,m,s,rfl,rfl,J,af,E⟩;rw[wa J (λb a=>by cases a),al];refine⟨λe=>⟨by rw[tb E (by rw[e];rfl)],I⟩,λe=>?_⟩;refine wc cS.u cP.u cK.u J Ω λbv aa M N _=>?_;rw[aW cP.u N];refine se.range m.length (λi _ _ c G=>Ext aa G/\c=Δ ((m.take i).foldl e2 0)/\(m.take i).all gw=true) Ω ⟨Ext.refl _,rfl,rfl⟩ ?_ ?_
  .rintro i U t3 _ G W hi ⟨f,rfl,p⟩ X;obtain⟨b,z⟩:=aI (l:=m) hi;have ah:=J b (x5 z);refine bH Ω ?_;refine Kg (λ_ _ c H=>Ext aa H/\c=Δ ((m.take (i+1)).foldl e2 0)/\(m.take (i+1)).all gw=true) ?_ ?_
   .rintro ai aj c H Y;rw[aO];exact X _ _ _ _ Y
   intro aB q;rw[bh cP.u cK.i Ψ (N.ext f) z];refine aV (λv H=>G=H/\v= .bool (!gw b)) ?_ ?_
   rotate_left
   .intro Z A;rw[aS,al];refine⟨λh=>A _ _ ⟨rfl,by unfold gw;rw[decide_eq_false Ω];rfl⟩,λh=>?_⟩;rw[bN];refine A _ _ ⟨rfl,?_⟩;unfold gw;congr 1;by_cases O:57<b
    .rw[decide_eq_true O,decide_eq_false Ω];rfl
    .rw[decide_eq_false O,decide_eq_true Ω];rfl
   rintro _ _ ⟨rfl,rfl⟩;cases K:gw b with
   |false=>
    rw[V0,bT];exact⟨by rw[tb E (BC z K)],(I.trans M).trans f⟩
   |true=>
    rw[Y7,a1];have ak:=of_decide_eq_true K;have B:=sX (l:=m.take i) (n:=0) p ⟨Int.le_refl _,Φ⟩;rw[BA z,Bz z,p,K]at q;generalize (m.take i).foldl e2 0=n at*;have B:0<=n/\n<=4611686018427387904:=B;rw[dO,wrap_u8 Ω Ω,fm cK.u ao.u,wrap_i64 (x:=b-48) Ω Ω,dO,wrap_i64 Ω Ω,sL Φ,Int.tdiv_eq_ediv_of_nonneg Ω];rw[wrap_i64 Ω Ω,bN,al];refine⟨λab=>q _ _ _ _ ⟨f,?_,rfl⟩,λab=>?_⟩
    .congr 1;unfold e2 ax;omega
    .rw[hS,wrap_i64 Ω Ω,aO,wrap_i64 Ω Ω];refine q _ _ _ _ ⟨f,?_,rfl⟩;congr 1;unfold e2 ax;omega
  .rintro U t3 _ G W ⟨f,rfl,p⟩;rw[o7]at p ⊢;refine ct Ω ?_;have B:=sX (l:=m) (n:=0) p ⟨Int.le_refl _,Φ⟩;have B:0<=m.foldl e2 0/\m.foldl e2 0<=4611686018427387904:=B;rw[hS];have hw:X9.wrap (s*m.foldl e2 0)=s*m.foldl e2 0:=by
    rcases E.1 with rfl|rfl<;>exact wrap_i64 Ω Ω
   rw[hw];exact⟨by rw[BF E (BB e p)],(I.trans M).trans f⟩
 .intro aB q;refine aV (λv aa=>w=aa/\∃c:Bool,v= .bool c/\(c=true↔l[0]?=σ 45)) ?_ ?_
  .rintro _ _ ⟨rfl,c,rfl,P⟩;rw[bZ];refine⟨λac=>?_,λag=>?_⟩
   .intro an ad _ _;have Q:=P.1 ac;cases l with
    |nil=>simp at Q
    |cons x r=>
     have ae:x=45:=by simpa using Q
     subst ae;rw[AR (y:=1) (i:=1) rfl cS.u Ξ];exact q _ _ _ ⟨ad,r,-1,rfl,rfl,λb a=>C b (.tail _ a),by simp at L;omega,BD⟩
   .refine q _ _ _ ⟨Ext.refl _,l,1,rfl,rfl,C,L,BE λb a he=>?_⟩;subst he;rw[P.2 a]at ag;cases ag
  .intro Z A;rw[Kk C (λb a=>by cases a),al];refine⟨λe=>?_,λe=>A _ _ ⟨rfl,false,rfl,⟨λh=>(by cases h),λh=>by rw[Y0.1 e]at h;simp at h⟩⟩⟩;cases l with
   |nil=>exact absurd rfl e
   |cons x r=>
    rw[qG (y:=0) (i:=0) (b:=x) rfl cS.u C rfl,be];exact A _ _ ⟨rfl,_,rfl,Ξ⟩
theorem qR{s s':aE}{w:Λ}(h:dI s=σ (w,s')):s.toks=w::s'.toks/\s'={s with toks:=s'.toks}:=by
 unfold dI at h;cases a:s.toks with
 |nil=>rw[a]at h;cases h
 |cons x l=>
  rw[a]at h;simp only[Y2,T5]at h;obtain⟨rfl,rfl⟩:=h;exact⟨rfl,rfl⟩
theorem hU{n:Int}{s s':aE}(h:bd lo hi s=σ (n,s')):(lo<=n/\n<=hi)/\(∃w,s.toks=w::s'.toks/\gx w=σ n)/\s'={s with toks:=s'.toks}:=by
 unfold bd at h;cases hw:dI s with
 |none=>rw[hw]at h;cases h
 |some q=>
  obtain⟨w,s1⟩:=q;rw[hw]at h;simp only at h;obtain⟨h1,e⟩:=qR hw;cases a:gx w with
  |none=>rw[a]at h;cases h
  |some m=>
   rw[a]at h;simp only at h;split at h
   .rename_i f;simp only[Y2,T5]at h;obtain⟨rfl,rfl⟩:=h;exact⟨f,⟨w,h1,a⟩,e⟩
   .cases h
def ik(k:Nat)(s s':aE):Prop:=s.toks.length=s'.toks.length+k/\s'={s with toks:=s'.toks}
theorem ik.refl(s:aE):ik 0 s s:=⟨rfl,rfl⟩
theorem ik.trans{b:Nat}{r s t:aE}(h:ik a r s)(k:ik b s t):ik (a+b) r t:=⟨by have:=h.1;have:=k.1;omega,by rw[k.2,h.2]⟩
theorem dg{n:Int}{s s':aE}(h:bd lo hi s=σ (n,s')):ik 1 s s':=by
 obtain⟨_,⟨w,h1,_⟩,a⟩:=hU h;exact⟨by rw[h1];simp,a⟩
theorem ik.eqs{k:Nat}{s s':aE}(h:ik k s s'):s'.told=s.told/\s'.big=s.big/\s'.shared=s.shared:=by rw[h.2];exact⟨rfl,rfl,rfl⟩
theorem iN{α:Type}{f:List α->aE->Option (α×aE)}(I:List α->aE->Prop)(ag:∀acc s a s',I acc s->f acc s=σ (a,s')->I (acc++[a]) s'):
  ∀(n:Nat)(acc:List α)(s:aE)(l:List α)(s':aE),I acc s->cL f n acc s=σ (l,s')->I l s'/\l.length=acc.length+n
 |0,acc,s,l,s',e,h=>by
  simp only[cL,Y2,T5]at h;obtain⟨rfl,rfl⟩:=h;exact⟨e,Ω⟩
 |n+1,acc,s,l,s',e,h=>by
  simp only[cL]at h;cases p:f acc s with
  |none=>rw[p]at h;cases h
  |some q=>
   obtain⟨a,s1⟩:=q;rw[p]at h;have:=iN I ag n _ _ _ _ (ag _ _ _ _ e p) h;exact⟨this.1,by rw[this.2];simp;omega⟩
theorem tc{n:Int}{k:Nat}{s s':aE}(h:eR n k s=σ (l,s')):ik l.length s s'/\l.length=k/\l.Nodup/\∀v∈l,0<=v/\v<n:=by
 have:=iN (λacc t=>ik acc.length s t/\acc.Nodup/\∀v∈acc,0<=v/\v<n) (λacc t a bp ⟨h1,p,r⟩ h=>by
  cases e:bd 0 (n-1) t with
  |none=>rw[e]at h;cases h
  |some q=>
   obtain⟨v,z⟩:=q;rw[e]at h;simp only at h;split at h
   .cases h
   .rename_i w;simp only[Y2,T5]at h;obtain⟨rfl,rfl⟩:=h;have A:=(hU e).1;refine⟨by rw[r8];exact h1.trans (dg e),List.nodup_append.2 ⟨p,Ξ,λx J y f he=>?_⟩,λx J=>?_⟩
    .rw[l9]at f;subst f;subst he;exact w J
    .rcases o5.1 J with J|J
     .exact r x J
     .rw[l9.1 J];omega) k [] s l s' ⟨ik.refl s,List.nodup_nil,λv ad=>by cases ad⟩ h
 exact⟨this.1.1,by simpa using this.2,this.1.2.1,this.1.2.2⟩
theorem wu:∀{ks acc:Λ}{s s':aE}{t:Λ},iL ks acc s=σ (t,s')->∃u,t=acc++u/\dl ks u/\ik u.length s s'
 |[],acc,s,s',t,h=>by
  simp only[iL,Y2,T5]at h;obtain⟨rfl,rfl⟩:=h;exact⟨[],Ξ,Bn.2 rfl,ik.refl s⟩
 |k::ks,acc,s,s',t,h=>by
  simp only[iL]at h;cases a:bd 0 (k-1) s with
  |none=>rw[a]at h;cases h
  |some q=>
   obtain⟨v,s1⟩:=q;rw[a]at h;obtain⟨u,rfl,hu,e⟩:=wu h;have f:=(hU a).1;exact⟨v::u,Ξ,Bm.2 ⟨Ω,hu⟩,by rw[j9,Nat.add_comm];exact(dg a).trans e⟩
def mX(sizes:Λ)(l:List (Λ×Int)):Prop:=(l.map (·.1)).Nodup/\∀p∈l,dl sizes p.1/\0<=p.2
theorem oc{acc:List (Λ×Int)}{s s':aE}{a:Λ×Int}(h:dQ sizes acc s=σ (a,s')):a.1∉acc.map (·.1)/\dl sizes a.1/\0<=a.2/\ik (a.1.length+1) s s':=by
 unfold dQ at h;cases f:iL sizes [] s with
 |none=>rw[f]at h;cases h
 |some q=>
  obtain⟨t,s1⟩:=q;rw[f]at h;simp only at h;obtain⟨u,hu,ad,p⟩:=wu f;rw[List.nil_append]at hu;subst hu;cases e:bd 0 ax s1 with
  |none=>rw[e]at h;cases h
  |some q=>
   obtain⟨c,w⟩:=q;rw[e]at h;simp only at h;split at h
   .cases h
   .rename_i r;simp only[Y2,T5]at h;obtain⟨rfl,rfl⟩:=h;exact⟨r,ad,(hU e).1.1,p.trans (dg e)⟩
structure BG(s s':aE):Prop where
 toks:s'.toks.length<s.toks.length
 big:s.big=true->s'.big=true
theorem K2{s s':aE}{l:List (Λ×Int)}(C:∀q∈s.shared,mX q.1 q.2/\q.2.length<=N)(O:s.toks.length<=N)(h:dA sizes s=σ (l,s')):
  mX sizes l/\l.length<=N/\s'.shared=s.shared/\BG s s':=by
 unfold dA at h;cases r:bd (-ax) ax s with
 |none=>rw[r]at h;cases h
 |some q=>
  obtain⟨n,s1⟩:=q;rw[r]at h;simp only at h;have h1:=dg r;obtain⟨P,E,w⟩:=h1.eqs;split at h
  .cases U:s1.shared[(-n-1).toNat]? with
   |none=>rw[U]at h;cases h
   |some q=>
    obtain⟨z,l'⟩:=q;rw[U]at h;simp only at h;split at h
    .rename_i H;simp only[Y2,T5]at h;obtain⟨rfl,rfl⟩:=h;subst H;have hm:=x5 U;rw[w]at hm;exact⟨(C _ hm).1,(C _ hm).2,w,by have:=h1.1;omega,λf=>by rw[E];exact f⟩
    .cases h
  .have:=iN (λacc t=>mX sizes acc/\t.shared=s.shared/\t.toks.length+acc.length<=s1.toks.length/\(s.big=true->t.big=true)) (λacc t a bp ⟨g1,A,I,B⟩ g=>by
    obtain⟨K,L,M,F⟩:=oc g;obtain⟨f1,f2,f3⟩:=F.eqs;refine⟨⟨?_,λp e=>?_⟩,by rw[f3,A],by have:=F.1;simp only[r8,V6];omega,λf=>by rw[f2];exact B f⟩
    .rw[Z3];exact List.nodup_append.2 ⟨g1.1,Ξ,λx J y G he=>by
      simp only[T1,List.map_nil,l9]at G;subst G;subst he;exact K J⟩
    .rcases o5.1 e with e|e
     .exact g1.2 p e
     .rw[l9.1 e];exact⟨L,M⟩) n.toNat [] (a8 (decide (16384<min (s1.told+n) ax)) {s1 with told:=min (s1.told+n) ax}) l s' ⟨⟨Ξ,λp e=>by cases e⟩,w,by simp[a8],λf=>by simp[a8,E,f]⟩ h
   obtain⟨⟨g1,A,I,B⟩,_⟩:=this;have:=h1.1;exact⟨g1,Ω,A,⟨Ω,B⟩⟩
structure td(all:Λ)(N:Nat)(f:ck):Prop where
 scope:f.scope.Nodup/\∀v∈f.scope,0<=v/\v<all.length
 sizes:f.sizes=f.scope.map λv=>all.getD v.toNat 0
 other:0<=f.other
 lines:mX f.sizes f.lines
 len:f.lines.length<=N
theorem K3{all:Λ}{s s':aE}{f:ck}(C:∀q∈s.shared,mX q.1 q.2/\q.2.length<=N)(W:s.toks.length<=N)(h:c0 all s=σ (f,s')):
  td all N f/\(∀q∈s'.shared,mX q.1 q.2/\q.2.length<=N)/\BG s s'/\(s'.big=false->f.scope.length<=6/\dk f.sizes=false):=by
 unfold c0 at h;cases E:bd (-ax) ax s with
 |none=>rw[E]at h;cases h
 |some q=>
 obtain⟨a,s1⟩:=q;rw[E]at h;simp only at h;have t0:=dg E;obtain⟨X,O,P⟩:=t0.eqs;cases h1:eR all.length a.natAbs s1 with
 |none=>rw[h1]at h;cases h
 |some q=>
 obtain⟨sc,x⟩:=q;rw[h1]at h;simp only at h;obtain⟨G,Y,Q,R⟩:=tc h1;obtain⟨Z,S,T⟩:=G.eqs;generalize U:sc.map (λv=>all.getD v.toNat 0)=sizes at h;cases z:bd 0 ax (a8 (decide (6<a.natAbs)||dk sizes) x)with
 |none=>rw[z]at h;cases h
 |some q=>
 obtain⟨other,r⟩:=q;rw[z]at h;simp only at h;have H:=dg z;obtain⟨aa,A,y⟩:=H.eqs;have y:r.shared=s.shared:=by rw[y];show x.shared=_;rw[T,P]
 have ab:r.toks.length<s.toks.length:=by
  have:=t0.1;have:=G.1;have B:=H.1;have:(a8 (decide (6<a.natAbs)||dk sizes) x).toks.length=x.toks.length:=rfl;omega
 cases B:dA sizes r with
 |none=>rw[B]at h;cases h
 |some q=>
 obtain⟨lines,p⟩:=q;rw[B]at h;simp only[Y2,T5]at h;obtain⟨rfl,rfl⟩:=h;obtain⟨g1,I,J,K⟩:=K2 (N:=N) (by rw[y];exact C) Ω B;have V:=K.big;have gt:=K.toks;have L:r.big=true->∀F:aE,F=(if a<0 then{p with shared:=p.shared++[(sizes,lines)]}else p)->F.big=true:=λw F he=>by
  rw[he];split<;>exact V w
 have A:r.big=(s.big||(decide (6<a.natAbs)||dk sizes)):=by
  rw[A];show(x.big||_)=_;rw[S,O]
 refine⟨⟨⟨Q,R⟩,U.symm,(hU z).1.1,g1,I⟩,λq e=>?_,⟨?_,λw=>L (by rw[A,w];rfl) _ rfl⟩,λw=>?_⟩
 .split at e
  .rcases o5.1 e with e|e
   .rw[show p.shared=s.shared by rw[J,y]]at e;exact C q e
   .rw[l9.1 e];exact⟨g1,I⟩
  .rw[show p.shared=s.shared by rw[J,y]]at e;exact C q e
 .have:(if a<0 then{p with shared:=p.shared++[(sizes,lines)]}else p).toks=p.toks:=by split<;>rfl
  rw[this];omega
 .have M:r.big=false:=by
   cases e:r.big with
   |false=>rfl
   |true=>rw[L e _ rfl]at w;cases w
  rw[A,S7,S7,decide_eq_false_iff_not]at M;show sc.length<=6/\_;exact⟨Ω,M.2.2⟩
structure e3(N:Nat)(f:bY):Prop where
 name:f.name.length<=64
 k:1<=f.k/\f.k<=2147483648
 sizes:1<=f.sizes.length/\f.sizes.length<=64/\∀z∈f.sizes,1<=z/\z<=32
 ln:f.funs.length<=256
 funs:∀x∈f.funs,td f.sizes N x/\x.scope.length<=6/\dk x.sizes=false
theorem qS{b:Bool}{s:aE}(h:(a8 b s).big=false):s.big=false/\b=false:=by
 have h:(s.big||b)=false:=h;exact S7.1 h
theorem K4{a b:aE}(h:a.big=true->b.big=true)(e:b.big=false):a.big=false:=by
 cases f:a.big with
 |false=>rfl
 |true=>rw[h f]at e;cases e
theorem BH{s s':aE}{f:bY}(U:s.shared=[])(h:gY s=σ (f,s'))(e:s'.big=false):e3 s.toks.length f/\f.name∈s.toks:=by
 unfold gY at h;cases K:dI s with
 |none=>rw[K]at h;cases h
 |some q=>
 obtain⟨name,s0⟩:=q;rw[K]at h;simp only at h;obtain⟨V,aa⟩:=qR K;cases h1:bd 1 ax (a8 (decide (64<name.length)) s0)with
 |none=>rw[h1]at h;cases h
 |some q=>
 obtain⟨n,s1⟩:=q;rw[h1]at h;simp only at h;have r:=dg h1;cases L:bd 1 ax (a8 (decide (64<n)) s1)with
 |none=>rw[L]at h;cases h
 |some q=>
 obtain⟨most,Z⟩:=q;rw[L]at h;simp only at h;have M:=dg L;cases N:bd 0 ax Z with
 |none=>rw[N]at h;cases h
 |some q=>
 obtain⟨E,F⟩:=q;rw[N]at h;simp only at h;have t3:=dg N;cases G:bd 1 ax (a8 (decide (256<E)) F)with
 |none=>rw[G]at h;cases h
 |some q=>
 obtain⟨k,A⟩:=q;rw[G]at h;simp only at h;have t4:=dg G;cases O:cL (fe most) n.toNat [] (a8 (decide (2147483648<k)) A)with
 |none=>rw[O]at h;cases h
 |some q=>
 obtain⟨sizes,H⟩:=q;rw[O]at h;simp only at h;cases P:cL (λ_ s=>c0 sizes s) E.toNat [] H with
 |none=>rw[P]at h;cases h
 |some q=>
 obtain⟨funs,ab⟩:=q;rw[P]at h;simp only[Y2,T5]at h;obtain⟨rfl,rfl⟩:=h;have ac:=iN (λ(acc:Λ)t=>t.shared=[]/\t.toks.length<=s.toks.length/\(t.big=false->A.big=false/\k<=2147483648/\∀z∈acc,1<=z/\z<=32)) (λacc t a bp ⟨g1,T,Q⟩ g=>by
  unfold fe at g;cases w:bd 1 most t with
  |none=>rw[w]at g;cases g
  |some q=>
   obtain⟨z,r⟩:=q;rw[w]at g;simp only[Y2,T5]at g;obtain⟨rfl,rfl⟩:=g;have W:=dg w;obtain⟨aB,ad,ae⟩:=W.eqs;have aC:=(hU w).1;refine⟨by show r.shared=[];rw[ae,g1],by show r.toks.length<=_;have:=W.1;omega,λe=>?_⟩;obtain⟨p,B⟩:=qS e;rw[ad]at p;obtain⟨R,S,af⟩:=Q p;refine⟨R,S,λy C=>?_⟩;rcases o5.1 C with C|C
   .exact af y C
   .rw[l9.1 C];have:=of_decide_eq_false B;omega) n.toNat [] (a8 (decide (2147483648<k)) A) sizes H ⟨by
     show A.shared=[];rw[t4.eqs.2.2];show F.shared=[];rw[t3.eqs.2.2,M.eqs.2.2];show s1.shared=[];rw[r.eqs.2.2];show s0.shared=[];rw[aa];exact U,by
     show A.toks.length<=_;have ag:=r.1;have ah:=M.1;have a3:=t3.1;have a4:=t4.1;have p:(a8 (decide (64<name.length)) s0).toks=s0.toks:=rfl;have B:(a8 (decide (64<n)) s1).toks=s1.toks:=rfl;have I:(a8 (decide (256<E)) F).toks=F.toks:=rfl;rw[p]at ag;rw[B]at ah;rw[I]at a4;rw[V,j9];omega,λe=>by
     obtain⟨p,B⟩:=qS e;have:=of_decide_eq_false B;exact⟨p,Ω,λz ai=>by cases ai⟩⟩ O
 obtain⟨⟨aj,ak,al⟩,am⟩:=ac;have an:=iN (λ(acc:List ck)t=>(∀q∈t.shared,mX q.1 q.2/\q.2.length<=s.toks.length)/\t.toks.length<=s.toks.length/\(t.big=false->H.big=false/\∀x∈acc,td sizes s.toks.length x/\x.scope.length<=6/\dk x.sizes=false)) (λacc t a bp ⟨g1,T,Q⟩ g=>by
  obtain⟨ao,ap,X,aq⟩:=K3 g1 T g;refine⟨ap,by have:=X.toks;omega,λe=>?_⟩;obtain⟨R,S⟩:=Q (K4 X.big e);refine⟨R,λx J=>?_⟩;rcases o5.1 J with J|J
  .exact S x J
  .rw[l9.1 J];exact⟨ao,aq e⟩) E.toNat [] H funs ab ⟨(by rw[aj];intro q w;cases w),ak,λe=>⟨e,λx J=>by cases J⟩⟩ P
 obtain⟨⟨_,_,d3⟩,d4⟩:=an;obtain⟨au,d5⟩:=d3 e;obtain⟨I,av,aw⟩:=al au;rw[t4.eqs.2.1]at I;obtain⟨Y,ay⟩:=qS I;rw[t3.eqs.2.1,M.eqs.2.1]at Y;obtain⟨p,az⟩:=qS Y;rw[r.eqs.2.1]at p;obtain⟨_,aA⟩:=qS p;have:=of_decide_eq_false ay;have:=of_decide_eq_false az;have:=of_decide_eq_false aA;have aD:=(hU h1).1;have hk:=(hU G).1;simp only[List.length_nil,X8]at am d4;exact⟨⟨by show name.length<=64;omega,⟨hk.1,av⟩,⟨by show 1<=sizes.length;omega,by show sizes.length<=64;omega,aw⟩,by show funs.length<=256;omega,d5⟩,by rw[V];exact .head _⟩
def jX(x:ck)(k:Int)(t:Λ):Int:=min (match x.lines.find? (λp=>decide (p.1=t))with
 |some p=>p.2
 |none=>x.other) k
def bn(l:Λ):Λ:=((X3 64).map λ(v:Nat)=>(v:Int)).filter λv=>decide (v∈l)
def bW(sizes scope:Λ):Λ:=scope.map λv=>sizes.getD v.toNat 0
def px(scope a t:Λ):Λ:=scope.map λv=>t.getD (a.idxOf v) 0
abbrev cM:Type:=Λ×Λ
def hV(sizes:Λ)(k:Int)(x:ck):cM:=(bn x.scope,(bj (bW sizes (bn x.scope))).map λt=>jX x k (px x.scope (bn x.scope) t))
def dV(k:Int)(a b:Λ):Λ:=List.zipWith (λx y=>min (x+y) k) a b
def il(k:Int)(acc:List cM)(g:cM):List cM:=if g.1∈acc.map (·.1)then acc.map λh=>if h.1=g.1 then(h.1,dV k h.2 g.2)else h else acc++[g]
def jv:Λ->Int
 |[]=>0
 |x::l=>x*64 ^ l.length+jv l
def dd(l:Λ):Int:=l.length*64 ^ 6+jv l
def hB(g:cM):List cM->List cM
 |[]=>[g]
 |h::l=>if dd h.1<dd g.1 then h::hB g l else g::h::l
def ft(g:cM):Bool:=g.2.any λc=>decide (0<c)
def ff(f:bY):List cM:=(f.funs.map (hV f.sizes f.k)).foldl (il f.k) []
def fu(f:bY):List cM:=((ff f).filter ft).foldl (λl g=>hB g l) []
structure aJ where
 k:Int
 sizes:Λ
 zero:Int
 unary:List (Λ)
 funs:List cM
deriving DecidableEq
def cT(f:bY):aJ:=(fu f).foldl (λn g=>match g.1 with
 |[]=>{n with zero:=g.2.getD 0 0}
 |[v]=>{n with unary:=n.unary.set v.toNat g.2}
 |_=>{n with funs:=n.funs++[g]}) ⟨f.k,f.sizes,0,f.sizes.map λz=>p9 z.toNat 0,[]⟩
abbrev iO:Type:=Rd (Λ)×Rd (List (Λ×Int))
def bF(g gs:Nat)(A:ak):ak:=λr=>r=g\/r=gs\/A r
def fS(gs:Nat)(e big a f told:Int)(sv:x1):List x1:=[Γ gs,Δ e,Δ big,Δ a,Δ f,Δ told,sv]
def cH(g gs:Nat)(A:ak)(B:ak):ak:=λr=>¬bF g gs A r/\B r
def lp(w:x3)(g gs:Nat)(A:ak)(B:ak):Prop:=g≠gs/\¬A g/\¬A gs/\(∀r,bF g gs A r->r<w.heap.size)/\∀r,B r->r<w.heap.size
def di(w:x3)(g gs:Nat)(A:ak)(B:ak)(s:aE)(clean:Bool):Prop:=lp w g gs A B/\hA w gs (cH g gs A B) s.toks clean/\(0<=s.told/\s.told<=ax/\s.shared.length+s.toks.length<=100000)/\
 ∃big a e told sv,af w g ch (fS gs 0 big a e told sv)/\((s.big=true↔big≠0)/\(s.big=false->told=s.told))/\bG A (cH g gs A B) w [sv] (show List iO from s.shared)
def ey(w:x3)(g gs:Nat)(A:ak)(B:ak):Prop:=lp w g gs A B/\∃(e big a f told:Int)(sv:x1)(l:List iO),af w g ch (fS gs e big a f told sv)/\(e≠0/\l.length<=100000)/\bG A (cH g gs A B) w [sv] l
theorem lp.ab{g:Nat}{A:ak}{B:ak}(h:lp w g gs A B)(J:ai S w w'):lp w' g gs A B:=by
 obtain⟨h1,e,f,p,q⟩:=h;exact⟨h1,e,f,λr a=>Q1 (p r a) J.size,λr a=>Q1 (q r a) J.size⟩
theorem BI{g:Nat}{A:ak}{B:ak}(a:∀r,A r->¬S r)(e:∀r,cH g gs A B r->¬S r):∀r,A r\/cH g gs A B r->¬S r:=λr h=>h.elim (a r) (e r)
theorem di.ab{g:Nat}{A:ak}{B:ak}{s:aE}(h:di w g gs A B s clean)(J:ai S w w')(a:∀r,bF g gs A r->¬S r)(e:∀r,cH g gs A B r->¬S r):di w' g gs A B s clean:=by
 obtain⟨h1,f,p,big,q,x,told,sv,y,z,C⟩:=h;exact⟨h1.ab J,f.ab J (a gs (.inr (.inl rfl))) e,p,big,q,x,told,sv,y.ab J (a g (.inl rfl)),z,aq.ab C J λr _ h=>BI (λr E=>a r (.inr (.inr E))) e r h⟩
theorem ey.ab{g:Nat}{A:ak}{B:ak}(h:ey w g gs A B)(J:ai S w w')(a:∀r,bF g gs A r->¬S r)(f:∀r,cH g gs A B r->¬S r):ey w' g gs A B:=by
 obtain⟨h1,e,big,p,q,told,sv,l,s,x,y⟩:=h;exact⟨h1.ab J,e,big,p,q,told,sv,l,s.ab J (a g (.inl rfl)),x,aq.ab y J λr _ h=>BI (λr z=>a r (.inr (.inr z))) f r h⟩
theorem di.ext{g:Nat}{A:ak}{B:ak}{s:aE}(h:di w g gs A B s clean)(J:Ext w w'):di w' g gs A B s clean:=h.ab (J.ab λ_=>False) (λ_ _ h=>h) (λ_ _ h=>h)
theorem ey.ext{g:Nat}{A:ak}{B:ak}(h:ey w g gs A B)(J:Ext w w'):ey w' g gs A B:=h.ab (J.ab λ_=>False) (λ_ _ h=>h) (λ_ _ h=>h)
def gb(w:x3)(g gs:Nat)(A:ak)(B:ak)(clean:Bool)(s':Option aE)(w':x3):Prop:=ai (bF g gs A) w w'/\match s' with
 |some s'=>di w' g gs A B s' clean
 |none=>ey w' g gs A B
theorem wv{g:Nat}{e big a f told:Int}(h:af w g ch (fS gs e big a f told sv)):am x7 k8 [Γ g] w λv w'=>v= .bool (decide (e=0))/\Ext w w':=by
 refine az func108 ?_;rw[bV,aU ch.p rfl,aU e1.p rfl,aw Ψ (h.cell (o:=0+1+0) rfl),be];exact⟨rfl,Ext.refl _⟩
theorem py{g:Nat}{A:ak}{B:ak}{s:aE}(h:di w g gs A B s clean):am x7 k8 [Γ g] w λv w'=>v= .bool true/\Ext w w':=by
 obtain⟨_,_,_,big,e,f,told,sv,a,_⟩:=h;exact(wv a).mono λ_ _ _ h=>h
theorem od{g:Nat}{A:ak}{B:ak}(h:ey w g gs A B):am x7 k8 [Γ g] w λv w'=>v= .bool false/\Ext w w':=by
 obtain⟨_,e,big,p,q,told,sv,l,a,f,_⟩:=h;refine(wv a).mono ?_;rintro _ V _ ⟨rfl,J⟩;exact⟨by rw[decide_eq_false f.1],J⟩
theorem te{g:Nat}{A B:ak}(h:A r\/cH g gs A B r)(a:¬A g):r≠g:=by
 rintro rfl;rcases h with h|h
 .exact a h
 .exact h.1 (.inl rfl)
theorem tf{g:Nat}{A:ak}{B:ak}{big x a told e:Int}{l:List iO}(U:lp w g gs A B)(y:af w g ch (fS gs 0 big x a told sv))(z:bG A (cH g gs A B) w [sv] l)(he:e≠0)(C:l.length<=100000):
  am x7 nM [Γ g,Δ e,Δ at_] w λ_ w'=>ai (λr=>r=g) w w'/\ey w' g gs A B:=by
 refine az func111 ?_;rw[bV,aU ch.p rfl,aU e1.p rfl,aw Ψ (y.cell (o:=0+1+0) rfl),be,al];refine⟨λ_=>?_,λh=>absurd rfl h⟩;rw[bV,aU ch.p rfl,aU e1.p rfl];refine bl (g:=g) (o:=1) jP.i rfl rfl y (by simp[fS]) λV E I f=>?_;have f:af V g ch (fS gs e big x a told sv):=f;rw[bV,aU ch.p rfl,aU e1.p rfl];refine bl (g:=g) (o:=3) ah.i rfl rfl f (by simp[fS]) λaa G J q=>?_;have q:af aa g ch (fS gs e big at_ a told sv):=q;have s:=E.trans G;exact⟨s,U.ab s,e,big,at_,a,told,sv,l,q,⟨he,C⟩,aq.ab z s λr _ h H=>te h U.2.1 H⟩
theorem tg{g:Nat}{A:ak}{B:ak}{s:aE}{e:Int}(h:di w g gs A B s clean)(he:e≠0):am x7 nM [Γ g,Δ e,Δ at_] w λ_ w'=>ai (λr=>r=g) w w'/\ey w' g gs A B:=by
 obtain⟨U,_,a,big,q,x,told,sv,f,_,p⟩:=h;exact tf U f p he (by have:=a.2.2;show s.shared.length<=_;omega)
theorem K5{g:Nat}{A:ak}{B:ak}{e:Int}(h:ey w g gs A B):am x7 nM [Γ g,Δ e,Δ at_] w λ_ w'=>Ext w w':=by
 obtain⟨_,f,big,q,r,told,sv,l,h1,a,_⟩:=h;refine az func111 ?_;rw[bV,aU ch.p rfl,aU e1.p rfl,aw Ψ (h1.cell (o:=0+1+0) rfl),be,al];exact⟨λh=>absurd h a.1,λ_=>Ext.refl _⟩
theorem th{g:Nat}{A:ak}{B:ak}{s:aE}{b:Bool}(h:di w g gs A B s clean):am x7 qv [Γ g,.bool b,Δ at_] w λ_ w'=>ai (λr=>r=g) w w'/\di w' g gs A B (a8 b s) clean:=by
 obtain⟨U,C,E,big,e,G,told,sv,f,H,I⟩:=id h;refine az func106 ?_;refine aV (λv V=>w=V/\v= .bool (b&&decide (big=0))) ?_ ?_
 rotate_left
 .intro aB x;cases b with
  |false=>rw[a1];exact x _ _ ⟨rfl,rfl⟩
  |true=>
   rw[bT,bV,aU ch.p rfl,aU e1.p rfl,aw Ψ (f.cell (o:=0+1+1) rfl),be,al];refine⟨λa=>?_,λa=>x _ _ ⟨rfl,by rw[decide_eq_false a];rfl⟩⟩;rw[bV,aU ch.p rfl,aU e1.p rfl,aw Ψ (f.cell (o:=0+1+0) rfl),be];exact x _ _ ⟨rfl,by rw[decide_eq_true a];rfl⟩
 rintro _ _ ⟨rfl,rfl⟩;rw[bZ];refine⟨λJ=>?_,λag=>?_⟩
 .obtain⟨rfl,a⟩:=Bool.and_eq_true_iff.1 J;rw[bV,aU ch.p rfl,aU e1.p rfl];refine bl (g:=g) (o:=2) jP.i rfl rfl f (by simp[fS]) λV K O y=>?_;have y:af V g ch (fS gs 0 5 e G told sv):=y;rw[bV,aU ch.p rfl,aU e1.p rfl];refine bl (g:=g) (o:=4) ah.i rfl rfl y (by simp[fS]) λaa L P z=>?_;have z:af aa g ch (fS gs 0 5 e at_ told sv):=z;have q:=K.trans L;exact⟨q,U.ab q,C.ab q (λhe=>U.1 he.symm) (λr M he=>M.1 (.inl he)),E,5,e,at_,told,sv,z,⟨⟨λ_=>Ω,λ_=>by simp[a8]⟩,λh=>by simp[a8]at h⟩,aq.ab I q λr _ h N=>te h U.2.1 N⟩
 .refine⟨ai.refl _ _,U,C,E,big,e,G,told,sv,f,⟨?_,λh=>H.2 (by
   have h:(s.big||b)=false:=h;exact(S7.1 h).1)⟩,I⟩
  show(s.big||b)=true↔big≠0;cases b with
  |false=>rw[Bool.or_false];exact H.1
  |true=>
   have a:big≠0:=of_decide_eq_false (by simpa using ag);simp[a]
theorem BJ{g:Nat}{A:ak}{B:ak}{b:Bool}(h:ey w g gs A B):am x7 qv [Γ g,.bool b,Δ at_] w λ_ w'=>Ext w w':=by
 obtain⟨_,q,big,r,s,told,sv,l,h1,e,_⟩:=h;refine az func106 ?_;refine aV (λv V=>w=V/\v= .bool false) ?_ ?_
 .rintro _ _ ⟨rfl,rfl⟩;rw[a1];exact Ext.refl _
 intro aB a;cases b with
 |false=>rw[a1];exact a _ _ ⟨rfl,rfl⟩
 |true=>
  rw[bT,bV,aU ch.p rfl,aU e1.p rfl,aw Ψ (h1.cell (o:=0+1+1) rfl),be,al];refine⟨λf=>?_,λf=>a _ _ ⟨rfl,rfl⟩⟩;rw[bV,aU ch.p rfl,aU e1.p rfl,aw Ψ (h1.cell (o:=0+1+0) rfl),be];exact a _ _ ⟨rfl,by rw[decide_eq_false e.1]⟩
theorem di.scan{g:Nat}{A:ak}{B:ak}{s:aE}{l:List (Λ)}(h:di w g gs A B s clean)(a:ai (λr=>r=gs) w w')(U:hA w' gs (cH g gs A B) l clean)(C:l.length<=s.toks.length):di w' g gs A B {s with toks:=l} clean:=by
 obtain⟨h1,_,e,big,p,q,told,sv,x,y,z⟩:=h;refine⟨h1.ab a,U,⟨e.1,e.2.1,by have:=e.2.2;show s.shared.length+l.length<=100000;omega⟩,big,p,q,told,sv,x.ab a h1.1,y,aq.ab z a λr _ h f=>?_⟩;have f:r=gs:=f;subst f;rcases h with h|h
 .exact h1.2.2.1 h
 .exact h.1 (.inr (.inl rfl))
theorem BK{g:Nat}{A:ak}{B:ak}{s:aE}(h:di w g gs A B s clean):am x7 zI [Γ g] w λv w'=>gb w g gs A B clean ((dI s).map (·.2)) w'/\∃(t:Λ)(n:Int),v= .tuple #[bL t,Δ n]/\Bytes t/\t.length<=100000/\∀q,dI s=σ q->t=q.1:=by
 refine az func105 ?_;refine(py h).mono ?_;rintro _ V _ ⟨rfl,J⟩;rw[bE,Y7,a1];have h1:=h.ext J;obtain⟨_,K,_,big,N,O,told,sv,z,_⟩:=id h1;have P:=K.words.2;rw[aQ ch.p 0 z rfl];refine(qQ K).mono ?_;rintro v aa _ ⟨x,ad⟩;have L:ai (bF g gs A) w aa:=(J.ab _).trans (x.mono λr _ h=>.inr (.inl h));cases f:s.toks with
 |cons t l=>
  rw[f]at ad;obtain⟨Q,n,rfl⟩:=ad;have R:=h1.scan x Q (by rw[f];simp);have C:dI s=σ (t,{s with toks:=l}):=by unfold dI;rw[f]
  have M:=P t (by rw[f];exact .head _);rw[fP,fQ,fR];refine aV (λv E=>aa=E/\v=Δ 0) ?_ ?_
  .rintro _ _ ⟨rfl,rfl⟩;refine c5 (λy=>aa=y) ?_ ?_
   .rintro _ rfl;rw[C];exact⟨⟨L,R⟩,t,n,rfl,M.1,M.2.2,λq G=>by cases G;rfl⟩
   .intro aB a;rw[bD,al];exact⟨λh=>absurd rfl h,λ_=>a _ rfl⟩
  .intro aB a;rw[be,al];exact⟨λh=>Ω,λ_=>a _ _ ⟨rfl,rfl⟩⟩
 |nil=>
  rw[f]at ad;obtain⟨n,rfl⟩:=ad;have C:dI s=ν:=by unfold dI;rw[f]
  obtain⟨H,_,S,big,N,O,told,sv,z,ae,U⟩:=id h1;have W:=z.ab x H.1;have X:=aq.ab U x λr _ h I=>by
   have I:r=gs:=I;subst I;rcases h with h|h
   .exact H.2.2.1 h
   .exact h.1 (.inr (.inl rfl))
  rw[fP,fQ,fR];refine aV (λv E=>aa=E/\∃e:Int,v=Δ e/\e≠0) ?_ ?_
  .rintro _ _ ⟨rfl,e,rfl,he⟩;refine c5 (λy=>ai (λr=>r=g) aa y/\ey y g gs A B) ?_ ?_
   .rintro y ⟨Y,Z⟩;rw[C];exact⟨⟨L.trans (Y.mono λr _ h=>.inl h),Z⟩,[],n,rfl,λb ac=>(by cases ac),Ξ,λq G=>by cases G⟩
   .intro aB a;rw[bD,al];refine⟨λ_=>?_,λh=>absurd he h⟩;exact(tf (H.ab x) W X he (by have:=S.2.2;show s.shared.length<=_;omega)).mono λ_ w' _ h=>a _ h
  .intro aB a;rw[be,al];cases clean with
   |true=>exact⟨λ_=>a _ _ ⟨rfl,4,rfl,Ω⟩,λh=>absurd rfl h⟩
   |false=>exact⟨λh=>by simp at h,λ_=>a _ _ ⟨rfl,11,rfl,Ω⟩⟩
theorem K6{g:Nat}{A:ak}{B:ak}(h:ey w g gs A B):am x7 zI [Γ g] w λv w'=>Ext w w'/\v= .tuple #[bL [],Δ 0]:=by
 refine az func105 ?_;refine(od h).mono ?_;rintro _ V _ ⟨rfl,a⟩;rw[bE,V0,bT];exact⟨a,rfl⟩
theorem wx{g:Nat}{A:ak}{B:ak}{s:aE}(h:di w g gs A B s clean):am x7 nL [Γ g,Δ lo,Δ hi] w λv w'=>gb w g gs A B clean ((bd lo hi s).map (·.2)) w'/\∃n at_:Int,v= .tuple #[Δ n,Δ at_]/\(∀q,bd lo hi s=σ q->n=q.1)/\(bd lo hi s=ν->n=0):=by
 refine az func107 ?_;refine(BK h).mono ?_;rintro _ V _ ⟨⟨z,f⟩,t,n,rfl,I,J,hw⟩;rw[bq,br];cases p:dI s with
 |none=>
  have a:bd lo hi s=ν:=by unfold bd;rw[p]
  rw[p]at f;have f:ey V g gs A B:=f;refine(od f).mono ?_;rintro _ aa _ ⟨rfl,x⟩;rw[bE,V0,bT,a];exact⟨⟨z.trans (x.ab _),f.ext x⟩,0,n,rfl,λq h=>(by cases h),λ_=>rfl⟩
 |some q=>
  obtain⟨bp,s1⟩:=q;have:=hw _ p;subst this;rw[p]at f;have f:di V g gs A B s1 clean:=f;refine(py f).mono ?_;rintro _ aa _ ⟨rfl,x⟩;rw[bE,Y7,a1];refine(K1 I J).mono ?_;rintro _ C _ ⟨rfl,E⟩;have G:=(f.ext x).ext E;have H:ai (bF g gs A) w C:=(z.trans (x.ab _)).trans (E.ab _);obtain⟨m,e,ad,hm⟩:∃m e:Int,kE t= .tuple #[Δ m,Δ e]/\((gx t=σ m/\e=0)\/(gx t=ν/\e=4)):=by
   unfold kE;cases N:gx t with
   |none=>exact⟨0,4,rfl,.inr ⟨rfl,rfl⟩⟩
   |some m=>exact⟨m,0,rfl,.inl ⟨rfl,rfl⟩⟩
  rw[ad,bq,br];refine aV (λv K=>C=K/\v= .bool (bd lo hi s).isNone) ?_ ?_
  .rintro _ _ ⟨rfl,rfl⟩;cases a:bd lo hi s with
   |none=>
    rw[Option.isNone_none,bT];refine(tg G Ω).mono ?_;rintro _ O _ ⟨L,M⟩;exact⟨⟨H.trans (L.mono λr _ h=>.inl h),M⟩,0,n,rfl,λq h=>(by cases h),λ_=>rfl⟩
   |some q=>
    rw[Z5,a1];unfold bd at a;rw[p]at a;simp only at a;rcases hm with⟨hm,_⟩|⟨hm,_⟩
    .rw[hm]at a;simp only at a;split at a
     .cases a;exact⟨⟨H,G⟩,m,n,rfl,λq h=>(by cases h;rfl),λh=>(by cases h)⟩
     .cases a
    .rw[hm]at a;cases a
  .intro aB y;have a:bd lo hi s=match gx t with
     |none=>ν
     |some n=>if lo<=n/\n<=hi then σ (n,s1)else ν:=by
    unfold bd;rw[p];simp only;cases gx t<;>rfl
   rw[bD,al];rcases hm with⟨hm,rfl⟩|⟨hm,rfl⟩
   .rw[hm]at a;simp only at a;refine⟨λh=>absurd rfl h,λ_=>?_⟩;rw[aS,al];refine⟨λh=>y _ _ ⟨rfl,by rw[a,if_neg Ω];rfl⟩,λh=>?_⟩;rw[bN];refine y _ _ ⟨rfl,?_⟩;rw[a];by_cases aA:hi<m
    .rw[decide_eq_true aA,if_neg Ω];rfl
    .rw[decide_eq_false aA,if_pos Ω];rfl
   .rw[hm]at a;exact⟨λ_=>y _ _ ⟨rfl,by rw[a];rfl⟩,λh=>absurd (by omega:(4:Int)≠0) h⟩
theorem K7{g:Nat}{A:ak}{B:ak}(h:ey w g gs A B):am x7 nL [Γ g,Δ lo,Δ hi] w λv w'=>Ext w w'/\v= .tuple #[Δ 0,Δ 0]:=by
 refine az func107 ?_;refine(K6 h).mono ?_;rintro _ V _ ⟨a,rfl⟩;rw[bq,br];refine(od (h.ext a)).mono ?_;rintro _ aa _ ⟨rfl,e⟩;rw[bE,V0,bT];exact⟨a.trans e,rfl⟩
theorem K8{x:Int}(h:aH .i64 w sv l):am x7 Jf [sv,Δ x] w λv w'=>Ext w w'/\∃r:Int,v=Δ r/\(0<=r↔x∈l):=by
 refine az func271 ?_;rw[aW ay.u h];refine b5.range l.length (λi _ V=>Ext w V/\x∉l.take i) h.le ⟨Ext.refl _,Ξ⟩ ?_ ?_
 .rintro i _ V k hi ⟨a,e⟩ hk;refine bH Ω ?_;obtain⟨y,f⟩:=aI (l:=l) hi;rw[bh ay.u ao.i Ψ (h.ext a) f,be,al];refine⟨λhe=>⟨a,i,rfl,⟨λ_=>he▸x5 f,λ_=>Ω⟩⟩,λhe=>?_⟩;rw[aO];refine hk _ _ ⟨a,λhm=>?_⟩;rw[u7,f]at hm;rcases o5.1 hm with hm|hm
  .exact e hm
  .simp at hm;exact he hm
 .rintro _ V k ⟨a,e⟩;rw[o7]at e;rw[aS,al];exact⟨λh=>Ω,λ_=>⟨a,-1,rfl,⟨λh=>Ω,λh=>absurd h e⟩⟩⟩
theorem K9{x:Int}(h:aH .i64 w sv l):am x7 IT [sv,Δ x] w λv w'=>v= .bool (decide (x∈l))/\Ext w w':=by
 refine az func232 ?_;refine(K8 h).mono ?_;rintro _ V _ ⟨J,r,rfl,a⟩;rw[cn];exact⟨by congr 1;rw[V9,decide_eq_true_eq,decide_eq_true_eq];exact a,J⟩
theorem ti:∀{l:Λ},(∀z∈l,1<=z)->∀i,aP ((l.take i).map λk=>min k 4097)<=aP (l.map λk=>min k 4097)/\1<=aP ((l.take i).map λk=>min k 4097)
 |[],_,i=>by simp[aP]
 |z::l,h,0=>by
  have a:=ti (l:=l) (λx J=>h x (.tail _ J)) l.length;rw[o7]at a;have e:=h z (.head _);simp only[List.take_zero,List.map_nil,T1,aP];have:=Int.mul_le_mul_of_nonneg_left a.2 (show 0<=min z 4097 by omega);omega
 |z::l,h,i+1=>by
  have a:=ti (l:=l) (λx J=>h x (.tail _ J)) i;have e:=h z (.head _);simp only[List.take_succ_cons,T1,aP];have h1:=Int.mul_le_mul_of_nonneg_left a.1 (show 0<=min z 4097 by omega);have f:=Int.mul_le_mul_of_nonneg_left a.2 (show 0<=min z 4097 by omega);exact⟨h1,Ω⟩
theorem BL(l:Λ)(x:Int):aP (l++[x])=aP l*x:=by
 induction l with
 |nil=>simp[aP]
 |cons a l e=>rw[List.cons_append,aP,e,aP,Int.mul_assoc]
theorem BM(h:aH .i64 w sv l)(h1:∀z∈l,1<=z):am x7 Il [sv] w λv w'=>v= .bool (dk l)/\Ext w w':=by
 refine az func182 ?_;rw[aW ay.u h];refine nE.range l.length (λi _ n V=>Ext w V/\n=Δ (aP ((l.take i).map λk=>min k 4097))/\aP ((l.take i).map λk=>min k 4097)<=4096) h.le ⟨Ext.refl _,by simp[aP],by simp[aP]⟩ ?_ ?_
 .rintro i _ _ V q hi ⟨a,rfl,f⟩ r;refine bH Ω ?_;obtain⟨z,p⟩:=aI (l:=l) hi;have x:=h1 z (x5 p);have y:=ti h1 i;have A:=ti h1 (i+1);have e:aP ((l.take (i+1)).map λk=>min k 4097)=aP ((l.take i).map λk=>min k 4097)*min z 4097:=by
   rw[u7,p,o8,Z3,T1,List.map_nil,BL]
  rw[bh ay.u ao.i Ψ (h.ext a) p,l8,hS,<-e];have B:aP ((l.take (i+1)).map λk=>min k 4097)<=4096*4097:=by
   rw[e];have C:=Int.mul_le_mul_of_nonneg_right f (show 0<=min z 4097 by omega);have E:=Int.mul_le_mul_of_nonneg_left (show min z 4097<=4097 by omega) (show(0:Int)<=4096 by omega);omega
  rw[wrap_i64 Ω Ω,bN,al];refine⟨λs=>⟨?_,a⟩,λs=>?_⟩
  .unfold dk;rw[decide_eq_true];omega
  .rw[aO];exact r _ _ _ ⟨a,rfl,Ω⟩
 .rintro _ _ V q ⟨a,rfl,f⟩;rw[o7]at f;rw[aS,al];refine⟨λh=>Ω,λ_=>⟨?_,a⟩⟩;unfold dk;rw[decide_eq_false];omega
def kF(n:Int)(acc:Λ)(s:aE):Option (Int×aE):=match bd 0 (n-1) s with
 |none=>ν
 |some (v,s)=>if v∈acc then ν else σ (v,s)
theorem pz{α:Type}{f:List α->aE->Option (α×aE)}{acc:List α}{s:aE}(h:f acc s=ν):cL f (n+1) acc s=ν:=by
 simp only[cL,h]
theorem tj{α:Type}{f:List α->aE->Option (α×aE)}{acc:List α}{s s':aE}{a:α}(h:f acc s=σ (a,s')):cL f (n+1) acc s=cL f n (acc++[a]) s':=by
 simp only[cL,h]
theorem di.qT{g:Nat}{A:ak}{B:ak}{s:aE}(h:di w g gs A B s clean):(∀r,bF g gs A r->r<w.heap.size)/\(∀r,B r->r<w.heap.size):=⟨h.1.2.2.2.1,h.1.2.2.2.2⟩
theorem La{g k:Nat}{A B:ak}{s:aE}{m:Int}(h:di w g gs A B s clean)(hk:k<=4611686018427387904)(hm:0<=m/\m<=1000000):
  am x7 zQ [Γ g,Δ (k:Int),Δ m] w λv w'=>gb w g gs A B clean ((eR m k s).map (·.2)) w'/\
   ∃gr l,av .i64 ao w' gr v l/\(∀r,leads v r->w.heap.size<=r)/\l.length<=100001/\∀q,eR m k s=σ q->l=q.1:=by
 obtain⟨ac,ax⟩:=h.qT;have aA:=h.2.1.words.1;refine az func181 ?_;refine⟨λout Q V=>∃i:Nat,Q=Δ (i:Int)/\i<=k/\ai (bF g gs A) w V/\∃gr l,av .i64 ao V gr out l/\w.heap.size<=gr/\l.length<=100001/\
  ((∃st,di V g gs A B st clean/\cL (kF m) (k-i) l st=eR m k s/\l.length+st.toks.length<=100000)\/(ey V g gs A B/\eR m k s=ν)),λ_ Q _=>k-(bU Q).toNat,
  ⟨0,rfl,X6 _,ai.refl _ _,w.heap.size,[],av.nil _ _ _ _,o4 _,Ξ,.inl ⟨s,h,rfl,by simpa using aA⟩⟩,?_⟩
 rintro out _ V ⟨i,rfl,aC,ad,gr,l,ae,bb,bc,af⟩;have s1:=ad.size;have R:∀r,leads out r->w.heap.size<=r:=λr z=>by have:=bQ ae z;omega
 refine aV (λv aa=>Ext V aa/\((v= .bool true/\i<k/\∃st,di aa g gs A B st clean/\cL (kF m) (k-i) l st=eR m k s/\l.length+st.toks.length<=100000)\/
  (v= .bool false/\((∃st,di aa g gs A B st clean/\eR m k s=σ (l,st))\/(ey aa g gs A B/\eR m k s=ν))))) ?_ ?_
 rotate_left
 .intro aB K;rw[aS,al];refine⟨λbe=>?_,λbf=>?_⟩
  .rcases af with⟨st,C,y,S⟩|⟨G,U⟩
   .refine (py C).mono ?_;rintro _ aa _ ⟨rfl,E⟩;exact K _ _ ⟨E,.inl ⟨rfl,Ω,st,C.ext E,y,S⟩⟩
   .refine (od G).mono ?_;rintro _ aa _ ⟨rfl,E⟩;exact K _ _ ⟨E,.inr ⟨rfl,.inr ⟨G.ext E,U⟩⟩⟩
  .have aD:k-i=0:=Ω
   rcases af with⟨st,C,y,S⟩|aF
   .rw[aD]at y;exact K _ _ ⟨Ext.refl _,.inr ⟨rfl,.inl ⟨st,C,y.symm⟩⟩⟩
   .exact K _ _ ⟨Ext.refl _,.inr ⟨rfl,.inr aF⟩⟩
 rintro _ aa ⟨E,aG⟩;have W:ai (bF g gs A) w aa:=ad.trans (E.ab _);have L:=ae.ext E;rcases aG with⟨rfl,aC,st,C,y,S⟩|⟨rfl,aH⟩
 rotate_left
 .rw[a1];rcases aH with⟨st,C,I⟩|⟨G,I⟩
  .rw[I];exact⟨⟨W,C⟩,gr,l,L,R,Ω,λq f=>by cases f;rfl⟩
  .rw[I];exact⟨⟨W,G⟩,gr,l,L,R,Ω,λq f=>by cases f⟩
 rw[bT,dO,wrap_i64 Ω Ω];have aI:k-i=(k-(i+1))+1:=Ω
 rw[aI]at y;refine(wx C).mono ?_;rintro _ M _ ⟨⟨N,O⟩,n,at_,rfl,aJ,bg⟩;rw[bq,br];have ag:∀r,leads out r->¬bF g gs A r:=λr z aK=>by have:=ac r aK;have:=R r z;omega
 have bh:∀r,g=r->bF g gs A r:=λr h=>.inl h.symm;refine c5 (λe=>ai (bF g gs A) aa e/\((∃x,di e g gs A B x clean/\cL (kF m) (k-(i+1)) (l++[n]) x=eR m k s/\l.length+1+x.toks.length<=100000)\/(ey e g gs A B/\eR m k s=ν))/\l.length+1<=100001) ?_ ?_
 .rintro e ⟨ah,aL,aj⟩;have aM:=bt L ah ag;have an:=W.trans ah;have bi:=an.size;refine ee ay.u ao.i rfl λa ga ap bj H aN=>?_;refine jn ay.u ao.i rfl (aM.ext H) aN.ls Θ Θ λaP aQ aR bk aT X=>?_;have bl:=H.size;rw[aO,wrap_i64 Ω Ω];have aU:ai (bF g gs A) w aR:=hz (an.trans (H.ab _)) X λr z he=>by have he:r=gr:=he;omega
  have aq:∀r,bF g gs A r->¬(λr=>r=gr) r:=λr z he=>by have:=ac r z;have he:r=gr:=he;omega
  have au:∀r,cH g gs A B r->¬(λr=>r=gr) r:=λr z he=>by have:=ax r z.2;have he:r=gr:=he;omega
  refine⟨⟨i+1,rfl,Ω,aU,aQ,l++[n],aT,Ω,Θ,?_⟩,by simp only[bU];omega⟩;rcases aL with⟨x,P,aW,bm⟩|⟨aX,U⟩
  .exact .inl ⟨x,(P.ext H).ab X aq au,aW,Θ⟩
  .exact .inr ⟨(aX.ext H).ab X aq au,U⟩
 .intro bn Y;cases f:bd 0 (m-1) st with
  |none=>
   rw[f]at O;have G:ey M g gs A B:=O;have J:kF m l st=ν:=by unfold kF;rw[f]
   have I:eR m k s=ν:=by rw[<-y];exact pz J
   refine aV (λv e=>Ext M e/\v= .bool false) ?_ ?_
   rotate_left
   .intro aY Z;refine(od G).mono ?_;rintro _ e _ ⟨rfl,p⟩;rw[a1];exact Z _ _ ⟨p,rfl⟩
   rintro _ e ⟨p,rfl⟩;rw[a1];exact Y _ ⟨N.trans (p.ab _),.inr ⟨G.ext p,I⟩,Ω⟩
  |some q=>
   obtain⟨aP,x⟩:=q;have aZ:=aJ _ f;subst aZ;rw[f]at O;have aw:di M g gs A B x clean:=O;have a2:=dg f;have aj:l.length+1+x.toks.length<=100000:=by have:=a2.1;omega
   refine aV (λv e=>Ext M e/\v= .bool (decide (n∈l))) ?_ ?_
   rotate_left
   .intro aY Z;refine(py aw).mono ?_;rintro _ e _ ⟨rfl,p⟩;rw[bT];refine(K9 ((bt L N ag).ext p).ls).mono ?_;rintro _ ap _ ⟨rfl,H⟩;exact Z _ _ ⟨p.trans H,rfl⟩
   rintro _ e ⟨p,rfl⟩;have P:=aw.ext p;rw[al];refine⟨λa6=>?_,λa7=>?_⟩
   .have J:kF m l st=ν:=by unfold kF;rw[f];simp only;rw[if_pos a6]
    refine(tg P Ω).mono ?_;rintro _ ap _ ⟨a8,ba⟩;exact Y _ ⟨(N.trans (p.ab _)).trans (a8.mono λr _ h=>.inl h),.inr ⟨ba,by rw[<-y];exact pz J⟩,Ω⟩
   .have J:kF m l st=σ (n,x):=by unfold kF;rw[f];simp only;rw[if_neg a7]
    exact Y _ ⟨N.trans (p.ab _),.inl ⟨x,P,by rw[<-y];exact(tj J).symm,aj⟩,Ω⟩
theorem pA{a b:Int}(e:0<=a/\a<=4294967296)(f:0<=b/\b<=4294967296):am x7 GM [Δ a,Δ b,Δ k] w λv w'=>v=Δ (min (a+b) k)/\Ext w w':=by
 refine az func32 ?_;simp only[aO,bN,al];rw[wrap_i64 Ω Ω];exact⟨λh=>⟨by rw[Int.min_eq_right Ω],Ext.refl _⟩,λh=>⟨by rw[Int.min_eq_left Ω],Ext.refl _⟩⟩
def oe(a b k:Int):x1:=if cu a k/\cu b k then .tuple #[Δ (min (a+b) k),Δ 0]else .tuple #[Δ 0,Δ 3]
theorem wy{a b:Int}:am x7 zF [Δ a,Δ b,Δ k] w λv w'=>v=oe a b k/\Ext w w':=by
 refine az func72 ?_;refine aV (λv V=>Ext w V/\v= .bool (decide (¬(cu a k/\cu b k)))) ?_ ?_
 .rintro _ V ⟨J,rfl⟩;simp only[al,aO,l8];refine⟨λh=>⟨by unfold oe;rw[if_neg h],J⟩,λh=>?_⟩;have h:=Y0.1 h;obtain⟨⟨h1,r⟩,s,x⟩:=id h;have:=h1.2;rw[wrap_i64 Ω Ω];exact⟨by unfold oe;rw[if_pos h],J⟩
 .intro aB e;refine jU.mono ?_;rintro _ aa _ ⟨rfl,f⟩;simp only[bE,bZ];refine⟨λh=>e _ _ ⟨f,?_⟩,λh=>?_⟩
  .have:¬cu a k:=by simpa using h
   rw[decide_eq_true];exact λh=>this h.1
  .have p:cu a k:=by simpa using h
   refine jU.mono ?_;rintro _ y _ ⟨rfl,q⟩;simp only[bE];exact e _ _ ⟨f.trans q,by simp[p]⟩
theorem Lb(h:aH .i64 w sv l)(f:l≠[]):
  am x7 Jm [sv] w λv w'=>v=Δ (wo l)/\Ext w w':=by
 obtain⟨x,l,rfl⟩:∃x r,l=x::r:=by cases l with
  |nil=>exact absurd rfl f
  |cons x r=>exact⟨x,r,rfl⟩
 have p:=h.le;refine az func289 ?_;refine c5 (λV=>w=V) ?_ ?_
 .rintro _ rfl;rw[fN (y:=0) (i:=0) rfl ay.u ao.i Ψ h (by rfl)];refine⟨λm i aa=>Ext w aa/\∃k:Nat,i=Δ (k+1:Nat)/\k<=l.length/\m=Δ ((l.take k).foldl min x),λ_ i _=>l.length+1-(bU i).toNat,⟨Ext.refl _,0,rfl,X6 _,rfl⟩,?_⟩;rintro _ _ aa ⟨a,k,rfl,hk,rfl⟩;rw[aW ay.u (h.ext a)];simp only[j9,aS,al]at p ⊢;refine⟨λs=>?_,λz=>⟨?_,a⟩⟩
  .obtain⟨y,e⟩:=aI (l:=l) (i:=k) Ω;rw[bh ay.u ao.i Ψ (h.ext a) (show(x::l)[k+1]?=σ y from e),l8];simp only[aO];rw[wrap_i64 Ω Ω];refine⟨⟨a,k+1,by congr 1,Ω,?_⟩,?_⟩
   .rw[u7,e,List.foldl_append];rfl
   .simp only[bU];omega
  .have:k=l.length:=Ω
   subst this;rw[o7];rfl
 .intro aB q;rw[aW ay.u h];simp only[aS,al];exact⟨λh=>by simp at h;omega,λ_=>q _ rfl⟩
theorem BN{g:Nat}{cs:Λ}(h:df w g a sv aj k cs):am x7 vM [Γ g] w λv w'=>v=Δ k/\Ext w w':=by
 obtain⟨⟨a6,gs,e,hm,f⟩,_⟩:=h;refine az func255 ?_;rw[dc eQ.u];simp only[Z5,a1];rw[aQ cY.p 1 e rfl];exact⟨rfl,Ext.refl _⟩
theorem mY{g e:Nat}{cs:Λ}(h:df w g e sv aj k cs):
  am x7 HF [Γ g] w λv w'=>Ext w w'/\∃a,w.heap.size<=a/\av .i64 ao w' a v cs:=by
 obtain⟨⟨a6,gs,f,hm,q⟩,⟨_,_,r⟩,U,s⟩:=h;refine az func122 ?_;rw[dc eQ.u];simp only[Z5,a1];rw[aQ cY.p 2 f rfl];exact vW q.ls Ω
theorem pB{g e:Nat}{cs:Λ}(h:df w g e sv aj k cs):
  am x7 IE [Γ g] w λv w'=>v= .agg #[sv]/\Ext w w':=by
 obtain⟨⟨a6,gs,f,hm,z⟩,_⟩:=h;have q:=hm.ls.cells;refine az func210 ?_;refine bo bz.i λA V B a s=>?_;rw[dc eQ.u];simp only[Z5,a1];rw[bV,aU cY.p rfl,bK (cs:=[sv]) bz.p bz.i rfl (n3 (f.ext a) (by
  intro j v ad
  match j,ad with
  |0,ad=>exact ad))]
 refine cb (vs:=[sv]) bz.i rfl rfl (by intro u hu;simp at hu;subst hu;exact q.2) s λC x E y=>?_;rw[fO bz.p bz.i rfl y.range];exact⟨rfl,a.then x (by rintro r G rfl;omega)⟩
theorem BO(h:aH .i64 w sv aj)(r:aj.length<=1000):am x7 z1 [.agg #[sv]] w λv w'=>Ext w w'/\∃a,w.heap.size<=a/\av .i64 ah w' a v aj:=by
 refine az func254 ?_;refine bf λg V s e f=>?_;rw[aM bz.p 0 f rfl];refine(kB (h.ext e) Ω).mono ?_;rintro v aa _ ⟨q,a,x,hm⟩;have s1:=e.size;exact⟨e.trans q,a,Ω,hm⟩
theorem BP(h:aH .i64 w sv aj):am x7 Jj [.agg #[sv]] w λv w'=>v=Δ aj.length/\Ext w w':=by
 refine az func278 ?_;refine bf λg V f a e=>?_;rw[aM bz.p 0 e rfl,aW an.u (h.ext a)];exact⟨rfl,a⟩
def hW(aj:Λ)(i:Int):Int:=if 0<=i then aj.getD i.toNat 0 else 0
theorem qU{i:Int}(h:aH .i64 w sv aj):am x7 Jk [.agg #[sv],Δ i] w λv w'=>v=Δ (hW aj i)/\Ext w w':=by
 refine az func279 ?_;refine bf λg V s a e=>?_;refine aV (λv aa=>v= .bool (decide (i<0\/(aj.length:Int)<=i))/\V=aa) ?_ ?_
 .rintro _ _ ⟨rfl,rfl⟩;simp only[al];refine⟨λh=>⟨?_,a⟩,λr=>?_⟩
  .unfold hW;split
   .rw[u4,Z4 Ω];rfl
   .rfl
  .rw[aM bz.p 0 e rfl];obtain⟨n,rfl⟩:∃n:Nat,i=n:=⟨i.toNat,Ω⟩;have f:n<aj.length:=Ω
   rw[bh an.u ah.i Ψ (h.ext a) (x6 f)];refine⟨?_,a⟩;unfold hW;rw[if_pos Ω,u4,r9,x6 f];rfl
 .intro aB q;simp only[aS,al];refine⟨λh=>q _ _ ⟨by rw[decide_eq_true];omega,rfl⟩,λr=>?_⟩;rw[aM bz.p 0 e rfl,aW an.u (h.ext a)];simp only[cn];exact q _ _ ⟨by congr 1;simp;omega,rfl⟩
theorem tk{g B0:Nat}(U:b3 aj):
  oW x7 k7 [Γ g] (aP aj).toNat (λk vs w=>∃aL gt,vs=[Δ (k:Int),aL]/\B0<=gt/\av .i64 ah w gt aL (cQ aj k))
   (λw=>af w g bz [sv]/\aH .i64 w sv aj/\B0<=w.heap.size):=by
 refine⟨k7.enters,λl aB P w r _ z ⟨s,x,A⟩ B=>?_⟩;have Q:=prod_bound U;refine qz func99 ?_;rw[bK bz.p bz.i rfl s.range];refine(pi x U).free.mono ?_;rintro _ V ⟨C,rfl,J⟩;refine ce.range (aP aj).toNat (λi aa=>aB i aa/\af aa g bz [sv]/\aH .i64 aa sv aj/\B0<=aa.heap.size) Ω ⟨r 0 _ _ J C.b B,s.ext J,x.ext J,Y8 A J.size⟩ ?_ ?_
 .rintro i aa k hi ⟨e,f,q,y⟩ hk;simp only[aS,al];refine⟨λ_=>?_,λh=>Ω⟩;rw[bK bz.p bz.i rfl f.range];refine(JR q U Ω Ω).free.mono ?_;rintro _ E ⟨G,a,aL,gt,rfl,H,I⟩;rw[bq,br];refine⟨rfl,(z i _ E hi ⟨f.ext a,q.ext a,Y8 y a.size⟩ ⟨aL,gt,rfl,Y8 y H,I⟩ (r _ _ _ a G.b e)).mono ?_⟩;rintro _ R (⟨rfl,⟨K,L,M⟩,N⟩|⟨rfl,O⟩)
  .simp only[bE,Y7,a1,aO];exact hk _ ⟨N.1,K,L,M⟩
  .simp only[bE,V0,bT];exact .inr ⟨i,hi,O⟩
 .rintro aa k ⟨e,f,q,_⟩;simp only[aS,al];exact⟨λh=>Ω,λ_=>.inl e⟩
theorem tm:am x7 GW [.agg #[sv]] w λr w'=>Ext w w'/\∃g,r= .func (.func k7) #[] #[Γ g]/\w.heap.size<=g/\af w' g bz [sv]:=by
 refine az func50 ?_;refine bf λg V f a e=>?_;rw[ig];exact⟨a,g,rfl,Ω,e⟩
end Go.Proofs.YtikkpokkcdocoabGreatDoor
namespace Go.Vc
open Go Go.RowKit
set_option maxRecDepth 100000
section
variable{P:W8}{w:x3}
theorem aD.cw{α:Type}{s:Sem α}{K:α->x3->Prop}(h:aD P s w λv w'=>cN w w'->K v w'):aD P s w K:=by
 obtain⟨v,w',h1,a,e⟩:=h;exact⟨v,w',h1,a,e a⟩
structure Keys(P:W8)(k:p8)(G:x1->Prop):Prop where
 check:∀(w:x3)(em:Bool){v:x1},G v->(Instr.checkKey em 10000 k v).run P w= .ok () w
 find:∀(w:x3){x:x1},G x->∀es:List MapEntry,(∀e∈es,G e.key)->
  ((Instr.findKey k x es).run P w= .ok ν w/\∀e∈es,e.key≠x)\/∃j e,(Instr.findKey k x es).run P w= .ok (σ (j,e.val)) w/\es[j]?=σ e/\e.key=x
 stays:∀(w:x3){v:x1},G v->(Instr.keyThatStays v v).run P w= .ok v w
theorem Keys.law{k:p8}(K:WideMaps.KeyLaw P k):Keys P k λv=>∃l,keyOf P k v=σ l:=
 ⟨λw a _ ⟨_,h⟩=>K.check w a h,λw _ ⟨_,h⟩ e f=>K.find w h e f,λw _ ⟨_,h⟩=>K.stays w h⟩
theorem Keys.int{k:p8}{a:o6}(hk:P.underlying k=σ (.int a)):Keys P k λv=>∃n,v= .int a n:=by
 have key:∀n,MapKept.IsKey (.int a) (.int a n):=λn=>rfl;refine⟨λw p v ⟨n,h⟩=>?_,λw x ⟨n,h⟩ q r=>?_,λw v ⟨n,h⟩=>?_⟩
 .subst h;exact MapKept.run_checkKey hk (key n) p 9999
 .subst h;rcases MapKept.findNow_spec (key n) q 0 (λe he=>by obtain⟨m,h⟩:=r e he;rw[h];exact key m)with⟨h1,f⟩|⟨j,e,h1,f,s⟩
  .exact .inl ⟨MapKept.run_findKey hk h1,f⟩
  .exact .inr ⟨j,e,by have:=MapKept.run_findKey (P:=P) (w:=w) hk h1;simpa using this,f,s⟩
 .subst h;exact MapKept.run_keyThatStays (d:=.int a) (key n)
def gJ(e:MapEntry):x1×x1:=(e.key,e.val)
def db(w:x3)(m:Nat)(d:List (x1×x1)):Prop:=∃a e,w.heap[m]?=σ (.map a e)/\MapKept.Stamped a e/\a.toList.map gJ=d
theorem db.ext{m:Nat}{d:List (x1×x1)}(h:db w m d)(J:Ext w w'):db w' m d:=by
 obtain⟨a,c,h1,e⟩:=h;exact⟨a,c,J.aZ m _ h1 rfl,e⟩
theorem db.ab{m:Nat}{d:List (x1×x1)}(h:db w m d)(J:ai S w w')(a:¬S m):db w' m d:=by
 obtain⟨e,c,h1,f⟩:=h;exact⟨e,c,J.aZ m _ h1 rfl a,f⟩
theorem db.lt{m:Nat}{d:List (x1×x1)}(h:db w m d):m<w.heap.size:=by
 obtain⟨a,c,h1,e⟩:=h;exact(j4.1 h1).1
theorem db.nodup{m:Nat}{d:List (x1×x1)}(h:db w m d):(d.map (·.1)).Nodup:=by
 obtain⟨e,c,_,⟨_,_,a⟩,rfl⟩:=h;rw[R4];exact a
theorem kG{α:Type}{l:List α}(h:l.Nodup){i:Nat}{x:α}(hi:l[i]?=σ x)(q:l[j]?=σ x):i=j:=by
 have a:=x4.1 hi;have e:=x4.1 q;have p:=V8.1 h;rcases Nat.lt_trichotomy i j with f|rfl|f
 .exact absurd (a.2.trans e.2.symm) (p i j a.1 e.1 f)
 .rfl
 .exact absurd (e.2.trans a.2.symm) (p j i e.1 a.1 f)
theorem mZ{α β:Type}(f:α->β):∀(l:List α)(i:Nat),(l.map f).eraseIdx i=(l.eraseIdx i).map f
 |[],_=>Ξ
 |_::_,0=>rfl
 |x::l,i+1=>by simp[mZ f l i]
theorem db.uniq{m:Nat}{d:List (x1×x1)}(h:db w m d){i:Nat}{p q:x1×x1}(hi:d[i]?=σ p)(a:d[j]?=σ q)(he:p.1=q.1):i=j:=by
 have e:=h.nodup;have h1:(d.map (·.1))[i]?=σ p.1:=by rw[x8,hi];rfl
 have f:(d.map (·.1))[j]?=σ p.1:=by rw[x8,a,he];rfl
 exact kG e h1 f
theorem tn{m:Nat}{s:Array MapEntry}{c:Nat}(h:w.heap[m]?=σ (.map s c))(a:Array MapEntry)(e:Nat):
  ai (λr=>r=m) w {w with heap:=w.heap.setIfInBounds m (.map a e)}/\cN w {w with heap:=w.heap.setIfInBounds m (.map a e)}/\({w with heap:=w.heap.setIfInBounds m (.map a e)}:x3).heap[m]?=σ (.map a e):=by
 have U:=MapKept.heap_set (o':=.map a e) h;refine⟨⟨Ξ,λr o f p x=>?_⟩,⟨rfl,.km,rfl,Ξ,λr o f p=>?_⟩,U.1⟩
 .show (w.heap.setIfInBounds m _)[r]?=σ o;rw[U.2 r x];exact f
 .show (w.heap.setIfInBounds m _)[r]?=σ o;by_cases q:r=m
  .subst q;rw[h]at f;cases f;cases p
  .rw[U.2 r q];exact f
theorem tp{K:x1->x3->Prop}(h:∀m w',m=w.heap.size->Ext w w'->db w' m []->K (.map (σ m)) w'):aD P (Instr.makeMap t ν) w K:=by
 refine .of (run_makeMap t w) (oY w _) (h _ _ rfl (oX w _) ⟨#[],0,?_,MapKept.stamped_empty 0,rfl⟩);exact heap_alloc_new w _
variable{k e:p8}{G:x1->Prop}
theorem qV{c:Bool}{m:Nat}{d:List (x1×x1)}{x:x1}(s:P.underlying t=σ (.map k e))(hk:Keys P k G)(hm:db w m d)(y:∀p∈d,G p.1)(J:G x)(a:d[j]?=σ (x,v)):
  ac P (Instr.lookup t (.map (σ m)) x c) w K=K (if c then .tuple #[v,.bool true]else v):=ac.of λw' z=>by
 obtain⟨f,A,q,B,rfl⟩:=hm.ext z;have C:∀e∈f.toList,G e.key:=λe he=>y (gJ e) (j5.2 ⟨e,he,rfl⟩);rcases hk.find w' J f.toList C with⟨_,h⟩|⟨i,r,h1,h,E⟩
 .rw[x8]at a;obtain⟨F,H,I⟩:=X4.1 a;exact absurd (congrArg Prod.fst I) (h F (x5 H))
 .have ad:r.val=v:=by
   have hi:(f.toList.map gJ)[i]?=σ (gJ r):=by rw[x8,h];rfl
   have L:db w' m (f.toList.map gJ):=⟨f,A,q,B,rfl⟩;have:=L.uniq hi a E;subst this;rw[hi]at a;exact congrArg Prod.snd (Z0 a)
  simp only[Instr.lookup,W6,run_underlying s,W7,MapKept.run_getObj_map q,V3,hk.check w' _ J,h1,ad]
theorem tq{c:Bool}{m:Nat}{d:List (x1×x1)}{x:x1}(r:P.underlying t=σ (.map k e))(hk:Keys P k G)(a:∃s b,aR P e s b z)(hm:db w m d)(y:∀p∈d,G p.1)(J:G x)(A:∀p∈d,p.1≠x):
  ac P (Instr.lookup t (.map (σ m)) x c) w K=K (if c then .tuple #[z,.bool false]else z):=ac.of λw' B=>by
 obtain⟨f,I,C,L,rfl⟩:=hm.ext B;have E:∀e∈f.toList,G e.key:=λe he=>y (gJ e) (j5.2 ⟨e,he,rfl⟩);have F:(zeroValue e).run P w'= .ok z w':=by
  obtain⟨s,b,i,hi,_,_,a⟩:=a;simp[zeroValue,typeInfo,hi,a]
 rcases hk.find w' J f.toList E with⟨h1,h⟩|⟨i,q,h1,h,H⟩
 .simp only[Instr.lookup,W6,run_underlying r,W7,MapKept.run_getObj_map C,V3,hk.check w' _ J,h1,F]
 .exact absurd H (A (gJ q) (j5.2 ⟨q,x5 h,rfl⟩))
theorem Lc{a:Array MapEntry}{e:MapEntry}{f:MapEntry->MapEntry}(h:a[j]?=σ e):(a.modify j f).toList.map gJ=(a.toList.map gJ).set j (gJ (f e)):=by
 refine Y5 λi=>?_;simp only[x8,S9,Array.getElem?_modify,X2,u9,Array.length_toList];by_cases p:j=i
 .subst p;have:=(j4.1 h);simp[this.1,this.2]
 .simp[p]
theorem qW{m:Nat}{d:List (x1×x1)}{x:x1}{K:Unit->x3->Prop}(A:P.underlying t=σ (.map k e))(hk:Keys P k G)(hm:db w m d)(H:∀p∈d,G p.1)(J:G x)(h1:∀j v0 w',d[j]?=σ (x,v0)->db w' m (d.set j (x,v))->ai (λr=>r=m) w w'->K () w')(I:∀w',(∀p∈d,p.1≠x)->db w' m (d++[(x,v)])->ai (λr=>r=m) w w'->K () w'):aD P (Instr.mapUpdate t (.map (σ m)) x v) w K:=by
 obtain⟨f,h,a,B,rfl⟩:=hm;have L:∀e∈f.toList,G e.key:=λe he=>H (gJ e) (j5.2 ⟨e,he,rfl⟩);rcases hk.find w J f.toList L with⟨ag,C⟩|⟨i,E,ag,hi,he⟩
 .obtain⟨q,s,y⟩:=tn a (f.push {key:=x,val:=v,born:=h}) (h+1);refine .of (v:=()) (w':=_) ?_ s (I _ (λp M=>?_) ⟨_,_,y,MapKept.stamped_push B C,by simp[gJ]⟩ q)
  .simp only[Instr.mapUpdate,W6,run_underlying A,W7,MapKept.run_getObj_map a,hk.check w _ J,ag,MapKept.run_setObj_map _ a]
  .obtain⟨N,O,rfl⟩:=j5.1 M;exact C N O
 .have z:f[i]?=σ E:=by simpa using hi
  obtain⟨q,s,y⟩:=tn a (f.modify i λe=>{e with key:=x,val:=v}) h;refine .of (v:=()) (w':=_) ?_ s (h1 i E.val _ (by rw[x8,hi];simp[gJ,he]) ⟨_,_,y,MapKept.stamped_modify B _ _ (λ_ _=>rfl) (λQ _ F=>by rw[z]at F;cases F;exact he.symm),Lc z⟩ q);simp only[Instr.mapUpdate,W6,run_underlying A,W7,MapKept.run_getObj_map a,hk.check w _ J,ag,z,Z7,V1,he,hk.stays w J,MapKept.run_setObj_map _ a]
theorem Ld{B C:p8}{m:Nat}{d:List (x1×x1)}{x:x1}{K:x1->x3->Prop}(y:P.underlying t=σ (.map k e))(hk:Keys P k G)(hm:db w m d)(E:∀p∈d,G p.1)(J:G x)(h1:∀j v0 w',d[j]?=σ (x,v0)->db w' m (d.eraseIdx j)->ai (λr=>r=m) w w'->K (.tuple #[]) w')(F:∀w',(∀p∈d,p.1≠x)->db w' m d->ai (λr=>r=m) w w'->K (.tuple #[]) w'):aD P (Z6.delete_ #[t,B] C #[.map (σ m),x]) w K:=by
 obtain⟨f,z,a,A,rfl⟩:=hm;have H:∀e∈f.toList,G e.key:=λe he=>E (gJ e) (j5.2 ⟨e,he,rfl⟩);rcases hk.find w J f.toList H with⟨ag,I⟩|⟨i,L,ag,hi,he⟩
 .obtain⟨h,q,s⟩:=tn a f z;refine .of (v:=.tuple #[]) (w':=_) ?_ q (F _ (λp M=>?_) ⟨_,_,s,A,rfl⟩ h)
  .simp only[Z6.delete_,List.getElem?_toArray,List.getElem?_cons_zero,List.getElem?_cons_succ,W6,run_underlying y,W7,MapKept.run_getObj_map a,hk.check w _ J,ag,MapKept.run_setObj_map _ a,V3]
  .obtain⟨N,O,rfl⟩:=j5.1 M;exact I N O
 .obtain⟨h,q,s⟩:=tn a (f.eraseIdxIfInBounds i) z;refine .of (v:=.tuple #[]) (w':=_) ?_ q (h1 i L.val _ (by rw[x8,hi];simp[gJ,he]) ⟨_,_,s,MapKept.stamped_erase A _,by rw[mZ];simp⟩ h);simp only[Z6.delete_,List.getElem?_toArray,List.getElem?_cons_zero,List.getElem?_cons_succ,W6,run_underlying y,W7,MapKept.run_getObj_map a,hk.check w _ J,ag,MapKept.run_setObj_map _ a,V3]
theorem Le{a:p8}{m:Nat}{d:List (x1×x1)}(f:P.underlying t=σ (.map k e))(hm:db w m d):ac P (V2 #[t] a #[.map (σ m)]) w K=K (Δ d.length):=ac.of λw' h=>by
 obtain⟨q,r,p,s,rfl⟩:=hm.ext h;simp[V2,run_underlying f,MapKept.run_getObj_map p,goInt]
def hC(w:x3)(q m:Nat)(d left:List (x1×x1))(r:Option (x1×x1)):Prop:=∃a f seen gX,w.heap[m]?=σ (.map a f)/\MapKept.Stamped a f/\a.toList.map gJ=d/\
 w.heap[q]?=σ (.mapIter (σ m) f seen gX)/\f<=gX/\(leftOf a seen).toList.map gJ=left/\∀p,r=σ p->gX=f/\∃h,a.toList.find? (λe=>e.born == seen.back?.getD 0)=σ h/\seen.back? =σ h.born/\gJ h=p
theorem hC.map{m:Nat}{d left:List (x1×x1)}{e:Option (x1×x1)}(h:hC w a m d left e):db w m d:=by
 obtain⟨f,c,_,_,h1,p,q,_⟩:=h;exact⟨f,c,h1,p,q⟩
theorem hC.aZ{m:Nat}{d left:List (x1×x1)}{e:Option (x1×x1)}(h:hC w a m d left e)(J:ai S w w')(hm:¬S m)(hi:e0 w w'):hC w' a m d left e:=by
 obtain⟨f,c,s,gX,h1,p,q,r,x⟩:=h;exact⟨f,c,s,gX,J.aZ m _ h1 rfl hm,p,q,hi a _ r rfl,x⟩
theorem hC.ext{m:Nat}{d left:List (x1×x1)}{e:Option (x1×x1)}(h:hC w a m d left e)(J:Ext w w')(hi:e0 w w'):hC w' a m d left e:=
 h.aZ (J.ab λ_=>False) (λh=>h) hi
theorem Lf(a:Array MapEntry):leftOf a #[]=a:=by
 unfold leftOf;exact Array.filter_eq_self.2 λx J=>Ξ
theorem BQ{m:Nat}{d:List (x1×x1)}{K:x1->x3->Prop}(s:P.underlying t=σ (.map k e))(hm:db w m d)(h:∀a w',a=w.heap.size->Ext w w'->e0 w w'->hC w' a m d d ν->K (Γ a) w'):aD P (Instr.range t (.map (σ m))) w K:=by
 obtain⟨q,f,r,x,rfl⟩:=hm;refine .of (run_range_map w t k e m q f s r) (oY w _) (h _ _ rfl (oX w _) (oY w _).ko ⟨q,f,#[],f,(oX w _).aZ m _ r rfl,x,rfl,heap_alloc_new w _,o4 _,by rw[Lf],λp y=>by cases y⟩)
theorem BR:∀(l:List MapEntry)(j:Nat)(a:MapEntry),(l.map (·.born)).Nodup->l[j]?=σ a->l.filter (λx=>!(x.born == a.born))=l.eraseIdx j
 |[],j,a,_,h=>by simp at h
 |x::l,0,a,f,h=>by
  simp at h;subst h;have e:=List.nodup_cons.1 (by simpa using f:(x.born::l.map (·.born)).Nodup);simp only[List.filter_cons,beq_self_eq_true,Y7,Bool.false_eq_true,if_false,List.eraseIdx_cons_zero];refine List.filter_eq_self.2 λy p=>?_;have:y.born≠x.born:=λhe=>e.1 (he▸j5.2 ⟨y,p,rfl⟩);simpa using this
 |x::l,j+1,a,f,h=>by
  simp at h;have e:=List.nodup_cons.1 (by simpa using f:(x.born::l.map (·.born)).Nodup);have J:x.born≠a.born:=λhe=>e.1 (he▸j5.2 ⟨a,x5 h,rfl⟩);have q:=BR l j a e.2 h;simp only[List.filter_cons,List.eraseIdx_cons_succ,q];simp[J]
theorem BS{free:fH}{m:Nat}{d left:List (x1×x1)}{Q:Option (x1×x1)}{K:x1->x3->Prop}(h:hC w a m d left Q)(ag:free.1=false->free.2<=a)(R:left=[]->K (.tuple #[.bool false]) w)(h1:∀j p w',left[j]?=σ p->Ext w w'->cC a w w'->hC w' a m d (left.eraseIdx j) (σ p)->K (.tuple #[.bool true,p.1,p.2]) w'):r0 P free (Instr.next (Γ a) false 0) w K:=by
 obtain⟨q,s,seen,gX,z,B,rfl,hi,S,rfl,_⟩:=h;have G:∀x∈q.toList,x.born<s:=B.1;have H:=B.2.1;have I:∀x∈(leftOf q seen).toList,x.born<s:=λx J=>G x (mem_left J).1;have T:∀(V:x3)(o':Obj),V.heap=w.heap->(setObj a o').run P V= .ok () {V with heap:=V.heap.setIfInBounds a o'}:=λV o' he=>by
  simp only[setObj,Sem.run];rw[he,hi]
 unfold r0;simp only[Instr.next,getObj,W6,Sem.run,hi,z,W7,next_test_false seen q s gX G S,Bool.false_eq_true,if_false];have W:Array.filter (λe=>!seen.contains e.born) q=leftOf q seen:=rfl;rw[W];have X:((leftOf q seen).toList.map (·.born)).Nodup:=by
  unfold leftOf;rw[Array.toList_filter];exact(List.Sublist.map _ List.filter_sublist).nodup H
 have Y:∀A:MapEntry,leftOf q (seen.push A.born)=(leftOf q seen).filter λx=>!(x.born == A.born):=λA=>by
  unfold leftOf;rw[Array.filter_filter];congr 1;funext x;rw[contains_push];cases seen.contains x.born<;>cases x.born == A.born<;>rfl
 generalize Z:leftOf q seen=L at*;have aa:L.filter (λx=>decide (x.born<s))=L:=Array.filter_eq_self.2 (λx J=>by simpa using I x (by simpa using J));have ab:L.filter (λx=>decide (x.born≥s))= #[]:=by
  rw[Array.filter_eq_empty_iff];intro x J;have:=I x (by simpa using J);simp;omega
 simp only[aa,ab,Array.append_empty];by_cases M:L.size=0
 .have ac:L= #[]:=Array.eq_empty_of_size_eq_zero M;subst ac;refine⟨.tuple #[.bool false],w,?_,λ_=>cC.refl _ _,R rfl⟩;simp[choose,Sem.run,Question.forced]
 .have ad:L.isEmpty=false:=by simp[Array.isEmpty,M]
  simp only[ad,Bool.false_eq_true,if_false,Array.empty_append,Array.size_map];have ae:∃(j:Nat)(n:Nat),j<L.size/\w.drawn<=n/\(choose (Question.mapNext L.size)).run P w= .ok j {w with drawn:=n}:=by
   by_cases ag:L.size<=1
   .exact⟨0,w.drawn,Ω,o4 _,by simp[choose,Sem.run,Question.forced,ag]⟩
   .exact⟨_,w.drawn+1,Nat.mod_lt _ Ω,Nat.le_succ _,by
     simp only[choose,Sem.run,Question.forced,decide_eq_true_eq,ag,if_false,Question.cut];rfl⟩
  obtain⟨j,n,C,N,af⟩:=ae;have O:L.toList[j]?=σ L[j]:=by simp[C]
  have ah:L[j]∈q.toList:=(mem_left (seen:=seen) (by rw[Z];exact Array.mem_toList_iff.2 (Array.getElem_mem C))).1;refine⟨.tuple #[.bool true,L[j].key,L[j].val],{w with drawn:=n,heap:=w.heap.setIfInBounds a (.mapIter (σ m) s (seen.push L[j].born) s)},?_,?_,?_⟩
  .have U:=T {w with drawn:=n} (.mapIter (σ m) s (seen.push L[j].born) s) rfl;simp only[af,Array.getElem?_map,Array.getElem?_eq_getElem C,Z7,W6,U,W7,V3]
  .intro ai;have:=ag ai;refine⟨rfl,⟨rfl,N⟩,rfl,Ξ,λr o f E=>?_,λr o aj f F=>?_⟩
   .show (w.heap.setIfInBounds a _)[r]?=σ o;by_cases y:r=a
    .subst y;rw[hi]at f;cases f;cases E
    .rw[(MapKept.heap_set hi).2 r y];exact f
   .show (w.heap.setIfInBounds a _)[r]?=σ o;rw[(MapKept.heap_set hi).2 r Ω];exact f
  .refine h1 j (gJ L[j]) _ (by rw[x8,O];rfl) ⟨Ξ,λr o f F=>?_⟩ ⟨rfl,⟨rfl,N⟩,rfl,Ξ,λr o f E=>?_,λr o aj f F=>?_⟩ ⟨q,s,seen.push L[j].born,s,?_,B,rfl,?_,o4 _,?_,λp ak=>⟨rfl,L[j],?_,Ξ,Z0 ak⟩⟩
   .show (w.heap.setIfInBounds a _)[r]?=σ o;by_cases y:r=a
    .subst y;rw[hi]at f;cases f;cases F
    .rw[(MapKept.heap_set hi).2 r y];exact f
   .show (w.heap.setIfInBounds a _)[r]?=σ o;by_cases y:r=a
    .subst y;rw[hi]at f;cases f;cases E
    .rw[(MapKept.heap_set hi).2 r y];exact f
   .show (w.heap.setIfInBounds a _)[r]?=σ o;rw[(MapKept.heap_set hi).2 r Ω];exact f
   .show (w.heap.setIfInBounds a _)[m]?=_;rw[(MapKept.heap_set hi).2 m (λhe=>by subst he;rw[hi]at z;cases z)];exact z
   .exact (MapKept.heap_set hi).1
   .rw[Y,Array.toList_filter,BR _ _ _ X O,mZ]
   .simp only[Array.back?_push,V1];exact find_born _ _ H ah
theorem BT{m:Nat}{d left:List (x1×x1)}{p:x1×x1}{K:x1->x3->Prop}(h:hC w a m d left (σ p))(q:K (.tuple #[p.1,p.2]) w):aD P (Instr.entry (Γ a)) w K:=by
 obtain⟨x,y,seen,gX,r,z,rfl,hi,A,rfl,s⟩:=h;obtain⟨rfl,e,h1,f,rfl⟩:=s p rfl;refine .of (v:=.tuple #[e.key,e.val]) (w':=w) ?_ (cN.refl _) q;rw[f]at h1;simp only[Instr.entry,getObj,W6,Sem.run,hi,r,W7,f,bne_self_eq_false,Bool.false_eq_true,if_false,<-Array.find?_toList];simp only[V1]at h1;rw[h1];rfl
end
end Go.Vc
namespace Go.Proofs.YtikkpokkcdocoabGreatDoor
open Go Go.Vc Go.RowKit Go.Proofs Go.Proofs.Tryz
set_option maxRecDepth 100000
def dZ(ks:Λ):x1:=.agg (ints .i8 ks).toArray
def lq(ks:Λ):Prop:=ks.length=6/\∀x∈ks,0<=x/\x<32
theorem Lg{a b:Λ}(h:dZ a=dZ b):a=b:=by
 unfold dZ at h;have h:ints .i8 a=ints .i8 b:=congrArg Array.toList (x1.agg.inj h);have e:∀l:Λ,(ints .i8 l).map valOf=l:=λl=>by
  unfold ints;rw[R4];exact List.map_id l
 rw[<-e a,<-e b,h]
theorem BU(ks:Λ):(dZ ks).cells.toList=ints .i8 ks:=by simp[dZ,x1.cells]
theorem Lh:WideMaps.ArrKey x7 cG fZ 6:=⟨cG.u,Ψ,Ψ,Ψ⟩
theorem keys:Keys x7 cG λv=>∃l,keyOf x7 cG v=σ l:=Keys.law Lh.law
theorem wz(h:lq ks):∃l,keyOf x7 cG (dZ ks)=σ l:=by
 obtain⟨s,p⟩:=h
 match ks,s with
 |[a,b,c,d,e,f],_=>
  have w:=p a Ξ;have y:=p b Ξ;have z:=p c Ξ;have rd:=p d Ξ;have A:=p e Ξ;have km:=p f Ξ;have wf:∀x:Int,0<=x/\x<32->(Lit.int .i8 x).wf=true:=λx J=>by
   simp only[Lit.wf,U1,decide_eq_true_eq];have G:o6.i8.min= -128:=Φ
   have H:o6.i8.max=127:=Φ
   omega
  have q:decide (0<x7.types.size)=true:=Ψ
  have q:=of_decide_eq_true q;obtain⟨n,B⟩:∃n,x7.types.size=n+1:=⟨x7.types.size-1,Ω⟩;have one:∀x:Int,0<=x/\x<32->x7.keyLits (n+1) fZ [.int .i8 x]=σ [.int .i8 x]:=λx J=>by
   unfold W8.keyLits;rw[fZ.u];simp[wf x J]
  unfold keyOf;rw[cG.u];simp only;have C:x7.keyType cG=true:=Ψ
  have E:x7.cellsOf fZ=1:=Ψ
  have r:x7.cellsOf cG=6:=Ψ
  have ag:(dZ [a,b,c,d,e,f]).formed x7 cG=true:=by
   unfold dZ x1.formed;rw[cG.u,r];rfl
  rw[C,ag,BU,B];simp only[Bool.and_self,if_true];unfold W8.keyLits;rw[cG.u];simp only[r,E,ints];have F:X3 6=[0,1,2,3,4,5]:=Φ
  simp[F,one a w,one b y,one c z,one d rd,one e A,one f km]
def pad(t:Λ):Λ:=t++p9 (6-t.length) 0
theorem Li{t:Λ}(e:t.length<=6)(a:∀x∈t,0<=x/\x<32):lq (pad t):=
 ⟨by simp[pad];omega,λx J=>by
  rcases o5.1 J with h|h
  .exact a x h
  .have:=(List.mem_replicate.1 h).2;omega⟩
theorem Lj{a b:Λ}(e:a.length=b.length)(h:pad a=pad b):a=b:=by
 unfold pad at h;exact(List.append_inj h e).1
theorem BV{t:Λ}:(pad t).take t.length=t:=by simp[pad]
theorem og{b o:Nat}(a:ks.length=6)(h:w.rangeAt b o (ints .i8 ks)):ac x7 (u5 cG (.pointer (σ ⟨b,o,ν⟩))) w K=K (dZ ks):=
 Ai cG.u rfl cG.i (by simp[a]) h
theorem Lk{b o:Nat}(a:ks.length=6)(h:w.rangeAt b o (ints .i8 ks)):ac x7 (do loadVar cG (<-asAddr (.pointer (σ ⟨b,o,ν⟩)))) w K=K (dZ ks):=ac.of λw' J=>by
 have:=run_loadVar_mid (P:=x7) w' b o cG (ints .i8 ks) (.array 6 fZ) (nS J h) cG.u rfl (by rw[cG.i.size];simp[a]);simp only[asAddr,W6,V3,Result.andThen_ok,this];rfl
theorem qX{g:Nat}{K:Unit->x3->Prop}(a:ks.length=6)(e:cs.length=6)(f:af w g cG cs)(h:∀w',ai (λr=>r=g) w w'->w'.heap.size=w.heap.size->af w' g cG (ints .i8 ks)->K () w'):aD x7 (o9 cG (Γ g) (dZ ks)) w K:=
 cb (vs:=ints .i8 ks) cG.i (by simp[a]) e (λv ad=>by obtain⟨x,_,rfl⟩:=j5.1 ad;rfl) f h
def tr:List x1:=[.int .i8 0,.int .i8 0,.int .i8 0,.int .i8 0,.int .i8 0,.int .i8 0]
theorem Ll{x:Int}:am x7 sD [Δ x] w λv w'=>v= .bool (decide (¬ih x))/\Ext w w':=by
 refine az func234 ?_;simp only[cz,aS,bN,al];refine⟨λh=>⟨?_,Ext.refl _⟩,λh=>⟨?_,Ext.refl _⟩⟩
 .rw[decide_eq_true];intro a;have:=a.1;omega
 .congr 1;have:(32<x)=(¬ih x):=propext ⟨λe a=>by have:=a.2;omega,λe=>by
   by_cases f:32<x
   .exact f
   .exact absurd ⟨Ω,Ω⟩ e⟩
  simp only[this]
theorem Lm(h:aH .i64 w sv l):
  am x7 vG [sv,.func (.func sD) #[] #[]] w λv w'=>Ext w w'/\∃n:Int,v=Δ n/\((0<=n)=¬∀x∈l,ih x):=by
 have z:=h.le;refine az func133 ?_;rw[aW an.u h];refine⟨λ_ t V=>Ext w V/\∃i:Nat,t=Δ i/\i<=l.length/\∀x∈l.take i,ih x,λ_ t _=>l.length-(bU t).toNat,⟨Ext.refl _,0,rfl,X6 _,Ξ⟩,?_⟩;rintro _ _ V ⟨J,i,rfl,hi,e⟩;simp only[aS,al];refine⟨λA=>?_,λB=>⟨J,-1,rfl,?_⟩⟩
 .obtain⟨x,f⟩:=aI (l:=l) (i:=i) Ω;rw[bh an.u ah.i Ψ (h.ext J) f];show am x7 sD [Δ x] V _;refine Ll.mono ?_;rintro _ aa _ ⟨rfl,p⟩;simp only[al,aO];refine⟨λq=>⟨J.trans p,i,rfl,?_⟩,λr=>?_⟩
  .exact propext ⟨λ_ s=>q (s x (x5 f)),λ_=>Ω⟩
  .rw[wrap_i64 Ω Ω];refine⟨⟨J.trans p,i+1,rfl,Ω,λy a=>?_⟩,?_⟩
   .rw[u7,f]at a;rcases o5.1 a with a|a
    .exact e y a
    .simp at a;subst a;exact Y0.1 r
   .simp only[bU];omega
 .have:i=l.length:=Ω
  rw[this,o7]at e;exact propext ⟨λh=>Ω,λh=>absurd e h⟩
theorem BW(h:aH .i64 w sv l):
  am x7 vJ [sv,.func (.func sD) #[] #[]] w λv w'=>v= .bool (decide (¬∀x∈l,ih x))/\Ext w w':=by
 refine az func235 ?_;refine(Lm h).mono ?_;rintro _ V _ ⟨J,n,rfl,a⟩;simp only[cn];exact⟨by congr 1;simp only[a],J⟩
abbrev Told:=List (Λ×Int)
def jY(p:Λ×Int):x1×x1:=(dZ (pad p.1),Δ p.2)
def eI(w:x3)(g m:Nat)(aj:Λ)(k o:Int)(D:Told):Prop:=
 (∃sv gs,af w g fM [sv,Δ k,Δ o,.map (σ m)]/\av .i64 ah w gs sv aj)/\db w m (D.map jY)/\b3 aj/\cu o k/\∀p∈D,dl aj p.1/\cu p.2 k/\p.2≠o
theorem eI.ext{g m:Nat}{o:Int}{D:Told}(h:eI w g m aj k o D)(J:Ext w w'):eI w' g m aj k o D:=by
 obtain⟨⟨sv,gs,h1,a⟩,e,f⟩:=h;exact⟨⟨sv,gs,h1.ext J,a.ext J⟩,e.ext J,f⟩
theorem wA{t:Λ}(U:b3 aj)(h:dl aj t):t.length=aj.length/\∀x∈t,0<=x/\x<32:=by
 obtain⟨h1,f⟩:=oa.1 h;refine⟨h1.symm,λx J=>?_⟩;obtain⟨i,hi,rfl⟩:=List.getElem_of_mem J;obtain⟨a,e⟩:=aI (l:=aj) (i:=i) Ω;have p:=f i a _ e (x6 hi);have q:=(U.2 a (x5 e)).2;omega
theorem qY{t:Λ}(U:b3 aj)(h:dl aj t):lq (pad t):=by
 obtain⟨h1,a⟩:=wA U h;exact Li (by rw[h1];exact U.1) a
theorem eI.pC{g m:Nat}{o:Int}{D:Told}(h:eI w g m aj k o D):∀p∈D.map jY,∃l,keyOf x7 cG p.1=σ l:=λp a=>by
 obtain⟨q,e,rfl⟩:=j5.1 a;exact wz (qY h.2.2.1 (h.2.2.2.2 q e).1)
theorem BX{s t:Λ}(U:dl aj s)(a:dl aj t)(h:dZ (pad s)=dZ (pad t)):s=t:=
 Lj ((s8 U).symm.trans (s8 a)) (Lg h)
theorem eI.nodup{g m:Nat}{o:Int}{D:Told}(h:eI w g m aj k o D):(D.map (·.1)).Nodup:=by
 have e:=h.2.1.nodup;rw[R4]at e;refine List.Pairwise.of_map (S:=λa b=>a≠b) (λt=>dZ (pad t)) (λa b h he=>h (by rw[he])) ?_;rw[R4];exact e
def Ln(w:x3)(l:Λ)(k o:Int)(v:x1)(w':x3):Prop:=
 Ext w w'/\(¬b3 l->v= .tuple #[.pointer ν,Δ 1])/\(b3 l->¬cu o k->v= .tuple #[.pointer ν,Δ 3])/\
  (b3 l->cu o k->∃g m,v= .tuple #[Γ g,Δ 0]/\w.heap.size<=g/\w.heap.size<=m/\eI w' g m l k o [])
theorem BY{o:Int}(h:aH .i64 w sv l):am x7 o1 [sv,Δ k,Δ o] w (Ln w l k o):=by
 refine az func187 ?_;refine aV (λv V=>Ext w V/\∃c,v= .bool c/\(c=true↔¬b3 l)) ?_ ?_
 .rintro _ V ⟨e,c,rfl,f⟩;rw[bZ];refine⟨λx=>⟨e,λ_=>rfl,λh=>absurd h (f.1 x),λh=>absurd h (f.1 x)⟩,λag=>?_⟩;have U:b3 l:=Classical.byContradiction λh=>by have:=f.2 h;rw[ag]at this;cases this
  have G:=U.1;refine jU.mono ?_;rintro _ aa _ ⟨rfl,a⟩;by_cases hi:cu o k
  rotate_left
  .simp only[hi,decide_false,bE,V0,bT];exact⟨e.trans a,λh=>absurd U h,λ_ _=>rfl,λ_ h=>absurd h hi⟩
  simp only[hi,decide_true,bE,Y7,a1];refine(kB ((h.ext e).ext a) Ω).mono ?_;rintro aL H _ ⟨y,A,I,hm⟩;have J:=hm.ls.cells;refine tp λm K L q B=>?_;rw[cZ (cs:=#[aL,Δ k,Δ o,.map (σ m)]) (by obtain⟨_,_,_,_,_,rfl,_⟩:=hm.ls;kernel_rfl)];refine bf λg M N r C=>?_;have s1:=e.size;have O:=a.size;have P:=y.size;have Q:=q.size;exact⟨((((e.trans a).trans y).trans q).trans r),λh=>absurd U h,λ_ h=>absurd hi h,λ_ _=>⟨g,m,rfl,Ω,Ω,⟨aL,A,C,(hm.ext q).ext r⟩,B.ext r,U,hi,λp E=>by cases E⟩⟩
 .intro aB z;rw[aW an.u h];simp only[bN,al];refine⟨λR=>z _ _ ⟨Ext.refl _,true,rfl,λ_ U=>by have:=U.1;omega,λ_=>rfl⟩,λS=>?_⟩;refine(BW h).mono ?_;rintro _ aa _ ⟨rfl,a⟩;refine z _ _ ⟨a,_,rfl,?_⟩;rw[decide_eq_true_eq];exact⟨λs U=>s U.2,λs U=>s ⟨Ω,U⟩⟩
def iP(t:Λ)(i:Nat):Λ:=t.take i++p9 (6-i) 0
theorem Lo{t:Λ}{i:Nat}(hi:i<=t.length)(a:t.length<=6):(iP t i).length=6:=by simp[iP];omega
theorem Lp{t:Λ}{i:Nat}{x:Int}(J:t[i]?=σ x)(e:t.length<=6):(iP t i).set i x=iP t (i+1):=by
 have hi:=(x4.1 J).1;unfold iP;have a:(t.take i).length=i:=by rw[n9];omega
 rw[T8 _ _ Ω,a,U8,u7,J];have:6-i=(6-(i+1))+1:=Ω
 rw[this,List.replicate_succ];simp
theorem Lq(t:Λ):iP t t.length=pad t:=by simp[iP,pad]
def BZ(w:x3)(aj t:Λ)(v:x1)(w':x3):Prop:=Ext w w'/\∃ks e,v= .tuple #[dZ ks,Δ e]/\ks.length=6/\(dl aj t->ks=pad t/\e=0)/\(¬dl aj t->e=3)
theorem Lr{g m:Nat}{t:Λ}{o:Int}{D:Told}{aL:x1}(h:eI w g m aj k o D)(E:aH .i64 w aL t):am x7 IU [Γ g,aL] w (BZ w aj t):=by
 obtain⟨⟨sv,gs,G,hm⟩,_,U,_⟩:=h;have aG:=U.1;refine az func236 ?_;refine bo cG.i λA V aJ R B=>?_;refine bo cG.i λap aa aK H I=>?_;have s:=R.trans H;have s1:=R.size;have aM:=H.size;have aN:=B.lt;have aP:=I.lt;have aR:=G.lt;have B:=B.ext H;have ag:=G.ext s;rw[dc eP.u];simp only[Z5,a1];have K:∀{f:x3}{ks:Λ}{e:Int},Ext w f->af f ap cG (ints .i8 ks)->af f A cG tr->ks.length=6->(dl aj t->ks=pad t/\e=0)->(¬dl aj t->e=3)->
   ac x7 (u5 cG (Γ ap)) f λai=>aD x7 (o9 cG (Γ A) ai) f λ(_:Unit)L=>ac x7 (do loadVar cG (<-asAddr (Γ A))) L λak=>BZ w aj t (.tuple #[ak,Δ e]) L:=by
  intro f ks e q r y C ad M;rw[og C r.range];refine qX C rfl y λL ao aT aq=>?_;rw[Lk C aq.range];exact⟨q.put ao Ω,ks,e,rfl,C,ad,M⟩
 rw[aW an.u (E.ext s),aQ fM.p 0 ag rfl,aW an.u (hm.ls.ext s)];simp only[bD,al];have S:ints .i8 (iP t 0)=tr:=by simp[iP,tr,ints]
 refine⟨λau=>K s (ks:=iP t 0) (e:=3) (by rw[S];exact I) B (by simp[iP]) (λad=>absurd (by rw[s8 ad]) au) (λ_=>rfl),λW=>?_⟩;have W:t.length=aj.length:=Ω
 rw[aW an.u (E.ext s)];refine b5.range t.length (λi _ f=>Ext w f/\af f ap cG (ints .i8 (iP t i))/\af f A cG tr/\∀(j:Nat)(a x:Int),j<i->aj[j]?=σ a->t[j]?=σ x->0<=x/\x<a) Ω
  ⟨s,by rw[S];exact I,B,λj a x av=>Ω⟩ ?_ ?_
 .rintro i _ f aw hi ⟨q,r,y,N⟩ ax;simp only[aS,al];refine⟨λ_=>?_,λh=>Ω⟩;obtain⟨x,J⟩:=aI (l:=t) hi;obtain⟨a,z⟩:=aI (l:=aj) (i:=i) Ω;have aU:=U.2 a (x5 z);rw[bh an.u ah.i Ψ (E.ext q) J];have X:=Lo (t:=t) (i:=i) Ω Ω;refine aV (λv ay=>f=ay/\v= .bool (decide (¬(0<=x/\x<a)))) ?_ ?_
  .rintro _ _ ⟨rfl,rfl⟩;simp only[al];refine⟨λaC=>K q r y X (λad=>absurd ((oa.1 ad).2 i a x z J) aC) (λ_=>rfl),λO=>?_⟩;have O:=Y0.1 O;rw[fm ah.u fZ.u,JE Ω Ω,sN cG.u fZ.i Ω];refine bl fZ.i rfl rfl r (by simp[X];omega) λaX Y aY Z=>?_;simp only[aO];refine ax _ _ ⟨q.put Y Ω,?_,y.ab Y (by show¬(A=ap);omega),λj a' aE av P Q=>?_⟩
   .have e:(ints .i8 (iP t i)).set (0+i*1) (.int .i8 x)=ints .i8 (iP t (i+1)):=by
     rw[<-Lp J Ω];simp[ints,U9]
    rw[e]at Z;exact Z
   .by_cases aF:j=i
    .subst aF;rw[z]at P;rw[J]at Q;cases P;cases Q;exact O
    .exact N j a' aE Ω P Q
  .intro aB ae;simp only[aS,al];refine⟨λaZ=>ae _ _ ⟨rfl,by rw[decide_eq_true];omega⟩,λa2=>?_⟩;rw[aQ fM.p 0 (G.ext q) rfl,bh an.u ah.i Ψ (hm.ls.ext q) z,cn];refine ae _ _ ⟨rfl,?_⟩;congr 1;exact decide_eq_decide.2 ⟨λh aA=>Ω,λh=>Ω⟩
 .rintro _ f aw ⟨q,r,y,N⟩;simp only[aS,al];refine⟨λh=>Ω,λ_=>?_⟩;rw[Lq]at r;exact K q r y (by simp[pad];omega) (λ_=>⟨rfl,rfl⟩) (λM=>absurd (oa.2 ⟨W.symm,λj a x z J=>N j a x (x4.1 J).1 z J⟩) M)
def im(D:Told)(o:Int)(t:Λ):Int:=match D.find? (λp=>decide (p.1=t))with
 |some p=>p.2
 |none=>o
theorem B1{D:Told}(e:(D.map (·.1)).Nodup){p q:Λ×Int}(f:p∈D)(r:q∈D)(h:p.1=q.1):p=q:=by
 obtain⟨i,hi⟩:=X7.1 f;obtain⟨j,a⟩:=X7.1 r;have h1:(D.map (·.1))[i]?=σ p.1:=by rw[x8,hi];rfl
 have s:(D.map (·.1))[j]?=σ p.1:=by rw[x8,a,h];rfl
 have:=kG e h1 s;subst this;rw[hi]at a;exact Z0 a
theorem qZ{D:Told}{o:Int}{t:Λ}(a:(D.map (·.1)).Nodup)(h:(t,c)∈D):im D o t=c:=by
 unfold im;cases ag:D.find? (λp=>decide (p.1=t))with
 |none=>
  have:=List.find?_eq_none.1 ag _ h;simp at this
 |some p=>
  have h1:=List.find?_some ag;have h1:p.1=t:=by simpa using h1
  have:=B1 a (List.mem_of_find?_eq_some ag) h h1;rw[this]
theorem q0{D:Told}{o:Int}{t:Λ}(h:∀p∈D,p.1≠t):im D o t=o:=by
 unfold im;cases ag:D.find? (λp=>decide (p.1=t))with
 |none=>rfl
 |some p=>
  have h1:=List.find?_some ag;have h1:p.1=t:=by simpa using h1
  exact absurd h1 (h p (List.mem_of_find?_eq_some ag))
def lr(D:Told)(t:Λ)(c o:Int)(D':Told):Prop:=(∀p,p∈D'↔(c≠o/\p=(t,c))\/(p∈D/\p.1≠t))/\D'.length<=D.length+1
theorem lr.cost{D D':Told}{t:Λ}{o:Int}(h:lr D t c o D')(w:(D.map (·.1)).Nodup)(f:(D'.map (·.1)).Nodup)(s:Λ):im D' o s=if s=t then c else im D o s:=by
 by_cases U:s=t
 .subst U;rw[if_pos rfl];by_cases q:c=o
  .subst q;exact q0 λp a he=>by
    rcases(h.1 p).1 a with e|e
    .exact e.1 rfl
    .exact e.2 he
  .exact qZ f ((h.1 _).2 (.inl ⟨q,rfl⟩))
 .rw[if_neg U];by_cases he:∃p∈D,p.1=s
  .obtain⟨p,a,rfl⟩:=he;rw[qZ (c:=p.2) w a];exact qZ f ((h.1 _).2 (.inr ⟨a,U⟩))
  .have r:∀p∈D,p.1≠s:=λp a h=>he ⟨p,a,h⟩;rw[q0 r];exact q0 λp a e=>by
    rcases(h.1 p).1 a with⟨_,rfl⟩|⟨x,_⟩
    .exact U e.symm
    .exact r p x e
theorem Ls{D:Told}{t:Λ}{o v0:Int}(q:(D.map (·.1)).Nodup)(f:D[j]?=σ (t,v0))(r:c≠o):lr D t c o (D.set j (t,c)):=by
 have h:=(x4.1 f).1;refine⟨λp=>⟨λa=>?_,λa=>?_⟩,Ξ⟩
 .obtain⟨i,hi⟩:=X7.1 a;by_cases e:j=i
  .subst e;rw[b9 h]at hi;exact .inl ⟨r,(Z0 hi).symm⟩
  .rw[Y4 e]at hi;refine .inr ⟨x5 hi,λhe=>e ?_⟩;exact kG q (x:=t) (by rw[x8,f];rfl) (by rw[x8,hi,Z7,he])
 .rcases a with⟨_,rfl⟩|⟨a,s⟩
  .exact x5 (b9 h)
  .obtain⟨i,hi⟩:=X7.1 a;have e:j≠i:=λhe=>by subst he;rw[f]at hi;cases hi;exact s rfl
   exact x5 (by rw[Y4 e];exact hi)
theorem B2{D:Told}{t:Λ}{o:Int}(a:∀p∈D,p.1≠t)(e:c≠o):lr D t c o (D++[(t,c)]):=by
 refine⟨λp=>?_,Ξ⟩;rw[o5,l9];exact⟨λh=>h.elim (λh=>.inr ⟨h,a p h⟩) (λh=>.inl ⟨e,h⟩),λh=>h.elim (λh=>.inr h.2) (λh=>.inl h.1)⟩
theorem Lt{D:Told}{t:Λ}{o v0:Int}(f:(D.map (·.1)).Nodup)(e:D[j]?=σ (t,v0)):lr D t o o (D.eraseIdx j):=by
 refine⟨λp=>⟨λa=>?_,λa=>?_⟩,by have:=List.length_eraseIdx_le D j;omega⟩
 .refine .inr ?_;obtain⟨i,q,hi⟩:=List.mem_eraseIdx_iff_getElem?.1 a;refine⟨x5 hi,λhe=>q ?_⟩;exact kG f (x:=t) (by rw[x8,hi,Z7,he]) (by rw[x8,e];rfl)
 .rcases a with⟨h,_⟩|⟨a,r⟩
  .exact absurd rfl h
  .obtain⟨i,hi⟩:=X7.1 a;exact List.mem_eraseIdx_iff_getElem?.2 ⟨i,λhe=>by subst he;rw[e]at hi;cases hi;exact r rfl,hi⟩
theorem Lu{D:Told}{t:Λ}{o:Int}(a:∀p∈D,p.1≠t):lr D t o o D:=
 ⟨λp=>⟨λh=>.inr ⟨h,a p h⟩,λh=>h.elim (λh=>absurd rfl h.1) (λh=>h.1)⟩,Ω⟩
theorem B3{g m:Nat}{t:Λ}{o:Int}{D:Told}(h:eI w g m aj k o D)(f:dl aj t)(a:(D.map jY)[j]?=σ (dZ (pad t),v)):∃c,D[j]?=σ (t,c)/\v=Δ c:=by
 rw[x8]at a;obtain⟨p,e,he⟩:=X4.1 a;have h1:=BX (h.2.2.2.2 p (x5 e)).1 f (congrArg Prod.fst he);exact⟨p.2,by rw[e,<-h1],(congrArg Prod.snd he).symm⟩
theorem B4{g m:Nat}{t:Λ}{o:Int}{D:Told}(h:eI w g m aj k o D)(a:∀p∈D.map jY,p.1≠dZ (pad t)):∀p∈D,p.1≠t:=λp e he=>a (jY p) (j5.2 ⟨p,e,rfl⟩) (by rw[jY,he])
def Lv(w:x3)(g m:Nat)(aj t:Λ)(k o c:Int)(D:Told)(v:x1)(w':x3):Prop:=
 (¬(dl aj t/\cu c k)->v=Δ 3/\Ext w w')/\(dl aj t/\cu c k->v=Δ 0/\ai (λr=>r=m) w w'/\∃D',lr D t c o D'/\eI w' g m aj k o D')
theorem B5{g m:Nat}{t:Λ}{o:Int}{D:Told}{aL:x1}(h:eI w g m aj k o D)(ae:aH .i64 w aL t):am x7 Iq [Γ g,aL,Δ c] w (Lv w g m aj t k o c D):=by
 refine az func188 ?_;refine(Lr h ae).mono ?_;rintro _ V _ ⟨S,ks,e,rfl,K,af,ag⟩;rw[bq,br];refine bo cG.i λap aa aF W X=>?_;refine qX K rfl X λL ah aG Y=>?_;have s1:=S.size;have aI:=W.size;have aJ:=X.lt;have G:Ext w L:=(S.trans W).put ah Ω;refine aV (λv M=>v=Δ 0/\(dl aj t/\cu c k)/\ai (λr=>r=m) w M/\∃D',lr D t c o D'/\eI M g m aj k o D') ?_ ?_
 .rintro _ M ⟨_,h1,C⟩;exact⟨λh=>absurd h1 h,λ_=>⟨rfl,C⟩⟩
 intro aB ak;simp only[bD,al];by_cases ad:dl aj t
 rotate_left
 .have he:=ag ad;subst he;exact⟨λ_=>⟨λ_=>⟨rfl,G⟩,λh=>absurd h.1 ad⟩,λh=>by simp at h⟩
 obtain⟨rfl,rfl⟩:=af ad;refine⟨λh=>absurd rfl h,λ_=>?_⟩;have x:=h.ext G;obtain⟨⟨sv,gs,y,hm⟩,H,U,an,ao⟩:=id x;rw[aQ fM.p 1 y rfl];refine jU.mono ?_;rintro _ aq _ ⟨rfl,z⟩;have au:=G.trans z;by_cases hi:cu c k
 rotate_left
 .simp only[hi,decide_false,bE,V0,bT];exact⟨λ_=>⟨rfl,au⟩,λh=>absurd h.2 hi⟩
 simp only[hi,decide_true,bE,Y7,a1];rw[aQ fM.p 2 (y.ext z) rfl];simp only[be,al,er];have Z:=wz (qY U ad);have av:∀{D':Told},lr D t c o D'->∀p∈D',dl aj p.1/\cu p.2 k/\p.2≠o:=λhu p aw=>by
  rcases(hu.1 p).1 aw with⟨B,rfl⟩|⟨h1,_⟩
  .exact⟨ad,hi,B⟩
  .exact ao p h1
 have I:∀{E A:x3}{D':Told},Ext aq E->ai (λr=>r=m) E A->db A m (D'.map jY)->lr D t c o D'->aB (Δ 0) A:=by
  intro E A D' f q ax hu;have ay:g≠m:=λhe=>by
   obtain⟨aC,aD,aA,_⟩:=H;have y:L.heap[g]?=_:=y;rw[he,aA]at y;cases y
  have aE:∀r,leads sv r->r≠m:=λr ac he=>by
   subst he;obtain⟨aC,aD,aA,_⟩:=H;obtain⟨_,⟨rfl,_⟩|⟨cap,cs,rfl,J,_⟩⟩:=hm
   .obtain⟨a,n,c,h1,_⟩:=ac;cases h1
   .obtain⟨a,n,c,h1,C⟩:=ac;cases h1;have J:L.heap[gs]?=_:=J;have C:gs=r:=C;rw[C,aA]at J;cases J
  have N:=z.trans f;exact ak _ _ ⟨rfl,⟨ad,hi⟩,((G.trans N).ab _).trans q,D',hu,⟨sv,gs,(y.ext N).ab q ay,bt (hm.ext N) q aE⟩,ax,U,an,av hu⟩
 refine⟨λB E f _ _=>?_,λB E f _ _=>?_⟩
 .rw[aQ fM.p 3 ((y.ext z).ext f) rfl,og K ((Y.ext z).ext f).range];subst B;refine Ld iG.u keys ((H.ext z).ext f) x.pC Z (λj v0 A O s q=>?_) (λA P s q=>?_)
  .obtain⟨gX,Q,_⟩:=B3 x ad O;rw[mZ]at s;exact I f q s (Lt x.nodup Q)
  .exact I f q s (Lu (B4 x P))
 .rw[aQ fM.p 3 ((y.ext z).ext f) rfl,og K ((Y.ext z).ext f).range];refine qW iG.u keys ((H.ext z).ext f) x.pC Z (λj v0 A O s q=>?_) (λA P s q=>?_)
  .obtain⟨gX,Q,_⟩:=B3 x ad O;have R:(D.map jY).set j (dZ (pad t),Δ c)=(D.set j (t,c)).map jY:=by rw[U9];rfl
   rw[R]at s;exact I f q s (Ls x.nodup Q B)
  .have R:D.map jY++[(dZ (pad t),Δ c)]=(D++[(t,c)]).map jY:=by rw[Z3];rfl
   rw[R]at s;exact I f q s (B2 (B4 x P) B)
theorem Lw{g m:Nat}{t:Λ}{o:Int}{D:Told}{b:Bool}(h:eI w g m aj k o D)(ad:dl aj t)(h1:∀c,(t,c)∈D->K (if b then .tuple #[Δ c,.bool true]else Δ c))(r:(∀p∈D,p.1≠t)->K (if b then .tuple #[Δ 0,.bool false]else Δ 0)):
  ac x7 (Instr.lookup iG (.map (σ m)) (dZ (pad t)) b) w K:=by
 have e:=wz (qY h.2.2.1 ad);by_cases he:∃p∈D,p.1=t
 .obtain⟨p,a,rfl⟩:=he;obtain⟨j,s⟩:=X7.1 a;rw[qV iG.u keys h.2.1 h.pC e (j:=j) (v:=Δ p.2) (by rw[x8,s];rfl)];exact h1 p.2 a
 .have f:∀p∈D,p.1≠t:=λp a h=>he ⟨p,a,h⟩;rw[tq iG.u keys ⟨_,_,ao.i⟩ h.2.1 h.pC e (λq x hk=>by
   obtain⟨p,a,rfl⟩:=j5.1 x;exact f p a (BX (h.2.2.2.2 p a).1 ad hk))]
  exact r f
theorem Lx{g m:Nat}{o:Int}{D:Told}(h:eI w g m aj k o D):am x7 IX [Γ g] w λv w'=>v=Δ D.length/\Ext w w':=by
 obtain⟨⟨sv,gs,a,hm⟩,e,_⟩:=h;refine az func241 ?_;rw[dc eP.u];simp only[Z5,a1];rw[aQ fM.p 3 a rfl,Le iG.u e];exact⟨Ξ,Ext.refl _⟩
theorem Ly{g m:Nat}{o:Int}{D:Told}(h:eI w g m aj k o D):am x7 Js [Γ g] w λv w'=>v=Δ k/\Ext w w':=by
 obtain⟨⟨sv,gs,a,hm⟩,_⟩:=h;refine az func297 ?_;rw[dc eP.u];simp only[Z5,a1];rw[aQ fM.p 1 a rfl];exact⟨rfl,Ext.refl _⟩
theorem wB{g m:Nat}{o:Int}{D:Told}(h:eI w g m aj k o D):am x7 IY [Γ g] w λv w'=>Ext w w'/\∃a,w.heap.size<=a/\av .i64 ah w' a v aj:=by
 obtain⟨⟨sv,gs,e,hm⟩,_,U,_⟩:=h;have f:=U.1;refine az func242 ?_;rw[dc eP.u];simp only[Z5,a1];rw[aQ fM.p 0 e rfl];exact kB hm.ls Ω
theorem Lz{g m:Nat}{o:Int}{D:Told}(h:eI w g m aj k o D):am x7 Jt [Γ g] w λv w'=>v=Δ aj.length/\Ext w w':=by
 refine az func298 ?_;refine(wB h).mono ?_;rintro v V _ ⟨J,a,_,hm⟩;rw[aW an.u hm.ls];exact⟨rfl,J⟩
end Go.Proofs.YtikkpokkcdocoabGreatDoor
namespace Go.Vc
open Go Go.RowKit
set_option maxRecDepth 100000
def leadsTo(v:x1)(r:Nat):Prop:=∃a n c,v= .slice (σ a) n c/\a.block=r
theorem e4(h:leadsTo (.slice ν 0 0) r):False:=by
 obtain⟨a,n,c,h,_⟩:=h;cases h
section
variable{α:Type}{f:α->List x1}{k:Nat}
theorem hX:∀{L:List α},(∀a∈L,(f a).length=k)->(L.flatMap f).length=L.length*k
 |[],_=>Ξ
 |a::L,h=>by
  rw[W0,r8,h a (.head _),hX λb e=>h b (.tail _ e),j9,U4];omega
theorem pD:∀{L:List α}(i:Nat),(∀a∈L,(f a).length=k)->(L.flatMap f).take (i*k)=(L.take i).flatMap f
 |[],i,_=>Ξ
 |a::L,0,_=>Ξ
 |a::L,i+1,h=>by
  have e:=h a (.head _);rw[W0,List.take_succ_cons,W0,<-pD i λb p=>h b (.tail _ p),U4,Nat.one_mul,Nat.add_comm,List.take_append,e];congr 1
  .exact j6 Ω
  .congr 1;omega
theorem ts:∀{L:List α}(i:Nat),(∀a∈L,(f a).length=k)->(L.flatMap f).drop (i*k)=(L.drop i).flatMap f
 |[],i,_=>Ξ
 |a::L,0,_=>Ξ
 |a::L,i+1,h=>by
  have e:=h a (.head _);rw[W0,List.drop_succ_cons,<-ts i λb p=>h b (.tail _ p),U4,Nat.one_mul,Nat.add_comm,List.drop_append,e];rw[List.drop_of_length_le Ω,List.nil_append];congr 1;omega
theorem pE{L:List α}{i:Nat}{a:α}(h:∀a∈L,(f a).length=k)(hi:L[i]?=σ a)(e:(f a)[j]?=σ v):(L.flatMap f)[i*k+j]?=σ v:=by
 have q:=(x4.1 e).1;rw[<-List.getElem?_drop,ts i h];have p:=x4.1 hi;rw[W3 p.1,p.2,W0,Y9 q];exact e
theorem wC{L:List α}{i:Nat}{a:α}(h:∀a∈L,(f a).length=k)(e:(f a).length=k)(hi:i<L.length):over (L.flatMap f) (i*k) (f a)=(L.set i a).flatMap f:=by
 have q:=hX h;have p:(i+1)*k<=L.length*k:=X1 _ hi;rw[U4,Nat.one_mul]at p;rw[mN Ω,e,pD i h,show i*k+k=(i+1)*k by rw[U4,Nat.one_mul],ts (i+1) h,List.set_eq_take_append_cons_drop,if_pos hi,S8,W0,Y6]
theorem tt{vs:List x1}{o m:Nat}(h1:o+vs.length<=m)(a:m<=cs.length):(over cs o vs).take m=over (cs.take m) o vs:=by
 rw[mN Ω,mN (by rw[n9];omega),Y6,Y6,List.take_append,List.take_append,List.take_take,List.take_take,List.drop_take,n9];rw[show min m o=o by omega,show min o m=o by omega,show min o cs.length=o by omega,j6 (l:=vs) Ω];congr 3;omega
def bi(f:α->List x1)(k:Nat)(e:p8)(w:x3)(g:Nat)(v:x1)(L:List α):Prop:=bX w g e k v L.length (L.flatMap f)/\∀a∈L,(f a).length=k
variable{P:W8}{w:x3}{e:p8}{g:Nat}{v:x1}{L:List α}
theorem bi.nil(f:α->List x1)(k:Nat)(e:p8)(w:x3)(g:Nat):bi f k e w g (.slice ν 0 0) []:=⟨bX.nil w g e k,λa h=>by cases h⟩
theorem bi.leads(h:bi f k e w g v L)(p:leadsTo v r):r=g/\g<w.heap.size:=by
 obtain⟨_,⟨rfl,_⟩|⟨cap,cs,rfl,q,_⟩⟩:=h.1
 .exact (e4 p).elim
 .obtain⟨a,n,c,h1,s⟩:=p;cases h1;exact⟨s.symm,q.lt⟩
theorem bi.ab(h:bi f k e w g v L)(J:ai S w w')(a:∀r,leadsTo v r->¬S r):bi f k e w' g v L:=
 ⟨⟨h.1.1,h.1.2.imp id λ⟨cap,cs,h1,p,q⟩=>⟨cap,cs,h1,p.ab J (a g ⟨_,_,_,h1,rfl⟩),q⟩⟩,h.2⟩
theorem bi.ext(h:bi f k e w g v L)(J:Ext w w'):bi f k e w' g v L:=h.ab (J.ab λ_=>False) λ_ _ h=>h
theorem bi.sl(h:bi f k e w g v L):ci w k v L.length (L.flatMap f):=h.1.sl
theorem bi.le(h:bi f k e w g v L):L.length<=9223372036854775807:=by
 have:=ci.le h.sl;simpa[maxLen]using this
theorem ea{a:p8}(p:P.underlying t=σ (.slice e))(h:bi f k e w g v L):ac P (V2 #[t] a #[v]) w K=K (Δ L.length):=by
 obtain⟨_,_,_,_,_,rfl,_⟩:=h.sl;exact hr p
theorem dj{q:o6}{b:Nat}{i:Nat}(a:y=(i:Int))(p:P.underlying t=σ (.slice e))(hi:aR P e k b z)(h:bi f k e w g v L)(r:i<L.length):
  ac P (c9 t v (.int q y)) w K=K (.pointer (σ ⟨g,i*k,ν⟩)):=by
 subst a;obtain⟨_,⟨rfl,s⟩|⟨cap,cs,rfl,x,A⟩⟩:=h.1
 .omega
 .rw[fb p hi r (λ_=>rfl),X8]
theorem bi.range{i:Nat}{a:α}(h:bi f k e w g v L)(hi:L[i]?=σ a):w.rangeAt g (i*k) (f a):=λj u hu=>by
 have h1:=pE h.2 hi hu;have s:=(x4.1 hi).1;obtain⟨_,⟨rfl,x⟩|⟨cap,cs,rfl,q,_,_,y,r⟩⟩:=h.1
 .omega
 .have p:=(x4.1 h1).1;rw[hX h.2]at p;rw[<-r,Z9 p]at h1;exact q.cell h1
theorem B6{b:Nat}{i:Nat}{a:α}{K:Unit->x3->Prop}(hi:aR P t k b z)(h:bi f k e w g v L)(p:(f a).length=k)(h1:∀u∈f a,u.oneCell'=true)(x:i<L.length)(B:∀w',ai (λr=>leadsTo v r) w w'->w'.heap.size=w.heap.size->bi f k e w' g v (L.set i a)->K () w'):aD P (o9 t (.pointer (σ ⟨g,i*k,ν⟩)) (.agg (f a).toArray)) w K:=by
 have M:=hX h.2;have C:(i+1)*k<=L.length*k:=X1 _ x;rw[U4,Nat.one_mul]at C;obtain⟨⟨N,⟨rfl,O⟩|⟨cap,cs,rfl,E,y,F,A,G⟩⟩,q⟩:=h
 .omega
 .have H:L.length*k<=cs.length:=by rw[A];exact X1 _ y
  refine vR hi p h1 E Ω λw' I U J=>B w' (I.mono λr _ he=>⟨_,_,_,rfl,he.symm⟩) U ⟨⟨?_,.inr ⟨cap,_,Ξ,J,by simpa using y,F,by rw[ld,A],?_⟩⟩,λb s=>?_⟩
  .rw[hX (L:=L.set i a) λb s=>by
    rcases W5 s with h|rfl
    .exact q b h
    .exact p]
  .rw[b8,<-wC q p x,<-G,tt (by rw[p];omega) H]
  .rcases W5 s with h|rfl
   .exact q b h
   .exact p
theorem pF{b:Nat}{u:x1}{i:Nat}{a a':α}{K:Unit->x3->Prop}(hi:aR P t 1 b z)(hu:u.cells= #[u])(h1:u.oneCell'=true)(h:bi f k e w g v L)(s:L[i]?=σ a)(ag:f a'=(f a).set j u)(V:j<k)(I:∀w',ai (λr=>leadsTo v r) w w'->w'.heap.size=w.heap.size->bi f k e w' g v (L.set i a')->K () w'):aD P (o9 t (.pointer (σ ⟨g,i*k+j,ν⟩)) u) w K:=by
 have A:=(x4.1 s).1;have W:=hX h.2;have J:(i+1)*k<=L.length*k:=X1 _ A;rw[U4,Nat.one_mul]at J;have M:(f a).length=k:=h.2 a (x5 s);have q:(f a').length=k:=by rw[ag,b8];exact M
 have N:(L.flatMap f).set (i*k+j) u=(L.set i a').flatMap f:=by
  rw[<-wC h.2 q A];refine Y5 λp=>?_;rw[mM _ _ _ Ω,X2,q];by_cases B:i*k<=p/\p<i*k+k
  .rw[if_pos B,ag,X2];by_cases C:i*k+j=p
   .rw[if_pos C,if_pos Ω,if_pos Ω,if_pos Ω]
   .rw[if_neg C,if_neg Ω];obtain⟨y,E⟩:∃y,(f a)[p-i*k]?=σ y:=⟨_,x6 Ω⟩;have:=pE h.2 s E;rw[show i*k+(p-i*k)=p by omega]at this;rw[this,E]
  .rw[if_neg B,if_neg Ω]
 obtain⟨⟨X,⟨rfl,Y⟩|⟨cap,cs,rfl,O,F,Q,G,R⟩⟩,H⟩:=h
 .omega
 .have Z:L.length*k<=cs.length:=by rw[G];exact X1 _ F
  refine bl hi hu h1 O Ω λw' S U T=>I w' (S.mono λr _ he=>⟨_,_,_,rfl,he.symm⟩) U ⟨⟨?_,.inr ⟨cap,_,Ξ,T,by simpa using F,Q,by rw[b8,G],?_⟩⟩,λb x=>?_⟩
  .rw[hX (L:=L.set i a') λb x=>by
    rcases W5 x with h|rfl
    .exact H b h
    .exact q]
  .rw[b8,<-N,<-R,List.take_set]
  .rcases W5 x with h|rfl
   .exact H b h
   .exact q
theorem io{M:p8}{b:Nat}{x:x1}{a:α}{K:x1->x3->Prop}(A:P.underlying t=σ (.slice e))(hi:aR P e k b z)(G:z.cells.size=k)(h:bi f k e w g v L)(J:ci w k x 1 (f a))(h1:∀u∈f a,u.oneCell'=true)(B:(L.length+1)*b<=140737488355328)(H:L.length+1<=9223372036854775807)(I:∀p q w',bi f k e w' q p (L++[a])->(∀r,leadsTo p r->leadsTo v r\/w.heap.size<=r)->ai (λr=>leadsTo v r) w w'->K p w'):aD P (Z2 #[t,t] M #[v,x]) w K:=by
 have N:(f a).length=k:=by have:=J.1;omega
 have C:∀p q w',bX w' q e k p (L.length+1) (L.flatMap f++f a)->bi f k e w' q p (L++[a]):=λp q w' hm=>⟨by simpa using hm,λb B=>by
  rcases o5.1 B with h'|h'
  .exact h.2 b h'
  .rw[l9.1 h'];exact N⟩
 rcases h.1.2 with⟨ad,O⟩|⟨cap,cs,ad,Q,_⟩
 .have hm:bX w w.heap.size e k v L.length (L.flatMap f):=⟨h.1.1,.inl ⟨ad,O⟩⟩;subst ad;refine nX A A hi G hm J h1 (by simpa using B) (by simpa[maxLen]using H) λp q w' E s F=>I p q w' (C _ _ _ s) (λr y=>.inr ?_) (F.mono λr y h=>Ω);have:=((C _ _ _ s).leads y).1;omega
 .refine nX A A hi G h.1 J h1 (by simpa using B) (by simpa[maxLen]using H) λp q w' E s F=>I p q w' (C _ _ _ s) (λr y=>?_) (F.mono λr y h=>⟨_,_,_,ad,h.symm⟩);have:=((C _ _ _ s).leads y).1;rcases E with E|E
  .exact .inl ⟨_,_,_,ad,by show g=r;omega⟩
  .exact .inr Ω
theorem LA{q:p8}{b:Nat}{x:x1}{a:α}{K:x1->x3->Prop}(s:P.underlying t=σ (.slice e))(hi:aR P e k b z)(y:z.cells.size=k)(h:bi f k e w g v L)(J:ci w k x 1 (f a))(h1:∀a,∀u∈f a,u.oneCell'=true)(A:(L.length+1)*b<=140737488355328)(B:L.length+1<=9223372036854775807)(C:∀p E w',bi f k e w' E p (L++[a])->(∀r,leadsTo p r->leadsTo v r\/w.heap.size<=r)->ai (λr=>leadsTo v r) w w'->K p w'):aD P (Z2 #[t,t] q #[v,x]) w K:=io s hi y h J (h1 a) A B C
theorem hD{b:Nat}{a:α}{x:x1}{K:x1->x3->Prop}(q:P.underlying t=σ (.slice e))(hi:aR P e k b z)(B:k<=100000)(J:x.cells=(f a).toArray)(p:(f a).length=k)(r:∀v g w',g=w.heap.size->Ext w w'->bi f k e w' g v [a]->K v w'):aD P (Y3 t 1 #[(0,x)]) w K:=
 kw q hi Ω (cs:=x.cells) (Au Ξ (by rw[J];simpa using p)) λg w' s y h=>by
  have h:af w' g e (f a):=by rw[J]at h;simpa using h
  exact r _ g w' s y ⟨by simpa using bX.full (k:=k) (n:=1) h Ω (by simp[maxLen]),λc A=>by rw[l9.1 A];exact p⟩
end
end Go.Vc
namespace Go.Proofs.YtikkpokkcdocoabGreatDoor
open Go Go.Vc Go.RowKit Go.Proofs Go.Proofs.Tryz
set_option maxRecDepth 100000
theorem wD{α:Type}:∀{l:List α}{j:Nat}{x:α},l[j]?=σ x->(x::l.eraseIdx j).Perm l
 |[],j,x,h=>by simp at h
 |a::l,0,x,h=>by simp at h;subst h;exact List.Perm.refl _
 |a::l,j+1,x,h=>by
  simp at h;rw[List.eraseIdx_cons_succ];exact(List.Perm.swap a x _).trans ((wD h).cons a)
theorem B7{α:Type}{l:List α}(h:j<l.length):(l.eraseIdx j).length+1=l.length:=by
 rw[List.length_eraseIdx,if_pos h];omega
def pG(w:x3)(a:Nat):Nat:=match w.heap[a]? with
 |some (.mapIter (σ m) _ seen _)=>(match w.heap[m]? with
  |some (.map e _)=>(leftOf e seen).size
  |_=>0)
 |_=>0
theorem tu{m:Nat}{d left:List (x1×x1)}{e:Option (x1×x1)}(h:hC w a m d left e):pG w a=left.length:=by
 obtain⟨p,q,seen,gX,h1,_,_,f,_,rfl,_⟩:=h;unfold pG;rw[f];simp only;rw[h1];simp
theorem LB{w0:x3}{m:Nat}{d d0 left:List (x1×x1)}{e:Option (x1×x1)}(h:hC w a m d left e)(hm:db w0 m d0)(h1:Ext w0 w)(p:Ext w0 w')(hi:e0 w w'):hC w' a m d left e:=by
 obtain⟨q,c,s,gX,r,x,y,z,A⟩:=h;obtain⟨B,C,f1,_⟩:=hm;have g1:=h1.aZ m _ f1 rfl;have f:=p.aZ m _ f1 rfl;rw[r]at g1;rw[<-g1]at f;exact⟨q,c,s,gX,f,x,y,hi a _ z rfl,A⟩
abbrev oh(w:x3)(g:Nat)(v:x1)(L:List (Λ)):Prop:=bi (ints .i8) 6 cG w g v L
theorem B8{k:o6}:∀u∈ints k l,u.oneCell'=true:=λu hu=>by
 obtain⟨x,_,rfl⟩:=j5.1 hu;rfl
theorem keysIter{dh m:Nat}{d:List (x1×x1)}{KS:List (Λ)}{w0:x3}(Q:af w0 dh iG [.map (σ m)])(hm:db w0 m d)(R:d.map (·.1)=KS.map dZ)(S:∀ks∈KS,ks.length=6):
  oV x7 true l5 [Γ dh] ([]:List (Λ)) (λh=>h.Perm KS) (λh vs h' _=>∃ks∈KS,h.length<KS.length/\vs=[dZ ks]/\h'=h++[ks]) (λw=>Ext w0 w):=by
 refine⟨l5.enters,λl aB aF w f _ U J W=>?_⟩;refine qz func295 ?_;rw[aw Ψ ((Q.ext J).Qz rfl)];refine aD.cw (BQ iG.u (hm.ext J) λA V X q aG Y Z=>?_);refine⟨λaa=>∃h a left B,aB h aa/\Ext w0 aa/\w.heap.size<=aa.heap.size/\hC aa A m d left B/\left.map (·.1)=a.map dZ/\(h++a).Perm KS,λaa=>pG aa A,
  ⟨[],KS,d,ν,f _ _ _ q Z.b W,J.trans q,q.size,Y,R,List.Perm.refl _⟩,?_⟩
 rintro aa ⟨h,a,left,B,C,ab,aH,E,r,e⟩;have ac:left.length=a.length:=by have:=congrArg S5 r;simpa using this
 refine BS E (λh=>by cases h) (λad=>?_) (λj p ae G H ag I=>?_)
 .rw[iJ (v:=.bool false) rfl,a1];subst ad;have:a=[]:=c8 (by rw[<-ac];rfl);subst this;rw[X5]at e;exact .inl ⟨h,e,C⟩
 .rw[iJ (v:=.bool true) rfl,bT];refine BT I ?_;obtain⟨ks,s,ah⟩:∃ks,a[j]?=σ ks/\p.1=dZ ks:=by
   have h1:(left.map (·.1))[j]?=σ p.1:=by rw[x8,G];rfl
   rw[r,x8]at h1;obtain⟨ks,K,ai⟩:=X4.1 h1;exact⟨ks,K,ai.symm⟩
  have L:ks∈KS:=e.mem_iff.1 (o5.2 (.inr (x5 s)));have M:=S ks L;rw[iJ (v:=p.1) rfl,ah];refine aD.cw (bo cG.i λaI aJ aK aj ak al=>?_);refine aD.cw (qX M rfl ak λx am aL an ao=>?_);rw[og M an.range];have y:Ext ae x:=aj.put am Ω;have N:=al.trans ao;have O:Ext w0 x:=(ab.trans H).trans y;have ap:=f _ _ _ H (by rw[<-X];exact ag) C;have aq:=f _ _ _ y N.b ap;have au:=I.ext y N.ko;have av:h.length<KS.length:=by
   have h1:=e.length_eq;have K:=(x4.1 s).1;rw[r8]at h1;omega
  refine⟨rfl,(U h (h++[ks]) _ x O ⟨ks,L,av,rfl,rfl⟩ aq).mono ?_⟩;rintro _ ax (⟨rfl,P,ay,az⟩|⟨rfl,aA⟩)
  .simp only[bE,Y7,a1];have z:=LB au hm O P (az rfl).ko;have aC:w.heap.size<=ax.heap.size:=by
    obtain⟨_,_,_,_,_,_,_,aE,_⟩:=z;have:=(j4.1 aE).1;omega
   refine⟨⟨h++[ks],a.eraseIdx j,left.eraseIdx j,σ p,ay,P,aC,z,?_,?_⟩,?_⟩
   .rw[<-mZ,r,mZ]
   .refine List.Perm.trans ?_ e;rw[Y6];exact List.Perm.append_left h (wD s)
   .rw[tu z,tu E];have:=B7 (x4.1 G).1;omega
  .simp only[bE,V0,bT];exact .inr ⟨h,aA⟩
theorem LC{m:Nat}:am x7 Ja [.map (σ m)] w λr w'=>Ext w w'/\∃g,r= .func (.func l5) #[] #[Γ g]/\w.heap.size<=g/\af w' g iG [.map (σ m)]:=by
 refine az func262 ?_;refine bf λg V f a e=>?_;rw[ig];exact⟨a,g,rfl,Ω,e⟩
theorem LD{dh m:Nat}{d:List (x1×x1)}{KS:List (Λ)}(U:af w dh iG [.map (σ m)])(hm:db w m d)(W:d.map (·.1)=KS.map dZ)(C:∀ks∈KS,ks.length=6)(aC:KS.length<=1000000):
  am x7 Jv [.slice ν 0 0,.func (.func l5) #[] #[Γ dh]] w λv w'=>Ext w w'/\∃g L,(∀r,leadsTo v r->w.heap.size<=r)/\L.Perm KS/\oh w' g v L:=by
 refine gV func306 ?_;refine bf λgs V aE E q=>?_;have q:af V gs jj [.slice ν 0 0]:=q;have aF:=q.lt;refine jf.old ⟨List (Λ),true,_,_,_,_,_,_,λh w'=>ai (λr=>w.heap.size<=r) w w'/\∃v g,af w' gs jj [v]/\(∀r,leadsTo v r->w.heap.size<=r/\r≠gs)/\oh w' g v h,λ_ _ _=>False,rfl,keysIter U hm W C,?_,λ_ _ J h=>h.trans J,
  λ_ _ _ J h=>⟨h.1.trans (J.ab _),by obtain⟨v,g,h1,X,Y⟩:=h.2;exact⟨v,g,h1.ext J,X,Y.ext J⟩⟩,λ_ _ _ _ _ h=>h,E,⟨E.ab _,_,0,q,λr h=>(e4 h).elim,bi.nil _ _ _ _ _⟩,?_,?_,λ_ _ h=>h.elim,λ_ _ _ h=>h.elim⟩
 .rintro h _ h' w' ⟨ks,_,_,rfl,_⟩;rfl
 .rintro a h h' aa Z ⟨ks,ac,aG,ae,rfl⟩ ⟨G,v,g,y,cO,ad⟩;cases ae;have z:=C ks ac;have aH:h.length<=1000000:=Ω
  refine aD.cw (bo cG.i λaI aJ aK ag H ah=>?_);refine aD.cw (qX z rfl H λaj ak aL al an=>?_);intro aM I _ ao;have aN:=H.lt;have ap:Ext aa aj:=ag.put ak Ω;have p:=ap.trans I;rw[aw Ψ ((y.ext p).Qz rfl),og z (al.ext I).range];refine aD.cw (hD (f:=ints .i8) (a:=ks) jj.u cG.i Ω (by simp[dZ,x1.cells]) (by simp[z]) λa ga aO aP s aq au=>?_);have K:=aq.sl;rw[W0,List.flatMap_nil,X5]at K;refine aD.cw (LA jj.u cG.i rfl ((ad.ext p).ext s) K (λa=>B8) Ω Ω λM av N A ax x ay=>?_);have aQ:=G.size;have aR:=p.size;have aS:=s.size;have aT:=y.lt;have O:∀r,leadsTo M r->w.heap.size<=r/\r≠gs:=λr e=>by
   rcases ax r e with h|h
   .exact cO r h
   .omega
  have B:af N gs jj [v]:=((y.ext p).ext s).ab x (λh=>(cO gs h).2 rfl);refine aD.cw (bl jj.i (by obtain⟨_,_,_,_,_,rfl,_⟩:=A.sl;rfl) (by obtain⟨_,_,_,_,_,rfl,_⟩:=A.sl;rfl) B Ξ λP Q aU az aA=>?_);have R:ai (λr=>w.heap.size<=r) aa P:=(((p.trans s).ab _).trans (x.mono λr _ h=>(cO r h).1)).trans (Q.mono λr _ h=>by show w.heap.size<=r;omega);refine⟨Z.then R (λr e h=>by have h:w.heap.size<=r:=h;omega),⟨G.trans R,M,av,az,O,A.ab Q λr e h=>(O r e).2 h⟩,λ_=>?_⟩;exact((((ah.ko.trans an.ko).trans ao).trans au.ko).trans ay.ko).trans aA.ko
 .rintro h N aB ⟨x,v,g,B,cO,ad⟩;rw[aw Ψ (B.Qz rfl)];intro P S _;exact⟨(x.ext λr e h=>by have:w.heap.size<=r:=h;omega).trans S,g,h,λr e=>(cO r e).1,aB,ad.ext S⟩
theorem LF{dh m:Nat}{d:List (x1×x1)}{KS:List (Λ)}(a:af w dh iG [.map (σ m)])(hm:db w m d)(e:d.map (·.1)=KS.map dZ)(f:∀ks∈KS,ks.length=6)(p:KS.length<=1000000):
  am x7 Jp [.func (.func l5) #[] #[Γ dh]] w λv w'=>Ext w w'/\∃g L,(∀r,leadsTo v r->w.heap.size<=r)/\L.Perm KS/\oh w' g v L:=by
 refine az func293 ?_;exact(LD a hm e f p).mono λ_ _ _ h=>h
def gB:Λ->Int
 |[]=>0
 |x::l=>x*32 ^ l.length+gB l
theorem wE(n:Nat):(0:Int)<32 ^ n:=Int.pow_pos Ω
theorem tv:∀(l:Λ),(∀x∈l,0<=x/\x<32)->0<=gB l/\gB l<32 ^ l.length
 |[],_=>by simp[gB]
 |x::l,h=>by
  have f:=tv l λy a=>h y (.tail _ a);have J:=h x (.head _);have p:=wE l.length;simp only[gB,j9];have e:(32:Int) ^ (l.length+1)=32*32 ^ l.length:=by rw[Int.pow_succ,Int.mul_comm]
  have h1:x*32 ^ l.length<=31*32 ^ l.length:=Int.mul_le_mul_of_nonneg_right Ω Ω;have q:0<=x*32 ^ l.length:=Int.mul_nonneg J.1 Ω;rw[e];omega
def ip:Λ->Λ->Int
 |x::a,y::b=>if x<y then-1 else if y<x then 1 else ip a b
 |_,_=>0
theorem B9:∀(a b:Λ),a.length=b.length->(∀x∈a,0<=x/\x<32)->(∀x∈b,0<=x/\x<32)->(ip a b<0↔gB a<gB b)/\(gB a=gB b->a=b)
 |[],[],_,_,_=>by simp[ip]
 |[],_::_,h,_,_=>by simp at h
 |_::_,[],h,_,_=>by simp at h
 |x::a,y::b,h,w,A=>by
  have p:a.length=b.length:=by simpa using h
  have q:∀x∈a,0<=x/\x<32:=λz e=>w z (.tail _ e);have r:∀x∈b,0<=x/\x<32:=λz e=>A z (.tail _ e);have s:=B9 a b p q r;have B:=tv a q;have E:=tv b r;have F:=wE b.length;simp only[ip,gB];rw[p]at B ⊢;have step:∀u v:Int,u<v->u*32 ^ b.length+32 ^ b.length<=v*32 ^ b.length:=λu v G=>by
   have:=Int.mul_le_mul_of_nonneg_right (show u+1<=v by omega) (show(0:Int)<=32 ^ b.length by omega);rw[Int.add_mul,Int.one_mul]at this;exact this
  by_cases h1:x<y
  .rw[if_pos h1];have:=step x y h1;exact⟨⟨λ_=>Ω,λ_=>Ω⟩,λh=>Ω⟩
  .rw[if_neg h1];by_cases f:y<x
   .rw[if_pos f];have:=step y x f;exact⟨⟨λh=>Ω,λh=>Ω⟩,λh=>Ω⟩
   .rw[if_neg f];have C:x=y:=Ω
    subst C;exact⟨s.1.trans ⟨λh=>Ω,λh=>Ω⟩,λh=>by rw[s.2 Ω]⟩
theorem wF:∀{a b:Λ}{i:Nat},(∀(j:Nat)(x y:Int),j<i->a[j]?=σ x->b[j]?=σ y->x=y)->i<=a.length->i<=b.length->ip a b=ip (a.drop i) (b.drop i)
 |_,_,0,_,_,_=>Ξ
 |[],_,i+1,_,h,_=>by simp at h
 |_::_,[],i+1,_,_,h=>by simp at h
 |x::a,y::b,i+1,he,h1,e=>by
  have f:=he 0 x y Ω rfl rfl;subst f;simp only[ip,Int.lt_irrefl,if_false,List.drop_succ_cons];exact wF (λj u v p hu ad=>he (j+1) u v Ω hu ad) (by simpa using h1) (by simpa using e)
theorem Ca{x:Int}:am x7 Ju [.int .i8 x] w λv w'=>v= .bool false/\Ext w w':=by
 refine az func305 ?_;simp only[bD];exact⟨Ξ,Ext.refl _⟩
theorem LG{x:Int}:am x7 Jo [.int .i8 x,.int .i8 y] w λv w'=>v=Δ (if x<y then-1 else if y<x then 1 else 0)/\Ext w w':=by
 refine az func292 ?_;refine Ca.mono ?_;rintro _ V _ ⟨rfl,a⟩;refine Ca.mono ?_;rintro _ aa _ ⟨rfl,e⟩;simp only[a1,aS,bN,al];exact⟨λh=>⟨by rw[if_pos h],a.trans e⟩,λh=>⟨λf=>⟨by rw[if_neg h,if_pos f],a.trans e⟩,λf=>⟨by rw[if_neg h,if_neg f],a.trans e⟩⟩⟩
theorem LH{bg bv:x1}{a b:Λ}(q:aH .i8 w bg a)(s:aH .i8 w bv b)(R:a.length=b.length):am x7 I8 [bg,bv] w λv w'=>v=Δ (ip a b)/\Ext w w':=by
 refine az func260 ?_;have S:=q.le;rw[aW lb.u q];refine b5.range a.length (λi _ V=>Ext w V/\∀(j:Nat)(x y:Int),j<i->a[j]?=σ x->b[j]?=σ y->x=y) Ω ⟨Ext.refl _,λj x y H=>Ω⟩ ?_ ?_
 .rintro i _ V I hi ⟨e,r⟩ K;simp only[aS,al];refine⟨λ_=>?_,λh=>Ω⟩;obtain⟨x,J⟩:=aI (l:=a) hi;obtain⟨y,z⟩:=aI (l:=b) (i:=i) Ω;rw[bh lb.u fZ.i Ψ (q.ext e) J,aW lb.u (s.ext e)];simp only[cn,al];refine⟨λh=>Ω,λ_=>?_⟩;rw[bh lb.u fZ.i Ψ (s.ext e) z];refine LG.mono ?_;rintro _ aa _ ⟨rfl,C⟩;have f:ip a b=ip (a.drop i) (b.drop i):=wF r Ω Ω;have L:a.drop i=x::a.drop (i+1):=by rw[W3 hi,(x4.1 J).2]
  have M:b.drop i=y::b.drop (i+1):=by rw[W3 Ω,(x4.1 z).2]
  rw[L,M]at f;simp only[ip]at f;simp only[bD,al,aO];refine⟨λE=>⟨?_,e.trans C⟩,λN=>K _ _ ⟨e.trans C,λj O P H A B=>?_⟩⟩
  .rw[f];by_cases h1:x<y
   .rw[if_pos h1,if_pos h1]
   .by_cases p:y<x
    .rw[if_neg h1,if_pos p,if_neg h1,if_pos p]
    .rw[if_neg h1,if_neg p]at E;exact absurd rfl E
  .by_cases Q:j=i
   .subst Q;rw[J]at A;rw[z]at B;cases A;cases B;have G:=Y0.1 N;by_cases h1:x<y
    .rw[if_pos h1]at G;omega
    .by_cases p:y<x
     .rw[if_neg h1,if_pos p]at G;omega
     .omega
   .exact r j O P Ω A B
 .rintro _ V I ⟨e,r⟩;simp only[aS,show decide ((a.length:Int)<(a.length:Int))=false from decide_eq_false Ω,a1];rw[aW lb.u (q.ext e),aW lb.u (s.ext e)];simp only[aS,al];refine⟨λh=>Ω,λ_=>⟨?_,e⟩⟩;have f:ip a b=ip (a.drop a.length) (b.drop a.length):=wF r Ω Ω;rw[f,List.drop_length];cases b.drop a.length<;>rfl
theorem LI{a b:Λ}(q:lq a)(r:lq b):am x7 z6 [dZ a,dZ b] w λv w'=>Ext w w'/\v=Δ (ip a b):=by
 have C:∀{c:Λ},lq c->(ints .i8 c).length=6:=λh=>by simp[h.1]
 refine az func259 ?_;refine bf λg1 V E z e=>?_;refine bf λG aa H s f=>?_;rw[BU]at e f;intro x p _ _;have e:=(e.ext s).ext p;have f:=f.ext p;rw[sP cG.u fZ.i (l:=0) (h:=6) (m:=6) jk jl fc Ω Ω Ω,sP cG.u fZ.i (l:=0) (h:=6) (m:=6) jk jl fc Ω Ω Ω];rw[if_neg Ω,if_neg Ω];have ls:∀{g:Nat}{c:Λ},lq c->af x g cG (ints .i8 c)->aH .i8 x (.slice (σ ⟨g,0+0*1,ν⟩) (6-0) (6-0)) c:=λ{g c}y A=>by
  unfold aH;refine⟨Ξ,g,0,_,6,by rw[y.1],by rw[y.1];omega,by simp[maxLen],λ_=>rfl,A.range⟩
 refine(LH (ls q e) (ls r f) (by rw[q.1,r.1])).mono ?_;rintro _ I _ ⟨rfl,B⟩;exact⟨((z.trans s).trans p).trans B,rfl⟩
end Go.Proofs.YtikkpokkcdocoabGreatDoor
namespace Go.Vc
open Go Go.RowKit Go.Shelf Go.Proofs Go.Sort
theorem grown_of(J:Ext w w')(a:cN w w'):∃q os,w'=grow (w.drewN q) os:=by
 refine⟨w'.drawn-w.drawn,w'.heap.extract w.heap.size w'.heap.size,?_⟩;have hk:∀k,k<w.heap.size->w'.heap[k]?=w.heap[k]?:=λk hk=>by
  have e:w.heap[k]?=σ w.heap[k]:=Array.getElem?_eq_getElem hk;rw[e];cases U:fF w.heap[k]with
  |true=>exact J.aZ k _ e U
  |false=>exact a.aZ k _ e U
 have aA:w'.heap=w.heap++w'.heap.extract w.heap.size w'.heap.size:=by
  apply Array.ext_getElem?;intro k;rw[Array.getElem?_append];by_cases h:k<w.heap.size
  .rw[if_pos h,hk k h]
  .rw[if_neg h,Array.getElem?_extract];have:=J.size;by_cases f:k<w'.heap.size
   .rw[if_pos Ω];congr 1;omega
   .rw[if_neg Ω,Array.getElem?_eq_none Ω]
 have h1:=a.os;have f:=a.tape.1;have p:=a.output;have r:w.drawn+(w'.drawn-w.drawn)=w'.drawn:=by have:=a.tape.2;omega
 cases w';simp only[grow,x3.drewN]at*;subst h1 f p;rw[<-aA,r]
section
variable{α:Type}[Inhabited α]
theorem Cb(enc:α->List x1)(k:Nat)(hk:∀x,(enc x).length=k)(d:Array α):(flatK enc k d).toList=d.toList.flatMap enc:=by
 apply Y5;intro t;by_cases h:t<d.size*k
 .have p:0<k:=by
   rcases Q2 k with e|e
   .rw[e]at h;simp at h
   .exact e
  have q:t / k<d.size:=(Nat.div_lt_iff_lt_mul p).2 h;have r:=Nat.mod_lt t p;have s:(flatK enc k d).toList[t]?=σ ((enc d[t / k]!)[t % k]!):=by
   rw[S9,Array.getElem?_eq_getElem (by simpa using h)];have:=get_flatK enc k d t h;rw[getElem!_pos _ t (by simpa using h)]at this;rw[this]
  have w:d.toList[t / k]?=σ d[t / k]!:=by
   rw[S9,Array.getElem?_eq_getElem q,getElem!_pos d _ q]
  have ad:(enc d[t / k]!)[t % k]?=σ ((enc d[t / k]!)[t % k]!):=by
   generalize d[t / k]! =z;rw[x6 (by rw[hk];exact r),getElem!_pos (enc z) _ (by rw[hk];exact r)]
  have:=pE (f:=enc) (k:=k) (λa _=>hk a) w ad;rw[s,<-this];congr 1;rw[Nat.mul_comm];exact Nat.div_add_mod t k
 .rw[Z4 (by simpa using h),Z4];rw[hX (k:=k) λa _=>hk a];simpa using h
theorem Cc(enc:α->List x1)(k:Nat)(hk:∀x,(enc x).length=k){g m:Nat}{d:Array α}{os:Array Obj}(h:af w g e cs)(z:d.size*k<=cs.length):
  af (sortWorldK enc k w g 0 m d os) g e (d.toList.flatMap enc++cs.drop (d.size*k))/\∀r,r<w.heap.size->r≠g->(sortWorldK enc k w g 0 m d os).heap[r]?=w.heap[r]?:=by
 have s:=h.lt;have q:∀r,r<w.heap.size->(sortWorldK enc k w g 0 m d os).heap[r]?=(w.heap.modify g (onCells (putCells id 0 (flatK enc k d))))[r]?:=λr p=>by
  show((w.heap.modify g (onCells (putCells id 0 (flatK enc k d))))++os)[r]?=_;rw[Array.getElem?_append_left (by simpa using p)]
 refine⟨?_,λr p y=>?_⟩
 .unfold af at h ⊢;rw[q g s,Array.getElem?_modify,if_pos rfl,h];show σ (Obj.cells (putCells id 0 (flatK enc k d) cs.toArray) e (0,0))=_;refine congrArg σ (congrArg (λc=>Obj.cells c e (0,0)) ?_);apply Array.ext';apply Y5;intro t;show _=(d.toList.flatMap enc++cs.drop (d.size*k))[t]?;rw[List.getElem?_append,hX (k:=k) λa _=>hk a,S9];unfold putCells;rw[Array.getElem?_mapIdx,List.getElem?_toArray];have U:d.toList.length=d.size:=rfl;by_cases f:t<d.size*k
  .rw[if_pos (by rw[U];exact f),x6 Ω,<-Cb enc k hk,S9,Array.getElem?_eq_getElem (by simpa using f)];simp only[Z7,id];rw[if_pos (by simpa using f),Nat.sub_zero,getElem!_pos _ t (by simpa using f)]
  .rw[if_neg (by rw[U];exact f),List.getElem?_drop,U,show d.size*k+(t-d.size*k)=t by omega];cases A:cs[t]? with
   |none=>rfl
   |some x=>
    simp only[Z7];rw[if_neg Θ]
 .rw[q r p,Array.getElem?_modify,if_neg (Ne.symm y)]
end
theorem wG{P:W8}{C:Ren}(V:SlLaysF0.n6 P C){α:Type}{f:α->List x1}{k:Nat}{G:α->Prop}{num:α->Int}{cf:α->α->Int}{E:R7}{cap:Array x1}(aB:∀w,(isAgg (C.t 24)).run P w= .ok true w)(aC:∀w,(Go.sizeOf (C.t 24)).run P w= .ok k w)(h1:∀a,G a->∀u∈f a,u.oneCell'=true)(hk:∀a,G a->(f a).length=k)(aD:∀a b,G a->G b->(cf a b<0↔num a<num b))(ag:Enters P E){w:x3}{g:Nat}{v:x1}{L:List α}(h:bi f k e w g v L)(H:∀a∈L,G a)(ah:L.length<65536)(aE:∀W a b,ai (λr=>r=g) w W->G a->G b->am P E ([.agg (f a).toArray,.agg (f b).toArray]++cap.toList) W λu aF=>Ext W aF/\u=Δ (cf a b)):
  am P (C.f 6) [v,.func (.func E) #[] cap] w λ_ w'=>ai (λr=>leadsTo v r) w w'/\∃M,M.Perm L/\(∀(p q:Nat)(x y:α),p<q->M[p]?=σ x->M[q]?=σ y->num x<=num y)/\bi f k e w' g v M:=by
 have aj:Enters P (C.f 6):=λargs w=>V.f6.enters rfl args w;obtain⟨⟨aX,ad⟩,aY⟩:=id h;have ak:∀p c,v= .slice p 0 c->L=[]->am P (C.f 6) [v,.func (.func E) #[] cap] w λ_ w'=>ai (λr=>leadsTo v r) w w'/\∃M,M.Perm L/\(∀(p q:Nat)(x y:α),p<q->M[p]?=σ x->M[q]?=σ y->num x<=num y)/\bi f k e w' g v M:=λp c I ah=>by
  refine .code aj ?_;rw[I];refine(AnyF.slices_SortFunc_none V p c _ w).mono ?_;rintro aZ w' ⟨rfl,rfl⟩;refine⟨_,rfl,cN.refl _,ai.refl _ _,L,.refl _,λp q x y _ J=>by rw[ah]at J;simp at J,by rw[<-I];exact h⟩
 rcases ad with⟨rfl,aG⟩|⟨c,cs,rfl,B,al,hm,X,aH⟩
 .exact ak _ _ rfl (c8 aG)
 cases Y:L with
 |nil=>subst Y;exact ak _ _ rfl rfl
 |cons a0 a1=>
 rw[<-Y];let β:={a:α // G a};have:Inhabited β:=⟨⟨a0,H a0 (by rw[Y];exact .head _)⟩⟩;let enc:β->List x1:=λx=>f x.1;let d:Array β:=(L.attach.map λx=>(⟨x.1,H x.1 x.2⟩:β)).toArray;have an:d.toList.map Subtype.val=L:=by
  show(L.attach.map λx=>(⟨x.1,H x.1 x.2⟩:β)).map Subtype.val=L;rw[R4];exact List.attach_map_subtype_val L
 have O:d.size=L.length:=by simp[d]
 have F:∀x:β,(enc x).length=k:=λx=>hk x.1 x.2;have aI:d.toList.flatMap enc=L.flatMap f:=by
  have K:=congrArg (λl=>l.flatMap f) an;rw[<-K];exact(List.flatMap_map Subtype.val f d.toList).symm
 have Q:d.size*k<=cs.length:=by rw[O,X];exact X1 k al
 have aJ:HoldsK enc k w g 0 d:=by
  intro j R;rw[size_flatK]at R;have ao:j<cs.length:=Ω
  have Z:(flatK enc k d)[j]! =cs[j]:=by
   have K:(flatK enc k d).toList[j]?=σ cs[j]:=by
    rw[Cb enc k F,aI,<-aH,Z9 (by rw[<-O];exact R),x6 ao]
   rw[S9]at K;rw[getElem!_pos _ j (by simpa using R)];rw[Array.getElem?_eq_getElem (by simpa using R)]at K;exact Z0 K
  refine⟨?_,?_⟩
  .show w.cell? ⟨g,0+j,ν⟩=σ ((flatK enc k d)[j]!);rw[Z];exact B.cell (o:=0+j) (by rw[X8];exact x6 ao)
  .unfold x3.frozen?;unfold af at B;rw[B];simp
 have S:∀x y:β,ltOf (λx y:β=>cf x.1 y.1) x y=decide (num x.1<num y.1):=λx y=>by
  unfold ltOf;exact decide_eq_decide.2 (aD x.1 y.1 x.2 y.2)
 have aK:SWO (ltOf λx y:β=>cf x.1 y.1):=
  ⟨λx=>by rw[S];simp,λx y z p q=>by rw[S]at*;simp at*;omega,λx y z p q=>by rw[S]at*;simp at*;omega⟩
 have ap:∀m (d2:Array β) os,d2.size=d.size->ai (λr=>r=g) w (sortWorldK enc k w g 0 m d2 os)/\cN w (sortWorldK enc k w g 0 m d2 os):=λm d2 os U=>by
  obtain⟨a2,aq⟩:=Cc enc k F (m:=m) (os:=os) B (d:=d2) (by rw[U];exact Q);have au:w.heap.size<=(sortWorldK enc k w g 0 m d2 os).heap.size:=by
   show w.heap.size<=((w.heap.modify g _)++os).size;simp
  refine⟨⟨au,λr o A _ aa=>?_⟩,rfl,⟨rfl,Nat.le_add_right _ _⟩,rfl,au,λr o A U=>?_⟩
  .rw[aq r (j4.1 A).1 aa];exact A
  .have aa:r≠g:=λhe=>by subst he;unfold af at B;rw[B]at A;cases A;cases U
   rw[aq r (j4.1 A).1 aa];exact A
 have aL:CmpLays P E cap enc k (λx y:β=>cf x.1 y.1) g 0 d.size w:=λm os aM U x y=>by
  have J:=(aE _ x.1 y.1 (ap m aM os U).1 x.2 y.2).calls ag;have N:([x1.agg (f x.1).toArray,.agg (f y.1).toArray]++cap.toList).toArray= #[.agg (enc x).toArray,.agg (enc y).toArray]++cap:=by
   apply Array.ext';simp[enc]
  rw[N]at J;refine J.mono ?_;rintro _ w' ⟨_,rfl,aN,aO,rfl⟩;exact⟨rfl,grown_of aO aN⟩
 have av:=AnyQ.slices_SortFunc V k aB aC enc F (λx=>h1 x.1 x.2) (λx y:β=>cf x.1 y.1) aK E cap g 0 c d w (λargs w=>ag args w) aL aJ B.lt (by rw[O];omega);rw[O]at av;refine .code aj (av.mono ?_);rintro _ w' ⟨rfl,s,n,os,⟨aP,_,I⟩,aQ,rfl⟩;have ab:s.size=d.size:=aP;obtain⟨aR,aS⟩:=ap n s os ab;obtain⟨aT,_⟩:=Cc enc k F (m:=n) (os:=os) B (d:=s) (by rw[ab];exact Q);have T:(s.toList.map Subtype.val).Perm L:=by
  have Z:(s.extract 0 L.length).toList=s.toList:=by rw[show L.length=s.size by omega,Array.extract_size]
  have aU:(d.extract 0 L.length).toList=d.toList:=by rw[show L.length=d.size by omega,Array.extract_size]
  rw[Z,aU]at I;rw[<-an];exact I.map _
 have aw:=T.length_eq;refine⟨_,rfl,aS,aR.mono λr _ A=>⟨_,_,_,rfl,A.symm⟩,s.toList.map Subtype.val,T,λp q x y aV J ax=>?_,⟨?_,.inr ⟨c,_,by rw[aw],aT,by rw[aw];exact al,hm,?_,?_⟩⟩,λa N=>hk a (H a (T.mem_iff.1 N))⟩
 .rw[x8,X4]at J ax;obtain⟨a6,ay,rfl⟩:=J;obtain⟨a7,az,rfl⟩:=ax;rw[S9]at ay az;have aA:=(j4.1 ay);have ac:=(j4.1 az);have:=aQ p q (X6 _) aV (by have:=ac.1;omega);rw[getElem!_pos s p aA.1,getElem!_pos s q ac.1,aA.2,ac.2,S]at this;simpa using this
 .rw[hX (k:=k) λa N=>hk a (H a (T.mem_iff.1 N))]
 .have ae:(s.toList.flatMap enc).length=s.size*k:=by rw[hX (k:=k) λa _=>F a];rfl
  rw[r8,ae,List.length_drop,ab,X];rw[X]at Q;exact Nat.add_sub_cancel' Q
 .have ae:(s.toList.flatMap enc).length=s.size*k:=by rw[hX (k:=k) λa _=>F a];rfl
  have aW:(List.map Subtype.val s.toList).length*k=(s.toList.flatMap enc).length:=by rw[ae,u9];rfl
  rw[aW,List.take_left,List.flatMap_map]
end Go.Vc
namespace Go.Proofs
open Go.Shelf
def Tryz.wH:Go.Shelf.Ren:=⟨λ|6=>294|15=>81|14=>307|28=>171|29=>172|20=>322|21=>323|22=>324|23=>325|24=>326|25=>327|26=>328|27=>329|46=>337|47=>228|48=>229|49=>338|50=>339|57=>342|n=>n,λ|22=>360|24=>336|25=>359|3=>3|39=>144|0=>0|53=>258|55=>93|4=>4|46=>251|45=>250|50=>255|5=>5|9=>9|66=>323|70=>327|76=>366|77=>367|n=>n,λ|n=>n⟩
theorem Tryz.LJ:Go.Proofs.SlLaysF0.n6 Tryz.prog Tryz.wH:={
 mixed:=Ψ,
 f6:=⟨Tryz.f294.name,Φ,Tryz.func294.trans (congrArg σ Ψ)⟩,
 f14:=⟨Tryz.f307.name,Φ,Tryz.func307.trans (congrArg σ Ψ)⟩,
 f15:=Tryz.func81.trans (congrArg σ Ψ),
 f20:=⟨Tryz.f322.name,Φ,Tryz.func322.trans (congrArg σ Ψ)⟩,
 f21:=⟨Tryz.f323.name,Φ,Tryz.func323.trans (congrArg σ Ψ)⟩,
 f22:=⟨Tryz.f324.name,Φ,Tryz.func324.trans (congrArg σ Ψ)⟩,
 f23:=⟨Tryz.f325.name,Φ,Tryz.func325.trans (congrArg σ Ψ)⟩,
 f24:=⟨Tryz.f326.name,Φ,Tryz.func326.trans (congrArg σ Ψ)⟩,
 f25:=⟨Tryz.f327.name,Φ,Tryz.func327.trans (congrArg σ Ψ)⟩,
 f26:=⟨Tryz.f328.name,Φ,Tryz.func328.trans (congrArg σ Ψ)⟩,
 f27:=⟨Tryz.f329.name,Φ,Tryz.func329.trans (congrArg σ Ψ)⟩,
 f28:=Tryz.func171.trans (congrArg σ Ψ),
 f29:=Tryz.func172.trans (congrArg σ Ψ),
 f46:=⟨Tryz.f337.name,Φ,Tryz.func337.trans (congrArg σ Ψ)⟩,
 f47:=Tryz.func228.trans (congrArg σ Ψ),
 f48:=Tryz.func229.trans (congrArg σ Ψ),
 f49:=⟨Tryz.f338.name,Φ,Tryz.func338.trans (congrArg σ Ψ)⟩,
 f50:=⟨Tryz.f339.name,Φ,Tryz.func339.trans (congrArg σ Ψ)⟩,
 f57:=⟨Tryz.f342.name,Φ,Tryz.func342.trans (congrArg σ Ψ)⟩,
 t0:=Tryz.underlying0,
 a0:=Tryz.isAgg0,
 z0:=Tryz.sizeOf0,
 v0:=Tryz.zeroValue0,
 t3:=Tryz.underlying3,
 a3:=Tryz.isAgg3,
 z3:=Tryz.sizeOf3,
 v3:=Tryz.zeroValue3,
 t4:=Tryz.underlying4,
 a4:=Tryz.isAgg4,
 z4:=Tryz.sizeOf4,
 v4:=Tryz.zeroValue4,
 t5:=Tryz.underlying5,
 a5:=Tryz.isAgg5,
 z5:=Tryz.sizeOf5,
 v5:=Tryz.zeroValue5,
 t9:=Tryz.underlying9,
 a9:=Tryz.isAgg9,
 z9:=Tryz.sizeOf9,
 v9:=Tryz.zeroValue9,
 t22:=Tryz.underlying360,
 a22:=Tryz.isAgg360,
 z22:=Tryz.sizeOf360,
 v22:=Tryz.zeroValue360,
 t25:=Tryz.underlying359,
 a25:=Tryz.isAgg359,
 z25:=Tryz.sizeOf359,
 v25:=Tryz.zeroValue359,
 t39:=Tryz.underlying144,
 a39:=Tryz.isAgg144,
 z39:=Tryz.sizeOf144,
 v39:=Tryz.zeroValue144,
 t45:=Tryz.underlying250,
 a45:=Tryz.isAgg250,
 z45:=Tryz.sizeOf250,
 v45:=Tryz.zeroValue250,
 t46:=Tryz.underlying251,
 a46:=Tryz.isAgg251,
 z46:=Tryz.sizeOf251,
 v46:=Tryz.zeroValue251,
 t50:=Tryz.underlying255,
 a50:=Tryz.isAgg255,
 z50:=Tryz.sizeOf255,
 v50:=Tryz.zeroValue255,
 t53:=Tryz.underlying258,
 a53:=Tryz.isAgg258,
 z53:=Tryz.sizeOf258,
 v53:=Tryz.zeroValue258,
 t55:=Tryz.underlying93,
 a55:=Tryz.isAgg93,
 z55:=Tryz.sizeOf93,
 v55:=Tryz.zeroValue93,
 t66:=Tryz.underlying323,
 a66:=Tryz.isAgg323,
 z66:=Tryz.sizeOf323,
 v66:=Tryz.zeroValue323,
 t70:=Tryz.underlying327,
 a70:=Tryz.isAgg327,
 z70:=Tryz.sizeOf327,
 v70:=Tryz.zeroValue327,
 t76:=Tryz.underlying366,
 a76:=Tryz.isAgg366,
 z76:=Tryz.sizeOf366,
 v76:=Tryz.zeroValue366,
 t77:=Tryz.underlying367,
 a77:=Tryz.isAgg367,
 z77:=Tryz.sizeOf367,
 v77:=Tryz.zeroValue367}
def Tryz.wI:Go.Shelf.Ren:=⟨λ|6=>201|15=>81|14=>253|28=>171|29=>172|20=>281|21=>282|22=>283|23=>284|24=>285|25=>286|26=>287|27=>288|46=>300|47=>228|48=>229|49=>301|50=>302|57=>321|n=>n,λ|22=>280|24=>285|25=>293|3=>3|39=>144|0=>0|53=>258|55=>93|4=>4|46=>251|45=>250|50=>255|5=>5|9=>9|66=>323|70=>327|76=>366|77=>367|n=>n,λ|n=>n⟩
theorem Tryz.LK:Go.Proofs.SlLaysF0.n6 Tryz.prog Tryz.wI:={
 mixed:=Ψ,
 f6:=⟨Tryz.f201.name,Φ,Tryz.func201.trans (congrArg σ Ψ)⟩,
 f14:=⟨Tryz.f253.name,Φ,Tryz.func253.trans (congrArg σ Ψ)⟩,
 f15:=Tryz.func81.trans (congrArg σ Ψ),
 f20:=⟨Tryz.f281.name,Φ,Tryz.func281.trans (congrArg σ Ψ)⟩,
 f21:=⟨Tryz.f282.name,Φ,Tryz.func282.trans (congrArg σ Ψ)⟩,
 f22:=⟨Tryz.f283.name,Φ,Tryz.func283.trans (congrArg σ Ψ)⟩,
 f23:=⟨Tryz.f284.name,Φ,Tryz.func284.trans (congrArg σ Ψ)⟩,
 f24:=⟨Tryz.f285.name,Φ,Tryz.func285.trans (congrArg σ Ψ)⟩,
 f25:=⟨Tryz.f286.name,Φ,Tryz.func286.trans (congrArg σ Ψ)⟩,
 f26:=⟨Tryz.f287.name,Φ,Tryz.func287.trans (congrArg σ Ψ)⟩,
 f27:=⟨Tryz.f288.name,Φ,Tryz.func288.trans (congrArg σ Ψ)⟩,
 f28:=Tryz.func171.trans (congrArg σ Ψ),
 f29:=Tryz.func172.trans (congrArg σ Ψ),
 f46:=⟨Tryz.f300.name,Φ,Tryz.func300.trans (congrArg σ Ψ)⟩,
 f47:=Tryz.func228.trans (congrArg σ Ψ),
 f48:=Tryz.func229.trans (congrArg σ Ψ),
 f49:=⟨Tryz.f301.name,Φ,Tryz.func301.trans (congrArg σ Ψ)⟩,
 f50:=⟨Tryz.f302.name,Φ,Tryz.func302.trans (congrArg σ Ψ)⟩,
 f57:=⟨Tryz.f321.name,Φ,Tryz.func321.trans (congrArg σ Ψ)⟩,
 t0:=Tryz.underlying0,
 a0:=Tryz.isAgg0,
 z0:=Tryz.sizeOf0,
 v0:=Tryz.zeroValue0,
 t3:=Tryz.underlying3,
 a3:=Tryz.isAgg3,
 z3:=Tryz.sizeOf3,
 v3:=Tryz.zeroValue3,
 t4:=Tryz.underlying4,
 a4:=Tryz.isAgg4,
 z4:=Tryz.sizeOf4,
 v4:=Tryz.zeroValue4,
 t5:=Tryz.underlying5,
 a5:=Tryz.isAgg5,
 z5:=Tryz.sizeOf5,
 v5:=Tryz.zeroValue5,
 t9:=Tryz.underlying9,
 a9:=Tryz.isAgg9,
 z9:=Tryz.sizeOf9,
 v9:=Tryz.zeroValue9,
 t22:=Tryz.underlying280,
 a22:=Tryz.isAgg280,
 z22:=Tryz.sizeOf280,
 v22:=Tryz.zeroValue280,
 t25:=Tryz.underlying293,
 a25:=Tryz.isAgg293,
 z25:=Tryz.sizeOf293,
 v25:=Tryz.zeroValue293,
 t39:=Tryz.underlying144,
 a39:=Tryz.isAgg144,
 z39:=Tryz.sizeOf144,
 v39:=Tryz.zeroValue144,
 t45:=Tryz.underlying250,
 a45:=Tryz.isAgg250,
 z45:=Tryz.sizeOf250,
 v45:=Tryz.zeroValue250,
 t46:=Tryz.underlying251,
 a46:=Tryz.isAgg251,
 z46:=Tryz.sizeOf251,
 v46:=Tryz.zeroValue251,
 t50:=Tryz.underlying255,
 a50:=Tryz.isAgg255,
 z50:=Tryz.sizeOf255,
 v50:=Tryz.zeroValue255,
 t53:=Tryz.underlying258,
 a53:=Tryz.isAgg258,
 z53:=Tryz.sizeOf258,
 v53:=Tryz.zeroValue258,
 t55:=Tryz.underlying93,
 a55:=Tryz.isAgg93,
 z55:=Tryz.sizeOf93,
 v55:=Tryz.zeroValue93,
 t66:=Tryz.underlying323,
 a66:=Tryz.isAgg323,
 z66:=Tryz.sizeOf323,
 v66:=Tryz.zeroValue323,
 t70:=Tryz.underlying327,
 a70:=Tryz.isAgg327,
 z70:=Tryz.sizeOf327,
 v70:=Tryz.zeroValue327,
 t76:=Tryz.underlying366,
 a76:=Tryz.isAgg366,
 z76:=Tryz.sizeOf366,
 v76:=Tryz.zeroValue366,
 t77:=Tryz.underlying367,
 a77:=Tryz.isAgg367,
 z77:=Tryz.sizeOf367,
 v77:=Tryz.zeroValue367}
def Tryz.wJ:Go.Shelf.Ren:=⟨λ|6=>26|15=>81|14=>80|28=>171|29=>172|20=>163|21=>164|22=>165|23=>166|24=>167|25=>168|26=>169|27=>170|46=>227|47=>228|48=>229|49=>230|50=>231|57=>270|n=>n,λ|22=>36|24=>43|25=>71|3=>3|39=>144|0=>0|53=>258|55=>93|4=>4|46=>251|45=>250|50=>255|5=>5|9=>9|66=>323|70=>327|76=>366|77=>367|n=>n,λ|n=>n⟩
theorem Tryz.LL:Go.Proofs.SlLaysF0.n6 Tryz.prog Tryz.wJ:={
 mixed:=Ψ,
 f6:=⟨Tryz.f26.name,Φ,Tryz.func26.trans (congrArg σ Ψ)⟩,
 f14:=⟨Tryz.f80.name,Φ,Tryz.func80.trans (congrArg σ Ψ)⟩,
 f15:=Tryz.func81.trans (congrArg σ Ψ),
 f20:=⟨Tryz.f163.name,Φ,Tryz.func163.trans (congrArg σ Ψ)⟩,
 f21:=⟨Tryz.f164.name,Φ,Tryz.func164.trans (congrArg σ Ψ)⟩,
 f22:=⟨Tryz.f165.name,Φ,Tryz.func165.trans (congrArg σ Ψ)⟩,
 f23:=⟨Tryz.f166.name,Φ,Tryz.func166.trans (congrArg σ Ψ)⟩,
 f24:=⟨Tryz.f167.name,Φ,Tryz.func167.trans (congrArg σ Ψ)⟩,
 f25:=⟨Tryz.f168.name,Φ,Tryz.func168.trans (congrArg σ Ψ)⟩,
 f26:=⟨Tryz.f169.name,Φ,Tryz.func169.trans (congrArg σ Ψ)⟩,
 f27:=⟨Tryz.f170.name,Φ,Tryz.func170.trans (congrArg σ Ψ)⟩,
 f28:=Tryz.func171.trans (congrArg σ Ψ),
 f29:=Tryz.func172.trans (congrArg σ Ψ),
 f46:=⟨Tryz.f227.name,Φ,Tryz.func227.trans (congrArg σ Ψ)⟩,
 f47:=Tryz.func228.trans (congrArg σ Ψ),
 f48:=Tryz.func229.trans (congrArg σ Ψ),
 f49:=⟨Tryz.f230.name,Φ,Tryz.func230.trans (congrArg σ Ψ)⟩,
 f50:=⟨Tryz.f231.name,Φ,Tryz.func231.trans (congrArg σ Ψ)⟩,
 f57:=⟨Tryz.f270.name,Φ,Tryz.func270.trans (congrArg σ Ψ)⟩,
 t0:=Tryz.underlying0,
 a0:=Tryz.isAgg0,
 z0:=Tryz.sizeOf0,
 v0:=Tryz.zeroValue0,
 t3:=Tryz.underlying3,
 a3:=Tryz.isAgg3,
 z3:=Tryz.sizeOf3,
 v3:=Tryz.zeroValue3,
 t4:=Tryz.underlying4,
 a4:=Tryz.isAgg4,
 z4:=Tryz.sizeOf4,
 v4:=Tryz.zeroValue4,
 t5:=Tryz.underlying5,
 a5:=Tryz.isAgg5,
 z5:=Tryz.sizeOf5,
 v5:=Tryz.zeroValue5,
 t9:=Tryz.underlying9,
 a9:=Tryz.isAgg9,
 z9:=Tryz.sizeOf9,
 v9:=Tryz.zeroValue9,
 t22:=Tryz.underlying36,
 a22:=Tryz.isAgg36,
 z22:=Tryz.sizeOf36,
 v22:=Tryz.zeroValue36,
 t25:=Tryz.underlying71,
 a25:=Tryz.isAgg71,
 z25:=Tryz.sizeOf71,
 v25:=Tryz.zeroValue71,
 t39:=Tryz.underlying144,
 a39:=Tryz.isAgg144,
 z39:=Tryz.sizeOf144,
 v39:=Tryz.zeroValue144,
 t45:=Tryz.underlying250,
 a45:=Tryz.isAgg250,
 z45:=Tryz.sizeOf250,
 v45:=Tryz.zeroValue250,
 t46:=Tryz.underlying251,
 a46:=Tryz.isAgg251,
 z46:=Tryz.sizeOf251,
 v46:=Tryz.zeroValue251,
 t50:=Tryz.underlying255,
 a50:=Tryz.isAgg255,
 z50:=Tryz.sizeOf255,
 v50:=Tryz.zeroValue255,
 t53:=Tryz.underlying258,
 a53:=Tryz.isAgg258,
 z53:=Tryz.sizeOf258,
 v53:=Tryz.zeroValue258,
 t55:=Tryz.underlying93,
 a55:=Tryz.isAgg93,
 z55:=Tryz.sizeOf93,
 v55:=Tryz.zeroValue93,
 t66:=Tryz.underlying323,
 a66:=Tryz.isAgg323,
 z66:=Tryz.sizeOf323,
 v66:=Tryz.zeroValue323,
 t70:=Tryz.underlying327,
 a70:=Tryz.isAgg327,
 z70:=Tryz.sizeOf327,
 v70:=Tryz.zeroValue327,
 t76:=Tryz.underlying366,
 a76:=Tryz.isAgg366,
 z76:=Tryz.sizeOf366,
 v76:=Tryz.zeroValue366,
 t77:=Tryz.underlying367,
 a77:=Tryz.isAgg367,
 z77:=Tryz.sizeOf367,
 v77:=Tryz.zeroValue367}
theorem Tryz.LM(w:x3):(isAgg (Tryz.wH.t 24)).run Tryz.prog w= .ok true w:=Tryz.isAgg336 w
theorem Tryz.LN(w:x3):(Go.sizeOf (Tryz.wH.t 24)).run Tryz.prog w= .ok 6 w:=Tryz.sizeOf336 w
theorem Tryz.LO:Tryz.prog.funcs[259]?=σ Tryz.f259:=Tryz.func259
theorem Tryz.LP(w:x3):(isAgg (Tryz.wI.t 24)).run Tryz.prog w= .ok true w:=Tryz.isAgg285 w
theorem Tryz.LQ(w:x3):(Go.sizeOf (Tryz.wI.t 24)).run Tryz.prog w= .ok 2 w:=Tryz.sizeOf285 w
theorem Tryz.LR:Tryz.prog.funcs[202]?=σ Tryz.f202:=Tryz.func202
theorem Tryz.LS(w:x3):(isAgg (Tryz.wJ.t 24)).run Tryz.prog w= .ok true w:=Tryz.isAgg43 w
theorem Tryz.LU(w:x3):(Go.sizeOf (Tryz.wJ.t 24)).run Tryz.prog w= .ok 4 w:=Tryz.sizeOf43 w
theorem Tryz.LV:Tryz.prog.funcs[27]?=σ Tryz.f27:=Tryz.func27
end Go.Proofs
namespace Go.Proofs.YtikkpokkcdocoabGreatDoor
open Go Go.Vc Go.RowKit Go.Proofs Go.Proofs.Tryz
set_option maxRecDepth 100000
def tw{α:Type}(f:α->Int)(L:List α)(a i:Nat):Prop:=∀(p q:Nat)(x y:α),a<=p->p<q->q<i->L[p]?=σ x->L[q]?=σ y->f x<=f y
def pH(L:List (Λ)):Prop:=∀ks∈L,lq ks
theorem pH.perm{L M:List (Λ)}(h:pH L)(a:M.Perm L):pH M:=λks hk=>h ks (a.mem_iff.1 hk)
theorem LW{g:Nat}{L:List (Λ)}{i:Nat}(a:y=(i:Int))(h:oh w g v L)(hi:L[i]?=σ ks):
  ac x7 (c9 jj v (Δ y)) w (λp=>ac x7 (u5 cG p) w K)=K (dZ ks):=by
 have e:ks.length=6:=by have:=h.2 ks (x5 hi);simpa using this
 rw[dj a jj.u cG.i h (x4.1 hi).1,og e (h.range hi)]
abbrev Cd:x1:=.func (.func z6) #[] #[]
theorem tx{P:W8}{k:o6}{s:ByteArray}{i:Nat}(a:P.underlying t=σ .string)(hi:i<s.size):
  ac P (Instr.index t (.string s) (.int k (i:Int))) w K=K (.int .u8 (s[i].toNat:Int)):=ac.of λw' _=>by
 simp[Instr.index,asIntOf,run_underlying a,hi]
def ef(n:Nat):Nat:=if n=0 then 0 else Nat.log2 n+1
theorem Ce(h:n<256):ef n<=8:=by
 unfold ef;by_cases a:n=0
 .rw[if_pos a];omega
 .rw[if_neg a];have e:Nat.log2 n<8:=(Nat.log2_lt a).2 Ω;omega
theorem LX{g:Nat}{L:List (Λ)}(h:oh w g v L)(s:pH L)(z:L.length<65536):
  am x7 Jq [v,Cd] w λ_ w'=>ai (λr=>leadsTo v r) w w'/\∃M,M.Perm L/\tw gB M 0 M.length/\oh w' g v M:=by
 refine(wG LJ (G:=lq) (num:=gB) (cf:=ip) (cap:=#[]) LM LN (λa _=>B8) (λa e=>by simp[e.1]) (λa b e f=>(B9 a b (by rw[e.1,f.1]) e.2 f.2).1) (Enters.of x7 LO rfl Ψ) h s z λH a b _ e f=>LI e f).mono ?_;rintro _ w' _ ⟨A,M,B,hu,hm⟩;exact⟨A,M,B,λp q x y _ C _ J E=>hu p q x y C J E,hm⟩
end Go.Proofs.YtikkpokkcdocoabGreatDoor
namespace Go.Vc
open Go Go.RowKit
set_option maxRecDepth 100000
theorem Keys.str{P:W8}{k:p8}(hk:P.underlying k=σ .string):Keys P k λv=>∃s,v= .string s:=by
 have key:∀s,MapKept.IsKey .string (.string s):=λs=>trivial;refine⟨λw f v ⟨n,h⟩=>?_,λw x ⟨n,h⟩ p q=>?_,λw v ⟨n,h⟩=>?_⟩
 .subst h;exact MapKept.run_checkKey hk (key n) f 9999
 .subst h;rcases MapKept.findNow_spec (key n) p 0 (λe he=>by obtain⟨m,h⟩:=q e he;rw[h];exact key m)with⟨h1,a⟩|⟨j,e,h1,a,r⟩
  .exact .inl ⟨MapKept.run_findKey hk h1,a⟩
  .exact .inr ⟨j,e,by have:=MapKept.run_findKey (P:=P) (w:=w) hk h1;simpa using this,a,r⟩
 .subst h;exact MapKept.run_keyThatStays (d:=.string) (key n)
section
variable{P:W8}{w:x3}
theorem jw{s:Sem x1}(h:∀K:x1->Prop,ac P s w K=K v):cD P s v w:=by
 have h1:ac P s w (λu=>u=v):=(h λu=>u=v).mpr rfl;obtain⟨u,hu,rfl⟩:=h1;exact hu
variable{k e:p8}{G:x1->Prop}
end
end Go.Vc
namespace Go.Proofs.YtikkpokkcdocoabGreatDoor
open Go Go.Vc Go.RowKit Go.Proofs Go.Proofs.Tryz
set_option maxRecDepth 100000
def gK:Nat->Nat->Λ
 |0,_=>[]
 |n+1,u=>gK n (u / 10)++[48+((u % 10:Nat):Int)]
theorem q1:∀(n u:Nat),(gK n u).length=n
 |0,_=>rfl
 |n+1,u=>by rw[gK,r8,q1 n];rfl
theorem LY(n u:Nat):gK (n+2) u=gK n (u / 100)++[48+((u / 10 % 10:Nat):Int),48+((u % 10:Nat):Int)]:=by
 rw[gK,gK,Y6];rw[show u / 10 / 10=u / 100 by omega];rfl
theorem Cf:∀(n u:Nat),10 ^ n<=u->u<10 ^ (n+1)->gK (n+1) u=fq u
 |0,u,h1,a=>by
  rw[n7,if_pos (by simpa using a)];simp[gK]
 |n+1,u,h1,a=>by
  have e:(10:Nat) ^ (n+1)=10*10 ^ n:=by rw[Nat.pow_succ,Nat.mul_comm]
  have f:(10:Nat) ^ (n+1+1)=10*10 ^ (n+1):=by rw[Nat.pow_succ,Nat.mul_comm]
  have h:1<=10 ^ n:=Nat.one_le_iff_ne_zero.2 Ξ;rw[n7,if_neg Ω,gK,Cf n (u / 10) Ω Ω]
def gC(a C:Λ)(nd u:Nat):Prop:=nd<=a.length/\C.length=a.length/\∃t,C.drop nd=t/\a=gK nd u++t
theorem gC.two{a:Λ}{nd u:Nat}(h:gC a C (nd+2) u):gC a ((C.set (nd+1) (48+((u % 10:Nat):Int))).set nd (48+((u / 10 % 10:Nat):Int))) nd (u / 100):=by
 obtain⟨h1,e,t,f,p⟩:=h;refine⟨Ω,by simp[e],_,rfl,?_⟩;rw[p,LY,Y6];congr 1;rw[List.drop_set,if_neg Ω,List.drop_set,if_neg Ω,<-f];have q:nd<C.length:=Ω
 have r:nd+1<C.length:=Ω
 rw[W3 q,W3 r,U8,R6];rfl
theorem gC.one{a:Λ}{u:Nat}(h:gC a C 1 u):C.set 0 (48+((u % 10:Nat):Int))=a:=by
 obtain⟨h1,e,t,f,p⟩:=h;rw[p,gK,gK,List.nil_append,<-f];cases C with
 |nil=>simp at e;omega
 |cons c C=>simp
theorem gC.zero{a:Λ}{u:Nat}(h:gC a C 0 u):C=a:=by
 obtain⟨h1,p,t,e,f⟩:=h;rw[f,gK,List.nil_append,<-e,List.drop_zero]
def jZ:ByteArray:=⟨#[48,48,48,49,48,50,48,51,48,52,48,53,48,54,48,55,48,56,48,57,49,48,49,49,49,50,49,51,49,52,49,53,49,54,49,55,49,56,49,57,50,48,50,49,50,50,50,51,50,52,50,53,50,54,50,55,50,56,50,57,51,48,51,49,51,50,51,51,51,52,51,53,51,54,51,55,51,56,51,57,52,48,52,49,52,50,52,51,52,52,52,53,52,54,52,55,52,56,52,57,53,48,53,49,53,50,53,51,53,52,53,53,53,54,53,55,53,56,53,57,54,48,54,49,54,50,54,51,54,52,54,53,54,54,54,55,54,56,54,57,55,48,55,49,55,50,55,51,55,52,55,53,55,54,55,55,55,56,55,57,56,48,56,49,56,50,56,51,56,52,56,53,56,54,56,55,56,56,56,57,57,48,57,49,57,50,57,51,57,52,57,53,57,54,57,55,57,56,57,57]⟩
theorem Cg:jZ.size=200:=by decide+kernel
theorem LZ:∀q:Fin 100,jZ.data.toList[2*q.val]?=σ (UInt8.ofNat (48+q.val / 10))/\jZ.data.toList[2*q.val+1]?=σ (UInt8.ofNat (48+q.val % 10)):=by decide+kernel
theorem wK{q:Nat}(e:q<100):(∀h,(jZ[2*q]'h).toNat=48+q / 10)/\∀h,(jZ[2*q+1]'h).toNat=48+q % 10:=by
 obtain⟨h1,f⟩:=LZ ⟨q,e⟩;refine⟨λh=>?_,λh=>?_⟩
 .have a:=(x4.1 h1).2;have:jZ[2*q]=UInt8.ofNat (48+q / 10):=a;rw[this,UInt8.toNat_ofNat'];omega
 .have a:=(x4.1 f).2;have:jZ[2*q+1]=UInt8.ofNat (48+q % 10):=a;rw[this,UInt8.toNat_ofNat'];omega
theorem wrap_u32{x:Int}(h1:0<=x)(a:x<4294967296):o6.u32.wrap x=x:=by
 simp[o6.wrap,o6.bits,o6.signed];omega
def j0(w:x3)(g o:Nat)(a C e:Λ):Prop:=af w g mK (ints .u8 (a++C++e))/\a.length=o
theorem wL{g o c i:Nat}{a:o6}(e:y=(i:Int))(hi:i<n):
  ac x7 (c9 cP (.slice (σ ⟨g,o,ν⟩) n c) (.int a y)) w K=K (.pointer (σ ⟨g,o+i,ν⟩)):=by
 subst e;rw[fb cP.u cK.i hi (λ_=>rfl),U7]
theorem wM{g o i:Nat}{x:Int}{a f:Λ}{K:Unit->x3->Prop}(h:j0 w g o a C f)(hi:i<C.length)(q:∀w',ai (λr=>r=g) w w'->j0 w' g o a (C.set i x) f->K () w'):aD x7 (o9 cK (.pointer (σ ⟨g,o+i,ν⟩)) (.int .u8 x)) w K:=by
 obtain⟨h,rfl⟩:=h;refine bl (g:=g) (o:=a.length+i) cK.i rfl rfl h Θ λw' s U p=>q w' s ⟨?_,rfl⟩;have e:(ints .u8 (a++C++f)).set (a.length+i) (.int .u8 x)=ints .u8 (a++C.set i x++f):=by
  unfold ints;rw[<-U9,Y6,T8 _ _ Ω,R6,List.set_append_left _ _ hi,Y6]
 rw[e]at p;exact p
theorem oi{g o c nd q i:Nat}{x e t:Int}{f h:Λ}{K:x3->Prop}(y:j0 w g o f C h)(W:C.length=n)(X:n<=1000)(Y:nd<=n)(h1:(nd:Int)-x=((i+1:Nat):Int))(E:(nd:Int)-e=(i:Int))(F:i+1<n)(G:t=((2*q:Nat):Int))(p:q<100)(H:∀w',ai (λr=>r=g) w w'->j0 w' g o f ((C.set (i+1) (48+((q % 10:Nat):Int))).set i (48+((q / 10:Nat):Int))) h->K w'):
  er w λaa=>
  ac x7 (aN .sub ah false true (Δ (nd:Int)) (Δ x)) aa λI=>
  ac x7 (aN .sub ah false true (Δ (nd:Int)) (Δ e)) aa λz=>
  ac x7 (aN .add pc false true (.int .u32 t) (.int .u32 1)) aa λJ=>
  ac x7 (Instr.index cS (.string jZ) J) aa λt50=>
  ac x7 (Instr.index cS (.string jZ) (.int .u32 t)) aa λA=>
  ac x7 (c9 cP (.slice (σ ⟨g,o,ν⟩) n c) I) aa λt53=>
  aD x7 (o9 cK t53 t50) aa λ(_:Unit)a=>
   (Ext aa a\/cD x7 (Instr.index cS (.string jZ) (.int .u32 t)) A a/\cD x7 (aN .sub ah false true (Δ (nd:Int)) (Δ e)) z a/\True)/\
  ac x7 (c9 cP (.slice (σ ⟨g,o,ν⟩) n c) z) a λL=>
   aD x7 (o9 cK L A) a λ(_:Unit)s=>K s:=by
 subst G;intro aa B _ _;have M:ai (λr=>r=g) w aa:=B.ab _;have N:j0 aa g o f C h:=⟨y.1.ext B,y.2⟩;rw[dO,wrap_i64 Ω Ω,dO,wrap_i64 Ω Ω,aO,wrap_u32 Ω Ω];rw[show((2*q:Nat):Int)+1=((2*q+1:Nat):Int) by omega];have U:=Cg;rw[tx cS.u (by rw[U];omega),tx cS.u (by rw[U];omega)];rw[(wK p).1,(wK p).2,wL h1 F];refine wM N Ω λa O P=>⟨.inr ⟨jw λK=>?_,jw λK=>?_,trivial⟩,?_⟩
 .rw[tx cS.u (by rw[U];omega),(wK p).1]
 .rw[dO,wrap_i64 Ω Ω]
 .rw[wL E Ω];refine wM P Θ λs Q R=>H s ((M.trans O).trans Q) ?_;have S:48+((q % 10:Nat):Int)=((48+q % 10:Nat):Int):=Ω
  have V:48+((q / 10:Nat):Int)=((48+q / 10:Nat):Int):=Ω
  rw[S,V];exact R
theorem gC.pair{a:Λ}{nd u q:Nat}(h:gC a C (nd+2) u)(e:q=u % 100):gC a ((C.set (nd+1) (48+((q % 10:Nat):Int))).set nd (48+((q / 10:Nat):Int))) nd (u / 100):=by
 have:=h.two;rw[show u % 10=q % 10 by omega,show u / 10 % 10=q / 10 by omega]at this;exact this
theorem oj{k:o6}{b:Nat}(e:b≠0):ac x7 (aN .rem t cx cy (.int k (a:Int)) (.int k (b:Int))) w K=K (.int k ((a % b:Nat):Int)):=by
 rw[sM Ω,Int.tmod_eq_emod_of_nonneg Ω,Int.natCast_emod]
theorem u32_quo{b:Nat}(e:b≠0)(f:a<4294967296):ac x7 (aN .quo t cx cy (.int .u32 (a:Int)) (.int .u32 (b:Int))) w K=K (.int .u32 ((a / b:Nat):Int)):=by
 have:=Nat.div_le_self a b;rw[sL Ω,Int.tdiv_eq_ediv_of_nonneg Ω,<-Int.natCast_ediv];generalize a / b=m at this ⊢;rw[wrap_u32 Ω Ω]
theorem u64_quo{b:Nat}(e:b≠0)(f:a<18446744073709551616):ac x7 (aN .quo t cx cy (.int .u64 (a:Int)) (.int .u64 (b:Int))) w K=K (.int .u64 ((a / b:Nat):Int)):=by
 have:=Nat.div_le_self a b;rw[sL Ω,Int.tdiv_eq_ediv_of_nonneg Ω,<-Int.natCast_ediv];generalize a / b=m at this ⊢;rw[wrap_u64 Ω Ω]
theorem ol{b:Nat}(f:a*b<4294967296):ac x7 (aN .mul t cx cy (.int .u32 (a:Int)) (.int .u32 (b:Int))) w K=K (.int .u32 ((a*b:Nat):Int)):=by
 have e:(a:Int)*(b:Int)=((a*b:Nat):Int):=Ξ
 rw[hS,e];generalize a*b=m at f ⊢;rw[wrap_u32 Ω Ω]
theorem gC.start{u:Nat}(h:C.length=N):gC (gK N u) C N u:=⟨by rw[q1];omega,by rw[q1,h],[],by rw[List.drop_eq_nil_iff];omega,Ξ⟩
theorem L0{g o c u:Nat}{E G:Λ}(af:j0 w g o E C G)(ah:C.length=N)(aw:N<=19)(hu:u<10 ^ N):
  am x7 Jy [.slice (σ ⟨g,o,ν⟩) N c,.int .u64 (u:Int)] w λv w'=>v= .tuple #[]/\ai (λr=>r=g) w w'/\j0 w' g o E (gK N u) G:=by
 have s:=q1 N u;refine az func310 ?_;rw[hr cP.u];refine⟨λaj P V=>∃eS nd:Nat,aj= .int .u64 (eS:Int)/\P=Δ (nd:Int)/\eS<10 ^ nd/\nd<=N/\ai (λr=>r=g) w V/\∃H,j0 V g o E H G/\gC (gK N u) H nd eS,
  λ_ P _=>(bU P).toNat,⟨u,N,rfl,rfl,hu,o4 _,ai.refl _ _,C,af,gC.start ah⟩,?_⟩
 rintro _ _ V ⟨eS,nd,rfl,rfl,I,x,Q,H,R,ag⟩;have ab:H.length=N:=by rw[ag.2.1,s]
 have ax:(10:Nat) ^ nd<=10 ^ 19:=S2 Ω Ω;have ak:eS<18446744073709551616:=Ω
 have ay:(8:Int)=((8:Nat):Int):=rfl;rw[cn,al];refine⟨λan=>?_,λan=>?_⟩
 .obtain⟨m,rfl⟩:∃m,nd=m+8:=⟨nd-8,Ω⟩;have aA:eS % 100000000<100000000:=Nat.mod_lt _ Ω;rw[show V5 .u64 100000000=V5 .u64 ((100000000:Nat):Int)from rfl,oj Ω,fm fJ.u pc.u,wrap_u32 Ω Ω,u64_quo Ω ak];rw[show V5 .u32 10000=V5 .u32 ((10000:Nat):Int)from rfl,show V5 .u32 100=V5 .u32 ((100:Nat):Int)from rfl,show V5 .u32 2=V5 .u32 ((2:Nat):Int)from rfl];rw[u32_quo Ω Ω,oj Ω,u32_quo Ω Ω,ol Ω,oj Ω,ol Ω,u32_quo Ω Ω,ol Ω,oj Ω,ol Ω];refine oi (i:=m+6) (q:=eS % 100000000 % 10000 % 100) R ab Ω x Ω Ω Ω Ω Ω λaa z A=>?_;have f:=ag.pair (q:=eS % 100000000 % 10000 % 100) Ω;have J:=f.2.1.trans s;refine oi (i:=m+4) (q:=eS % 100000000 % 10000 / 100) A J Ω x Ω Ω Ω Ω Ω λB p h=>?_;have e:=gC.pair (nd:=m+4) (q:=eS % 100000000 % 10000 / 100) f Ω;have ac:=e.2.1.trans s;refine oi (i:=m+2) (q:=eS % 100000000 / 10000 % 100) h ac Ω x Ω Ω Ω Ω Ω λao S M=>?_;have ad:=gC.pair (nd:=m+2) (q:=eS % 100000000 / 10000 % 100) e Ω;have ap:=ad.2.1.trans s;refine oi (i:=m) (q:=eS % 100000000 / 10000 / 100) M ap Ω x Ω Ω Ω Ω Ω λaC aq au=>?_;have ae:=gC.pair (nd:=m) (q:=eS % 100000000 / 10000 / 100) ad Ω;rw[dO,wrap_i64 Ω Ω];refine⟨⟨eS / 100000000,m,rfl,by congr 1;omega,?_,Ω,(((Q.trans z).trans p).trans S).trans aq,_,au,?_⟩,by simp only[bU];omega⟩
  .rw[Nat.pow_add]at I;exact Nat.div_lt_of_lt_mul (by rw[Nat.mul_comm];exact I)
  .rw[show eS / 100 / 100 / 100 / 100=eS / 100000000 by omega]at ae;exact ae
 .have aD:nd<8:=Ω
  have aE:(10:Nat) ^ nd<=10 ^ 7:=S2 Ω Ω;rw[fm fJ.u pc.u,wrap_u32 Ω Ω];refine jh (λa b aa=>∃eT m:Nat,a=Δ (m:Int)/\b= .int .u32 (eT:Int)/\eT<10 ^ m/\m<4/\m<=N/\ai (λr=>r=g) w aa/\∃O,j0 aa g o E O G/\gC (gK N u) O m eT) ?_ ?_
  rotate_left
  .intro aB K;rw[cn,al];refine⟨λU=>?_,λU=>K _ _ _ ⟨eS,nd,rfl,rfl,I,Ω,x,Q,H,R,ag⟩⟩;obtain⟨m,rfl⟩:∃m,nd=m+4:=⟨nd-4,Ω⟩;rw[show V5 .u32 10000=V5 .u32 ((10000:Nat):Int)from rfl,show V5 .u32 100=V5 .u32 ((100:Nat):Int)from rfl,show V5 .u32 2=V5 .u32 ((2:Nat):Int)from rfl];rw[oj Ω,u32_quo Ω Ω,u32_quo Ω Ω,ol Ω,oj Ω,ol Ω];refine oi (i:=m+2) (q:=eS % 10000 % 100) R ab Ω x Ω Ω Ω Ω Ω λaa z A=>?_;have f:=ag.pair (q:=eS % 10000 % 100) Ω;have J:=f.2.1.trans s;refine oi (i:=m) (q:=eS % 10000 / 100) A J Ω x Ω Ω Ω Ω Ω λB p h=>?_;have e:=gC.pair (nd:=m) (q:=eS % 10000 / 100) f Ω;rw[dO,wrap_i64 Ω Ω];refine K _ _ _ ⟨eS / 10000,m,by congr 1;omega,rfl,?_,Ω,Ω,(Q.trans z).trans p,_,h,?_⟩
   .rw[Nat.pow_add]at I;exact Nat.div_lt_of_lt_mul (by rw[Nat.mul_comm];exact I)
   .rw[show eS / 100 / 100=eS / 10000 by omega]at e;exact e
  rintro _ _ aa ⟨eT,m,rfl,rfl,W,aF,X,z,O,A,f⟩;have J:=f.2.1.trans s;have aG:(10:Nat) ^ m<=10 ^ 3:=S2 Ω Ω;refine jh (λa b B=>∃L m:Nat,a=Δ (m:Int)/\b= .int .u32 (L:Int)/\L<10 ^ m/\m<2/\m<=N/\ai (λr=>r=g) w B/\∃Y,j0 B g o E Y G/\gC (gK N u) Y m L) ?_ ?_
  rotate_left
  .intro aB K;rw[cn,al];refine⟨λU=>?_,λU=>K _ _ _ ⟨eT,m,rfl,rfl,W,Ω,X,z,O,A,f⟩⟩;obtain⟨m,rfl⟩:∃cg,m=cg+2:=⟨m-2,Ω⟩;rw[show V5 .u32 100=V5 .u32 ((100:Nat):Int)from rfl,show V5 .u32 2=V5 .u32 ((2:Nat):Int)from rfl];rw[oj Ω,ol Ω,u32_quo Ω Ω];refine oi (i:=m) (q:=eT % 100) A J Ω X Ω Ω Ω Ω Ω λB p h=>?_;have e:=f.pair (q:=eT % 100) rfl;rw[dO,wrap_i64 Ω Ω];refine K _ _ _ ⟨eT / 100,m,by congr 1;omega,rfl,?_,Ω,Ω,z.trans p,_,h,e⟩;rw[Nat.pow_add]at W;exact Nat.div_lt_of_lt_mul (by rw[Nat.mul_comm];exact W)
  rintro _ _ B ⟨L,m,rfl,rfl,Z,aH,X,p,Y,h,e⟩;have ac:=e.2.1.trans s;rw[bN,al];refine⟨λav=>?_,λav=>?_⟩
  .obtain rfl:m=1:=Ω
   have Z:L<10:=by simpa using Z
   rw[aO,wrap_u32 Ω Ω,fm pc.u cK.u,wrap_u8 Ω Ω,wL (y:=0) (i:=0) rfl Ω];refine wM h Ω λao S M=>?_;have:=e.one;rw[Nat.mod_eq_of_lt Z]at this;rw[this]at M;exact⟨rfl,p.trans S,M⟩
  .obtain rfl:m=0:=Ω
   rw[e.zero]at h;exact⟨rfl,p,h⟩
def q2:Λ:=[1,10,100,1000,10000,100000,1000000,10000000,100000000,1000000000,10000000000,100000000000,1000000000000,10000000000000,100000000000000,1000000000000000,10000000000000000,100000000000000000,1000000000000000000,10000000000000000000]
def e5(w:x3):Prop:=w.rangeAt 1 0 (ints .u64 q2)
theorem e5.ext(h:e5 w)(J:Ext w w'):e5 w':=nS J h
theorem L1:∀k:Nat,k<20->q2[k]?=σ (((10 ^ k:Nat)):Int):=Φ
theorem Ch{s:Nat}(h:2 ^ s<=n):ef n=s+ef (n / 2 ^ s):=by
 have U:=Nat.two_pow_pos s;have h1:n / 2 ^ s≠0:=by have:=Nat.div_pos h U;omega
 have f:n≠0:=Ω
 unfold ef;rw[if_neg f,if_neg h1];have e:Nat.log2 n=Nat.log2 (n / 2 ^ s)+s:=by
  refine(Nat.log2_eq_iff f).2 ⟨?_,?_⟩
  .rw[Nat.pow_add];have:=X1 (2 ^ s) (Nat.log2_self_le h1);have:=Nat.div_mul_le_self n (2 ^ s);omega
  .have p:=Nat.lt_log2_self (n:=n / 2 ^ s);rw[show Nat.log2 (n / 2 ^ s)+s+1=(Nat.log2 (n / 2 ^ s)+1)+s by omega,Nat.pow_add];have:=X1 (2 ^ s) (show n / 2 ^ s+1<=2 ^ (Nat.log2 (n / 2 ^ s)+1) by omega);have q:=Nat.lt_div_mul_add U (a:=n);rw[U4]at this;omega
 omega
def q3:ByteArray:=⟨#[0,1,2,2,3,3,3,3,4,4,4,4,4,4,4,4,5,5,5,5,5,5,5,5,5,5,5,5,5,5,5,5,6,6,6,6,6,6,6,6,6,6,6,6,6,6,6,6,6,6,6,6,6,6,6,6,6,6,6,6,6,6,6,6,7,7,7,7,7,7,7,7,7,7,7,7,7,7,7,7,7,7,7,7,7,7,7,7,7,7,7,7,7,7,7,7,7,7,7,7,7,7,7,7,7,7,7,7,7,7,7,7,7,7,7,7,7,7,7,7,7,7,7,7,7,7,7,7,8,8,8,8,8,8,8,8,8,8,8,8,8,8,8,8,8,8,8,8,8,8,8,8,8,8,8,8,8,8,8,8,8,8,8,8,8,8,8,8,8,8,8,8,8,8,8,8,8,8,8,8,8,8,8,8,8,8,8,8,8,8,8,8,8,8,8,8,8,8,8,8,8,8,8,8,8,8,8,8,8,8,8,8,8,8,8,8,8,8,8,8,8,8,8,8,8,8,8,8,8,8,8,8,8,8,8,8,8,8,8,8,8,8,8,8,8,8,8,8,8,8,8,8,8,8,8,8]⟩
theorem L2:q3.size=256:=by decide+kernel
theorem L3:∀q:Fin 256,q3.data.toList[q.val]?=σ (UInt8.ofNat (ef q.val)):=by decide+kernel
theorem L4{q:Nat}(a:q<256):∀h,(q3[q]'h).toNat=ef q:=λh=>by
 have h1:=L3 ⟨q,a⟩;have e:=(x4.1 h1).2;have:q3[q]=UInt8.ofNat (ef q):=e;have f:=Ce a;rw[this,UInt8.toNat_ofNat'];omega
theorem L5(E:n<18446744073709551616):am x7 Ib [.int .u64 (n:Int)] w λv w'=>v=Δ (ef n:Int)/\Ext w w':=by
 refine az func172 ?_;have step:∀{s x m:Nat}{aB:x1->x1->x3->Prop}{y c:Int},s<64->x<18446744073709551616->m+ef x=ef n->m<=64->y=(2 ^ s:Nat)->c=(s:Int)->2 ^ s<=18446744073709551615->(∀a cg:Nat,a<2 ^ s\/(a=x / 2 ^ s/\cg=m+s)->a<=x->cg+ef a=ef n->cg<=m+s->aB (.int .u64 (a:Int)) (Δ (cg:Int)) w)->
   ac x7 (aN .geq fJ false true (.int .u64 (x:Int)) (.int .u64 y)) w λt4=>
    Split t4 (ac x7 (aN .shr fJ false true (.int .u64 (x:Int)) (.int .u64 c)) w λr=>ac x7 (aN .add ah false true (Δ (m:Int)) (Δ c)) w λz=>aB r z w) (aB (.int .u64 (x:Int)) (Δ (m:Int)) w):=by
  intro s x m aB y c U J hm G A B p e;subst A B;rw[cn,al];refine⟨λh=>?_,λh=>e x m (.inl Ω) (o4 _) hm Ω⟩;rw[lj U,aO,wrap_i64 Ω Ω];have:=Ch (n:=x) (s:=s) Ω;have:=e (x / 2 ^ s) (m+s) (.inr ⟨rfl,rfl⟩) (Nat.div_le_self _ _) Ω Ω;exact this
 refine jh (λx m V=>w=V/\∃a cg:Nat,x= .int .u64 (a:Int)/\m=Δ (cg:Int)/\a<4294967296/\cg+ef a=ef n/\cg<=32) ?_ ?_
 rotate_left
 .intro aB e;rw[cn,al];refine⟨λh=>?_,λh=>e _ _ _ ⟨rfl,n,0,rfl,rfl,Ω,Ω,Ω⟩⟩;rw[show V5 .u64 32=V5 .u64 ((32:Nat):Int)from rfl,lj Ω];have:=Ch (n:=n) (s:=32) Ω;exact e _ _ _ ⟨rfl,n / 2 ^ 32,32,rfl,rfl,Ω,Ω,Ω⟩
 rintro _ _ _ ⟨rfl,x,m,rfl,rfl,J,hm,q⟩;refine jh (λx m V=>w=V/\∃a cg:Nat,x= .int .u64 (a:Int)/\m=Δ (cg:Int)/\a<65536/\cg+ef a=ef n/\cg<=48) ?_ ?_
 rotate_left
 .intro aB e;refine step (s:=16) Ω Ω hm Ω Ω Ω Ω λa cg h1 p f C=>e _ _ _ ⟨rfl,a,cg,rfl,rfl,?_,f,Ω⟩;rcases h1 with h1|⟨h1,_⟩<;>omega
 rintro _ _ _ ⟨rfl,x,m,rfl,rfl,J,hm,q⟩;refine jh (λx m V=>w=V/\∃a cg:Nat,x= .int .u64 (a:Int)/\m=Δ (cg:Int)/\a<256/\cg+ef a=ef n/\cg<=56) ?_ ?_
 rotate_left
 .intro aB e;refine step (s:=8) Ω Ω hm Ω Ω Ω Ω λa cg h1 p f C=>e _ _ _ ⟨rfl,a,cg,rfl,rfl,?_,f,Ω⟩;rcases h1 with h1|⟨h1,_⟩<;>omega
 rintro _ _ _ ⟨rfl,x,m,rfl,rfl,J,hm,q⟩;have U:=L2;have H:=Ce J;rw[fm fJ.u cK.u,wrap_u8 Ω Ω];refine(tx (s:=q3) cS.u (by rw[U];omega)).mpr ?_;rw[L4 J,fm cK.u ah.u,wrap_i64 Ω Ω,aO,wrap_i64 Ω Ω];exact⟨by congr 1;omega,Ext.refl _⟩
theorem Ci{k:o6}(f:n<64):ac x7 (aN .shr t cx cy (Δ (a:Int)) (.int k (n:Int))) w K=K (Δ ((a / 2 ^ n:Nat):Int)):=ac.of λw' _=>by
 have e:(a:Int).fdiv (2 ^ min n X9.bits)=((a / 2 ^ n:Nat):Int):=by
  have:min n X9.bits=n:=Nat.min_eq_left (by show n<=64;omega);rw[this,Int.fdiv_eq_ediv_of_nonneg _ (by exact Int.le_of_lt (Int.pow_pos Ω))];simp
 simp only[aN,eqGuard,binOp,Op.shift,r9,e];rfl
theorem L6:∀L:Fin 64,7<=L.val->2 ^ L.val<=10 ^ (L.val*78913 / 262144+1)/\10 ^ (L.val*78913 / 262144)<=10*2 ^ (L.val-1)/\1<=L.val*78913 / 262144/\L.val*78913 / 262144<19:=by decide+kernel
theorem L7{d:Nat}(z:e5 w)(h1:100<=d)(G:d<9223372036854775808):am x7 Jx [.int .u64 (d:Int)] w λv w'=>Ext w w'/\∃n:Nat,v=Δ ((n+1:Nat):Int)/\n<19/\10 ^ n<=d/\d<10 ^ (n+1):=by
 have p:d≠0:=Ω
 have q:ef d=Nat.log2 d+1:=by unfold ef;rw[if_neg p]
 have H:2 ^ (ef d-1)<=d:=by rw[q];exact Nat.log2_self_le p
 have I:d<2 ^ ef d:=by rw[q];exact Nat.lt_log2_self
 have A:7<=ef d:=by
  by_cases h:7<=ef d
  .exact h
  .have:2 ^ ef d<=2 ^ 6:=S2 Ω Ω;omega
 have B:ef d<64:=by
  by_cases h:ef d<64
  .exact h
  .have:2 ^ 63<=2 ^ (ef d-1):=S2 Ω Ω;omega
 obtain⟨C,r,t3,t4⟩:=L6 ⟨ef d,B⟩ A;simp only at C r t3 t4;refine az func309 ?_;refine(L5 Ω).mono ?_;rintro _ V _ ⟨rfl,a⟩;generalize ef d=L at*;refine am.mono (K:=λv aa=>v=Δ ((L*78913 / 262144:Nat):Int)/\Ext V aa) ?_ ?_
 .refine az func330 ?_;rw[hS,wrap_i64 Ω Ω,show V5 .u64 18=V5 .u64 ((18:Nat):Int)from rfl,show(L:Int)*78913=((L*78913:Nat):Int) by omega,Ci Ω];exact⟨rfl,Ext.refl _⟩
 rintro _ aa _ ⟨rfl,e⟩;generalize L*78913 / 262144=t at*;have E:=L1 t Ω;rw[sN (t:=sK) sK.u fJ.i Ω,aw Ψ (by rw[U7];exact((z.ext a).ext e) _ _ (lf E)),cn];refine am.mono (K:=λv x=>v=Δ ((if 10 ^ t<=d then 1 else 0:Nat):Int)/\Ext aa x) ?_ ?_
 .refine az func331 ?_;rw[al];refine⟨λh=>⟨by rw[if_pos Ω];rfl,Ext.refl _⟩,λh=>⟨by rw[if_neg Ω];rfl,Ext.refl _⟩⟩
 rintro _ x _ ⟨rfl,y⟩;rw[aO];by_cases f:10 ^ t<=d
 .rw[if_pos f,wrap_i64 Ω Ω];exact⟨(a.trans e).trans y,t,by congr 1,t4,f,Ω⟩
 .rw[if_neg f,wrap_i64 Ω Ω];obtain⟨s,rfl⟩:∃s,t=s+1:=⟨t-1,Ω⟩;rw[Nat.pow_succ]at r;exact⟨(a.trans e).trans y,s,by congr 1,Ω,Ω,Ω⟩
theorem Cj{k a:o6}{x:Int}{i:Nat}{s:ByteArray}(J:x=(i:Int))(e:y=(j:Int))(f:x7.underlying t=σ .string)(p:i<=j)(q:j<=s.size):
  ac x7 (U3 t (.string s) (σ (.int k x)) (σ (.int a y)) ν) w K=K (.string (s.extract i j)):=ac.of λw' _=>by
 subst J e;have r:=sO (P:=x7) w' (sl:=false) (n:=s.size) (c:=s.size) (low:=σ (.int k (i:Int))) (high:=σ (.int a (j:Int))) (mx:=ν) (l:=i) (h:=j) (m:=s.size) ⟨k,rfl⟩ ⟨a,rfl⟩ fc p q (o4 _);simp[U3,Instr.slice,run_underlying f,r]
theorem L8:∀q:Fin 100,jZ.extract (2*q.val) (2*q.val+2)=strOfNums [48+((q.val / 10:Nat):Int),48+((q.val % 10:Nat):Int)]:=by decide+kernel
def Ck:ByteArray:=⟨#[48,49,50,51,52,53,54,55,56,57,97,98,99,100,101,102,103,104,105,106,107,108,109,110,111,112,113,114,115,116,117,118,119,120,121,122]⟩
theorem L9:∀q:Fin 10,Ck.extract q.val (q.val+1)=strOfNums [48+(q.val:Int)]:=by decide+kernel
theorem Cl(h:n<10):fq n=[48+(n:Int)]:=by rw[n7,if_pos h,Nat.mod_eq_of_lt h];rfl
theorem Ma(h1:10<=n)(a:n<100):fq n=[48+((n / 10:Nat):Int),48+((n % 10:Nat):Int)]:=by
 rw[n7,if_neg Ω,Cl Ω];rfl
theorem Mb(a:n<100):am x7 Jw [Δ (n:Int)] w λv w'=>v=bL (fq n)/\Ext w w':=by
 refine az func308 ?_;rw[aS,al];refine⟨λh=>?_,λh=>?_⟩
 .rw[aO,wrap_i64 Ω Ω];refine(Cj (s:=Ck) (i:=n) (j:=n+1) rfl Ω cS.u Ω (by show n+1<=36;omega)).mpr ?_;rw[L9 ⟨n,Ω⟩,Cl Ω];exact⟨rfl,Ext.refl _⟩
 .rw[hS,wrap_i64 Ω Ω,hS,wrap_i64 Ω Ω,aO,wrap_i64 Ω Ω];refine(Cj (s:=jZ) (i:=2*n) (j:=2*n+2) Ω Ω cS.u Ω (by rw[Cg];omega)).mpr ?_;rw[L8 ⟨n,a⟩,Ma Ω a];exact⟨rfl,Ext.refl _⟩
theorem Mc{g:Nat}{e f:Λ}(a:j0 w g 1 e C f)(h:C.length<=23):aH .u8 w (.slice (σ ⟨g,1,ν⟩) C.length 23) C:=by
 obtain⟨a,p⟩:=a;refine⟨Ξ,g,1,_,23,rfl,h,by simp[maxLen],λ_=>rfl,λj v ad=>?_⟩;have q:j<C.length:=by have:=(x4.1 ad).1;simpa using this
 refine a.cell ?_;rw[ints,Z3,Z3,Y9 Θ,X0 Θ,u9,p,R6];exact ad
theorem Cm{g m:Nat}(a:y=((m+2:Nat):Int))(hm:m<=22):
  ac x7 (U3 mK (Γ g) (σ (Δ 1)) (σ (Δ y)) ν) w K=K (.slice (σ ⟨g,1,ν⟩) (m+1) 23):=by
 subst a;have:=sP (w:=w) (b:=g) (o:=0) (low:=σ (Δ 1)) (high:=σ (Δ ((m+2:Nat):Int))) (mx:=ν) (l:=1) (h:=m+2) (m:=24) (K:=K) mK.u cK.i ⟨_,rfl⟩ ⟨_,rfl⟩ fc Ω Ω Ω;rw[this,if_neg Ω];rfl
theorem Md(s:e5 w)(x:n<9223372036854775808):am x7 Jr [Δ (n:Int),Δ 10] w λv w'=>v=bL (fq n)/\Ext w w':=by
 refine az func296 ?_;rw[be];refine(al).mpr ⟨λ_=>?_,λh=>absurd rfl h⟩;refine aV (λv V=>w=V/\v= .bool (decide (n<100))) ?_ ?_
 rotate_left
 .intro aB a;rw[mL,al];refine⟨λ_=>?_,λh=>Ω⟩;rw[aS];exact a _ _ ⟨rfl,by congr 1;rw[V9,decide_eq_true_eq,decide_eq_true_eq];omega⟩
 rintro _ _ ⟨rfl,rfl⟩;rw[al];refine⟨λh=>?_,λh=>?_⟩
 .exact (Mb h).mono λ_ _ _ h=>h
 refine bo mK.i λg V G f y=>?_;rw[fm ao.u fJ.u,wrap_u64 Ω Ω];refine aV (λv aa=>V=aa/\v= .int .u64 (n:Int)) ?_ ?_
 rotate_left
 .intro aB a;rw[aS,al];exact⟨λh=>Ω,λ_=>a _ _ ⟨rfl,rfl⟩⟩
 rintro _ _ ⟨rfl,rfl⟩;refine(L7 (s.ext f) Ω x).mono ?_;rintro _ aa _ ⟨p,m,rfl,hm,z,q⟩;rw[aO,wrap_i64 Ω Ω];rw[Cm (m:=m) Ω Ω];have A:j0 aa g 1 [0] (p9 (m+1) 0) (p9 (22-m) 0):=by
  refine⟨?_,rfl⟩;have e:[0]++p9 (m+1) (0:Int)++p9 (22-m) 0=p9 24 0:=by
   rw[show[(0:Int)]=p9 1 0 from rfl,List.replicate_append_replicate,List.replicate_append_replicate];congr 1;omega
  rw[e];exact y.ext p
 refine(L0 (N:=m+1) A Ξ Ω q).mono ?_;rintro _ H _ ⟨rfl,B,C⟩;refine ct Ω ?_;rw[aO,wrap_i64 Ω Ω];rw[Cm (m:=m) Ω Ω];have E:=q1 (m+1) n;have U:=Mc C Ω;rw[E]at U;rw[wb cP.u cK.u cS.u U,Cf m n z q];refine⟨rfl,(f.trans p).then B λr I he=>?_⟩;have he:r=g:=he;omega
theorem Me(a:e5 w)(e:n<9223372036854775808):am x7 vI [Δ (n:Int)] w λv w'=>v=bL (fq n)/\Ext w w':=by
 refine az func233 ?_;refine am.mono (K:=λv w'=>v=bL (fq n)/\Ext w w') ?_ (λ_ _ _ h=>h);refine az func272 ?_;exact(Md a e).mono λ_ _ _ h=>h
theorem e5.ab(h:e5 w)(J:ai S w w')(a:¬S 1):e5 w':=iI J a h
def dm(w:x3)(g gs:Nat)(A:ak)(B:ak)(clean:Bool)(s:Option aE):Prop:=match s with
 |some s=>di w g gs A B s clean
 |none=>ey w g gs A B
theorem gb.of{g:Nat}{A:ak}{B:ak}{s:Option aE}(h:gb w g gs A B clean s w'):ai (bF g gs A) w w'/\dm w' g gs A B clean s:=h
theorem gb.mk{g:Nat}{A:ak}{B:ak}{s:Option aE}(h:ai (bF g gs A) w w')(a:dm w' g gs A B clean s):gb w g gs A B clean s w':=⟨h,a⟩
theorem dm.ab{g:Nat}{A:ak}{B:ak}{s:Option aE}(h:dm w g gs A B clean s)(J:ai S w w')(a:∀r,bF g gs A r->¬S r)(e:∀r,cH g gs A B r->¬S r):dm w' g gs A B clean s:=by
 cases s with
 |none=>exact ey.ab (g:=g) (gs:=gs) (A:=A) (B:=B) h J a e
 |some s=>exact di.ab (g:=g) (gs:=gs) (A:=A) (B:=B) (s:=s) (clean:=clean) h J a e
theorem dm.ext{g:Nat}{A:ak}{B:ak}{s:Option aE}(h:dm w g gs A B clean s)(J:Ext w w'):dm w' g gs A B clean s:=h.ab (J.ab λ_=>False) (λ_ _ h=>h) λ_ _ h=>h
theorem dm.side{g:Nat}{A:ak}{B:ak}{s:Option aE}(h:dm w g gs A B clean s):lp w g gs A B:=by
 cases s with
 |none=>exact h.1
 |some s=>exact h.1
def bc(lo hi:Int)(s:Option aE):Option (Int×aE):=s.bind (bd lo hi)
theorem mi{g:Nat}{A:ak}{B:ak}{s:Option aE}(h:dm w g gs A B clean s):am x7 nL [Γ g,Δ lo,Δ hi] w λv w'=>gb w g gs A B clean ((bc lo hi s).map (·.2)) w'/\∃n at_:Int,v= .tuple #[Δ n,Δ at_]/\(∀q,bc lo hi s=σ q->n=q.1)/\(bc lo hi s=ν->n=0):=by
 cases s with
 |none=>
  refine(K7 h).mono ?_;rintro _ V _ ⟨J,rfl⟩;exact⟨⟨J.ab _,ey.ext (g:=g) (gs:=gs) (A:=A) (B:=B) h J⟩,0,0,rfl,λq h=>(by cases h),λ_=>rfl⟩
 |some s=>exact wx (s:=s) h
theorem pI{g:Nat}{A:ak}{B:ak}{s:Option aE}(h:dm w g gs A B clean s):am x7 k8 [Γ g] w λv w'=>v= .bool s.isSome/\Ext w w':=by
 cases s with
 |none=>exact od h
 |some s=>exact py h
theorem Mf{g:Nat}{A:ak}{B:ak}{s:Option aE}{e:Int}(h:dm w g gs A B clean s)(he:e≠0):am x7 nM [Γ g,Δ e,Δ at_] w λ_ w'=>gb w g gs A B clean ν w':=by
 cases s with
 |none=>
  refine(K5 h).mono ?_;rintro _ V _ J;exact⟨J.ab _,ey.ext (g:=g) (gs:=gs) (A:=A) (B:=B) h J⟩
 |some s=>
  refine(tg (s:=s) h he).mono ?_;rintro _ V _ ⟨a,f⟩;exact⟨a.mono λr _ h=>.inl h,f⟩
theorem q4{g:Nat}{A:ak}{B:ak}{s:Option aE}{b:Bool}(h:dm w g gs A B clean s):am x7 qv [Γ g,.bool b,Δ at_] w λ_ w'=>gb w g gs A B clean (s.map (a8 b)) w':=by
 cases s with
 |none=>
  refine(BJ h).mono ?_;rintro _ V _ J;exact⟨J.ab _,ey.ext (g:=g) (gs:=gs) (A:=A) (B:=B) h J⟩
 |some s=>
  refine(th (s:=s) h).mono ?_;rintro _ V _ ⟨a,e⟩;exact⟨a.mono λr _ h=>.inl h,e⟩
theorem m4{n:Int}{s:Option aE}{s':aE}(h:bc lo hi s=σ (n,s')):lo<=n/\n<=hi:=by
 cases s with
 |none=>cases h
 |some s=>exact(hU h).1
def e6(ks acc:Λ)(s:Option aE):Option (Λ×aE):=s.bind (iL ks acc)
theorem Cn{acc:Λ}{s:Option aE}:e6 (k::ks) acc s=match bc 0 (k-1) s with
  |none=>ν
  |some (v,s)=>iL ks (acc++[v]) s:=by
 cases s with
 |none=>rfl
 |some s=>
  show iL (k::ks) acc s=_;rw[iL];show _=match bd 0 (k-1) s with|none=>ν|some (v,s)=>iL ks (acc++[v]) s
  cases bd 0 (k-1) s<;>rfl
theorem Co:∀(t:Λ),(∀x∈t,0<=x/\x<=ax)->(dY t).length<=20*t.length
 |[],_=>by simp[dY]
 |x::t,h=>by
  have f:=Co t λy a=>h y (.tail _ a);have J:=h x (.head _);have p:=wg 19 x.toNat (by unfold ax at J;omega) Ω;have e:dY (x::t)=fq x.toNat++[32]++dY t:=by simp[dY]
  rw[e];simp only[r8,j9,List.length_nil];omega
theorem Mg{g ap:Nat}{A B:ak}{s:Option aE}{Z:x1->x3->Prop}(h:dm w g gs A B clean s)(ae:aH .i64 w sv sizes)(aP:∀r,leads sv r->¬bF g gs A r/\r≠ap)(aQ:∀z∈sizes,1<=z/\z<=ax)(bO:sizes.length<=100001)(aR:e5 w)(h1:cH g gs A B 1)(ag:af w ap dX [.slice ν 0 0,Δ 0])(aj:¬bF g gs A ap)(al:¬B ap)(an:∀t w' aL gt,t.length=sizes.length->(∀x∈t,0<=x/\x<=ax)->ai (λr=>bF g gs A r\/r=ap) w w'->af w' ap dX [aL,Δ 0]->av .i64 ao w' gt aL t->w.heap.size<=gt->
   dm w' g gs A B clean ((e6 sizes [] s).map (·.2))->(∀q,e6 sizes [] s=σ q->t=q.1)->Z (bL (dY t)) w'):
  b5 (.string ⟨#[]⟩) (Δ 0) w λkey R y aS=>
   ac x7 (aN .lss ah false false R (Δ (sizes.length:Int))) y λaT=>
   Split aT (ac x7 (c9 ay sv R) y λaV=>
   ac x7 (u5 ao aV) y λaW=>
   ac x7 (aN .sub ao false true aW (Δ 1)) y λaX=>
   am x7 nL [Γ g,(Δ 0),aX] y λaq E=>
   ac x7 (Y1 aq 0) E λau=>
   ac x7 (Y1 aq 1) E λbP=>
   ac x7 (u6 dX (Γ ap) 0) E λaY=>
   ac x7 (u5 ay aY) E λaZ=>
   aD x7 (Y3 ay 1 #[(0,au)]) E λa1 a2=>
   aD x7 (Z2 #[ay,ay] ay #[aZ,a1]) a2 λa6 aw=>
   ac x7 (u6 dX (Γ ap) 0) aw λa7=>
   aD x7 (o9 ay a7 a6) aw λ(_:Unit)a8=>
   am x7 vI [au] a8 λba I=>
   ac x7 (aN .add cS false true ba (.string ⟨#[32]⟩)) I λbb=>
   ac x7 (aN .add cS false false key bb) I λbd=>
   ac x7 (aN .add ah false true R (Δ 1)) I λbe=>
   aS bd be I) (Z key y):=by
 have bQ:=ag.lt;have bf:=h.side;obtain⟨bR,bS,bT,bg,bi⟩:=bf;refine b5.range sizes.length (λj key V=>∃t aL gt s1,key=bL (dY t)/\t.length=j/\(∀x∈t,0<=x/\x<=ax)/\ai (λr=>bF g gs A r\/r=ap) w V/\af V ap dX [aL,Δ 0]/\av .i64 ao V gt aL t/\w.heap.size<=gt/\
  dm V g gs A B clean s1/\e6 sizes [] s=e6 (sizes.drop j) t s1) ae.le ⟨[],_,w.heap.size,s,rfl,rfl,λx J=>(by cases J),ai.refl _ _,ag,av.nil _ _ _ _,o4 _,h,rfl⟩ ?_ ?_
 rotate_left
 .rintro _ V bj ⟨t,aL,gt,s1,rfl,K,G,C,L,M,S,N,he⟩;refine ct Ω ?_;rw[List.drop_length]at he;cases s1 with
  |none=>
   have he:e6 sizes [] s=ν:=he;exact an t V aL gt K G C L M S (by rw[he];exact N) (λq e=>by rw[he]at e;cases e)
  |some s1=>
   have he:e6 sizes [] s=σ (t,s1):=he;exact an t V aL gt K G C L M S (by rw[he];exact N) (λq e=>by rw[he]at e;cases e;rfl)
 rintro j _ V bj az ⟨t,aL,gt,s1,rfl,K,G,C,L,M,S,N,he⟩ bk;obtain⟨z,U⟩:=aI (l:=sizes) az;have bm:=aQ z (x5 U);have bU:z<=4611686018427387904:=bm.2;have bn:aH .i64 V sv sizes:=hT ae C λr f a n c ad bo=>by
  have:=aP r ⟨a,n,c,ad,bo⟩;exact f.elim this.1 this.2
 have gT:∀r,bF g gs A r->r<w.heap.size:=bg;refine bH Ω ?_;rw[bh ay.u ao.i Ψ bn U,dO,wrap_i64 Ω Ω];refine(mi N).mono ?_;rintro _ aa _ ⟨bp,n,at_,rfl,aA,bt⟩;obtain⟨O,bu⟩:=bp.of;have aB:0<=n/\n<=ax:=by
  cases e:bc 0 (z-1) s1 with
  |none=>rw[bt e];exact⟨Ω,by unfold ax;omega⟩
  |some q=>
   rw[aA q e];have:=m4 (s':=q.2) (n:=q.1) e;exact⟨this.1,by unfold ax;omega⟩
 rw[bq,br];have aC:=L.ab O aj;have bw:=M.ab O λ_ bx=>by have:=gT _ bx;omega
 rw[aM dX.p 0 aC rfl];refine ee ay.u ao.i rfl λa ga bz bV H bA=>?_;refine jn ay.u ao.i rfl (bw.ext H) bA.ls Θ Θ λaF aG bB bW W P=>?_;have bX:=C.size;have bY:=O.size;have z3:=H.size;have z4:=P.size;rw[aU dX.p rfl];have bC:=(aC.ext H).ab P (λhe=>by have he:ap=gt:=he;omega);refine bl (g:=ap) (o:=0) ay.i W.ls.cells.1 W.ls.cells.2 bC Ξ λaJ X bZ Y=>?_;have Y:af aJ ap dX [aF,Δ 0]:=Y;have bD:ai (λr=>bF g gs A r\/r=ap) w bz:=(C.trans (O.mono λr _ h=>.inl h)).trans (H.ab _);have bE:ai (λr=>bF g gs A r\/r=ap) w bB:=hz bD P λr f he=>by have he:r=gt:=he;omega
 have aK:ai (λr=>bF g gs A r\/r=ap) w aJ:=bE.trans (X.mono λr _ h=>.inr h);have bG:¬(λr=>bF g gs A r\/r=ap) 1:=λh=>h.elim h1.1 λh=>al (h▸h1.2);obtain⟨m,rfl⟩:∃m:Nat,n=(m:Int):=⟨n.toNat,Ω⟩;unfold ax at aB;refine(Me (aR.ab aK bG) Ω).mono ?_;rintro _ b0 _ ⟨rfl,Q⟩;have b1:=wg 19 m Ω Ω;have b2:=Co t G;rw[show(ByteArray.mk #[32])=strOfNums [32]from rfl,v8 Θ,v8 Θ,aO];refine bk _ _ ⟨t++[(m:Int)],aF,aG,(bc 0 (z-1) s1).map (·.2),?_,by simp[K],λx J=>?_,aK.trans (Q.ab _),Y.ext Q,(W.ab X (λ_ he=>by have he:aG=ap:=he;omega)).ext Q,Ω,?_,?_⟩
 .rw[Kp,r9]
 .rcases o5.1 J with J|J
  .exact G x J
  .rw[l9.1 J];exact aB
 .refine dm.ext ?_ Q;have bI:=bu.ext H;have bJ:∀r,bF g gs A r->¬(λr=>r=gt) r:=λr f he=>by have:=gT r f;have he:r=gt:=he;omega
  have bK:∀r,cH g gs A B r->¬(λr=>r=gt) r:=λr f he=>by have:=bi r f.2;have he:r=gt:=he;omega
  have bM:∀r,bF g gs A r->¬(λr=>r=ap) r:=λr f he=>by have he:r=ap:=he;exact aj (he▸f)
  have bN:∀r,cH g gs A B r->¬(λr=>r=ap) r:=λr f he=>by have he:r=ap:=he;exact al (he▸f.2)
  exact(bI.ab P bJ bK).ab X bM bN
 .rw[he,W3 az,show sizes[j]=z from(x4.1 U).2,Cn];cases e:bc 0 (z-1) s1 with
  |none=>rfl
  |some q=>
   rw[aA q e];rfl
def dR(s:aE):Prop:=s.big=false->s.told<=16384
def j1(n:Int)(s:aE):aE:=a8 (decide (16384<min (s.told+n) ax)) {s with told:=min (s.told+n) ax}
theorem Mh(n:Int)(s:aE):dR (j1 n s):=λh=>by
 have h:(s.big||decide (16384<min (s.told+n) ax))=false:=h;have:=of_decide_eq_false (S7.1 h).2;show min (s.told+n) ax<=16384;omega
theorem Mi{g:Nat}{A B:ak}{s:Option aE}{n:Int}{K:x3->Prop}(h:dm w g gs A B clean s)(N:∀t,s=σ t->0<=n/\n<=ax/\dR t)(I:∀w',ai (bF g gs A) w w'->dm w' g gs A B clean (s.map (j1 n))->K w'):
  ac x7 (bP (Γ g)) w λO=>
  ac x7 (u6 ch O 2) w λP=>
  ac x7 (u5 ao P) w λQ=>
  ac x7 (aN .add ao false false Q (Δ n)) w λR=>
  ac x7 (Z6.min_ #[ao,ao] ao #[R,(Δ 4611686018427387904)]) w λS=>
  ac x7 (bP (Γ g)) w λW=>
  ac x7 (u6 ch W 2) w λX=>
  aD x7 (o9 ao X S) w λ(_:Unit)x=>
  ac x7 (bP (Γ g)) x λt77=>
  ac x7 (u6 ch t77 2) x λY=>
  ac x7 (u5 ao Y) x λZ=>
  ac x7 (aN .gtr ao false true Z (Δ 16384)) x λad=>
  am x7 qv [Γ g,ad,Δ at_] x λ_ ae=>K ae:=by
 cases s with
 |none=>
  obtain⟨U,e,big,z,C,told,sv,l,y,E,G⟩:=id h;rw[aQ ch.p 2 y rfl,aO,l8,bV,aU ch.p rfl];refine bl (g:=g) (o:=5) ao.i rfl rfl y (by simp[fS]) λV a ag f=>?_;rw[aQ ch.p 2 f rfl,bN];have J:ey V g gs A B:=⟨U.ab a,e,big,z,C,_,sv,l,f,E,aq.ab G a λr _ h H=>te h U.2.1 H⟩;refine(BJ J).mono ?_;rintro _ aa _ L;exact I _ ((a.mono λr _ h=>.inl h).trans (L.ab _)) (J.ext L)
 |some s=>
  obtain⟨av,ah,hi⟩:=N s rfl;obtain⟨U,aj,al,big,z,C,told,sv,y,E,G⟩:=id h;rw[aQ ch.p 2 y rfl,aO,l8,bV,aU ch.p rfl];refine bl (g:=g) (o:=5) ao.i rfl rfl y (by simp[fS]) λV a ag f=>?_;have f:af V g ch (fS gs 0 big z C (min (X9.wrap (told+n)) 4611686018427387904) sv):=f;rw[aQ ch.p 2 f rfl,bN];have key:s.big=false->min (X9.wrap (told+n)) 4611686018427387904=min (s.told+n) ax:=λq=>by
   rw[E.2 q];have:=hi q;unfold ax at ah ⊢;rw[wrap_i64 Ω Ω]
  have an:di V g gs A B {s with told:=min (s.told+n) ax} clean:=⟨U.ab a,aj.ab a (λhe=>U.1 he.symm) (λr ap he=>ap.1 (.inl he)),⟨by show 0<=min _ _;unfold ax;omega,by show min _ _<=_;omega,al.2.2⟩,big,z,C,_,sv,f,⟨E.1,key⟩,aq.ab G a λr _ h H=>te h U.2.1 H⟩;refine(th an).mono ?_;rintro _ aa _ ⟨au,M⟩;refine I _ ((a.trans au).mono λr _ h=>.inl h) ?_;have e:a8 (decide (16384<min (X9.wrap (told+n)) 4611686018427387904)) {s with told:=min (s.told+n) ax}=j1 n s:=by
   cases q:s.big with
   |false=>rw[key q,<-q];rfl
   |true=>simp[j1,a8,q]
  rw[e]at M;exact M
def iQ(sizes:Λ)(s:Option aE):Option (List (Λ×Int)×aE):=s.bind (dA sizes)
def lu(w:x3)(m:Nat)(acc:List (Λ×Int)):Prop:=db w m (acc.map λp=>(bL (dY p.1),Δ 1))
def kH(w:x3)(m:Nat):Prop:=∃d,db w m d/\∀p∈d,∃(k:ByteArray)(c:Int),p=(.string k,Δ c)
theorem lu.any{m:Nat}{acc:List (Λ×Int)}(h:lu w m acc):kH w m:=⟨_,h,λp a=>by
 obtain⟨q,_,rfl⟩:=j5.1 a;exact⟨_,_,rfl⟩⟩
theorem Mj{m:Nat}{k:ByteArray}(h:kH w m)(f:∀c:Int,K (Δ c)):ac x7 (Instr.lookup gU (.map (σ m)) (.string k) false) w K:=by
 obtain⟨d,hm,q⟩:=h;have hk:=Keys.str cS.u;have r:∀p∈d,∃s,p.1=x1.string s:=λp a=>by obtain⟨s,c,rfl⟩:=q p a;exact⟨s,rfl⟩
 by_cases he:∃p∈d,p.1=x1.string k
 .obtain⟨p,a,e⟩:=he;obtain⟨j,x⟩:=X7.1 a;obtain⟨s,c,rfl⟩:=q p a;have e:x1.string s=x1.string k:=e;rw[e]at x;rw[qV gU.u hk hm r ⟨k,rfl⟩ x];exact f c
 .have y:∀p∈d,p.1≠x1.string k:=λp a h=>he ⟨p,a,h⟩;rw[tq gU.u hk ⟨_,_,ah.i⟩ hm r ⟨k,rfl⟩ y];exact f 0
theorem Mk{m:Nat}{k:ByteArray}{K:Unit->x3->Prop}(h:kH w m)(x:∀w',ai (λr=>r=m) w w'->kH w' m->K () w'):aD x7 (Instr.mapUpdate gU (.map (σ m)) (.string k) (Δ c)) w K:=by
 obtain⟨d,hm,e⟩:=h;have y:∀p∈d,∃s,p.1=x1.string s:=λp a=>by obtain⟨s,c,rfl⟩:=e p a;exact⟨s,rfl⟩
 refine qW gU.u (Keys.str cS.u) hm y ⟨k,rfl⟩ (λj v0 w' z f q=>x w' q ⟨_,f,λp a=>?_⟩) (λw' A f q=>x w' q ⟨_,f,λp a=>?_⟩)
 .rcases W5 a with a|rfl
  .exact e p a
  .exact⟨_,_,rfl⟩
 .rcases o5.1 a with a|a
  .exact e p a
  .rw[l9.1 a];exact⟨_,_,rfl⟩
theorem Cp{a b:Λ}(e:∀x∈a,0<=x)(f:∀x∈b,0<=x)(h:bL (dY a)=bL (dY b)):a=b:=by
 have h:strOfNums (dY a)=strOfNums (dY b):=x1.string.inj h;exact AZ e f (str_inj (A0 a) (A0 b) h)
theorem wN{acc:List (Λ×Int)}:∀p∈acc.map λp=>(bL (dY p.1),V5 .i64 1),∃s,p.1=x1.string s:=λp a=>by
 obtain⟨q,_,rfl⟩:=j5.1 a;exact⟨_,rfl⟩
theorem Cq{m:Nat}{acc:List (Λ×Int)}{t:Λ}(h:lu w m acc)(f:∀p∈acc,∀x∈p.1,0<=x)(r:∀x∈t,0<=x):
  ac x7 (Instr.lookup gU (.map (σ m)) (bL (dY t)) false) w K=K (Δ (if t∈acc.map (·.1)then 1 else 0)):=by
 have hk:=Keys.str cS.u;by_cases he:t∈acc.map (·.1)
 .rw[if_pos he];obtain⟨p,a,rfl⟩:=j5.1 he;obtain⟨j,s⟩:=X7.1 a;rw[qV gU.u hk h wN ⟨_,rfl⟩ (j:=j) (v:=Δ 1) (by rw[x8,s];rfl)];simp
 .rw[if_neg he];rw[tq gU.u hk ⟨_,_,ah.i⟩ h wN ⟨_,rfl⟩ (λp a y=>?_)]
  .simp
  .obtain⟨q,e,rfl⟩:=j5.1 a;have:=Cp (f q e) r y;exact he (j5.2 ⟨q,e,this⟩)
theorem Ml{m:Nat}{acc:List (Λ×Int)}{t:Λ}{K:Unit->x3->Prop}(h:lu w m acc)(z:∀p∈acc,∀x∈p.1,0<=x)(A:∀x∈t,0<=x)(B:t∉acc.map (·.1))(C:∀w',ai (λr=>r=m) w w'->lu w' m (acc++[(t,c)])->K () w'):aD x7 (Instr.mapUpdate gU (.map (σ m)) (bL (dY t)) (Δ 1)) w K:=by
 refine qW gU.u (Keys.str cS.u) h wN ⟨_,rfl⟩ (λj v0 w' e f s=>?_) (λw' _ f s=>C w' s ?_)
 .rw[x8]at e;obtain⟨q,y,a⟩:=X4.1 e;have a:bL (dY q.1)=bL (dY t):=congrArg Prod.fst a;have:=Cp (z q (x5 y)) A a;exact absurd (j5.2 ⟨q,x5 y,this⟩) B
 .unfold lu;rw[Z3];exact f
theorem Mm{m:Nat}{acc:List (Λ×Int)}{t:Λ}{ok:Prop}{K:Unit->x3->Prop}(e:kH w m)(A:ok->lu w m acc/\(∀p∈acc,∀x∈p.1,0<=x)/\(∀x∈t,0<=x)/\t∉acc.map (·.1))(f:∀w',ai (λr=>r=m) w w'->kH w' m->(ok->lu w' m (acc++[(t,c)]))->K () w'):
  ac x7 (Instr.lookup gU (.map (σ m)) (bL (dY t)) false) w λB=>
  ac x7 (aN .add ah false true B (Δ 1)) w λC=>
  aD x7 (Instr.mapUpdate gU (.map (σ m)) (bL (dY t)) C) w K:=by
 by_cases q:ok
 .obtain⟨h1,s,y,z⟩:=A q;rw[Cq h1 s y,if_neg z,aO,wrap_i64 Ω Ω];exact Ml (c:=c) h1 s y z λw' a U=>f w' a U.any λ_=>U
 .refine Mj e λgX=>?_;rw[aO];exact Mk e λw' a U=>f w' a U λh=>absurd h q
def fv{α:Type}(f:List α->aE->Option (α×aE))(n:Nat)(acc:List α)(o:Option aE):Option (List α×aE):=o.bind (cL f n acc)
theorem kH.ab{m:Nat}(h:kH w m)(J:ai S w w')(a:¬S m):kH w' m:=by
 obtain⟨d,h1,e⟩:=h;exact⟨d,h1.ab J a,e⟩
theorem dm.words{g:Nat}{A:ak}{B:ak}{s:aE}(h:dm w g gs A B clean (σ s)):s.toks.length<=100000:=by
 have h:di w g gs A B s clean:=h;exact h.2.1.words.1
theorem Cr{acc:List (Λ×Int)}{st:aE}{t:Λ}(p:∀q,e6 sizes [] (σ st)=σ q->t=q.1)(a:∀q,bc 0 ax ((e6 sizes [] (σ st)).map (·.2))=σ q->c=q.1):
  (bc 0 ax ((e6 sizes [] (σ st)).map (·.2))=ν->dQ sizes acc st=ν)/\∀q,bc 0 ax ((e6 sizes [] (σ st)).map (·.2))=σ q->dQ sizes acc st=if t∈acc.map (·.1)then ν else σ ((t,c),q.2):=by
 have e:e6 sizes [] (σ st)=iL sizes [] st:=rfl;rw[e]at p a ⊢;unfold dQ;cases h1:iL sizes [] st with
 |none=>exact⟨λ_=>rfl,λq f=>(by cases f)⟩
 |some q=>
  obtain⟨bp,s1⟩:=q;rw[h1]at p a;have:=p _ rfl;subst this;have r:bc 0 ax ((σ (t,s1)).map (·.2))=bd 0 ax s1:=rfl;rw[r]at a ⊢;simp only;cases s:bd 0 ax s1 with
  |none=>exact⟨λ_=>rfl,λq f=>(by cases f)⟩
  |some q=>
   obtain⟨w,x⟩:=q;rw[s]at a;have:=a _ rfl;subst this;exact⟨λh=>(by cases h),λq f=>(by cases f;rfl)⟩
theorem Mn{g:Nat}{A B:ak}{s:Option aE}{Q:x1->x3->Prop}(h:dm w g gs A B clean s)(bY:aH .i64 w sv sizes)(aX:∀r,leads sv r->¬bF g gs A r/\r<w.heap.size)(bZ:∀z∈sizes,1<=z/\z<=ax)(b1:sizes.length<=100001)(b2:e5 w)(h1:cH g gs A B 1)(b3:(N:Int)<=ax)(bt:∀v w' l,gb w g gs A B clean ((fv (dQ sizes) N [] s).map (·.2)) w'->bG (eH w.heap.size) bB w' [v] (show List (Λ×Int)from l)->(∀q,fv (dQ sizes) N [] s=σ q->l=q.1)->Q v w'):
  aD x7 (Instr.makeMap gU ν) w λaY C=>
 b5 (.slice ν 0 0) (Δ 0) C λout i I k=>
  cz (α:=x1->x3->Prop) (λ(b4:x1)(V:x3)=>
   Split b4 (aD x7 (Instr.alloc dX true (.tuple #[])) V λx y=>
  ac x7 (V2 #[ay] ah #[sv]) y λb6=>
  b5 (.string ⟨#[]⟩) (Δ 0) y λkey aZ W b7=>
   ac x7 (aN .lss ah false false aZ b6) W λb8=>
   Split b8 (ac x7 (c9 ay sv aZ) W λb9=>
   ac x7 (u5 ao b9) W λca=>
   ac x7 (aN .sub ao false true ca (Δ 1)) W λcb=>
   am x7 nL [Γ g,(Δ 0),cb] W λbu aa=>
   ac x7 (Y1 bu 0) aa λbw=>
   ac x7 (Y1 bu 1) aa λdu=>
   ac x7 (u6 dX x 0) aa λcc=>
   ac x7 (u5 ay cc) aa λcd=>
   aD x7 (Y3 ay 1 #[(0,bw)]) aa λce K=>
   aD x7 (Z2 #[ay,ay] ay #[cd,ce]) K λcg bx=>
   ac x7 (u6 dX x 0) bx λch=>
   aD x7 (o9 ay ch cg) bx λ(_:Unit)ci=>
   am x7 vI [bw] ci λcj aF=>
   ac x7 (aN .add cS false true cj (.string ⟨#[32]⟩)) aF λck=>
   ac x7 (aN .add cS false false key ck) aF λcl=>
   ac x7 (aN .add ah false true aZ (Δ 1)) aF λcm=>
   b7 cl cm aF)
    (am x7 nL [Γ g,(Δ 0),(Δ 4611686018427387904)] W λbz aG=>
  ac x7 (Y1 bz 0) aG λcn=>
  ac x7 (Y1 bz 1) aG λcp=>
  ac x7 (u6 dX x 1) aG λcq=>
  aD x7 (o9 ao cq cn) aG λ(_:Unit)cr=>
  cz (α:=x3->Prop) (λ(X:x3)=>
   ac x7 (Instr.lookup gU aY key false) X λct=>
   ac x7 (aN .add ah false true ct (Δ 1)) X λcu=>
   aD x7 (Instr.mapUpdate gU aY key cu) X λ(_:Unit)ae=>
   ac x7 (u5 dX x) ae λcw=>
   aD x7 (Y3 iF 1 #[(0,cw)]) ae λcA aw=>
   aD x7 (Z2 #[iF,iF] iF #[out,cA]) aw λcB aI=>
   ac x7 (aN .add ao false true i (Δ 1)) aI λcC=>
  k cB cC aI) λbA=>
  cz (α:=x1->x3->Prop) (λ(cD:x1)(P:x3)=>
   Split cD (am x7 nM [Γ g,(Δ 4),cp] P λdv bC=>
    bA bC)
    (bA P)) λbD=>
  am x7 k8 [Γ g] cr λcE ag=>
  Split cE (ac x7 (Instr.lookup gU aY key false) ag λcF=>
  ac x7 (aN .gtr ah false true cF (Δ 0)) ag λcG=>
  bD cG ag)
   (bD (.bool false) ag)))
    (Q out V)) λbE=>
  ac x7 (aN .lss ao false false i (Δ (N:Int))) I λcI=>
  Split cI (am x7 k8 [Γ g] I λcJ cK=>
  bE cJ cK)
   (bE (.bool false) I):=by
 obtain⟨dw,dx,dy,cL,aJ⟩:=h.side;have gT:∀r,bF g gs A r->r<w.heap.size:=cL;unfold ax at b3;refine tp λE C dz a2 a6=>?_;have dA:=a2.size;have dC:=a6.lt;generalize G:fv (dQ sizes) N [] s=bH at bt;refine⟨λout a7 I=>∃(i:Nat)(acc:List (Λ×Int))(so:Option aE),a7=Δ (i:Int)/\i<=N/\ai (bF g gs A) w I/\C.heap.size<=I.heap.size/\bG (eH C.heap.size) bB I [out] acc/\dm I g gs A B clean so/\
   bH=fv (dQ sizes) (N-i) acc so/\kH I E/\acc.length<=100001/\∀st,so=σ st->lu I E acc/\(∀p∈acc,∀x∈p.1,0<=x)/\acc.length+st.toks.length<=100000,
  λ_ a7 _=>N-(bU a7).toNat,⟨0,[],s,rfl,X6 _,a2.ab _,o4 _,ht,h.ext a2,G.symm,⟨[],a6,λp O=>(by cases O)⟩,Ξ,λst cM=>⟨a6,λp O=>(by cases O),?_⟩⟩,?_⟩
 .subst cM;have:=h.words;simpa using this
 rintro out _ I ⟨i,acc,so,rfl,dD,bI,z9,bJ,a8,aK,cN,dE,ba⟩;refine aV (λv V=>Ext I V/\((v= .bool true/\i<N/\∃st,so=σ st)\/(v= .bool false/\(so=ν\/i=N)))) ?_ ?_
 rotate_left
 .intro aB bb;rw[aS,al];refine⟨λcO=>?_,λdF=>bb _ _ ⟨Ext.refl _,.inr ⟨rfl,.inr Ω⟩⟩⟩;refine(pI a8).mono ?_;rintro _ V _ ⟨rfl,S⟩;cases so with
  |none=>exact bb _ _ ⟨S,.inr ⟨rfl,.inl rfl⟩⟩
  |some st=>exact bb _ _ ⟨S,.inl ⟨rfl,Ω,st,rfl⟩⟩
 rintro _ V ⟨S,cP⟩;rcases cP with⟨rfl,cO,st,rfl⟩|⟨rfl,cQ⟩
 rotate_left
 .rw[a1];have bL:bH=so.map λst=>(acc,st):=by
   rcases cQ with rfl|rfl
   .exact aK
   .rw[U8]at aK;rw[aK];cases so<;>rfl
  refine bt out V acc (gb.mk (bI.trans (S.ab _)) ?_) (b0 (aq.mono bJ (λr _ h=>by have h:C.heap.size<=r:=h;show w.heap.size<=r;omega) λ_ _ h=>h) S) (λq L=>?_)
  .rw[bL,Option.map_map];have e:V7 ((λx=>x.2)∘λst=>(acc,st)) so=so:=by cases so<;>rfl
   rw[e];exact a8.ext S
  .rw[bL]at L;cases so with
   |none=>cases L
   |some st=>cases L;rfl
 rw[bT];obtain⟨ba,bd,dG⟩:=ba st rfl;have dH:=S.size;refine bo dX.i λap y dI bM bO=>?_;have az:=S.trans bM;have be:ai (bF g gs A) w y:=bI.trans (az.ab _);have bP:aH .i64 y sv sizes:=hT bY be λr f a n c ad cR=>(aX r ⟨a,n,c,ad,cR⟩).1 f;rw[aW ay.u bP];have aM:¬bF g gs A ap:=λG=>by have:=gT _ G;omega
 refine Mg (s:=σ st) (a8.ext az) bP (λr f=>⟨(aX r f).1,by have:=(aX r f).2;omega⟩) bZ b1 (b2.ab be h1.1) h1 bO aM (λcT=>by have:=aJ _ cT;omega) λt W aL gt dJ cU bQ cV cW cX cY cZ=>?_;have dK:=bM.size;have z12:=bQ.size;have dL:=bO.lt;have bf:∀x∈t,0<=x:=λx J=>(cU x J).1;refine(mi cY).mono ?_;rintro _ aa _ ⟨bg,c,dM,rfl,c0,dN⟩;obtain⟨aP,c1⟩:=bg.of;have dO:=aP.size;rw[bq,br,aU dX.p rfl];refine bl (g:=ap) (o:=1) ao.i rfl rfl (cV.ab aP aM) Ξ λK aQ dP bh=>?_;have bh:af K ap dX [aL,Δ c]:=bh;have c2:av .i64 ao K gt aL t:=(cW.ab aP (λ_ G=>by have:=gT _ G;omega)).ab aQ (λ_ he=>by have he:gt=ap:=he;omega);have bi:ai (λr=>bF g gs A r\/r=ap) y K:=(bQ.trans (aP.mono λr _ h=>.inl h)).trans (aQ.mono λr _ h=>.inr h);have Y:dm K g gs A B clean ((bc 0 ax ((e6 sizes [] (σ st)).map (·.2))).map (·.2)):=c1.ab aQ (λr f he=>by have he:r=ap:=he;exact aM (he▸f)) (λr f he=>by have:=aJ r f.2;have he:r=ap:=he;omega);have bR:¬(λr=>bF g gs A r\/r=ap) E:=λh=>h.elim (λh=>by have:=gT _ h;omega) (λh=>Ω);have c3:kH K E:=(cN.ab (az.ab (λ_=>False)) (λh=>h)).ab bi bR;have bS:lu K E acc:=(db.ext ba az).ab bi bR;obtain⟨bj,bk⟩:=Cr (acc:=acc) cZ c0;refine c5 (λX=>ai (bF g gs A) K X/\dm X g gs A B clean ((dQ sizes acc st).map (·.2))) ?_ ?_
 .rintro X ⟨aj,c4⟩;have bm:¬bF g gs A E:=λh=>by have:=gT _ h;omega
  have dR:=aQ.size;have dS:=aj.size;refine Mm (acc:=acc) (t:=t) (c:=c) (ok:=∃q,dQ sizes acc st=σ q) (c3.ab aj bm) (λ⟨q,L⟩=>⟨db.ab bS aj bm,bd,bf,λU=>?_⟩) λae aA c6 c7=>?_
  .cases M:bc 0 ax ((e6 sizes [] (σ st)).map (·.2))with
   |none=>rw[bj M]at L;cases L
   |some an=>rw[bk an M,if_pos U]at L;cases L
  have dT:=aA.size;have c8:af ae ap dX [aL,Δ c]:=(bh.ab aj aM).ab aA (λhe=>by have he:ap=E:=he;omega);have da:av .i64 ao ae gt aL t:=(c2.ab aj (λ_ G=>by have:=gT _ G;omega)).ab aA (λ_ he=>by have he:gt=E:=he;omega);rw[bK dX.p dX.i rfl c8.range];have bV:bG (eH y.heap.size) bB ae [aL,Δ c] (t,c):=⟨[aL],[Δ c],eH y.heap.size,bB,rfl,λ_ h=>h,λ_ h=>h.elim,λ_ _ _ h=>h,aq.mono (n1 da) (λr _ h=>by subst h;exact cX) (λ_ _ h=>h),rfl⟩;refine kA (α:=Λ×Int) (a:=(t,c)) (cs:=[aL,Δ c]) (A:=eH y.heap.size) (R:=bB) iF.u dX.i Φ rfl bV λu aw au _ dc=>?_;have z22:=au.size;have dd:bG (λr=>eH C.heap.size r/\r<y.heap.size/\r≠ap) bB y [out] acc:=b0 (aq.mono (mO bJ) (λr _ h=>⟨h.1,by have:=h.2;omega,by have:=h.2;omega⟩) λ_ _ h=>h) az;have bW:ai (λr=>bF g gs A r\/r=ap\/r=E) y aw:=(((bi.mono λr _ h=>h.elim .inl λh=>.inr (.inl h)).trans (aj.mono λr _ h=>.inl h)).trans (aA.mono λr _ h=>.inr (.inr h))).trans (au.ab _);have de:=aq.ab dd bW λr f h G=>by
   rcases h with h|h
   .have aR:C.heap.size<=r:=h.1;rcases G with G|G|G
    .have:=gT _ G;omega
    .exact h.2.2 G
    .omega
   .exact h
  refine n0 (α:=Λ×Int) (a:=(t,c)) (A:=eH y.heap.size) iF.u dX.i rfl de dc (b0 bV au) (λr _ h h'=>?_) Ω Ω λdU aI df aC=>?_
  .rcases h' with h'|h'
   .have:=h.2;have:y.heap.size<=r:=h';omega
   .exact h'
  have dV:=aC.size;rw[aO,wrap_i64 Ω Ω];have dg:ai (bF g gs A) w aw:=hz be bW λr f h=>by
   rcases h with h|h|h
   .exact h
   .omega
   .omega
  have dh:ai (bF g gs A) w aI:=hz dg aC λr f h=>by have aR:C.heap.size<=r:=h.1;omega
  have di:dm aw g gs A B clean ((dQ sizes acc st).map (·.2)):=(c4.ab aA (λr f he=>by have he:r=E:=he;exact bm (he▸f)) (λr f he=>by have:=aJ r f.2;have he:r=E:=he;omega)).ext au;have dj:∀r,bF g gs A r->¬(eH C.heap.size r/\r<y.heap.size/\r≠ap):=λr f he=>by have:=gT _ f;have aR:C.heap.size<=r:=he.1;omega
  have dk:∀r,cH g gs A B r->¬(eH C.heap.size r/\r<y.heap.size/\r≠ap):=λr f he=>by have:=aJ r f.2;have aR:C.heap.size<=r:=he.1;omega
  have bX:¬(eH C.heap.size E/\E<y.heap.size/\E≠ap):=λhe=>by have aR:C.heap.size<=E:=he.1;omega
  refine⟨⟨i+1,acc++[(t,c)],(dQ sizes acc st).map (·.2),rfl,Ω,dh,Ω,?_,di.ab aC dj dk,?_,(c6.ab (au.ab (λ_=>False)) (λh=>h)).ab aC bX,Θ,λdl dn=>?_⟩,by simp only[bU];omega⟩
  .refine aq.mono df (λr _ h=>?_) λ_ _ h=>h;show C.heap.size<=r;rcases h with h|h|h
   .exact h.1
   .have h:y.heap.size<=r:=h;omega
   .omega
  .rw[aK,show N-i=(N-(i+1))+1 by omega];cases H:dQ sizes acc st with
   |none=>exact pz H
   |some q=>
    obtain⟨a,dl⟩:=q;have dp:a=(t,c):=by
     cases M:bc 0 ax ((e6 sizes [] (σ st)).map (·.2))with
     |none=>rw[bj M]at H;cases H
     |some an=>
      rw[bk an M]at H;split at H
      .cases H
      .cases H;rfl
    subst dp;exact tj H
  .obtain⟨q,L,rfl⟩:=X4.1 dn;have dW:=(oc L).2.2.2.1;refine⟨db.ab ((db.ext (c7 ⟨q,L⟩) au)) aC bX,λp O=>?_,by simp only[r8,V6];omega⟩;rcases o5.1 O with O|O
   .exact bd p O
   .rw[l9.1 O];exact bf
 .intro dY bn;cases M:bc 0 ax ((e6 sizes [] (σ st)).map (·.2))with
  |none=>
   rw[M]at Y;have H:=bj M;refine aV (λv P=>Ext K P/\v= .bool false) ?_ ?_
   .rintro _ P ⟨Z,rfl⟩;rw[a1];exact bn _ ⟨Z.ab _,by rw[H];exact Y.ext Z⟩
   .intro dq bp;refine(pI Y).mono ?_;rintro _ ag _ ⟨rfl,aT⟩;rw[show((ν:Option (Int×aE)).map (·.2)).isSome=false from rfl,a1];exact bp _ _ ⟨aT,rfl⟩
  |some an=>
   rw[M]at Y;have H:=bk an M;refine aV (λv P=>Ext K P/\v= .bool (decide (t∈acc.map (·.1)))) ?_ ?_
   .rintro _ P ⟨Z,rfl⟩;rw[al];refine⟨λU=>?_,λdr=>?_⟩
    .refine (Mf (Y.ext Z) Ω).mono ?_;rintro _ bC _ bg;obtain⟨ds,dt⟩:=bg.of;exact bn _ ⟨(Z.ab _).trans ds,by rw[H,if_pos U];exact dt⟩
    .exact bn _ ⟨Z.ab _,by rw[H,if_neg dr];exact Y.ext Z⟩
   .intro dq bp;refine(pI Y).mono ?_;rintro _ ag _ ⟨rfl,aT⟩;rw[show((σ an:Option (Int×aE)).map (·.2)).isSome=true from rfl,bT,Cq (db.ext bS aT) bd bf,bN];refine bp _ _ ⟨aT,?_⟩;congr 1;by_cases U:t∈acc.map (·.1)
    .rw[if_pos U,decide_eq_true U];rfl
    .rw[if_neg U,decide_eq_false U];rfl
theorem Cs(sizes:Λ)(s:Option aE):iQ sizes s=match bc (-ax) ax s with
 |none=>ν
 |some (n,s)=>
  if n<0 then match s.shared[(-n-1).toNat]? with
   |none=>ν
   |some (z,l)=>if z=sizes then σ (l,s)else ν
  else cL (dQ sizes) n.toNat [] (j1 n s):=by
 cases s with
 |none=>rfl
 |some s=>
  show dA sizes s=_;unfold dA;show _=match bd (-ax) ax s with
   |none=>ν
   |some (n,s)=>
    if n<0 then match s.shared[(-n-1).toNat]? with
     |none=>ν
     |some (z,l)=>if z=sizes then σ (l,s)else ν
    else cL (dQ sizes) n.toNat [] (j1 n s)
  cases bd (-ax) ax s<;>rfl
theorem Ct{m:Bool}{S R:ak}{a:iO}(h:aq.rep (α:=iO) m S R w cs a):∃u v,cs=[u,v]/\aq.rep (α:=Λ) false bB R w [u] a.1/\aq.rep (α:=List (Λ×Int)) false bB R w [v] a.2:=by
 obtain⟨c,d,f,p,rfl,_,_,_,h1,e⟩:=h;have h1:aq.rep (α:=Λ) false bB R w c a.1:=h1;have e:aq.rep (α:=List (Λ×Int)) false bB R w d a.2:=e;obtain⟨u,rfl⟩:=W9.1 (show c.length=1 from aq.len h1);obtain⟨v,rfl⟩:=W9.1 (show d.length=1 from aq.len e);exact⟨u,v,rfl,h1,e⟩
theorem Mo{g:Nat}{A B:ak}{s:Option aE}(h:dm w g gs A B clean s)(hi:∀t,s=σ t->dR t)(av:aH .i64 w sv sizes)(K:∀r,leads sv r->¬bF g gs A r/\r<w.heap.size)(ay:∀z∈sizes,1<=z/\z<=ax)(aA:sizes.length<=100001)(aC:e5 w)(h1:cH g gs A B 1):
  am x7 Im [Γ g,sv] w λv w'=>gb w g gs A B clean ((iQ sizes s).map (·.2)) w'/\∃l,Seen (λr=>cH g gs A B r\/w.heap.size<=r) w' [v] (show List (Λ×Int)from l)/\∀q,iQ sizes s=σ q->l=q.1:=by
 have aD:=h.side;obtain⟨bd,be,bf,aF,bg⟩:=id aD;have gT:∀r,bF g gs A r->r<w.heap.size:=aF;refine az func183 ?_;refine(mi (lo:=-ax) (hi:=ax) h).mono ?_;rintro _ V _ ⟨aG,n,at_,rfl,Q,aI⟩;obtain⟨L,ag⟩:=aG.of;have bh:=L.size;have x:=Cs sizes s;rw[bq,br];have ah:aH .i64 V sv sizes:=hT av L λr E a n c ad U=>(K r ⟨a,n,c,ad,U⟩).1 E;have bi:∀r,leads sv r->¬bF g gs A r/\r<V.heap.size:=λr E=>⟨(K r E).1,by have:=(K r E).2;omega⟩;have rest:∀aa,Ext V aa->(∀q,bc (-ax) ax s=σ q->¬n<0)->∀N:Nat,n=(N:Int)->(N:Int)<=ax->∀C,ai (bF g gs A) aa C->dm C g gs A B clean (((bc (-ax) ax s).map (·.2)).map (j1 n))->
   ∀v w' l,gb C g gs A B clean ((fv (dQ sizes) N [] (((bc (-ax) ax s).map (·.2)).map (j1 n))).map (·.2)) w'->bG (eH C.heap.size) bB w' [v] (show List (Λ×Int)from l)->(∀q,fv (dQ sizes) N [] (((bc (-ax) ax s).map (·.2)).map (j1 n))=σ q->l=q.1)->
   gb w g gs A B clean ((iQ sizes s).map (·.2)) w'/\∃l,Seen (λr=>cH g gs A B r\/w.heap.size<=r) w' [v] (show List (Λ×Int)from l)/\∀q,iQ sizes s=σ q->l=q.1:=by
  intro aa y M N W X C H Y v w' l aJ aK aL;obtain⟨aM,aN⟩:=aJ.of;have aO:=y.size;have z3:=H.size;have e:iQ sizes s=fv (dQ sizes) N [] (((bc (-ax) ax s).map (·.2)).map (j1 n)):=by
   rw[x];cases f:bc (-ax) ax s with
   |none=>rfl
   |some q=>
    obtain⟨aP,s1⟩:=q;have:=Q _ f;subst this;simp only;rw[if_neg (M _ f),W,r9];rfl
  rw[e];refine⟨gb.mk (((L.trans (y.ab _)).trans H).trans aM) aN,l,qB aK λr _ h=>?_,aL⟩;rcases h with h|h
  .have h:C.heap.size<=r:=h;exact .inr Ω
  .exact h.elim
 refine aV (λv aa=>Ext V aa/\v= .bool (decide (n<0/\(bc (-ax) ax s).isSome=true))) ?_ ?_
 rotate_left
 .intro aB P;refine(pI ag).mono ?_;rintro _ aa _ ⟨rfl,y⟩;cases f:bc (-ax) ax s with
  |none=>
   rw[show((ν:Option (Int×aE)).map (·.2)).isSome=false from rfl,a1];exact P _ _ ⟨y,by rw[decide_eq_false];rintro⟨_,h⟩;rw[f]at h;cases h⟩
  |some q=>
   rw[show((σ q:Option (Int×aE)).map (·.2)).isSome=true from rfl,bT,aS];exact P _ _ ⟨y,by congr 1;rw[V9,decide_eq_true_eq,decide_eq_true_eq,f];exact⟨λh=>⟨h,rfl⟩,λh=>h.1⟩⟩
 rintro _ aa ⟨y,rfl⟩;have I:=ag.ext y;have aO:=y.size;rw[al];refine⟨λM=>?_,λaR=>?_⟩
 rotate_left
 .have M:∀q,bc (-ax) ax s=σ q->¬n<0:=λq f h=>aR ⟨h,by rw[f];rfl⟩;obtain⟨N,W,X⟩:∃N:Nat,n=(N:Int)/\(N:Int)<=ax:=by
   cases f:bc (-ax) ax s with
   |none=>rw[aI f];exact⟨0,rfl,by unfold ax;omega⟩
   |some q=>
    have h1:=M q f;have aT:=m4 (n:=q.1) (s':=q.2) f;have aW:=Q q f;exact⟨n.toNat,Ω,Ω⟩
  refine Mi (at_:=at_) I (λt aX=>?_) λC H Y=>?_
  .obtain⟨q,f,rfl⟩:=X4.1 aX;have aT:=m4 (n:=q.1) (s':=q.2) f;have aW:=Q q f;refine⟨Ω,Ω,?_⟩;cases s with
   |none=>cases f
   |some s0=>
    have aj:=(dg (n:=q.1) (s':=q.2) f).eqs;have an:=hi s0 rfl;intro ao;rw[aj.1];rw[aj.2.1]at ao;exact an ao
  .have z3:=H.size;have aY:ai (bF g gs A) w C:=(L.trans (y.ab _)).trans H;subst W;refine Mn (N:=N) Y ((hT (ah.ext y) H λr E a n c ad U=>(K r ⟨a,n,c,ad,U⟩).1 E)) (λr E=>⟨(K r E).1,by have:=(K r E).2;omega⟩) ay aA (aC.ab aY h1.1) h1 X λv w' l a b c=>?_;exact rest aa y M N rfl X C H Y v w' l a b c
 .obtain⟨aZ,a2⟩:=M;obtain⟨⟨aP,s1⟩,f⟩:=Option.isSome_iff_exists.1 a2;have:=Q _ f;subst this;have bj:=m4 f;rw[f]at x I;simp only at x;rw[if_pos aZ]at x;have I:di aa g gs A B s1 clean:=I;obtain⟨_,an,bk,big,bl,bm,told,bn,Z,bo,ac⟩:=id I;have bp:ax=4611686018427387904:=rfl;refine aV (λv C=>Ext aa C/\v= .bool (decide (iQ sizes s=ν))) ?_ ?_
  .rintro _ C ⟨G,rfl⟩;rw[al];refine⟨λa6=>?_,λap=>?_⟩
   .refine (tg (I.ext G) Ω).mono ?_;rintro _ bt _ ⟨a7,a8⟩;rw[a6];refine⟨gb.mk (((L.trans (y.ab _)).trans (G.ab _)).trans (a7.mono λr _ h=>.inl h)) a8,[],ht,λq f=>by cases f⟩
   .cases O:s1.shared[(-n-1).toNat]? with
    |none=>rw[O]at x;exact absurd x ap
    |some q=>
     obtain⟨z,l⟩:=q;rw[O]at x;simp only at x;have ba:z=sizes:=by
      by_cases J:z=sizes
      .exact J
      .rw[if_neg J]at x;exact absurd x ap
     rw[if_pos ba]at x;rw[aQ ch.p 3 (Z.ext G) rfl,l7,wrap_i64 Ω Ω,dO,wrap_i64 Ω Ω];refine kz (α:=iO) (m:=true) (S:=A) (R:=cH g gs A B) (i:=(-n-1).toNat) (a:=(z,l)) Ω hp.u jQ.i (b0 ac G) O λb o cs ae af=>?_;obtain⟨u,v,rfl,hu,ad⟩:=Ct af;rw[aU jQ.p rfl,aw Ψ (ae 1 v rfl)];rw[x];refine⟨gb.mk ((L.trans (y.ab _)).trans (G.ab _)) (I.ext G),l,qB ad λr _ h=>?_,λq f=>by cases f;rfl⟩;rcases h with h|h
     .exact h.elim
     .exact .inl h
  .intro aB P;rw[l7,wrap_i64 Ω Ω,aQ ch.p 3 Z rfl,jq hp.u ac,bN,al];refine⟨λaq=>P _ _ ⟨Ext.refl _,?_⟩,λau=>?_⟩
   .have aq:(s1.shared.length:Int)<0-n:=aq;rw[Z4 Ω]at x;rw[decide_eq_true x]
   .have au:¬(s1.shared.length:Int)<0-n:=au;have bb:(-n-1).toNat<s1.shared.length:=Ω
    obtain⟨⟨z,l⟩,O⟩:∃q,s1.shared[(-n-1).toNat]?=σ q:=⟨_,x6 bb⟩;rw[aQ ch.p 3 Z rfl,l7,wrap_i64 Ω Ω,dO,wrap_i64 Ω Ω];refine kz (α:=iO) (m:=true) (S:=A) (R:=cH g gs A B) (i:=(-n-1).toNat) (a:=(z,l)) Ω hp.u jQ.i ac O λb o cs ae af=>?_;obtain⟨u,v,rfl,hu,ad⟩:=Ct af;rw[aU jQ.p rfl,aw Ψ (ae 0 u rfl)];refine(AB (eG hu) (ah.ext y)).mono ?_;rintro _ C _ ⟨rfl,G⟩;rw[bE];refine P _ _ ⟨G,?_⟩;rw[O]at x;simp only at x;by_cases J:z=sizes
    .rw[if_pos J]at x;rw[decide_eq_true J,decide_eq_false (by rw[x];simp)];rfl
    .rw[if_neg J]at x;rw[decide_eq_false J,decide_eq_true x];rfl
abbrev pJ(n:Nat):ak:=λr=>r<n
def q5(n:Int)(k:Nat)(s:Option aE):Option (Λ×aE):=s.bind (eR n k)
theorem Mp{g k:Nat}{A B:ak}{s:Option aE}{m:Int}(h:dm w g gs A B clean s)(hk:k<=4611686018427387904)(hm:0<=m/\m<=1000000):
  am x7 zQ [Γ g,Δ (k:Int),Δ m] w λv w'=>gb w g gs A B clean ((q5 m k s).map (·.2)) w'/\
   ∃gr l,av .i64 ao w' gr v l/\(∀r,leads v r->w.heap.size<=r)/\l.length<=100001/\∀q,q5 m k s=σ q->l=q.1:=by
 cases s with
 |some s=>exact La (s:=s) h hk hm
 |none=>
  have h:ey w g gs A B:=h;refine az func181 ?_;refine⟨λout p V=>w=V/\out= .slice ν 0 0/\p=Δ 0,λ_ _ _=>0,⟨rfl,rfl,rfl⟩,?_⟩;rintro _ _ _ ⟨rfl,rfl,rfl⟩;refine aV (λv aa=>Ext w aa/\v= .bool false) ?_ ?_
  .rintro _ aa ⟨e,rfl⟩;rw[a1];exact⟨gb.mk (e.ab _) (h.ext e),0,[],av.nil _ _ _ _,λr x=>absurd x (λh=>by obtain⟨a,n,c,h,_⟩:=h;cases h),Ξ,λq y=>by cases y⟩
  .intro aB f;rw[aS,al];refine⟨λ_=>?_,λ_=>f _ _ ⟨Ext.refl _,rfl⟩⟩;refine(od h).mono ?_;rintro _ aa _ ⟨rfl,e⟩;exact f _ _ ⟨e,rfl⟩
def tz(z:Λ)(l:List (Λ×Int))(s:aE):aE:={s with shared:=s.shared++[(z,l)]}
def Cu(w:x3)(g gs:Nat):Prop:=∃(e big a f told:Int)(sv:x1),af w g ch (fS gs e big a f told sv)/\e≠0
def gZ(w:x3)(g gs:Nat)(A:ak)(B:ak)(clean:Bool)(s:Option aE):Prop:=match s with
 |some s=>di w g gs A B s clean
 |none=>Cu w g gs
theorem dm.q{g:Nat}{A:ak}{B:ak}{s:Option aE}(h:dm w g gs A B clean s):gZ w g gs A B clean s:=by
 cases s with
 |some s=>exact h
 |none=>
  obtain⟨_,e,big,a,f,told,sv,l,p,r,_⟩:=h;exact⟨e,big,a,f,told,sv,p,r.1⟩
theorem gZ.ab{g:Nat}{A:ak}{B:ak}{s:Option aE}(h:gZ w g gs A B clean s)(J:ai S w w')(f:¬S g)(p:∀r,bF g gs A r->r<w.heap.size->¬S r)(q:∀r,cH g gs A B r->¬S r):gZ w' g gs A B clean s:=by
 cases s with
 |some s=>
  have h:di w g gs A B s clean:=h;exact di.ab h J (λr a=>p r a (h.1.2.2.2.1 r a)) q
 |none=>
  obtain⟨e,big,x,y,told,sv,z,C⟩:=h;exact⟨e,big,x,y,told,sv,z.ab J f,C⟩
theorem gZ.ext{g:Nat}{A:ak}{B:ak}{s:Option aE}(h:gZ w g gs A B clean s)(J:Ext w w'):gZ w' g gs A B clean s:=h.ab (J.ab λ_=>False) (λh=>h) (λ_ _ _ h=>h) (λ_ _ h=>h)
theorem Cv{g:Nat}{A:ak}{B:ak}{s:Option aE}(h:gZ w g gs A B clean s):am x7 k8 [Γ g] w λv w'=>v= .bool s.isSome/\Ext w w':=by
 cases s with
 |none=>
  obtain⟨e,big,p,q,told,sv,a,f⟩:=h;refine(wv a).mono ?_;rintro _ V _ ⟨rfl,J⟩;exact⟨by rw[decide_eq_false f];rfl,J⟩
 |some s=>exact py h
theorem hA.aZ{g:Nat}{R':Nat->Prop}(h:hA w g R toks clean)(J:ai S w w')(q:¬S g)(s:∀r,R r->¬S r)(x:∀r,R r->R' r):hA w' g R' toks clean:=by
 obtain⟨y,p,a,⟨h1,z,A,B,bk,C⟩,f,E⟩:=h;exact⟨y,p,a,⟨h1,z,A,B.ab J q,bk,bt C J λr e=>s r (f r e)⟩,λr e=>x r (f r e),E⟩
theorem mj{α:Type}[aq α]{m:Bool}{S R:ak}{l:List α}(h:aq.rep m S R w [v] l):∃a n c,v= .slice a n c:=by
 obtain⟨vs,e,F,f,he,U,hm⟩:=jo h;obtain⟨p,b,o,base,cap,rfl,_⟩:=U;exact⟨_,_,_,rfl⟩
def lv(w:x3)(g gs:Nat)(A:ak)(B:ak)(R:ak)(clean:Bool)(s:Option aE):Prop:=match s with
 |some s=>lp w g gs A B/\hA w gs R s.toks clean/\(0<=s.told/\s.told<=ax/\s.shared.length+s.toks.length<=100000)/\
  ∃big a e told sv,af w g ch (fS gs 0 big a e told sv)/\((s.big=true↔big≠0)/\(s.big=false->told=s.told))/\bG A R w [sv] (show List iO from s.shared)
 |none=>Cu w g gs
theorem lv.ab{g:Nat}{A R:ak}{B:ak}{s:Option aE}(h:lv w g gs A B R clean s)(J:ai S w w')(x:¬S g)(y:∀r,bF g gs A r->r<w.heap.size->¬S r)(z:∀r,R r->¬S r):lv w' g gs A B R clean s:=by
 cases s with
 |some s=>
  obtain⟨h1,C,E,big,a,f,told,sv,p,q,F⟩:=h;have G:=h1.2.2.2.1;exact⟨h1.ab J,C.ab J (y gs (.inr (.inl rfl)) (G _ (.inr (.inl rfl)))) z,E,big,a,f,told,sv,p.ab J x,q,aq.ab F J λr H h=>h.elim (λh=>y r (.inr (.inr h)) H) (z r)⟩
 |none=>
  obtain⟨e,big,a,f,told,sv,p,q⟩:=h;exact⟨e,big,a,f,told,sv,p.ab J x,q⟩
theorem lv.out{g:Nat}{A R B e:ak}{s:Option aE}(h:lv w g gs A B R clean s)(f:∀r,R r->cH g gs A e r)(q:∀r,e r->r<w.heap.size):gZ w g gs A e clean s:=by
 cases s with
 |some s=>
  obtain⟨⟨x,y,z,C,P⟩,⟨E,p,a,F,G,H⟩,I,big,J,K,told,sv,L,M,N⟩:=h;exact⟨⟨x,y,z,C,q⟩,⟨E,p,a,F,λr O=>f r (G r O),H⟩,I,big,J,K,told,sv,L,M,aq.mono N (λ_ _ h=>h) λr _ h=>f r h⟩
 |none=>exact h
theorem dm.qr{g:Nat}{A R:ak}{B:ak}{s:Option aE}(h:dm w g gs A B clean s)(z:∀r,cH g gs A B r->R r):lv w g gs A B R clean s:=by
 cases s with
 |some s=>
  obtain⟨h1,⟨C,p,a,E,F,G⟩,H,big,f,q,told,sv,x,y,I⟩:=h;exact⟨h1,⟨C,p,a,E,λr J=>z r (F r J),G⟩,H,big,f,q,told,sv,x,y,aq.mono I (λ_ _ h=>h) λr _ h=>z r h⟩
 |none=>
  obtain⟨_,e,big,f,q,told,sv,l,x,y,_⟩:=h;exact⟨e,big,f,q,told,sv,x,y.1⟩
theorem Mq{g O:Nat}{A B R:ak}{s:Option aE}{aK az u:x1}{z:Λ}{l:List (Λ×Int)}{K:x3->Prop}(h:dm w g gs A B clean s)(P:∀r,cH g gs A B r->R r)(aj:∀r,R r->cH g gs A (pJ w.heap.size) r)(al:∀t,s=σ t->t.shared.length+1+t.toks.length<=100000)(am:af w O b2 [aK,u,az,v])(hu:aq.rep (α:=Λ) false bB R w [u] z)(ad:aq.rep (α:=List (Λ×Int)) false bB R w [v] l)(aB:∀w' aT,ai (bF g gs A) w w'->(∀r,aT r->A r\/w.heap.size<=r)->lv w' g gs aT (pJ w.heap.size) R clean (s.map (tz z l))->K w'):
  ac x7 (bP (Γ g)) w λQ=>
  ac x7 (u6 ch Q 3) w λS=>
  ac x7 (u5 hp S) w λan=>
  ac x7 (u6 b2 (Γ O) 1) w λt76=>
  ac x7 (u5 ay t76) w λt77=>
  ac x7 (u6 b2 (Γ O) 3) w λaC=>
  ac x7 (u5 iF aC) w λaF=>
  ac x7 (Instr.build jQ #[(0,t77),(1,aF)]) w λaG=>
  aD x7 (Y3 hp 1 #[(0,aG)]) w λaH G=>
   (Ext w G\/cD x7 (u5 hp S) an G/\cD x7 (u6 ch Q 3) S G/\cD x7 (bP (Γ g)) Q G/\True)/\
   aD x7 (Z2 #[hp,hp] hp #[an,aH]) G λaI W=>
    ac x7 (bP (Γ g)) W λaJ=>
    ac x7 (u6 ch aJ 3) W λaL=>
    aD x7 (o9 hp aL aI) W λ(_:Unit)aN=>K aN:=by
 obtain⟨aO,e,big,q,y,told,sv,I,C,L,a2,aP⟩:lp w g gs A B/\∃e big q y told sv,∃I:List iO,af w g ch (fS gs e big q y told sv)/\bG A R w [sv] I/\I.length<=100000/\
   ∀w' aT E,lp w' g gs aT (pJ w.heap.size)->ai (λr=>A r\/r=g) w w'->af w' g ch (fS gs e big q y told E)->bG aT R w' [E] (I++[((z,l):iO)])->lv w' g gs aT (pJ w.heap.size) R clean (s.map (tz z l)):=by
  cases s with
  |none=>
   obtain⟨h1,e,big,q,y,told,sv,l',X,M,Y⟩:=h;exact⟨h1,e,big,q,y,told,sv,l',X,aq.mono Y (λ_ _ h=>h) λr _ h=>P r h,M.2,λw' aT E U _ C L=>⟨e,big,q,y,told,E,C,M.1⟩⟩
  |some s=>
   obtain⟨h1,aR,ao,big,q,y,told,sv,X,M,Y⟩:=h;have al:=al s rfl;refine⟨h1,0,big,q,y,told,sv,s.shared,X,aq.mono Y (λ_ _ h=>h) λr _ h=>P r h,(show s.shared.length<=100000 by omega),λw' aT E U aS C L=>⟨U,?_,⟨ao.1,ao.2.1,?_⟩,big,q,y,told,E,C,M,L⟩⟩
   .exact hA.aZ aR aS (λhe=>he.elim h1.2.2.1 λh=>h1.1 h.symm) (λr f he=>he.elim (λh=>f.1 (.inr (.inr h))) λh=>f.1 (.inl h)) P
   .show (s.shared++[(z,l)]).length+s.toks.length<=100000;simp;omega
 obtain⟨aV,Z,aW,ap,a6⟩:=id aO;rw[aQ ch.p 3 C rfl,aM b2.p 1 am rfl,aM b2.p 3 am rfl];rw[cZ (cs:=#[u,v]) (by obtain⟨_,_,_,rfl⟩:=mj hu;obtain⟨_,_,_,rfl⟩:=mj ad;kernel_rfl)];have au:bG (λ_=>False) R w [u,v] ((z,l):iO):=⟨[u],[v],bB,bB,rfl,λ_ h=>h,λ_ h=>h,λ_ _ h _=>h,hu,ad⟩;refine kA (α:=iO) (a:=(z,l)) (cs:=[u,v]) (A:=λ_=>False) (R:=R) hp.u jQ.i Φ rfl au λx V F _ J=>?_;have a7:=F.size;refine⟨.inl F,?_⟩;refine n0 (α:=iO) (a:=(z,l)) (A:=λ_=>False) (R:=R) hp.u jQ.i rfl (b0 L F) J (b0 au F) (λr _ aX H=>?_) Ω Ω λav aa ae ag=>?_
 .rcases H with H|H
  .exact H
  .exact (aj r H).1 (.inr (.inr aX))
 have a8:=ag.size;have aY:=(C.ext F).ab ag Z;rw[bV,aU ch.p rfl];refine bl (g:=g) (o:=6) hp.i (qC ae) (jp ae) aY (by simp[fS]) λN aw ba ah=>?_;have ah:af N g ch (fS gs e big q y told av):=ah;have ax:ai (λr=>A r\/r=g) w N:=((F.ab _).trans (ag.mono λr _ h=>.inl h)).trans (aw.mono λr _ h=>.inr h);let aT:ak:=λr=>(A r\/w.heap.size<=r)/\r<aa.heap.size;have bb:g<w.heap.size:=ap g (.inl rfl);have bc:gs<w.heap.size:=ap gs (.inr (.inl rfl));have a1:=aq.mono (S':=aT) (R':=R) ae (λr f h=>⟨h.elim .inl λh=>h.elim False.elim λh=>.inr Ω,f⟩) (λr f h=>h);refine aB N aT (ax.mono λr _ h=>h.elim (λh=>.inr (.inr h)) .inl) (λr f=>f.1) (aP N aT av ⟨aV,λh=>h.1.elim Z λh=>Ω,λh=>h.1.elim aW λh=>Ω,λr f=>?_,?_⟩ ax ah (aq.ab a1 aw λr f aA he=>?_))
 .rcases f with rfl|rfl|f
  .omega
  .omega
  .have:=f.2;omega
 .intro r f;have f:r<w.heap.size:=f;omega
 .have he:r=g:=he;subst he;rcases aA with aA|aA
  .exact aA.1.elim Z λh=>Ω
  .exact (aj _ aA).1 (.inl rfl)
theorem Mr{e:Nat}{aK A:x1}{scope all:Λ}{M:x3->Prop}(N:af w e b2 [aK,.slice ν 0 0,Δ 0,.slice ν 0 0])(O:aH .i64 w aK scope)(Z:∀r,leads aK r->r≠e)(ae:aH .i64 w A all)(ag:∀r,leads A r->r≠e)(ad:∀v∈scope,0<=v/\v<all.length)(aJ:scope.length<=100001)(aj:∀w' szv gz,ai (λr=>r=e) w w'->af w' e b2 [aK,szv,Δ 0,.slice ν 0 0]->av .i64 ao w' gz szv (scope.map λv=>all.getD v.toNat 0)->w.heap.size<=gz->M w'):
 ce (Δ 0) w λG x k=>
  ac x7 (aN .lss ah false false G (Δ (scope.length:Int))) x λak=>
  Split ak (ac x7 (c9 ay aK G) x λam=>
  ac x7 (u5 ao am) x λan=>
  er x λf=>
  ac x7 (u6 b2 (Γ e) 1) f λt39=>
  ac x7 (u5 ay t39) f λP=>
  ac x7 (c9 ay A an) f λap=>
  ac x7 (u5 ao ap) f λaq=>
  aD x7 (Y3 ay 1 #[(0,aq)]) f λt45 B=>
   (Ext f B\/cD x7 (u5 ay t39) P B/\cD x7 (u6 b2 (Γ e) 1) t39 B/\True)/\
  aD x7 (Z2 #[ay,ay] ay #[P,t45]) B λt46 Q=>
   ac x7 (u6 b2 (Γ e) 1) Q λau=>
   aD x7 (o9 ay au t46) Q λ(_:Unit)R=>
    ac x7 (aN .add ah false true G (Δ 1)) R λaw=>
  k aw R) (M x):=by
 have aL:=N.lt;refine ce.range scope.length (λi V=>ai (λr=>r=e) w V/\∃szv gz,af V e b2 [aK,szv,Δ 0,.slice ν 0 0]/\av .i64 ao V gz szv ((scope.take i).map λv=>all.getD v.toNat 0)/\w.heap.size<=gz) O.le ⟨ai.refl _ _,_,w.heap.size,N,av.nil _ _ _ _,o4 _⟩ ?_ ?_
 rotate_left
 .rintro V ax ⟨q,szv,gz,C,E,S⟩;rw[o7]at E;rw[aS,al];exact⟨λh=>Ω,λ_=>aj V szv gz q C E S⟩
 rintro i V ax hi ⟨q,szv,gz,C,E,S⟩ az;obtain⟨v,H⟩:=aI (l:=scope) hi;have aP:=ad v (x5 H);have aA:all[v.toNat]?=σ (all.getD v.toNat 0):=by
  rw[u4,x6 Ω];rfl
 have aB:aH .i64 V aK scope:=hT O q λr F a n c I J=>Z r ⟨a,n,c,I,J⟩ F;have aC:aH .i64 V A all:=hT ae q λr F a n c I J=>ag r ⟨a,n,c,I,J⟩ F;refine bH Ω ?_;rw[bh ay.u ao.i Ψ aB H];intro aa s _ _;have aQ:=q.size;have aR:=s.size;rw[aM b2.p 1 (C.ext s) rfl];rw[fN (y:=v) (i:=v.toNat) Ω ay.u ao.i Ψ (aC.ext s) aA];refine ee ay.u ao.i rfl λa ga aT aV z aE=>?_;refine⟨.inl z,?_⟩;have z3:=z.size;refine jn ay.u ao.i rfl ((E.ext s).ext z) aE.ls Θ Θ λU W aW aX K X=>?_;rw[aU b2.p rfl];have aF:=((C.ext s).ext z).ab X (λhe=>by have he:e=gz:=he;omega);refine bl (g:=e) (o:=1) ay.i K.ls.cells.1 K.ls.cells.2 aF Ξ λaG Y aY L=>?_;have L:af aG e b2 [aK,U,Δ 0,.slice ν 0 0]:=L;rw[aO];refine az _ ⟨(hz (q.trans ((s.trans z).ab _)) X λr F he=>by have he:r=gz:=he;omega).trans Y,U,W,L,?_,Ω⟩;rw[u7,H,o8,Z3];exact K.ab Y (λ_ he=>by have he:W=e:=he;omega)
abbrev hE:Type:=Rd (Λ)×Rd (Λ)×Int×Rd (List (Λ×Int))
def ha(f:ck):hE:=(f.scope,f.sizes,f.other,f.lines)
theorem Cw{R:ak}{aK szv b4:x1}{o:Int}{sc a:Λ}{l:List (Λ×Int)}(h1:aq.rep (α:=Λ) false bB R w [aK] sc)(e:aq.rep (α:=Λ) false bB R w [szv] a)(f:aq.rep (α:=List (Λ×Int)) false bB R w [b4] l):
  Seen R w [aK,szv,Δ o,b4] ((sc,a,o,l):hE):=
 ⟨[aK],[szv,Δ o,b4],bB,bB,rfl,λ_ h=>h,λ_ h=>h,λ_ _ h _=>h,h1,[szv],[Δ o,b4],bB,bB,rfl,λ_ h=>h,λ_ h=>h,λ_ _ h _=>h,e,[Δ o],[b4],bB,bB,rfl,λ_ h=>h,λ_ h=>h,λ_ _ h _=>h,rfl,f⟩
theorem q6{R:ak}{g:Nat}(h:av .i64 e w g v l)(s:∀r,leads v r->R r):aq.rep (α:=Λ) false bB R w [v] l:=by
 have h1:bG (λr=>r=g) bB w [v] l:=n1 h;obtain⟨vs,x,F,G,he,U,hm⟩:=jo h1;refine⟨v,rfl,vs,x,λ_ _=>False,⟨λ_ _ h=>h,λh=>(by cases h),λh=>by cases h⟩,⟨he.1,λi c a y z=>?_⟩,?_,λh=>by cases h⟩
 .exact he.2 i c a y z
 .obtain⟨f,b,o,base,cap,rfl,A,B,p,H,C⟩:=U;refine⟨f,b,o,base,cap,rfl,A,B,p,λq=>.inr (s b ?_),C⟩;have E:0<l.length:=by
   rw[f]at q;rcases Q2 l.length with h|h
   .rw[h,Nat.zero_mul]at q;omega
   .exact h
  exact⟨⟨b,o,ν⟩,l.length,cap,by rw[p E],rfl⟩
theorem Cx{α:Type}[aq α]{R R':ak}{a:α}(h:Seen R w cs a)(e:∀r,r<w.heap.size->R r->R' r):Seen R' w cs a:=aq.mono h (λ_ _ h=>h) e
theorem Cy{f:Nat}{K:x1->x3->Prop}(e:cs.length=4)(h1:∀v∈cs,v.oneCell'=true)(s:af w f b2 cs){h:List x1}(x:h.length=4)(y:af w a b2 h)(z:∀w',ai (λr=>r=a) w w'->K (.agg cs.toArray) w'):
  ac x7 (u5 b2 (Γ f)) w λA=>
  aD x7 (o9 b2 (Γ a) A) w λ(_:Unit)q=>
  ac x7 (do loadVar b2 (<-asAddr (Γ a))) q λB=>K B q:=by
 rw[bK b2.p b2.i e s.range];refine cb b2.i e x h1 y λw' C _ E=>?_;rw[fO b2.p b2.i e E.range];exact z w' C
theorem Cz{s s':aE}{l:List (Λ×Int)}(h:dA sizes s=σ (l,s')):s'.shared=s.shared/\s'.toks.length<=s.toks.length:=by
 unfold dA at h;cases e:bd (-ax) ax s with
 |none=>rw[e]at h;cases h
 |some q=>
  obtain⟨n,s1⟩:=q;rw[e]at h;simp only at h;have h1:=dg e;obtain⟨x,y,p⟩:=h1.eqs;split at h
  .cases U:s1.shared[(-n-1).toNat]? with
   |none=>rw[U]at h;cases h
   |some q=>
    obtain⟨z,l'⟩:=q;rw[U]at h;simp only at h;split at h
    .simp only[Y2,T5]at h;obtain⟨rfl,rfl⟩:=h;exact⟨p,by have:=h1.1;omega⟩
    .cases h
  .have:=iN (f:=dQ sizes) (λacc t=>t.shared=s.shared/\t.toks.length<=s.toks.length) (λacc t a bp ⟨w,A⟩ g=>by
    obtain⟨B,C,E,r⟩:=oc g;obtain⟨f1,f2,f3⟩:=r.eqs;exact⟨by rw[f3,w],by have:=r.1;omega⟩) n.toNat [] (a8 (decide (16384<min (s1.told+n) ax)) {s1 with told:=min (s1.told+n) ax}) l s' ⟨p,by have:=h1.1;show s1.toks.length<=_;omega⟩ h
   exact this.1
theorem Ms{g:Nat}{A B:ak}{s:aE}{aC:x1}{all:Λ}(h:di w g gs A B s clean)(hi:dR s)(bM:aH .i64 w aC all)(bf:∀r,leads aC r->¬bF g gs A r/\r<w.heap.size)(cn:∀z∈all,1<=z/\z<=ax)(dr:all.length<=100001)(cp:e5 w)(h1:cH g gs A B 1):
  am x7 zJ [Γ g,aC] w λv w'=>∃aT S cs,∃bO:hE,v= .agg cs.toArray/\cs.length=4/\ai (bF g gs A) w w'/\(∀r,aT r->A r\/w.heap.size<=r)/\(∀r,S r->(B r\/w.heap.size<=r)/\r<w'.heap.size)/\(∀r,B r->S r)/\gZ w' g gs aT S clean ((c0 all s).map (·.2))/\
   Seen (cH g gs aT S) w' cs bO/\∀q,c0 all s=σ q->bO=ha q.1:=by
 have cq:=h.1;obtain⟨ds,dt,bg,cr,U⟩:=id cq;have gT:∀r,bF g gs A r->r<w.heap.size:=cr;have du:ax=4611686018427387904:=rfl;have dv:s.shared.length+s.toks.length<=100000:=h.2.2.1.2.2;refine az func109 ?_;refine bo b2.i λE V dw bh aO=>?_;have aO:af V E b2 [.slice ν 0 0,.slice ν 0 0,Δ 0,.slice ν 0 0]:=aO;have dx:=bh.size;have dy:=aO.lt;have L:¬bF g gs A E:=λC=>by have:=gT _ C;omega
 refine(wx (lo:=-ax) (hi:=ax) (h.ext bh)).mono ?_;rintro _ aa _ ⟨W,a,at_,rfl,bP,ct⟩;obtain⟨bi,bj⟩:=W.of;have dz:=bi.size;rw[bq,br,aS,l7];have dC: -ax<=a/\a<=ax:=by
  cases G:bd (-ax) ax s with
  |none=>rw[ct G];unfold ax;omega
  |some q=>rw[bP q G];exact(hU (n:=q.1) (s':=q.2) G).1
 rw[wrap_i64 Ω Ω,vQ,show max a (0-a)=((a.natAbs:Nat):Int) by omega];have bR:ai (bF g gs A) w aa:=(bh.ab _).trans bi;have cu:aH .i64 aa aC all:=hT bM bR λr f a n c ad bk=>(bf r ⟨a,n,c,ad,bk⟩).1 f;rw[aW ay.u cu];refine(Mp (k:=a.natAbs) (m:=(all.length:Int)) bj Ω Ω).mono ?_;rintro aK dD _ ⟨W,gr,scope,aD,cw,dE,cz⟩;obtain⟨bm,cA⟩:=W.of;have z3:=bm.size;rw[cZ (cs:=#[aK,.slice ν 0 0,Δ 0,.slice ν 0 0]) (by obtain⟨_,_,_,_,_,rfl,_⟩:=aD.ls;kernel_rfl)];refine bo b2.i λy cB dF aF aP=>?_;have aP:af cB y b2 [.slice ν 0 0,.slice ν 0 0,Δ 0,.slice ν 0 0]:=aP;have z4:=aF.size;have dG:=aP.lt;have bn:=aD.ls.cells;refine cb (vs:=[aK,.slice ν 0 0,Δ 0,.slice ν 0 0]) b2.i rfl rfl (by intro v ad;simp at ad;rcases ad with rfl|rfl|rfl|rfl<;>first|exact bn.2|rfl) aP λaQ aG dH cC=>?_;have ah:¬bF g gs A y:=λC=>by have:=gT _ C;omega
 have bS:dm aQ g gs A B clean ((q5 all.length a.natAbs ((bd (-ax) ax s).map (·.2))).map (·.2)):=(cA.ext aF).ab aG (λr f he=>by have he:r=y:=he;exact ah (he▸f)) (λr f he=>by have:=U r f.2;have he:r=y:=he;omega);have bT:ai (bF g gs A) w aQ:=hz ((bR.trans bm).trans (aF.ab _)) aG λr f he=>by have he:r=y:=he;omega
 have cD:af aQ E b2 [.slice ν 0 0,.slice ν 0 0,Δ 0,.slice ν 0 0]:=(((aO.ab bi L).ab bm L).ext aF).ab aG (λhe=>by have he:E=y:=he;omega);have cE:av .i64 ao aQ gr aK scope:=bt (aD.ext aF) aG λr f he=>by
  obtain⟨cF,bj⟩:=bQ aD f;have he:r=y:=he;omega
 refine(pI bS).mono ?_;rintro _ aR _ ⟨rfl,X⟩;have aj:=bS.ext X;have aI:=cE.ext X;have bp:=cC.ext X;have bU:=cD.ext X;have dI:=X.size;have z5:=aG.size;have P:∀r,leads aK r->aa.heap.size<=r/\r≠y/\r≠E:=λr f=>by
  obtain⟨cF,bj⟩:=bQ aD f;have:=cw r f;exact⟨this,Ω,Ω⟩
 have K:c0 all s=match q5 all.length a.natAbs ((bd (-ax) ax s).map (·.2))with
   |none=>ν
   |some (sc,I)=>(iQ (sc.map λv=>all.getD v.toNat 0) ((bc 0 ax (σ (a8 (decide (6<a.natAbs)||dk (sc.map λv=>all.getD v.toNat 0)) I))).map (·.2))).map λq=>((⟨sc,sc.map λv=>all.getD v.toNat 0,((bd 0 ax (a8 (decide (6<a.natAbs)||dk (sc.map λv=>all.getD v.toNat 0)) I)).map (·.1)).getD 0,q.1⟩:ck),if a<0 then tz (sc.map λv=>all.getD v.toNat 0) q.1 q.2 else q.2):=by
  unfold c0;cases G:bd (-ax) ax s with
  |none=>rfl
  |some q=>
   obtain⟨a',s1⟩:=q;have:=bP _ G;subst this;simp only;show _=match eR all.length a.natAbs s1 with
    |none=>ν
    |some (sc,I)=>_
   cases eR all.length a.natAbs s1 with
   |none=>rfl
   |some q=>
    obtain⟨sc,I⟩:=q;simp only;show _=V7 _ (iQ _ ((bd 0 ax _).map (·.2)));cases bd 0 ax (a8 (decide (6<a.natAbs)||dk (sc.map λv=>all.getD v.toNat 0)) I)with
    |none=>rfl
    |some q=>
     obtain⟨o,H⟩:=q;simp only;show _=V7 _ (dA _ H);cases dA (sc.map λv=>all.getD v.toNat 0) H with
     |none=>rfl
     |some q=>rfl
 rw[bE,bZ];cases Y:q5 all.length a.natAbs ((bd (-ax) ax s).map (·.2))with
 |none=>
  rw[Y]at aj K;simp only at K;refine⟨λ_=>?_,λh=>by simp at h⟩;refine Cy rfl (by intro v ad;simp at ad;rcases ad with rfl|rfl|rfl|rfl<;>first|exact bn.2|rfl) bp rfl bU λZ M=>?_;have cG:=M.size;refine⟨A,λr=>(B r\/w.heap.size<=r)/\r<Z.heap.size,_,(scope,[],0,[]),rfl,rfl,hz (bT.trans (X.ab _)) M λr f he=>by have he:r=E:=he;omega,λr f=>.inl f,λr f=>f,λr f=>⟨.inl f,by have:=U r f;omega⟩,?_,?_,λq G=>by rw[K]at G;cases G⟩
  .rw[K];have cI:gZ Z g gs A B clean (V7 (λx=>x.2) (ν:Option (Λ×aE))):=aj.q.ab M (λhe=>by have:=gT g (.inl rfl);have he:g=E:=he;omega) (λr f _ he=>by have he:r=E:=he;exact L (he▸f)) (λr f he=>by have:=U r f.2;have he:r=E:=he;omega);exact cI
  .refine Cw (q6 (bt aI M λr f he=>(P r f).2.2 he) λr f=>?_) ht ht;have N:=P r f;have an:=(bQ aI f);exact⟨λC=>by have:=gT _ C;omega,.inr Ω,Ω⟩
 |some q=>
  obtain⟨sc,I⟩:=q;have:=cz _ Y;subst this;rw[Y]at aj K;simp only at K;refine⟨λh=>by simp at h,λ_=>?_⟩;have aj:di aR g gs A B I clean:=aj;obtain⟨s1,cJ,cK⟩:∃s1,(bd (-ax) ax s).map (·.2)=σ s1/\eR all.length a.natAbs s1=σ (scope,I):=by
   cases G:(bd (-ax) ax s).map (·.2)with
   |none=>rw[G]at Y;cases Y
   |some s1=>rw[G]at Y;exact⟨s1,rfl,Y⟩
  obtain⟨bV,cL,rfl⟩:=X4.1 cJ;have bW:=dg (n:=bV.1) (s':=bV.2) cL;obtain⟨bX,dJ,dK,bY⟩:=tc cK;have bu:=bW.eqs;have bw:=bX.eqs;have cM:dR I:=λQ=>by rw[bw.1,bu.1];rw[bw.2.1,bu.2.1]at Q;exact hi Q
  have cN:I.shared.length+1+I.toks.length<=100000:=by rw[bw.2.2,bu.2.2];have:=bW.1;have:=bX.1;omega
  generalize bx:(scope.map λv=>all.getD v.toNat 0)=sizes at K;have b1:∀z∈sizes,1<=z/\z<=ax:=λz aV=>by
   rw[<-bx]at aV;obtain⟨v,ad,rfl⟩:=j5.1 aV;have:=bY v ad;refine cn _ ?_;rw[u4,x6 Ω];exact T2 _
  have dL:sizes.length=scope.length:=by rw[<-bx,u9]
  have b3:ai (bF g gs A) w aR:=bT.trans (X.ab _);have cO:aH .i64 aR aC all:=hT bM b3 λr f a n c ad bk=>(bf r ⟨a,n,c,ad,bk⟩).1 f;rw[aM b2.p 0 bp rfl,aW ay.u aI.ls];refine Mr bp aI.ls (λr f=>(P r f).2.1) cO (λr f=>by have:=(bf r f).2;omega) bY Ω λZ szv gz M b5 aX dM=>?_;rw[bx]at aX;have cG:=M.size;have bz:∀r,cH g gs A B r->¬(λr=>r=y) r:=λr f he=>by have:=U r f.2;have he:r=y:=he;omega
  have bA:∀r,bF g gs A r->¬(λr=>r=y) r:=λr f he=>by have he:r=y:=he;exact ah (he▸f)
  have b6:=aj.ab M bA bz;have cP:ai (bF g gs A) w Z:=hz b3 M λr f he=>by have he:r=y:=he;omega
  refine c5 (λaY=>ai (bF g gs A) Z aY/\di aY g gs A B (a8 (decide (6<a.natAbs)||dk sizes) I) clean) ?_ ?_
  rotate_left
  .intro aB aJ;rw[bN,al];refine⟨λdN=>?_,λdO=>?_⟩
   .refine (th b6).mono ?_;rintro _ cQ _ ⟨cR,cS⟩;refine aJ _ ⟨cR.mono λr _ h=>.inl h,?_⟩;rw[decide_eq_true Ω,Bool.true_or];exact cS
   .rw[aM b2.p 1 b5 rfl];refine(BM aX.ls λz aV=>(b1 z aV).1).mono ?_;rintro _ cQ _ ⟨rfl,b7⟩;refine(th (b6.ext b7)).mono ?_;rintro _ dP _ ⟨cT,cU⟩;refine aJ _ ⟨(b7.ab _).trans (cT.mono λr _ h=>.inl h),?_⟩;rw[decide_eq_false Ω,Bool.false_or];exact cU
  rintro aY ⟨aZ,a1⟩;have dQ:=aZ.size;generalize bg:a8 (decide (6<a.natAbs)||dk sizes) I=H at K a1;have cV:dR H:=λQ=>by
   subst bg;have Q:(I.big||_)=false:=Q;exact cM (S7.1 Q).1
  have dS:H.shared.length+1+H.toks.length<=100000:=by subst bg;exact cN
  have a1:dm aY g gs A B clean (σ H):=a1;refine(mi (lo:=0) (hi:=ax) a1).mono ?_;rintro _ b8 _ ⟨W,o,dT,rfl,cW,dU⟩;obtain⟨a2,cX⟩:=W.of;have dV:=a2.size;rw[bq,br,aU b2.p rfl];have cY:=(b5.ab aZ ah).ab a2 ah;refine bl (g:=y) (o:=2) ao.i rfl rfl cY Ξ λa6 ap dW a7=>?_;have a7:af a6 y b2 [aK,szv,Δ o,.slice ν 0 0]:=a7;rw[aM b2.p 1 a7 rfl];have c1:=cX.ab ap bA bz;have bC:ai (bF g gs A) Z b8:=aZ.trans a2;have c2:ai (bF g gs A) w b8:=cP.trans bC;have b9:ai (bF g gs A) w a6:=hz c2 ap λr f he=>by have he:r=y:=he;omega
  have ac:∀r,leads szv r->aR.heap.size<=r/\r<Z.heap.size:=λr f=>by have:=bQ aX f;omega
  have ca:av .i64 ao a6 gz szv sizes:=bt (bt aX bC λr f C=>by have:=gT _ C;have:=ac r f;omega) ap λr f he=>by have he:r=y:=he;have:=ac r f;omega
  have c3:av .i64 ao a6 gr aK scope:=bt (bt (bt aI M λr f he=>(P r f).2.1 he) bC λr f C=>by have:=gT _ C;have:=P r f;omega) ap λr f he=>(P r f).2.1 he;have dX:=ap.size;refine(Mo c1 (λt bD=>?_) ca.ls (λr f=>⟨λC=>by have:=gT _ C;have:=ac r f;omega,by have:=ac r f;omega⟩) b1 Ω (cp.ab b9 h1.1) h1).mono ?_
  .obtain⟨q,G,rfl⟩:=X4.1 bD;have cc:=(dg (n:=q.1) (s':=q.2) G).eqs;intro Q;rw[cc.1];rw[cc.2.1]at Q;exact cV Q
  rintro b4 c4 _ ⟨W,l,bG,cd⟩;obtain⟨au,c6⟩:=W.of;have dY:=au.size;have bH:b4.cells= #[b4]/\b4.oneCell'=true:=⟨qC bG,jp bG⟩;rw[aU b2.p rfl];have c7:=a7.ab au ah;refine bl (g:=y) (o:=3) iF.i bH.1 bH.2 c7 Ξ λJ ae dZ ba=>?_;have ba:af J y b2 [aK,szv,Δ o,b4]:=ba;have ea:=ae.size;have ce:=c6.ab ae bA bz;have c8:ai (bF g gs A) w c4:=b9.trans au;have c9:ai (bF g gs A) w J:=hz c8 ae λr f he=>by have he:r=y:=he;omega
  have cg:av .i64 ao J gr aK scope:=bt (bt c3 au λr f C=>by have:=gT _ C;have:=P r f;omega) ae λr f he=>(P r f).2.1 he;have bb:av .i64 ao J gz szv sizes:=bt (bt ca au λr f C=>by have:=gT _ C;have:=ac r f;omega) ae λr f he=>by have he:r=y:=he;have:=ac r f;omega
  have da:af J E b2 [.slice ν 0 0,.slice ν 0 0,Δ 0,.slice ν 0 0]:=((((((bU.ab M (λhe=>by have he:E=y:=he;omega)).ab aZ L).ab a2 L).ab ap (λhe=>by have he:E=y:=he;omega)).ab au L).ab ae (λhe=>by have he:E=y:=he;omega));let O:ak:=λr=>(B r\/w.heap.size<=r)/\r<J.heap.size;have ch:aq.rep (α:=List (Λ×Int)) false bB (λr=>cH g gs A O r/\r≠y/\r≠E) J [b4] l:=by
   refine Cx (aq.ab bG ae λr f h he=>?_) λr f h=>?_
   .have he:r=y:=he;rcases h with h|h
    .exact h
    .rcases h with h|h
     .have:=U r h.2;omega
     .omega
   .rcases h with h|h
    .have:=U r h.2;exact⟨⟨h.1,.inl h.2,f⟩,Ω,Ω⟩
    .exact⟨⟨λC=>by have:=gT _ C;omega,.inr Ω,f⟩,Ω,Ω⟩
  have db:∀r,leads aK r->cH g gs A O r/\r≠y/\r≠E:=λr f=>by
   have N:=P r f;have an:=(bQ cg f);exact⟨⟨λC=>by have:=gT _ C;omega,.inr Ω,Ω⟩,N.2⟩
  have ci:∀r,leads szv r->cH g gs A O r/\r≠y/\r≠E:=λr f=>by
   have N:=ac r f;have an:=(bQ bb f);exact⟨⟨λC=>by have:=gT _ C;omega,.inr Ω,Ω⟩,Ω,Ω⟩
  have dc:Seen (λr=>cH g gs A O r/\r≠y/\r≠E) J [aK,szv,Δ o,b4] ((scope,sizes,o,l):hE):=Cw (q6 cg db) (q6 bb ci) ch;have dd:∀q,c0 all s=σ q->((scope,sizes,o,l):hE)=ha q.1:=λq G=>by
   rw[K]at G;obtain⟨eb,bI,rfl⟩:=X4.1 G;have N:=cd _ bI;cases aw:bd 0 ax H with
   |none=>have e:bc 0 ax (σ H)=ν:=aw;rw[e]at bI;cases bI
   |some ag=>
    have an:=cW ag aw;rw[N,an];rfl
  have de:∀v∈[aK,szv,V5 .i64 o,b4],v.oneCell'=true:=by
   intro v ad;simp at ad;rcases ad with rfl|rfl|rfl|rfl
   .exact bn.2
   .exact bb.ls.cells.2
   .rfl
   .exact bH.2
  have cj:∀r,cH g gs A B r->cH g gs A O r/\r≠y/\r≠E:=λr f=>by
   have:=U r f.2;exact⟨⟨f.1,.inl f.2,Ω⟩,Ω,Ω⟩
  refine c5 (λbJ=>∃aT,ai (bF g gs A) J bJ/\(∀r,aT r->A r\/J.heap.size<=r)/\∃S,lv bJ g gs aT S (λr=>cH g gs A O r/\r≠y/\r≠E) clean ((c0 all s).map (·.2))) ?_ ?_
  .rintro bJ ⟨aT,aL,aN,S,df⟩;have ec:=aL.size;refine Cy rfl de (ba.ab aL ah) rfl (da.ab aL L) λbK be=>?_;have ed:=be.size;have cl:∀r,bF g gs aT r->¬(λr=>r=E) r:=λr f he=>by
    have he:r=E:=he;subst he;rcases f with f|f|f
    .exact L (.inl f)
    .exact L (.inr (.inl f))
    .rcases aN _ f with f|f
     .exact L (.inr (.inr f))
     .omega
   have cm:∀r,(cH g gs A O r/\r≠y/\r≠E)->cH g gs aT (λr=>(B r\/w.heap.size<=r)/\r<bK.heap.size/\(r<J.heap.size\/B r)) r:=λr h=>⟨λC=>h.1.1 (C.imp id (Or.imp id λC=>(aN r C).elim id λh'=>by have:=h.1.2.2;omega)),h.1.2.1,by have:=h.1.2.2;omega,.inl h.1.2.2⟩;have dh:lv bK g gs aT S (λr=>cH g gs A O r/\r≠y/\r≠E) clean ((c0 all s).map (·.2)):=df.ab be (cl g (.inl rfl)) (λr f _=>cl r f) (λr f=>f.2.2);refine⟨aT,λr=>(B r\/w.heap.size<=r)/\r<bK.heap.size/\(r<J.heap.size\/B r),_,(scope,sizes,o,l),rfl,rfl,hz (c9.trans aL) be λr f he=>by have he:r=E:=he;omega,λr f=>(aN r f).imp id λh=>Ω,λr f=>⟨f.1,f.2.1⟩,λr f=>⟨.inl f,by have:=U r f;omega,.inr f⟩,dh.out cm λr f=>f.2.1,?_,dd⟩;refine Cx (aq.ab (aq.ab dc aL λr _ h C=>?_) be λr _ h he=>?_) λr _ h=>cm r h
   .rcases h with h|h
    .exact h
    .exact h.1.1 C
   .rcases h with h|h
    .exact h
    .exact h.2.2 he
  .intro aB aJ;rw[al];refine⟨λdj=>?_,λdl=>?_⟩
   .intro bL aA _ _;have ee:=aA.size;have dn:∀r,(cH g gs A O r/\r≠y/\r≠E)->cH g gs A (pJ bL.heap.size) r:=λr h=>⟨h.1.1,by have:=h.1.2.2;show r<bL.heap.size;omega⟩;refine Mq (R:=λr=>cH g gs A O r/\r≠y/\r≠E) (z:=sizes) (l:=l) (ce.ext aA) cj dn (λt bD=>?_) (ba.ext aA) (q6 (bb.ext aA) ci) (b0 ch aA) λef aT dp aN dq=>?_
    .obtain⟨q,G,rfl⟩:=X4.1 bD;cases aw:bd 0 ax H with
     |none=>have e:bc 0 ax (σ H)=ν:=aw;rw[e]at G;cases G
     |some ag=>
      have e:bc 0 ax (σ H)=σ ag:=aw;rw[e]at G;have h1:q.2.shared=ag.2.shared/\q.2.toks.length<=ag.2.toks.length:=Cz (l:=q.1) (s':=q.2) G;have N:=dg (n:=ag.1) (s':=ag.2) aw;have an:=N.eqs.2.2;have eg:=N.1;rw[h1.1,an];have:=h1.2;omega
    .refine aJ _ ⟨aT,(aA.ab _).trans dp,λr f=>(aN r f).imp id λh=>Ω,pJ bL.heap.size,?_⟩;have e:(c0 all s).map (·.2)=((iQ sizes ((bc 0 ax (σ H)).map (·.2))).map (·.2)).map (tz sizes l):=by
      rw[K];cases G:iQ sizes ((bc 0 ax (σ H)).map (·.2))with
      |none=>rfl
      |some q=>
       have N:=cd _ G;simp only[Z7,if_pos dj,N]
     rw[e];exact dq
   .refine aJ _ ⟨A,ai.refl _ _,λr f=>.inl f,B,?_⟩;have e:(c0 all s).map (·.2)=(iQ sizes ((bc 0 ax (σ H)).map (·.2))).map (·.2):=by
     rw[K];cases G:iQ sizes ((bc 0 ax (σ H)).map (·.2))with
     |none=>rfl
     |some q=>simp only[Z7,if_neg dl]
    rw[e];exact ce.qr cj
end Go.Proofs.YtikkpokkcdocoabGreatDoor
