/- own texts, made small by a tool (wip/ holds them as they were written): no statement of the seat. -/
import Derived.Test.YtikkpokkcdocoabGreatDoorWa
set_option linter.defProp false
set_option linter.unusedVariables false
set_option linter.unusedSimpArgs false
set_option linter.unnecessarySimpa false
open Array renaming getElem?_eq_some_iff→j4,getElem?_toList→S9
open BitVec renaming ofInt→T0
open Bool renaming not_true→Y7,not_false→W3,and_eq_true→V5,eq_iff_iff→U1,or_eq_false_iff→S8
open Decidable renaming not_not→Z9
open Go renaming Value→x1,World→x3,TypeId→p9,IntKind→o7,Builtin→Z3,Program→W8,FuncId→R7
open Go.Builtin renaming append_→Z0,len_→V0
open Go.Instr renaming loadAt→u5,fieldAt→u6,storeAt→o8,indexAt→j9,extract→Y0,buildSlice→Y5,sliceAt→V9,alloc→Q1
open Go.IntKind renaming i64→X6,u64→U6
open Go.Proofs.Tryz renaming prog→x7
open Go.Result renaming andThen→W7
open Go.Sem renaming run_bind→W5,run_pure→V3
open Go.Value renaming int→V6
open Int renaming toNat_natCast→u7
open List renaming getElem?_eq_some_iff→x4,mem_of_getElem?→x5,getElem?_eq_getElem→x6,getElem?_map→x8,getD_eq_getElem?_getD→u4,take_add_one→u9,length_map→r8,length_append→r9,replicate→p8,mem_append→o5,take_length→o6,mem_singleton→o9,length_take→l9,mem_map→j5,eq_nil_of_length_eq_zero→j6,getElem?_set_self→c8,length_set→c9,length_cons→b6,take_of_length_le→b8,getElem?_eq_none→Z2,map_append→Z4,getElem?_take_of_lt→Z7,range→Y1,getElem?_set_ne→Y2,ext_getElem?→Y4,getElem?_append_left→Y6,getElem?_append_right→Y8,getElem?_set→X0,mem_iff_getElem?→X3,drop_eq_getElem_cons→X4,flatMap_cons→X8,mem_or_eq_of_mem_set→W0,append_nil→W6,length_eq_one_iff→W9,append_assoc→V1,mem_cons→V2,pairwise_iff_getElem→V8,map_set→U5,map_cons→U7,length_singleton→T2,foldl_cons→T5,set_append_right→T7,map_map→S1,getElem_mem→S3,length→S5,foldl_append→S6,mem_flatMap→R2
open Nat renaming le_refl→o4,le_trans→Y9,zero_add→X2,zero_le→X5,mul_le_mul_right→X9,mul_one→U2,add_mul→U3,sub_self→U4,pow_le_pow_right→S2,add_sub_cancel_left→R6,lt_of_lt_of_le→Q2,eq_zero_or_pos→Q3
open Option renaming toList_some→n9,some→c7,isNone_some→Z5,map_some→Z6,map_eq_some_iff→X1,getD_some→V4,map→V7
open Option.some renaming inj→b9,injEq→Y3
open Prod renaming mk→Q4
open Prod.mk renaming injEq→T1
set_option maxHeartbeats 16000000
open Option renaming some→σ,none→ν
variable{C aj ks l sizes:Λ}{N a gs j n r:Nat}{e t:p9}{K:x1->Prop}{at_ c hi k lo y:Int}{clean cx cy:Bool}{sv v z:x1}{w w':x3}{R S:Nat->Prop}{cs:List x1}{toks:List (Λ)}
namespace Go.Vc
open Go Go.RowKit
set_option maxRecDepth 100000
def KH:(⟨#[]⟩:ByteArray)=strOfNums []:=rfl
def KI{aA:x1->x1->x1->x3->Prop}{B:(x1->x1->x1->x3->Prop)->Prop}(G:x1->x1->x1->x3->Prop)(h1:∀t u v w,G t u v w->aA t u v w)(e:∀a:x1->x1->x1->x3->Prop,(∀t u v w,G t u v w->a t u v w)->B a):cz aA B:=e aA h1
def AZ{aA:x1->x1->x1->x1->x3->Prop}{B:(x1->x1->x1->x1->x3->Prop)->Prop}(G:x1->x1->x1->x1->x3->Prop)(h1:∀s t u v w,G s t u v w->aA s t u v w)(e:∀a:x1->x1->x1->x1->x3->Prop,(∀s t u v w,G s t u v w->a s t u v w)->B a):cz aA B:=e aA h1
abbrev bL(l:Λ):x1:=.string (strOfNums l)
def Bytes(l:Λ):Prop:=∀b∈l,0<=b/\b<256
def na(l:Λ):(strOfNums l).size=l.length:=strOfNums_size l
def KJ(h:Bytes l){i:Nat}{b:Int}(hi:l[i]?=σ b):(strOfNums l)[i]?=σ (UInt8.ofNat b.toNat)/\((UInt8.ofNat b.toNat).toNat:Int)=b:=by
 have f:=h b (x5 hi);have e:=x4.1 hi;refine⟨?_,by rw[UInt8.toNat_ofNat'];omega⟩;have U:i<(strOfNums l).size:=by rw[na];exact e.1
 rw[getElem?_pos (strOfNums l) i U];congr 1;show(strOfNums l).data[i]=_;have a:(strOfNums l).data.toList[i]?=σ (UInt8.ofNat b.toNat):=by rw[strOfNums_data,x8,hi];rfl
 rw[S9]at a;exact(j4.1 a).2
def str_inj{a b:Λ}(e:Bytes a)(f:Bytes b)(h:strOfNums a=strOfNums b):a=b:=by
 have h1:(strOfNums a).data.toList=(strOfNums b).data.toList:=by rw[h]
 rw[strOfNums_data,strOfNums_data]at h1;have key:∀{l:Λ},Bytes l->(l.map λn=>UInt8.ofNat n.toNat).map (λu=>((u.toNat:Nat):Int))=l:=λ{l}p=>by
  rw[S1]
  conv=>rhs;rw[<-List.map_id l]
  refine List.map_congr_left λx J=>?_;have:=p x J;show(((UInt8.ofNat x.toNat).toNat:Nat):Int)=x;rw[UInt8.toNat_ofNat'];omega
 rw[<-key e,<-key f,h1]
def KK(a b:Λ):strOfNums a++strOfNums b=strOfNums (a++b):=by
 apply ByteArray.ext;rw[ByteArray.data_append];simp[strOfNums]
def KL(l:Λ)(i j:Nat):(strOfNums l).extract i j=strOfNums ((l.take j).drop i):=by
 apply ByteArray.ext;rw[ByteArray.data_extract];apply Array.toList_inj.1;rw[Array.toList_extract];simp[strOfNums,List.extract_eq_take_drop,List.map_drop,List.map_take,List.drop_take]
def A0(l:Λ):(strOfNums l).toList=l.map λn=>UInt8.ofNat n.toNat:=by
 rw[ByteArray.toList_eq];exact strOfNums_data l
def A1{a b:Λ}(e:Bytes a)(f:Bytes b):((strOfNums a).toList == (strOfNums b).toList)=decide (a=b):=by
 rw[U1,beq_iff_eq,decide_eq_true_eq,A0,A0];refine⟨λh=>str_inj e f ?_,λh=>by rw[h]⟩;unfold strOfNums;rw[h]
section
variable{P:W8}{w:x3}
def od{a:p9}(e:P.underlying t=σ .string):ac P (V0 #[t] a #[bL l]) w K=K (Δ l.length):=ac.of λw' _=>by
 simp[V0,run_underlying e,goInt,na]
def qO{k:o7}{b:Int}{i:Nat}(a:y=(i:Int))(f:P.underlying t=σ .string)(h:Bytes l)(hi:l[i]?=σ b):ac P (Instr.index t (bL l) (.int k y)) w K=K (.int .u8 b):=ac.of λw' _=>by
 subst a;have⟨h1,p⟩:=KJ h hi;have e:(0:Int)<=(i:Int):=Ω
 simp only[Instr.index,asIntOf,W5,V3,W7,run_underlying f];rw[if_pos e,u7,h1];simp only[V3,p]
def wa{a b:Λ}(h:a.length+b.length<=9223372036854775807):ac P (aO .add t cx cy (bL a) (bL b)) w K=K (bL (a++b)):=ac.of λw' _=>by
 have:=run_string_add_sum (P:=P) (w:=w') (strOfNums a) (strOfNums b) (by rw[na,na];exact h);simp only[aO,eqGuard,binOp];simp[this,KK]
def wb{a b:Λ}(e:Bytes a)(f:Bytes b):ac P (aO .eql t cx cy (bL a) (bL b)) w K=K (.bool (decide (a=b))):=ac.of λw' _=>by
 simp[aO,eqGuard,binOp,Op.stringOp,A1 e f]
def KM{a b:Λ}(e:Bytes a)(f:Bytes b):ac P (aO .neq t cx cy (bL a) (bL b)) w K=K (.bool (decide (a≠b))):=ac.of λw' _=>by
 simp[aO,eqGuard,binOp,Op.stringOp,A1 e f]
def A2{k:o7}{i:Nat}(a:y=(i:Int))(f:P.underlying t=σ .string)(hi:i<=l.length):ac P (V9 t (bL l) (σ (.int k y)) ν ν) w K=K (bL (l.drop i)):=ac.of λw' _=>by
 have p:=sU (P:=P) w' (sl:=false) (n:=(strOfNums l).size) (c:=(strOfNums l).size) (low:=σ (.int k y)) (high:=ν) (mx:=ν) (l:=i) (h:=(strOfNums l).size) (m:=(strOfNums l).size) (nZ i y a) jy fh (by rw[na];exact hi) (o4 _) (o4 _);have e:(strOfNums l).extract i (strOfNums l).size=strOfNums (l.drop i):=by rw[KL,na,o6]
 simp[V9,Instr.slice,run_underlying f,p,e]
def wc{s:p9}(U:P.underlying s=σ (.slice e))(he:P.underlying e=σ (.int .u8))(f:P.underlying t=σ .string)(h:aI .u8 w v l):ac P (convert s t v) w K=K (bL l):=ac.of λw' J=>by
 obtain⟨p,b,o,base,cap,rfl,_,_,r,x⟩:=h.ext J;have p:l.length=l.length*1:=by simpa using p
 by_cases y:0<l.length
 .rw[r y];refine run_convert_bytes_arg w' s e U he b o l.length cap l T (λi hi=>?_) t f;have q:l[i]?=σ l[i]:=x6 hi;rw[u4,q];exact x i _ (lk q)
 .have z:l=[]:=j6 Ω;subst z;cases base with
  |none=>
   rw[run_convert_bytes_nil w' s e U he _ _ t f];rfl
  |some a=>
   rw[run_convert_bytes_string w' s t e _ _ _ U he f];have:=run_bytesToString (P:=P) w' a 0 cap [] (by have:=run_loadCells_list (P:=P) w' a [] (λj v A=>by simp at A);simpa using this);simp only[List.length_nil];rw[this];rfl
def we{s:p9}{u:TypeDesc}{K:x1->x3->Prop}(U:P.underlying s=σ u)(x:P.underlying t=σ (.slice e))(he:P.underlying e=σ (.int .u8))(y:Bytes l)(hm:l.length<=1000000000)(z:∀v w',Ext w w'->aI .u8 w' v l->(∀r,(∃a n c,v= .slice (σ a) n c/\a.block=r)->w.heap.size<=r)->K v w'):aE P (convert s t (bL l)) w K:=by
 have A:=Lib.bytesWorld_at_new w e (strOfNums l);have p:=λj f=>Lib.bytesWorld_at_old w e (strOfNums l) j f;have B:=Lib.bytesWorld_size w e (strOfNums l);refine .of (Lib.run_convert_string_bytes w s t e (strOfNums l) U x he) ⟨T,⟨T,Nat.le_succ _⟩,T,Ω,λr o h _=>?_⟩ (z _ _ ⟨Ω,λr o h _=>?_⟩ ?_ ?_)
 .rw[p r (j4.1 h).1];exact h
 .rw[p r (j4.1 h).1];exact h
 .rw[na];refine⟨Ξ,w.heap.size,0,_,_,T,?_,?_,λ_=>rfl,λj v ad=>?_⟩
  .exact grownCap_ge w _ _ _
  .exact grownCap_le_maxLen w _ _ _ (by simp[maxLen];omega)
  .have f:j<l.length:=by have:=(x4.1 ad).1;simpa using this
   have q:l[j]?=σ l[j]:=x6 f;rw[X2,Lib.bytesWorld_cell w e (strOfNums l) j (by rw[na];exact f)];rw[lk q]at ad;rw[<-b9 ad,strOfNums_data,u4,x8,q];have:=y l[j] (S3 f);simp only[Z6,V4];congr 2;rw[UInt8.toNat_ofNat'];omega
 .rintro r ⟨a,n,c,h1,rfl⟩;cases h1;exact o4 _
end
end Go.Vc
namespace Go.Proofs.YtikkpokkcdocoabGreatDoor
open Go Go.Vc Go.RowKit Go.Proofs Go.Proofs.Tryz
set_option maxRecDepth 100000
def A3{b:Int}(h:cA b=true):bO b=false:=by
 have h:=of_decide_eq_true h;unfold bO;rw[decide_eq_false_iff_not];omega
def A4{b:Int}{p:Λ}(h:cA b=true):lex (b::p)=lex p:=by
 rw[kI,kI p,List.dropWhile_cons,if_pos h]
def KN{b:Int}{p:Λ}(h:cA b=false)(a:bO b=false):lex (b::p)=([],false):=by
 rw[kI,List.dropWhile_cons,if_neg (by simp[h])];simp only[a,Bool.false_eq_true,if_false]
def A5{b:Int}{p:Λ}(h:bO b=true):lex (b::p)=match p.dropWhile bO with
  |[]=>([b::p.takeWhile bO],true)
  |c::r=>if cA c then((b::p.takeWhile bO)::(lex (c::r)).1,(lex (c::r)).2)else([],false):=by
 have U:cA b=false:=by
  cases a:cA b with
  |false=>rfl
  |true=>rw[A3 a]at h;cases h
 rw[kI,List.dropWhile_cons,if_neg (by simp[U])];simp only[h,if_true,List.dropWhile_cons,List.takeWhile_cons]
 all_goals (cases List.dropWhile bO p<;>rfl)
def iC:Λ->List (Λ)->Λ->Bool->List (Λ)×Bool
 |[],out,w,op=>(if op then out++[w]else out,true)
 |b::p,out,w,op=>
  if cA b then iC p (if op then out++[w]else out) [] false
  else if bO b then iC p out (if op then w++[b]else[b]) true
  else(out,false)
theorem qP:∀(p:Λ)(out:List (Λ))(w:Λ),iC p out w false=(out++(lex p).1,(lex p).2)/\
  iC p out w true=match p.dropWhile bO with
   |[]=>(out++[w++p.takeWhile bO],true)
   |c::r=>if cA c then(out++[w++p.takeWhile bO]++(lex (c::r)).1,(lex (c::r)).2)else(out,false)
 |[],out,w=>by simp[iC,kI []]
 |b::p,out,w=>by
  by_cases U:cA b=true
  .have hw:=A3 U;refine⟨?_,?_⟩
   .rw[iC,if_pos U,(qP p _ _).1,A4 U];simp
   .rw[iC,if_pos U,if_pos T,(qP p _ _).1,List.dropWhile_cons,if_neg (by simp[hw])];simp only[U,if_true,A4 U,List.takeWhile_cons,hw,Bool.false_eq_true,if_false,W6]
  .have e:cA b=false:=by cases h:cA b;rfl;exact absurd h U
   by_cases hw:bO b=true
   .refine⟨?_,?_⟩
    .rw[iC,if_neg U,if_pos hw,if_neg Ξ,(qP p _ _).2,A5 hw];cases p.dropWhile bO with
     |nil=>simp
     |cons c r=>
      simp only;by_cases a:cA c=true
      .simp[a]
      .simp[a]
    .rw[iC,if_neg U,if_pos hw,if_pos T,(qP p _ _).2,List.dropWhile_cons,if_pos hw,List.takeWhile_cons,if_pos hw];cases p.dropWhile bO with
     |nil=>simp
     |cons c r=>
      simp only;by_cases a:cA c=true
      .simp[a]
      .simp[a]
   .have f:bO b=false:=by cases h:bO b;rfl;exact absurd h hw
    refine⟨?_,?_⟩
    .rw[iC,if_neg U,if_neg hw,KN e f];simp
    .rw[iC,if_neg U,if_neg hw,List.dropWhile_cons,if_neg hw];simp[e]
def KO(p:Λ):iC p [] [] false=lex p:=by rw[(qP p [] []).1];simp
def py:Nat->Nat->Λ
 |0,_=>[]
 |k+1,n=>(if n<10 then[]else py k (n / 10))++[48+((n % 10:Nat):Int)]
def ft(n:Nat):Λ:=py (n+1) n
theorem A6:∀{k m n:Nat},n<k->n<m->py k n=py m n
 |k+1,m+1,n,h1,a=>by
  unfold py;by_cases h:n<10
  .rw[if_pos h,if_pos h]
  .rw[if_neg h,if_neg h,A6 (k:=k) (m:=m) (n:=n / 10) Ω Ω]
def oe(n:Nat):ft n=(if n<10 then[]else ft (n / 10))++[48+((n % 10:Nat):Int)]:=by
 unfold ft;rw[py];by_cases h:n<10
 .rw[if_pos h,if_pos h]
 .rw[if_neg h,if_neg h,A6 (k:=n) (m:=n / 10+1) Ω Ω]
theorem A7:∀(k n:Nat),n<k->∀b∈ft n,48<=b/\b<=57
 |k+1,n,hk,b,a=>by
  rw[oe]at a;rcases o5.1 a with a|a
  .by_cases h:n<10
   .rw[if_pos h]at a;simp at a
   .rw[if_neg h]at a;exact A7 k (n / 10) Ω b a
  .rw[o9]at a;omega
def A8(n:Nat):∀b∈ft n,48<=b/\b<=57:=A7 (n+1) n Ω
def qQ(l:Λ):Int:=l.foldl (λn b=>10*n+(b-48)) 0
def KP(l:Λ)(b:Int):qQ (l++[b])=10*qQ l+(b-48):=by simp[qQ]
theorem wg:∀(k n:Nat),n<k->qQ (ft n)=n
 |k+1,n,hk=>by
  rw[oe,KP];by_cases h:n<10
  .rw[if_pos h];have:qQ []=0:=rfl;omega
  .rw[if_neg h,wg k (n / 10) Ω];omega
def KQ{b:Nat}(h:ft a=ft b):a=b:=by
 have h1:=wg (a+1) a Ω;have e:=wg (b+1) b Ω;rw[h,e]at h1;omega
theorem wh:∀(k n:Nat),n<10 ^ k->1<=k->(ft n).length<=k
 |k+1,n,h,_=>by
  rw[oe,r9];by_cases a:n<10
  .rw[if_pos a];simp
  .rw[if_neg a];have hk:1<=k:=by
    rcases k with _|k
    .simp at h;omega
    .omega
   have e:(10:Nat) ^ (k+1)=10*10 ^ k:=by rw[Nat.pow_succ,Nat.mul_comm]
   have:=wh k (n / 10) Ω hk;simp only[T2];omega
def ee(t:Λ):Λ:=t.flatMap λv=>ft v.toNat++[32]
def KR(t:Λ)(v:Int):ee (t++[v])=ee t++(ft v.toNat++[32]):=by simp[ee]
def Ba{r:Λ}(a:∀b∈l,b≠32):(l++32::r).takeWhile (λb=>decide (b≠32))=l/\(l++32::r).dropWhile (λb=>decide (b≠32))=32::r:=by
 induction l with
 |nil=>simp
 |cons x l e=>
  have J:=a x (.head _);have:=e λb f=>a b (.tail _ f);simp only[List.cons_append,List.takeWhile_cons,List.dropWhile_cons];simp only[J,ne_eq,not_false_eq_true,decide_true,if_true];exact⟨by rw[this.1],this.2⟩
theorem Bb:∀{a b:Λ},(∀x∈a,0<=x)->(∀x∈b,0<=x)->ee a=ee b->a=b
 |[],[],_,_,_=>rfl
 |[],y::b,_,_,h=>by simp[ee]at h
 |x::a,[],_,_,h=>by simp[ee]at h
 |x::a,y::b,p,q,h=>by
  have e:∀(z:Int)(l:Λ),ee (z::l)=ft z.toNat++32::ee l:=λz l=>by simp[ee]
  rw[e,e]at h;have d:∀z:Int,∀c∈ft z.toNat,c≠32:=λz c w=>by have:=A8 _ c w;omega
  have s1:=Ba (r:=ee a) (d x);have s:=Ba (r:=ee b) (d y);rw[h]at s1;have A:ft x.toNat=ft y.toNat:=s1.1.symm.trans s.1;have B:=s1.2.symm.trans s.2;have J:=p x (.head _);have E:=q y (.head _);have:=KQ A;have C:x=y:=Ω
  subst C;rw[Bb (λz f=>p z (.tail _ f)) (λz f=>q z (.tail _ f)) (List.cons.inj B).2]
def Bc(t:Λ):Bytes (ee t):=λb a=>by
 have⟨v,_,a⟩:=R2.1 a;rcases o5.1 a with a|a
 .have:=A8 _ b a;omega
 .rw[o9]at a;omega
def Bd{b:Int}:am x7 IR [.int .u8 b] w λv w'=>v= .bool (cA b)/\Ext w w':=by
 apply az func186;refine aV (λv V=>v= .bool (cA b)/\Ext w V) (λ_ _ h=>h) λaA a=>?_;rw[be,al];refine⟨λh=>a _ _ ⟨by unfold cA;rw[decide_eq_true (.inl h)],Ext.refl _⟩,λh1=>?_⟩;rw[be,al];refine⟨λh=>a _ _ ⟨by unfold cA;rw[decide_eq_true (.inr (.inl h))],Ext.refl _⟩,λe=>?_⟩;rw[be,al];refine⟨λh=>a _ _ ⟨by unfold cA;rw[decide_eq_true (.inr (.inr (.inl h)))],Ext.refl _⟩,λf=>?_⟩;rw[be];refine a _ _ ⟨?_,Ext.refl _⟩;congr 1;unfold cA;rw[U1,decide_eq_true_eq,decide_eq_true_eq];omega
def KT{b:Int}:am x7 IQ [.int .u8 b] w λv w'=>v= .bool (bO b)/\Ext w w':=by
 apply az func185;refine aV (λv V=>v= .bool (bO b)/\Ext w V) (λ_ _ h=>h) λaA a=>?_;rw[cO,al];refine⟨λh=>?_,λh=>a _ _ ⟨by unfold bO;rw[decide_eq_false Ω],Ext.refl _⟩⟩;rw[mV];refine a _ _ ⟨?_,Ext.refl _⟩;congr 1;unfold bO;rw[U1,decide_eq_true_eq,decide_eq_true_eq];omega
def ml(w:x3)(g:Nat)(a:x1)(p:Λ)(at_:Nat)(bad:Int):Prop:=Bytes p/\p.length<=100000/\at_<=p.length/\ag w g h8 [a,Δ (at_:Int),Δ bad]/\∃bn,av .u8 cJ w bn a p
def ml.ext{g:Nat}{a:x1}{p:Λ}{at_:Nat}{bad:Int}(h:ml w g a p at_ bad)(J:Ext w w'):ml w' g a p at_ bad:=by
 have⟨h1,e,f,q,bn,r⟩:=h;exact⟨h1,e,f,q.ext J,bn,r.ext J⟩
def KU(h:aI .u8 w v l)(B:l.length<=100000):am x7 IK [v] w λf w'=>Ext w w'/\∃g,av .u8 cJ w' g f l:=by
 have e:=h;obtain⟨C,b,o,base,cap,rfl,E,hm,q,G⟩:=h;apply az func179;rw[mW cN.u,ca];refine⟨λr=>⟨Ext.refl _,0,?_⟩,λ_=>?_⟩
 .have:l=[]:=by
   cases base with
   |none=>
        by_cases e:0<l.length
        .have:=q e;cases this
        .exact j6 Ω
   |some a=>cases r
  subst this;exact av.nil _ _ _ _
 .refine kD (k:=1) (cs:=#[]) cN.u cJ.i Ω Ψ λg V H p s=>?_;have x:av .u8 cJ V g (.slice (σ ⟨g,0,ν⟩) 0 0) []:=av.of (n:=0) (b1.full (by simpa using s) T Ξ);refine jA cN.u cJ.i T x (e.ext p) Θ Θ λf y aa I z A=>?_;exact⟨p.put A Ω,y,by simpa using z⟩
def Be(h:aI .u8 w v l)(r:Bytes l)(e:l.length<=100000):am x7 zT [v] w λs w'=>Ext w w'/\∃g,s=Γ g/\w.heap.size<=g/\∃a,ml w' g a l 0 (-1):=by
 apply az func104;apply(KU h e).mono;rintro a V _ ⟨f,bn,p⟩;rw[cY (cs:=#[a,Δ 0,Δ (-1)]) (by obtain⟨_,_,_,_,_,rfl,_⟩:=p.ls;kernel_rfl)];refine bd λg aa y q x=>?_;have s1:=f.size;exact⟨f.trans q,g,T,Ω,a,r,e,X5 _,x,bn,p.ext q⟩
def runN(f:Int->Bool)(p:Λ):Nat:=(p.takeWhile f).length
def KV(f:Int->Bool)(p:Λ):runN f p<=p.length:=(List.takeWhile_sublist f).length_le
def Bf{f:Int->Bool}{p:Λ}{i:Nat}{b:Int}(hi:p[i]?=σ b)(ae:f b=true):i+runN f (p.drop i)=(i+1)+runN f (p.drop (i+1)):=by
 have a:=x4.1 hi;unfold runN;rw[X4 a.1,a.2,List.takeWhile_cons,if_pos ae,b6];omega
def Bg{f:Int->Bool}{p:Λ}{i:Nat}(h:∀b,p[i]?=σ b->f b=false):runN f (p.drop i)=0:=by
 unfold runN;cases a:p[i]? with
 |none=>
  rw[List.drop_of_length_le (List.getElem?_eq_none_iff.1 a)];rfl
 |some b=>
  have e:=x4.1 a;rw[X4 e.1,e.2,List.takeWhile_cons,if_neg (by simp[h b a])];rfl
def KW{g at_:Nat}{A:x1}{p:Λ}{bad:Int}(h:ml w g A p at_ bad):am x7 IP [Γ g] w λv w'=>v=Δ ((at_+runN cA (p.drop at_):Nat):Int)/\Ext w w':=by
 have⟨K,L,B,a,bn,r⟩:=h;apply az func184;rw[aT h8.p 1 a T];refine⟨λv V=>Ext w V/\∃i:Nat,v=Δ (i:Int)/\i<=p.length/\i+runN cA (p.drop i)=at_+runN cA (p.drop at_),λv _=>p.length-(bW v).toNat,⟨Ext.refl _,at_,T,B,T⟩,?_⟩;rintro _ V ⟨q,i,rfl,hi,he⟩;refine aV (λv aa=>Ext w aa/\∃c:Bool,v= .bool c/\(c=true↔ ∃b,p[i]?=σ b/\cA b=true)) ?_ ?_
 .rintro _ aa ⟨s,c,rfl,x⟩;rw[ca];refine⟨λC=>?_,λae=>?_⟩
  .obtain⟨b,e,E⟩:=x.1 C;have G:=(x4.1 e).1;rw[aN,wrap_i64 Ω Ω];exact⟨⟨s,i+1,T,G,by rw[<-he,Bf e E]⟩,by simp only[bW];omega⟩
  .have H:=Bg (f:=cA) (p:=p) (i:=i) λb a=>by
    cases U:cA b with
    |false=>rfl
    |true=>rw[x.2 ⟨b,a,U⟩]at ae;cases ae
   exact⟨by rw[<-he,H,Nat.add_zero],s⟩
 .intro aA y;have z:=a.ext q;rw[aT h8.p 0 z T,aW cN.u (r.ext q).ls,aP,al];refine⟨λM=>?_,λN=>y _ _ ⟨q,false,T,⟨λh=>(by cases h),λ⟨b,a,_⟩=>by have:=(x4.1 a).1;omega⟩⟩⟩;have I:i<p.length:=Ω
  have e:p[i]?=σ p[i]:=x6 I;rw[aT h8.p 0 z T,bc cN.u cJ.i Ψ (r.ext q).ls e];apply Bd.mono;rintro _ O _ ⟨rfl,J⟩;exact y _ _ ⟨q.trans J,_,T,⟨λh=>⟨_,e,h⟩,λ⟨b,a,h⟩=>by rw[e]at a;cases a;exact h⟩⟩
inductive KX where
 |word (from_ to:Nat)
 |none
 |text (at_:Nat)
def gG(p:Λ)(at_:Nat):Nat:=at_+runN cA (p.drop at_)
def iZ(p:Λ)(a:Nat):Nat:=a+runN bO (p.drop a)
open Classical in
noncomputable def pz(p:Λ)(at_:Nat):KX:=
 if iZ p (gG p at_)<p.length/\(∀c,p[iZ p (gG p at_)]?=σ c->cA c=false)then .text (iZ p (gG p at_))else if gG p at_=iZ p (gG p at_)then .none else .word (gG p at_) (iZ p (gG p at_))
def qR(w:x3)(g:Nat)(e:x1)(p:Λ)(at_:Nat)(v:x1)(w':x3):Prop:=
 match pz p at_ with
 | .word a b=>v= .tuple #[bL ((p.take b).drop a),Δ (a:Int),Δ 0]/\ai (λr=>r=g) w w'/\ml w' g e p b (-1)
 | .none=>∃n:Nat,v= .tuple #[bL [],Δ (n:Int),Δ 2]/\Ext w w'
 | .text b=>v= .tuple #[bL [],Δ (b:Int),Δ 11]/\ai (λr=>r=g) w w'/\ml w' g e p at_ (b:Int)
def hQ{aY:Nat->Prop}{a b c:x3}(h:ai S a b)(k:ai aY b c)(p:∀r,r<a.heap.size->aY r->S r):ai S a c:=
 ⟨Y9 h.size k.size,λr o e U f=>k.a6 r o (h.a6 r o e U f) U λhu=>f (p r (j4.1 e).1 hu)⟩
def ch{g p:Nat}{k:o7}{q:p9}(h:av k e w g v l)(s:ag w p q cs)(y:e≠q)(x:leads v r):r≠p:=by
 obtain⟨rfl,_⟩:=bS h x;obtain⟨_,⟨rfl,_⟩|⟨_,_,_,f,_⟩⟩:=h
 .obtain⟨a,n,c,h,_⟩:=x;cases h
 .rintro rfl;unfold ag at s f;rw[s]at f;injection f with h1;injection h1 with A z;exact y z.symm
def KY{s:p9}{e f:o7}{b i:Nat}(p:x7.underlying s=σ (.slice t))(hi:aS x7 t 1 b z)(h:aI .u8 w v l)(q:i<=j)(r:j<=l.length)(x:∀a,aI .u8 w a ((l.take j).drop i)->K a):ac x7 (V9 s v (σ (.int e (i:Int))) (σ (.int f (j:Int))) ν) w K:=by
 refine s7 p hi h (nZ i _ T) (n0 j _ T) q r λa h'=>x a (aI.of (n:=j-i) ?_);have y:((ints .u8 l).drop (i*1)).take ((j-i)*1)=ints .u8 ((l.take j).drop i):=by
  rw[U2,U2,ints,ints,List.map_drop,List.map_take,List.drop_take]
 rw[y]at h';exact h'
def KZ{g at_:Nat}{G:x1}{p:Λ}(h:ml w g G p at_ (-1)):am x7 vE [Γ g] w (qR w g G p at_):=by
 have⟨Q,R,ao,e,bn,H⟩:=id h;apply az func110;rw[di sO.u,Z5,a8,aT h8.p 2 e T,cO,al];refine⟨λh=>Ω,λ_=>?_⟩;apply(KW h).mono;rintro _ aa _ ⟨rfl,ap⟩;obtain⟨a,S⟩:∃a,a=at_+runN cA (p.drop at_):=⟨_,T⟩;rw[<-S];have aq:a<=p.length:=by have:=KV cA (p.drop at_);rw[List.length_drop]at this;omega
 refine⟨λv I=>Ext aa I/\∃i:Nat,v=Δ (i:Int)/\a<=i/\i<=p.length/\i+runN bO (p.drop i)=a+runN bO (p.drop a),λv _=>p.length-(bW v).toNat,⟨Ext.refl _,a,T,o4 _,aq,T⟩,?_⟩;rintro _ I ⟨V,i,rfl,au,hi,he⟩;have J:=ap.trans V;have W:=e.ext J;have X:=H.ext J;refine aV (λv z=>Ext I z/\∃c:Bool,v= .bool c/\(c=true↔ ∃b,p[i]?=σ b/\bO b=true)) ?_ ?_
 rotate_left
 .intro aA s;rw[aT h8.p 0 W T,aW cN.u X.ls,aP,al];refine⟨λav=>?_,λaw=>s _ _ ⟨Ext.refl _,false,T,⟨λh=>(by cases h),λ⟨b,e,_⟩=>by have:=(x4.1 e).1;omega⟩⟩⟩;have A:i<p.length:=Ω
  have q:p[i]?=σ p[i]:=x6 A;rw[aT h8.p 0 W T,bc cN.u cJ.i Ψ X.ls q];apply KT.mono;rintro _ z _ ⟨rfl,B⟩;exact s _ _ ⟨B,_,T,⟨λh=>⟨_,q,h⟩,λ⟨b,e,h⟩=>by rw[q]at e;cases e;exact h⟩⟩
 rintro _ z ⟨B,c,rfl,x⟩;have K:=J.trans B;have Y:=e.ext K;have Z:=H.ext K;rw[ca];refine⟨λL=>?_,λae=>?_⟩
 .obtain⟨b,q,ax⟩:=x.1 L;have ay:=(x4.1 q).1;rw[aN,wrap_i64 Ω Ω];exact⟨⟨V.trans B,i+1,T,Ω,ay,by rw[<-he,Bf q ax]⟩,by simp only[bW];omega⟩
 have aF:=Bg (f:=bO) (p:=p) (i:=i) λb e=>by
  cases U:bO b with
  |false=>rfl
  |true=>rw[x.2 ⟨b,e,U⟩]at ae;cases ae
 have aB:i=a+runN bO (p.drop a):=Ω
 refine aV (λv M=>Ext z M/\∃c:Bool,v= .bool c/\(c=true↔i<p.length/\∀c,p[i]?=σ c->cA c=false)) ?_ ?_
 rotate_left
 .intro aA s;rw[aT h8.p 0 Y T,aW cN.u Z.ls,aP,al];refine⟨λav=>?_,λaw=>s _ _ ⟨Ext.refl _,false,T,⟨λh=>(by cases h),λh=>Ω⟩⟩⟩;have A:i<p.length:=Ω
  have q:p[i]?=σ p[i]:=x6 A;rw[aT h8.p 0 Y T,bc cN.u cJ.i Ψ Z.ls q];apply Bd.mono;rintro _ M _ ⟨rfl,N⟩;rw[bK];refine s _ _ ⟨N,_,T,⟨λh=>⟨A,λc x=>?_⟩,λh=>by rw[h.2 _ q];rfl⟩⟩;rw[q]at x;cases x;cases U:cA p[i]with
  |false=>rfl
  |true=>rw[U]at h;cases h
 rintro _ M ⟨N,aG,rfl,ac⟩;have y:=K.trans N;have C:=e.ext y;have E:=H.ext y;have ad:∀r,leads G r->r≠g:=λr aC=>ch E C Φ aC;have O:pz p at_=open Classical in if i<p.length/\(∀c,p[i]?=σ c->cA c=false)then .text i else if a=i then .none else .word a i:=by
  unfold pz;rw[show gG p at_=a from S.symm,show iZ p a=i from aB.symm]
 rw[ca];refine⟨λL=>?_,λaf=>?_⟩
 .rw[bZ,aU h8.p T];refine bq (g:=g) (o:=2) ah.i T rfl C Ξ λaH ag aI aD=>?_;unfold qR;rw[O,if_pos (ac.1 L)];exact⟨T,(y.ab _).trans ag,Q,R,ao,aD,bn,bw E ag ad⟩
 .have ai:¬(i<p.length/\∀c,p[i]?=σ c->cA c=false):=λh=>by rw[ac.2 h]at af;cases af
  rw[be,al];refine⟨λaJ=>?_,λaK=>?_⟩
  .intro aL P _ _;rw[aT h8.p 0 (C.ext P) T,aW cN.u (E.ext P).ls];unfold qR;rw[O,if_neg ai,if_pos Ω];exact⟨p.length,T,y.trans P⟩
  .rw[bZ,aU h8.p T];refine bq (g:=g) (o:=1) ah.i T rfl C Ξ λaM aj aO ak=>?_;have an:=bw E aj ad;rw[aT h8.p 0 ak T];refine KY (i:=a) (j:=i) cN.u cJ.i an.ls au hi λaQ aE=>?_;rw[wc cN.u cJ.u cQ.u aE];unfold qR;rw[O,if_neg ai,if_neg Ω];exact⟨T,(y.ab _).trans aj,Q,R,hi,ak,bn,an⟩
abbrev bE:ak:=λ_=>False
abbrev eN(n:Nat):ak:=λr=>n<=r
def Bh{a b:Λ}{bj bv:x1}(e:aI .i64 w bj a)(s:aI .i64 w bv b):
  am x7 IE [bj,bv] w λv w'=>v= .bool (decide (a=b))/\Ext w w':=by
 apply az func173;rw[aW an.u e,aW an.u s];simp only[bB,al];refine⟨λp=>⟨?_,Ext.refl _⟩,λz=>?_⟩
 .rw[decide_eq_false];rintro rfl;exact p T
 .have z:a.length=b.length:=Ω
  rw[aW an.u e];refine bT.range a.length (λi _ V=>Ext w V/\a.take i=b.take i) e.le ⟨Ext.refl _,T⟩ ?_ ?_
  .rintro i t4 V k A ⟨J,q⟩ hk;simp only[aP,al,ev];refine⟨λ_ aa B _ _=>?_,λh=>Ω⟩;have J:=J.trans B;have⟨x,r⟩:=aH (l:=a) A;have⟨y,f⟩:=aH (l:=b) (i:=i) Ω;rw[bc an.u ah.i Ψ (e.ext J) r,bc an.u ah.i Ψ (s.ext J) f];simp only[bB,al,aN];refine⟨λp=>⟨?_,J⟩,λC=>hk _ _ ⟨J,vT q r f Ω⟩⟩;rw[decide_eq_false];rintro rfl;rw[r]at f;cases f;exact p T
  .rintro _ V k ⟨J,q⟩;simp only[aP,al];refine⟨λh=>Ω,λ_=>⟨?_,J⟩⟩;rw[decide_eq_true];rwa [o6,z,o6]at q
def jE(rest:List (Λ))(i:Nat):List (Λ):=(Y1 i).flatMap λ(v:Nat)=>rest.map λt=>(v:Int)::t
def K0(rest:List (Λ))(i:Nat):jE rest (i+1)=jE rest i++rest.map λt=>(i:Int)::t:=by
 simp[jE,List.range_succ]
def Bi(rest:List (Λ))(i:Nat):(jE rest i).length=i*rest.length:=by
 simp only[jE,List.length_flatMap,r8];rw[List.map_const',List.length_range,List.sum_replicate_nat]
def pA(l:Λ):Prop:=l.length<=90/\(∀x∈l,1<=x/\x<=32)/\aQ l<=1073741824
def cb.p(h:cb l):pA l:=⟨by have:=h.1;omega,h.2,(prod_bound h).2⟩
def pA.tail{s:Λ}(h:pA (k::s)):pA s:=by
 have h1:=h.2.1 k (.head _);have a:=(m7 s λx J=>h.2.1 x (.tail _ J)).1;have e:k*aQ s<=1073741824:=h.2.2;have f:=Int.mul_le_mul_of_nonneg_right h1.1 (show 0<=aQ s by omega);refine⟨?_,λx J=>h.2.1 x (.tail _ J),Ω⟩;have:=h.1;rw[b6]at this;omega
theorem Bj:∀(s:Λ){sv:x1}{w:x3},aI .i64 w sv s->pA s->
  am x7 zS [sv] w λv w'=>Ext w w'/\bI (eN w.heap.size) bE w' [v] (bm s)
 |[],sv,w,h,U=>by
  apply az func83;rw[aW an.u h];simp only[be,List.length_nil,Int.natCast_zero,decide_true,bV];refine kG (α:=Λ) (a:=[]) (cs:=[.slice ν 0 0]) (A:=bE) cU.u an.i Φ T hK λv w' J f _=>⟨J,au.mono f (λr _ h=>?_) λ_ _ h=>h⟩;exact h.elim False.elim id
 |k::s,sv,w,h,U=>by
  have ao:1<=aQ (k::s)/\aQ (k::s)<=1073741824:=⟨(m7 _ U.2.1).1,U.2.2⟩;have z:pA s:=U.tail;have hk:=U.2.1 k (.head _);have O:=iz z.2.1;have ap:1<=aQ s/\aQ s<=1073741824:=⟨(m7 _ z.2.1).1,z.2.2⟩;obtain⟨kn,rfl⟩:∃kn:Nat,k=kn:=⟨k.toNat,Ω⟩;have aq:kn*(bm s).length<=1073741824:=by
   have e:((kn*(bm s).length:Nat):Int)=aQ ((kn:Int)::s):=by
    rw[Int.natCast_mul,O,aQ,Int.toNat_of_nonneg Ω]
   omega
  apply az func83;rw[aW an.u h];simp only[be,al];refine⟨λP=>by simp at P;omega,λ_=>?_⟩;refine Kx (i:=1) T an.u ah.i h Ξ λQ h'=>?_;apply(Bj s h' z).mono;rintro av aa _ ⟨E,B⟩;have aw:=mZ B;refine bT.range kn (λi out V=>Ext aa V/\bI (eN aa.heap.size) bE V [out] (jE (bm s) i)) Ω ⟨Ext.refl _,hK⟩ ?_ ?_
  .rintro i out S W L ⟨q,f⟩ X;have Y:=bA B q;rw[fP (y:=0) (i:=0) T an.u ah.i Ψ (h.ext (E.trans q)) (by rfl)];simp only[aP,al];refine⟨λ_=>?_,λh=>Ω⟩;rw[hL cU.u Y];refine bT.range (bm s).length (λj out V=>Ext aa V/\bI (eN aa.heap.size) bE V [out] (jE (bm s) i++((bm s).take j).map λt=>(i:Int)::t)) Ω ⟨q,by simpa using f⟩ ?_ ?_
   .rintro j out p Z ab ⟨C,f⟩ ac;simp only[aP,al];refine⟨λ_=>?_,λh=>Ω⟩;have⟨x,G⟩:=aH (l:=(bm s)) ab;have ax:x.length<=100:=by
     have:=vW G;have:=z.1;omega
    refine gj T rfl cU.u an.i Ψ (bA B C) G λu hu=>?_;refine eD an.u ah.i T λa ga ay aA H ad=>?_;refine jA an.u ah.i T ad (de (bA hu H)) Θ Θ λb aB ae aC I af=>?_;have aD:=H.size;have M:Ext p ae:=H.then af (by rintro r B rfl;omega);have aE:=M.size;refine kG (α:=Λ) (a:=(i:Int)::x) (cs:=[b]) (A:=eN p.heap.size) (R:=bE) cU.u an.i Φ (qJ (n7 I (R:=bE))) (au.mono (n7 I) (λr _ h=>by subst h;show p.heap.size<=r;omega) λ_ _ h=>h) λc aF K _ ag=>?_;have N:=M.trans K;have aG:=K.size;refine n5 (α:=Λ) (a:=(i:Int)::x) (A:=eN p.heap.size) cU.u an.i T (bA (mZ f) N) ag (bA (au.mono (n7 I) (λr _ h=>by subst h;show p.heap.size<=r;omega) λ_ _ h=>h) K) (λr _ h h'=>?_) ?_ ?_ λQ aJ ai aj=>?_
    .rcases h' with h'|h'
     .have:=h.2;have:p.heap.size<=r:=h';omega
     .exact h'
    .have ak:(jE (bm s) i++((bm s).take j).map λt=>(i:Int)::t).length+1<=kn*(bm s).length:=by
      simp only[r9,Bi,r8,l9];have:(i+1)*(bm s).length<=kn*(bm s).length:=X9 _ L;rw[U3]at this;omega
     omega
    .have ak:(jE (bm s) i++((bm s).take j).map λt=>(i:Int)::t).length+1<=kn*(bm s).length:=by
      simp only[r9,Bi,r8,l9];have:(i+1)*(bm s).length<=kn*(bm s).length:=X9 _ L;rw[U3]at this;omega
     omega
    .simp only[aN];have aK:=C.size;refine ac _ _ ⟨(C.trans N).then aj (λr B h=>?_),?_⟩
     .have:=h.1;have:aa.heap.size<=r:=this;omega
     .have e:jE (bm s) i++((bm s).take (j+1)).map (λt=>(i:Int)::t)=(jE (bm s) i++((bm s).take j).map λt=>(i:Int)::t)++[(i:Int)::x]:=by
       rw[u9,G];simp
      rw[e];refine au.mono ai (λr _ h=>?_) λ_ _ h=>h;show aa.heap.size<=r;rcases h with h|h|h
      .exact h.1
      .have:p.heap.size<=r:=h;omega
      .omega
   .rintro out p Z ⟨C,f⟩;simp only[aP,al,aN];refine⟨λh=>Ω,λ_=>X _ _ ⟨C,?_⟩⟩;rw[K0];simpa using f
  .rintro out S W ⟨q,f⟩;rw[fP (y:=0) (i:=0) T an.u ah.i Ψ (h.ext (E.trans q)) (by rfl)];simp only[aP,al];refine⟨λh=>Ω,λ_=>⟨E.trans q,?_⟩⟩;have aL:=E.size;have e:bm ((kn:Int)::s)=jE (bm s) kn:=by simp[bm,jE]
   rw[e];exact au.mono f (λr _ h=>by have:aa.heap.size<=r:=h;show w.heap.size<=r;omega) λ_ _ h=>h
def tc(s:Λ)(h:aI .i64 w sv s)(U:cb s):am x7 zS [sv] w λv w'=>Ext w w'/\bI (eN w.heap.size) bE w' [v] (bm s):=Bj s h U.p
def qS(l:List (Λ))(t:Λ):Int:=match l.findIdx? (·=t)with
 |some i=>i
 |none=>-1
def K1{s t:Λ}{aM:x1}(h:aI .i64 w sv s)(U:cb s)(z:aI .i64 w aM t):
  am x7 HL [sv,aM] w λv w'=>v=Δ (qS (bm s) t)/\Ext w w':=by
 have C:=iz U.2;have E:=prod_bound U;apply az func85;apply(tc s h U).mono;rintro dn V _ ⟨p,r⟩;rw[hL cU.u r];refine bT.range (bm s).length (λi _ aa=>Ext V aa/\∀j,j<i->(bm s)[j]? ≠σ t) Ω ⟨Ext.refl _,λj a=>Ω⟩ ?_ ?_
 .rintro i _ aa k hi ⟨e,f⟩ hk;simp only[aP,al];refine⟨λ_=>?_,λh=>Ω⟩;have⟨x,q⟩:=aH (l:=(bm s)) hi;refine gj T rfl cU.u an.i Ψ (bA r e) q λu hu=>?_;apply(Bh (de hu) (z.ext (p.trans e))).mono;rintro _ G _ ⟨rfl,y⟩;simp only[al,aN];refine⟨λhe=>⟨?_,(p.trans e).trans y⟩,λA=>hk _ _ ⟨e.trans y,λj a=>?_⟩⟩
  .subst he;have:(bm s).findIdx? (·=x)=σ i:=by
    rw[List.findIdx?_eq_some_iff_getElem];refine⟨hi,by simpa using(x4.1 q).2,λj a=>?_⟩;have:=f j a;rw[x6 Ω]at this;simpa using this
   unfold qS;rw[this]
  .by_cases B:j=i
   .subst B;rw[q];intro h;exact A (by simpa using h)
   .exact f j Ω
 .rintro _ aa k ⟨e,f⟩;simp only[aP,al];refine⟨λh=>Ω,λ_=>⟨?_,p.trans e⟩⟩;have:(bm s).findIdx? (·=t)=ν:=by
   rw[List.findIdx?_eq_none_iff];intro x J;obtain⟨j,a,rfl⟩:=List.mem_iff_getElem.1 J;have:=f j a;rw[x6 a]at this;simpa using this
  unfold qS;rw[this]
def K2:∀(x:Nat),0<x->∃k m,x=2 ^ k*(2*m+1):=by
 intro x;induction x using Nat.strongRecOn with
 |_ x a=>
  intro h;by_cases e:x % 2=1
  .exact⟨0,x / 2,Ω⟩
  .obtain⟨k,m,hk⟩:=a (x / 2) Ω Ω;refine⟨k+1,m,?_⟩;rw[Nat.pow_succ,Nat.mul_assoc,Nat.mul_comm 2,<-Nat.mul_assoc,<-hk];omega
def wi{k m i:Nat}:(2 ^ k*(2*m+1)).testBit i=(decide (i=k)||decide (k<i)&&m.testBit (i-k-1)):=by
 rw[Nat.testBit_two_pow_mul];by_cases h:k<=i
 .obtain⟨d,rfl⟩:=Nat.exists_eq_add_of_le h;cases d with
  |zero=>simp
  |succ d=>
   have e:(2*m+1).testBit (d+1)=m.testBit d:=by rw[Nat.testBit_succ];congr 1;omega
   simp[e,show k+(d+1)-k=d+1 by omega]
 .simp[h,show i≠k by omega,show¬k<i by omega]
def K3{k m:Nat}(J:2 ^ k*(2*m+1)<2 ^ 64):(2 ^ k*(2*m+1)) &&& (2 ^ 64-2 ^ k*(2*m+1))=2 ^ k:=by
 have q:0<2 ^ k:=Nat.two_pow_pos k;have hk:k<64:=by
  rcases Nat.lt_or_ge k 64 with h|h
  .exact h
  .have:2 ^ 64<=2 ^ k:=S2 Ω h;have:2 ^ k*1<=2 ^ k*(2*m+1):=Nat.mul_le_mul_left _ Ω;omega
 have e:2 ^ k*(2*m+1)=(2 ^ k*(2*m)+(2 ^ k-1))+1:=by rw[Nat.mul_add];omega
 apply Nat.eq_of_testBit_eq;intro i;rw[Nat.testBit_and,wi]
 conv=>lhs;rhs;rw[e]
 rw[Nat.testBit_two_pow_sub_succ Ω,Nat.testBit_two_pow_mul_add _ Ω,Nat.testBit_two_pow];by_cases h1:i=k
 .subst h1;simp[hk]
 .by_cases a:k<i
  .have f:(2*m).testBit (i-k)=m.testBit (i-k-1):=by
    obtain⟨d,p⟩:∃d,i-k=d+1:=⟨i-k-1,Ω⟩;rw[p,Nat.testBit_succ];congr 1;omega
   simp[h1,a,show¬i<k by omega,f,show k≠i by omega];intro h;simp[h]
  .simp[h1,a,show k≠i by omega]
def j2(a c:Nat):Nat:=(BitVec.ofNat 64 a &&& ~~~BitVec.ofNat 64 c).toNat
def Bk(a c i:Nat):(j2 a c).testBit i=(decide (i<64)&&(a.testBit i&& !c.testBit i)):=by
 unfold j2;rw[BitVec.testBit_toNat,BitVec.getLsbD_and,BitVec.getLsbD_not,BitVec.getLsbD_ofNat,BitVec.getLsbD_ofNat];by_cases h:i<64<;>simp[h]
def K4(a c:Nat):j2 a c<2 ^ 64:=BitVec.isLt _
def K5(h:∀i,n<=i->a.testBit i=false):a<2 ^ n:=Nat.lt_pow_two_of_testBit a h
def Bl{i:Nat}(h:a<2 ^ n)(hi:n<=i):a.testBit i=false:=Nat.testBit_lt_two_pow (Q2 h (S2 Ω hi))
def fU(b n:Nat):List Nat:=(Y1 n).filter λi=>b.testBit i
def Bm(b n:Nat):(fU b n).Pairwise (·< ·):=List.Pairwise.filter _ List.pairwise_lt_range
def wj{b i:Nat}:i∈fU b n↔i<n/\b.testBit i=true:=by simp[fU]
def og:Option Nat->Int
 |some i=>(i:Int)
 |none=>-1
def j3(b n:Nat)(v:Int):Int:=og ((Y1 n).find? (λi:Nat=>decide (v<(i:Int))&&b.testBit i))
theorem Bn:∀{l:List Nat}{k x:Nat},l.Pairwise (·< ·)->l[k]?=σ x->l.filter (λi=>decide (x<i))=l.drop (k+1)
 |y::l,0,x,h,hk=>by
  simp at hk;subst hk;rw[List.pairwise_cons]at h;simp only[List.drop_succ_cons,List.drop_zero];rw[List.filter_cons_of_neg Ξ,List.filter_eq_self.2 λa e=>by simpa using h.1 a e]
 |y::l,k+1,x,h,hk=>by
  simp only[List.getElem?_cons_succ]at hk;rw[List.pairwise_cons]at h;have:y<x:=h.1 x (x5 hk);rw[List.filter_cons_of_neg Θ,List.drop_succ_cons];exact Bn h.2 hk
def Bo(b n:Nat)(v:Int):j3 b n v=og (((fU b n).filter (λi:Nat=>decide (v<i))).head?):=by
 unfold j3 fU;rw[<-List.head?_filter,List.filter_filter]
def K6(b n:Nat):j3 b n (-1)=og ((fU b n)[0]?):=by
 rw[Bo,List.filter_eq_self.2 (λa _=>Θ),List.head?_eq_getElem?]
def Bp{b k x:Nat}(h:(fU b n)[k]?=σ x):j3 b n x=og ((fU b n)[k+1]?):=by
 have e:(λi:Nat=>decide ((x:Int)<i))=λi=>decide (x<i):=by funext i;simp
 rw[Bo,e,Bn (Bm b n) h,List.head?_eq_getElem?,List.getElem?_drop]
def K7{b:Nat}{v:Int}(h:(n:Int)-1<=v):j3 b n v= -1:=by
 unfold j3;rw[List.find?_eq_none.2 λi hi=>by simp at hi ⊢;omega];rfl
def K8{b k m s:Nat}(y:n<=64)(f:b<2 ^ n)(e:∀i,r.testBit i=(decide (s<=i)&&b.testBit i))(hk:r=2 ^ k*(2*m+1)){v:Int}(ad:v+1=s):j3 b n v=k:=by
 have p:r.testBit k=true:=by rw[hk,wi];simp
 have q:∀i,i<k->r.testBit i=false:=λi hi=>by rw[hk,wi];simp[show i≠k by omega,show¬k<i by omega]
 have a:=p;rw[e]at a;simp at a;have w:k<n:=by
  rcases Nat.lt_or_ge k n with h|h
  .exact h
  .rw[Bl f h]at a;cases a.2
 unfold j3;have:(Y1 n).find? (λi:Nat=>decide (v<(i:Int))&&b.testBit i)=σ k:=by
  rw[List.find?_range_eq_some];refine⟨by simp[a.2];omega,by simpa using w,λj x=>?_⟩;have:=q j x;rw[e]at this;simp only[Bool.not_eq_true',Bool.and_eq_false_iff,decide_eq_false_iff_not]at this ⊢;rcases this with h|h
  .exact .inl Ω
  .exact .inr h
 rw[this];rfl
def K9{b s:Nat}(a:∀i,r.testBit i=(decide (s<=i)&&b.testBit i))(hk:r=0){v:Int}(ad:v+1=s):j3 b n v= -1:=by
 unfold j3;rw[List.find?_eq_none.2]
 .rfl
 .intro i hi;have:=a i;rw[hk,Nat.zero_testBit]at this;simp at hi this ⊢;intro h;exact this Ω
section
variable{P:W8}{w:x3}{t:p9}{cx cy:Bool}{a b:Nat}{K:x1->Prop}
def nb(a:Nat):T0 64 (a:Int)=BitVec.ofNat 64 a:=BitVec.ofInt_natCast _ _
def Bq(x:BitVec 64):U6.wrap (x.toNat:Int)=(x.toNat:Int):=by
 have:=x.isLt;rw[wrap_u64 Ω Ω]
def u64_and(f:a<2 ^ 64)(h:b<2 ^ 64):ac P (aO .and t cx cy (.int .u64 a) (.int .u64 b)) w K=K (.int .u64 ((a &&& b:Nat):Int)):=ac.of λw' _=>by
 have e:(T0 64 (a:Int) &&& T0 64 (b:Int)).toNat=a &&& b:=by
  rw[nb,nb,BitVec.toNat_and,BitVec.toNat_ofNat,BitVec.toNat_ofNat,Nat.mod_eq_of_lt f,Nat.mod_eq_of_lt h]
 have hw:U6.wrap ((a &&& b:Nat):Int)=((a &&& b:Nat):Int):=by rw[<-e];exact Bq _
 have p:(T0 U6.bits (a:Int) &&& T0 U6.bits (b:Int)).toNat=a &&& b:=e;simp only[aO,eqGuard,binOp,Op.intBits,p,hw];rfl
def Br:ac P (aO .andNot t cx cy (.int .u64 a) (.int .u64 b)) w K=K (.int .u64 (j2 a b:Int)):=ac.of λw' _=>by
 have e:(T0 64 (a:Int) &&& ~~~T0 64 (b:Int)).toNat=j2 a b:=by rw[nb,nb];rfl
 have hw:U6.wrap (j2 a b:Int)=(j2 a b:Int):=Bq _;have f:(T0 U6.bits (a:Int) &&& ~~~T0 U6.bits (b:Int)).toNat=j2 a b:=e;simp only[aO,eqGuard,binOp,Op.intBits,f,hw];rfl
def lq{k:o7}(f:n<64):ac P (aO .shr t cx cy (.int .u64 (a:Int)) (.int k (n:Int))) w K=K (.int .u64 ((a / 2 ^ n:Nat):Int)):=ac.of λw' _=>by
 have e:(a:Int).fdiv (2 ^ min n U6.bits)=((a / 2 ^ n:Nat):Int):=by
  have:min n U6.bits=n:=Nat.min_eq_left (by show n<=64;omega);rw[this,Int.fdiv_eq_ediv_of_nonneg _ (by exact Int.le_of_lt (Int.pow_pos Ω))];simp
 simp only[aO,eqGuard,binOp,Op.shift,u7,e];simp[show¬(n:Int)<0 by omega]
def wk{k:o7}(a:n<64):ac P (aO .shl t cx cy (.int .u64 1) (.int k (n:Int))) w K=K (.int .u64 ((2 ^ n:Nat):Int)):=by
 rw[Ap Ω];have e:min ((n:Int).toNat) U6.bits=n:=Nat.min_eq_left (by show n<=64;omega);have f:2 ^ n<2 ^ 64:=Nat.pow_lt_pow_right Ω a;rw[e,Int.one_mul,show((2:Int) ^ n)=((2 ^ n:Nat):Int) by simp];generalize 2 ^ n=q at f ⊢;rw[wrap_u64 Ω Ω]
end
def td:Λ:=[0,1,56,2,57,49,28,3,61,58,42,50,38,29,17,4,62,47,59,36,45,43,51,22,53,39,33,30,24,18,12,5,63,55,48,27,60,41,37,16,46,35,44,21,52,32,23,11,54,26,40,15,34,20,31,10,25,14,19,9,13,8,7,6]
def Laid(w:x3):Prop:=w.rangeAt 0 0 (ints .u8 td)
def Laid.ext(h:Laid w)(J:Ext w w'):Laid w':=nY J h
def La:∀k:Nat,k<64->td[(2 ^ k*285870213051353865 % 2 ^ 64) / 2 ^ 58]?=σ (k:Int):=Φ
def Lb{x k m:Nat}(f:Laid w)(J:x=2 ^ k*(2*m+1))(p:x<2 ^ 64):
  am x7 IH [.int .u64 (x:Int)] w λv w'=>v=Δ (k:Int)/\Ext w w':=by
 have z:0<2 ^ k:=Nat.two_pow_pos k;have A:2 ^ k<=x:=by
  have:2 ^ k*1<=2 ^ k*(2*m+1):=Nat.mul_le_mul_left _ Ω;omega
 have hk:k<64:=by
  rcases Nat.lt_or_ge k 64 with h|h
  .exact h
  .have:2 ^ 64<=2 ^ k:=S2 Ω h;omega
 apply az func176;simp only[be,al];refine⟨λh=>Ω,λ_=>?_⟩;rw[mf];have q:U6.wrap (0-(x:Int))=((2 ^ 64-x:Nat):Int):=by
  simp only[o7.wrap,o7.bits,o7.signed];simp;omega
 rw[q,u64_and p Ω,J,K3 Ω];simp only[h9];have r:U6.wrap (((2 ^ k:Nat):Int)*285870213051353865)=((2 ^ k*285870213051353865 % 2 ^ 64:Nat):Int):=by
  have e:((2 ^ k:Nat):Int)*285870213051353865=((2 ^ k*285870213051353865:Nat):Int):=Ξ
  rw[e];simp only[o7.wrap,o7.bits,o7.signed];simp
 have s:(58:Int)=((58:Nat):Int):=rfl;rw[r,s,lq Ω];have a:=La k hk;have y:=(x4.1 a).1;rw[sT (t:=sP) sP.u cJ.i y,ax Ψ (by rw[U2];exact f _ _ (lk a)),fq cJ.u ah.u,wrap_i64 Ω Ω];exact⟨T,Ext.refl _⟩
def jF(b n:Nat):x1:=.agg #[.int .u64 (b:Int),Δ (n:Int)]
def mm(b n:Nat):Prop:=n<=32/\b<2 ^ n
def Bs(s i:Nat):(2 ^ s-1).testBit i=decide (i<s):=Nat.testBit_two_pow_sub_one s i
def Bt{b:Nat}{v:Int}:am x7 IG [jF b n,Δ v] w λr w'=>r= .bool (decide (0<=v/\v<n))/\Ext w w':=by
 apply az func175;refine bd λg V f a e=>?_;simp only[cz,cO,al];refine⟨λh=>?_,λh=>⟨?_,a⟩⟩
 .rw[aL b5.p 1 e T];simp only[aP];exact⟨by simp[h],a⟩
 .rw[decide_eq_false];omega
def wm{b:Nat}:am x7 HT [jF b n] w λr w'=>r=Δ n/\Ext w w':=by
 apply az func93;refine bd λg V f a e=>?_;rw[aL b5.p 1 e T];exact⟨T,a⟩
def Lc{n:Int}:am x7 HR [Δ n] w λr w'=>Ext w w'/\r=(if 1<=n/\n<=32 then .tuple #[jF (2 ^ n.toNat-1) n.toNat,Δ 0]else .tuple #[jF 0 0,Δ 1]):=by
 apply az func91;refine bu b5.i λg V A f q=>?_;refine aV (λv aa=>v= .bool (decide (¬(1<=n/\n<=32)))/\V=aa) ?_ ?_
 .rintro _ _ ⟨rfl,rfl⟩;simp only[al];refine⟨λh=>?_,λh=>?_⟩
  .rw[cY (cs:=#[.int .u64 0,Δ 0]) Ψ];refine cd (vs:=[.int .u64 0,Δ 0]) b5.i T rfl (by intro u hu;simp at hu;rcases hu with rfl|rfl<;>rfl) q λx a y e=>?_;rw[fQ b5.p b5.i T e.range,if_neg h];exact⟨f.then a (by rintro r z rfl;omega),T⟩
  .have h:1<=n/\n<=32:=Z9.1 h;obtain⟨m,rfl⟩:∃m:Nat,n=m:=⟨n.toNat,Ω⟩;rw[wk Ω];have B:0<2 ^ m:=Nat.two_pow_pos m;have C:2 ^ m<=2 ^ 32:=S2 Ω Ω;simp only[dN];rw[wrap_u64 Ω Ω,show(((2 ^ m:Nat):Int)-1)=((2 ^ m-1:Nat):Int) by omega];rw[cY (cs:=#[.int .u64 ((2 ^ m-1:Nat):Int),Δ m]) Ψ];refine cd (vs:=[.int .u64 ((2 ^ m-1:Nat):Int),Δ m]) b5.i T rfl (by intro u hu;simp at hu;rcases hu with rfl|rfl<;>rfl) q λx a y e=>?_;rw[fQ b5.p b5.i T e.range,if_pos h];exact⟨f.then a (by rintro r z rfl;omega),T⟩
 .intro aA s;simp only[aP,bJ,al];refine⟨λh=>s _ _ ⟨?_,T⟩,λh=>s _ _ ⟨?_,T⟩⟩
  .rw[decide_eq_true];omega
  .congr 1;simp;omega
def Bu{b:Nat}{v:Int}(z:mm b n)(A:Laid w)(ad: -1<=v):am x7 HW [jF b n,Δ v] w λr w'=>r=Δ (j3 b n v)/\Ext w w':=by
 have⟨H,e⟩:=z;have f:b<2 ^ 64:=Q2 e (S2 Ω Ω);apply az func97;refine bd λg V I a q=>?_;rw[aL b5.p 1 q T];simp only[dN,cO,al];rw[wrap_i64 Ω Ω];refine⟨λh=>⟨by rw[K7 h],a⟩,λJ=>?_⟩;rw[aL b5.p 0 q T];refine aV (λu aa=>V=aa/\∃r s:Nat,u= .int .u64 (r:Int)/\r<2 ^ 64/\v+1=s/\∀i,r.testBit i=(decide (s<=i)&&b.testBit i)) ?_ ?_
 .rintro _ _ ⟨rfl,r,s,rfl,B,U,x⟩;simp only[be,al];refine⟨λC=>⟨by rw[K9 x Ω U],a⟩,λC=>?_⟩;have⟨k,m,hk⟩:=K2 r Ω;apply(Lb (A.ext a) hk B).mono;rintro _ K _ ⟨rfl,E⟩;exact⟨by rw[K8 Ω e x hk U],a.trans E⟩
 .intro aA y;refine⟨λh=>?_,λh=>?_⟩
  .obtain⟨s,rfl⟩:∃s:Nat,v=s:=⟨v.toNat,Ω⟩;have L:0<2 ^ (s+1):=Nat.two_pow_pos _;have M:2 ^ (s+1)<=2 ^ 32:=S2 Ω Ω;simp only[aN];rw[wrap_i64 Ω Ω,show((s:Int)+1)=((s+1:Nat):Int) by omega,wk Ω];simp only[dN];rw[wrap_u64 Ω Ω,show(((2 ^ (s+1):Nat):Int)-1)=((2 ^ (s+1)-1:Nat):Int) by omega,Br];refine y _ _ ⟨T,_,s+1,T,K4 _ _,Ω,λi=>?_⟩;rw[Bk,Bs];by_cases G:i<64
   .by_cases hi:s+1<=i
    .simp[G,hi,show¬i<s+1 by omega]
    .simp[hi,show i<s+1 by omega]
   .rw[Bl f Ω];simp
  .exact y _ _ ⟨T,b,0,T,f,Ω,λi=>Ξ⟩
def Ld{b:Nat}(e:mm b n)(f:Laid w):am x7 HV [jF b n] w λr w'=>r=Δ (j3 b n (-1))/\Ext w w':=by
 apply az func96;refine bd λg V s a h=>?_;rw[bR b5.p b5.i T h.range];apply(Bu e (f.ext a) Ω).mono;rintro _ aa _ ⟨rfl,q⟩;exact⟨T,a.trans q⟩
def Le{b:Nat}{v:Int}(I:mm b n):am x7 HU [jF b n,Δ v] w λr w'=>r=jF (if 0<=v/\v<n then j2 b (2 ^ v.toNat)else b) n/\Ext w w':=by
 apply az func94;refine bd λg V R y z=>?_;refine bu b5.i λJ aa S A B=>?_;have s1:=y.size;have U:=z.lt;refine dc (λe=>∃f,ag e g b5 [.int .u64 ((f:Nat):Int),Δ (n:Int)]/\ag e J b5 [.int .u64 0,Δ 0]/\Ext w e/\f=(if 0<=v/\v<n then j2 b (2 ^ v.toNat)else b)) ?_ ?_
 .rintro e ⟨f,K,L,M,rfl⟩;rw[bR b5.p b5.i T K.range];refine cd (vs:=[_,_]) b5.i T rfl (by intro u hu;simp at hu;rcases hu with rfl|rfl<;>rfl) L λW N X O=>?_;rw[fQ b5.p b5.i T O.range];exact⟨T,M.then N (by rintro r P rfl;omega)⟩
 .intro aA C;have q:=z.ext A;rw[bR b5.p b5.i T q.range];apply Bt.mono;rintro _ Y _ ⟨rfl,a⟩;have E:=(y.trans A).trans a;simp only[al,ev];refine⟨λh Z x _ _=>?_,λh=>C _ ⟨b,q.ext a,B.ext a,E,by rw[if_neg h]⟩⟩;have G:=(q.ext a).ext x;rw[aL b5.p 0 G T];obtain⟨s,rfl⟩:∃s:Nat,v=s:=⟨v.toNat,Ω⟩;have ac:=I.1;rw[wk Ω,Br,aU b5.p T];refine bq fL.i T rfl G (by simp[jF,x1.cells]) λad H ae Q=>?_;refine C _ ⟨_,Q,((B.ext a).ext x).ab H Ω,(E.trans x).then H (by rintro r P rfl;omega),?_⟩;rw[if_pos h,u7]
def pB(v:Int):Nat:=if v<0 then 0 else 40-v.toNat
def wn(x:Nat):pB x=40-x:=by unfold pB;rw[if_neg Ω];omega
def nc{b g:Nat}(a:mm b n):
  pc x7 iT [Γ g] (fU b n).length (λk vs _=>∃v:Nat,(fU b n)[k]?=σ v/\vs=[Δ (v:Int)])
   (λw=>ag w g b5 [.int .u64 (b:Int),Δ (n:Int)]/\Laid w):=by
 refine⟨iT.enters,λl aA P w q _ C ⟨r,s⟩ E=>?_⟩;have Q:=a.1;apply qF func95;rw[bR b5.p b5.i T r.range];apply(Ld a s).free.mono;rintro _ V ⟨G,rfl,J⟩;refine⟨λv aa=>∃k,k<=(fU b n).length/\v=Δ (og (fU b n)[k]?)/\aA k aa/\ag aa g b5 [.int .u64 (b:Int),Δ (n:Int)]/\Laid aa,
  λv _=>pB (bW v),⟨0,X5 _,by rw[K6],q 0 _ _ J G.b E,r.ext J,s.ext J⟩,?_⟩
 rintro _ aa ⟨k,hk,rfl,z,H,I⟩;cases ad:(fU b n)[k]? with
 |none=>
  have:k=(fU b n).length:=by
   have:=List.getElem?_eq_none_iff.1 ad;omega
  subst this;simp only[og,cO,al];exact⟨λh=>Ω,λ_=>.inl z⟩
 |some x=>
  have e:=(x4.1 ad).1;have R:=(wj.1 (x5 ad)).1;simp only[og,cO,al];refine⟨λ_=>?_,λh=>Ω⟩;refine⟨T,(C k _ aa e ⟨H,I⟩ ⟨x,ad,T⟩ z).mono ?_⟩;rintro _ S (⟨rfl,⟨A,B⟩,K⟩|⟨rfl,L⟩)
  .simp only[bK,Y7,a8];rw[bR b5.p b5.i T A.range];apply(Bu a B Ω).free.mono;rintro _ U ⟨M,rfl,f⟩;refine⟨⟨k+1,e,congrArg (V6 .i64) (Bp ad),q _ _ _ f M.b K.1,A.ext f,B.ext f⟩,?_⟩;rw[Bp ad];cases N:(fU b n)[k+1]? with
   |none=>show 0<pB x;rw[wn];omega
   |some y=>
    have W:x<y:=by
     have h1:=(x4.1 ad).2;have O:=(x4.1 N).2;rw[<-h1,<-O];exact V8.1 (Bm b n) k (k+1) _ _ Ω
    show pB y<pB x;rw[wn,wn];omega
  .simp only[bK,W3,bV];exact .inr ⟨k,e,L⟩
def ne{b:Nat}:am x7 Hk [jF b n] w λr w'=>Ext w w'/\∃g,r= .func (.func iT) #[] #[Γ g]/\w.heap.size<=g/\ag w' g b5 [.int .u64 (b:Int),Δ (n:Int)]:=by
 apply az func46;refine bd λg V f a e=>?_;rw[iy];exact⟨a,g,T,Ω,e⟩
abbrev dP(s:Λ):Prop:=∀x∈s,1<=x/\x<=32
def dP.tail{s:Λ}(h:dP (k::s)):dP s:=λx J=>h x (.tail _ J)
def mn{s:Λ}(h:dP s):1<=aQ s:=(m7 s h).1
theorem pC:∀(s t:Λ)(m:Int),cq s t m=(cq s t 0).map λn=>n+m*aQ s
 |[],[],m=>by simp[cq,aQ]
 |k::s,v::t,m=>by
  unfold cq;split
  .rw[pC s t (m*k+v),pC s t (0*k+v)];simp only[Option.map_map,aQ];congr 1;funext n;simp only[Function.comp];rw[Int.add_mul,Int.add_mul,<-Int.mul_assoc];simp;omega
  .rfl
 |[],_::_,_=>rfl
 |_::_,[],_=>rfl
theorem wo{L j:Nat}{rest:List (Λ)}(e:rest.length=L):∀{kn v:Nat},v<kn->∀{x:Λ},rest[j]?=σ x->
  ((Y1 kn).flatMap λ(v:Nat)=>rest.map λt=>(v:Int)::t)[v*L+j]?=σ ((v:Int)::x)
 |0,v,h,_,_=>Ω
 |kn+1,v,h,x,J=>by
  have f:=(x4.1 J).1;have a:((Y1 kn).flatMap λ(v:Nat)=>rest.map λt=>(v:Int)::t).length=kn*L:=by
   simp only[List.length_flatMap,r8,e];rw[List.map_const',List.length_range,List.sum_replicate_nat]
  rw[List.range_succ,List.flatMap_append];by_cases ad:v<kn
  .have:(v+1)*L<=kn*L:=X9 _ ad;rw[U3]at this;rw[Y6 (by rw[a];omega)];exact wo e ad J
  .have ad:v=kn:=Ω
   subst ad;rw[Y8 (by rw[a];omega),a,show v*L+j-v*L=j by omega];simp[J]
theorem jG:∀{s:Λ},dP s->∀{i:Nat}{t:Λ},(bm s)[i]?=σ t->cq s t 0=σ (i:Int)
 |[],_,i,t,h=>by
  cases i with
  |zero=>simp[bm]at h;subst h;rfl
  |succ i=>simp[bm]at h
 |k::s,U,i,t,h=>by
  have hk:=U k (.head _);have a:=iz U.tail;have r:=mn U.tail;obtain⟨kn,rfl⟩:∃kn:Nat,k=kn:=⟨k.toNat,Ω⟩;have hi:=(x4.1 h).1;rw[iz U,aQ,Int.toNat_mul Ω Ω,<-a,u7]at hi;have f:0<(bm s).length:=Ω
  have ad:i / (bm s).length<kn:=Nat.div_lt_of_lt_mul (by rw[Nat.mul_comm];exact hi);have p:i % (bm s).length<(bm s).length:=Nat.mod_lt _ f;obtain⟨x,J⟩:∃x,(bm s)[i % (bm s).length]?=σ x:=⟨_,x6 p⟩;have e:=wo (kn:=kn) T ad J;rw[Nat.mul_comm,Nat.div_add_mod]at e;have h':((Y1 ((kn:Int).toNat)).flatMap λ(v:Nat)=>(bm s).map λt=>(v:Int)::t)[i]?=σ t:=h;rw[u7,e]at h';cases h';unfold cq;rw[if_pos ⟨Int.natCast_nonneg _,Int.ofNat_lt.2 ad⟩,pC,jG U.tail J];simp only[Z6,Y3,Int.zero_mul,Int.zero_add];have q:aQ s=((bm s).length:Int):=by rw[a];omega
  rw[q,<-Int.natCast_mul,<-Int.natCast_add];congr 1;rw[Nat.mul_comm,Nat.add_comm,Nat.div_add_mod]
theorem kK:∀{s:Λ},dP s->∀{t:Λ}{n:Int},cq s t 0=σ n->(bm s)[n.toNat]?=σ t
 |[],_,[],n,h=>by simp[cq]at h;subst h;rfl
 |k::s,U,v::t,n,h=>by
  have hk:=U k (.head _);have p:=iz U.tail;have x:=mn U.tail;obtain⟨kn,rfl⟩:∃kn:Nat,k=kn:=⟨k.toNat,Ω⟩;unfold cq at h;split at h
  .rename_i ad;rw[pC]at h;cases f:cq s t 0 with
   |none=>rw[f]at h;cases h
   |some q=>
    rw[f]at h;simp only[Z6,Y3,Int.zero_mul,Int.zero_add]at h;have r:=n8 U.tail f;simp only[Int.zero_mul,Int.zero_add,Int.one_mul]at r;obtain⟨a,rfl⟩:∃a:Nat,v=a:=⟨v.toNat,Ω⟩;have w:=wo (kn:=kn) (v:=a) T Ω (kK U.tail f);have e:n.toNat=a*(bm s).length+q.toNat:=by
     rw[<-h,p];have:((a*(aQ s).toNat:Nat):Int)=(a:Int)*aQ s:=by rw[Int.natCast_mul,Int.toNat_of_nonneg Ω]
     omega
    rw[e];show((Y1 ((kn:Int).toNat)).flatMap λ(v:Nat)=>(bm s).map λt=>(v:Int)::t)[_]?=_;rw[u7];exact w
  .cases h
 |[],_,_::_,_,h=>by cases h
 |_::_,_,[],_,h=>by cases h
theorem Bv:∀(s:Λ),dP s->∀(n c:Int),cR s (n+c*aQ s)=cR s n
 |[],_,_,_=>rfl
 |k::s,U,n,c=>by
  have a:=mn U.tail;simp only[cR,aQ];rw[<-Int.mul_assoc,Bv s U.tail,Int.add_mul_ediv_right _ _ Ω,Int.add_mul_emod_self_right]
theorem te:∀{s:Λ},dP s->∀{n:Int},0<=n->n<aQ s->cq s (cR s n) 0=σ n
 |[],_,n,a,h1=>by simp[aQ]at h1;simp[cR,cq];omega
 |k::s,U,n,a,h1=>by
  have hk:=U k (.head _);have p:=mn U.tail;simp only[cR,aQ]at h1 ⊢;have f:n / aQ s<k:=Int.ediv_lt_of_lt_mul Ω h1;have h:0<=n / aQ s:=Int.ediv_nonneg a Ω;have hm:n / aQ s % k=n / aQ s:=Int.emod_eq_of_lt h f;rw[hm];unfold cq;rw[if_pos ⟨h,f⟩,pC];have e:cR s n=cR s (n % aQ s):=by
   have:=Bv s U.tail (n % aQ s) (n / aQ s);rw[<-this];congr 1;have:=Int.emod_add_mul_ediv n (aQ s);rw[Int.mul_comm (n / aQ s)];omega
  rw[e,te U.tail (Int.emod_nonneg _ Ω) (Int.emod_lt_of_pos _ Ω)];simp only[Z6,Y3,Int.zero_mul,Int.zero_add];have:=Int.emod_add_mul_ediv n (aQ s);rw[Int.mul_comm (n / aQ s)];omega
def qT{s:Λ}(U:dP s){i:Nat}(h:(i:Int)<aQ s):(bm s)[i]?=σ (cR s i):=by
 have:=kK U (te U (n:=(i:Int)) Ω h);simpa using this
def bl(s cs t:Λ):Int:=match cq s t 0 with
 |some n=>cs.getD n.toNat 0
 |none=>0
def upto{α:Type}(l:List α)(d:α)(i:Nat):List α:=l.take i++p8 (l.length-i) d
def qU{α:Type}(l:List α)(d:α)(i:Nat):(upto l d i).length=l.length:=by simp[upto];omega
def qV{α:Type}(l:List α)(d:α):upto l d 0=p8 l.length d:=by simp[upto]
def qW{α:Type}(l:List α)(d:α):upto l d l.length=l:=by simp[upto]
def qX{α:Type}{l:List α}{d x:α}{i:Nat}(h:l[i]?=σ x):(upto l d i).set i x=upto l d (i+1):=by
 have hi:=(x4.1 h).1;unfold upto;rw[T7 _ _ Θ,u9,h];have e:i-(l.take i).length=0:=Θ
 obtain⟨m,hm⟩:∃m,l.length-i=m+1:=⟨l.length-i-1,Ω⟩;rw[e,hm,show l.length-(i+1)=m by omega];simp[List.replicate_succ]
def qY{α:Type}{l:List α}{i:Nat}{x:α}(h:l[i]?=σ x):l.set i x=l:=by
 apply Y4;intro j;rw[X0];split
 .rename_i a;subst a;rw[if_pos (x4.1 h).1,h]
 .rfl
def wp:Λ->Int
 |[]=>0
 |x::l=>l.foldl min x
def Bw(P:Int->Prop)(m:Int):Prop:=P m/\∀x,P x->m<=x
def dr(s t:Λ):Prop:=∃n,cq s t 0=σ n
def Lf(k v:Int)(s t:Λ):cq (k::s) (v::t) 0=if 0<=v/\v<k then(cq s t 0).map (λn=>n+(0*k+v)*aQ s)else ν:=by
 conv=>lhs;unfold cq
 rw[pC]
def Bx{v:Int}{s t:Λ}:dr (k::s) (v::t)↔(0<=v/\v<k)/\dr s t:=by
 unfold dr;rw[Lf];constructor
 .rintro⟨n,h⟩;split at h
  .rename_i ad;cases a:cq s t 0 with
   |none=>rw[a]at h;cases h
   |some q=>exact⟨ad,q,T⟩
  .cases h
 .rintro⟨ad,q,a⟩;rw[if_pos ad,a];exact⟨_,T⟩
def By{t:Λ}:dr [] t↔t=[]:=by
 cases t with
 |nil=>exact⟨λ_=>rfl,λ_=>⟨0,T⟩⟩
 |cons v t=>
  constructor
  .rintro⟨_,h⟩;cases h
  .intro h;cases h
def tf{s t:Λ}(h:dr s t):s.length=t.length:=by
 have⟨n,h⟩:=h;rcases Nat.decEq s.length t.length with a|a
 .rw[vV s t 0 a]at h;cases h
 .exact a
def Bz{s t:Λ}(U:dP s){n:Int}(h:cq s t 0=σ n):cR s n=t:=by
 have f:=n8 U h;have h1:=kK U h;simp only[Int.zero_mul,Int.zero_add,Int.one_mul]at f;have a:=qT U (i:=n.toNat) Ω;rw[h1]at a;have e:((n.toNat:Nat):Int)=n:=Ω
 rw[e]at a;exact(b9 a).symm
def tg{s cs:Λ}(U:dP s)(a:cs.length=(aQ s).toNat):cs=(Y1 (aQ s).toNat).map λ(q:Nat)=>bl s cs (cR s q):=by
 apply List.ext_getElem
 .simp[a]
 .intro i h1 e;rw[List.getElem_map,List.getElem_range];have f:=mn U;have hi:(i:Int)<aQ s:=Ω
  unfold bl;rw[te U Ω hi];simp only[u7];rw[u4,x6 h1];rfl
def wq{s:Λ}(U:dP s){q:Nat}(a:q<(aQ s).toNat):dr s (cR s q):=⟨_,te U Ω (by have:=mn U;omega)⟩
def Lg{s cs a:Λ}(U:dP s)(e:cs.length=(aQ s).toNat)(f:a.length=(aQ s).toNat)(h:∀t,dr s t->bl s cs t=bl s a t):cs=a:=by
 rw[tg U e,tg U f];apply List.map_congr_left;intro q p;exact h _ (wq U (by simpa using p))
def Lh(h:l≠[]):Bw (λc=>c∈l) (wp l):=by
 obtain⟨x,r,rfl⟩:∃v r,l=v::r:=by cases l with
  |nil=>exact absurd T h
  |cons v r=>exact⟨v,r,T⟩
 clear h;show Bw (λc=>c∈x::r) (r.foldl min x);induction r generalizing x with
 |nil=>exact⟨.head _,λy f=>by simp at f;simp[f]⟩
 |cons y r p=>
  rw[T5];have⟨h1,e⟩:=p (min x y);refine⟨?_,λz a=>?_⟩
  .rcases V2.1 h1 with h1|h1
   .rw[h1];rcases Int.le_total x y with h|h
    .rw[Int.min_eq_left h];exact .head _
    .rw[Int.min_eq_right h];exact .tail _ (.head _)
   .exact .tail _ (.tail _ h1)
  .rcases V2.1 a with rfl|a
   .have:=e _ (.head _);omega
   .rcases V2.1 a with rfl|a
    .have:=e _ (.head _);omega
    .exact e _ (.tail _ a)
def pD(m:Λ)(i j:Nat):Prop:=∀(p q:Nat)(x y:Int),p<q->q<=i->q≠j->m[p]?=σ x->m[q]?=σ y->x<=y
def qZ(m:Λ)(i:Nat):Prop:=∀(p q:Nat)(x y:Int),p<q->q<i->m[p]?=σ x->m[q]?=σ y->x<=y
def Li{m:Λ}{i:Nat}(h:qZ m i):pD m i i:=λp q x y h1 f r a e=>h p q x y h1 Ω a e
def Lj{m:Λ}{i:Nat}(h:pD m i 0):qZ m (i+1):=λp q x y h1 f a e=>h p q x y h1 Ω Ω a e
def Lk{m:Λ}{i:Nat}{a b:Int}(h:pD m i j)(B:0<j)(r:m[j-1]?=σ a)(w:m[j]?=σ b)(z:a<=b):qZ m (i+1):=by
 intro p q x y h1 C e f;by_cases s:q=j
 .subst s;rw[w]at f;cases f;by_cases A:p=q-1
  .subst A;rw[r]at e;cases e;exact z
  .have:=h p (q-1) x a Ω Ω Ω e r;omega
 .exact h p q x y h1 Ω s e f
def Ll{m:Λ}{i:Nat}{a b:Int}(h:pD m i j)(H:0<j)(hi:j<=i)(z:m[j-1]?=σ a)(A:m[j]?=σ b)(I:b<a):pD ((m.set j a).set (j-1) b) i (j-1):=by
 intro p q x y h1 w B e f;have C:=(x4.1 A).1;have E:∀(r:Nat),((m.set j a).set (j-1) b)[r]?=if r=j-1 then σ b else if r=j then σ a else m[r]?:=λr=>by
  by_cases h:r=j-1
  .subst h;rw[c8 Θ,if_pos T]
  .rw[Y2 (Ne.symm h),if_neg h];by_cases h':r=j
   .subst h';rw[c8 C,if_pos T]
   .rw[Y2 (Ne.symm h'),if_neg h']
 rw[E]at e f;rw[if_neg B]at f;by_cases s:q=j
 .rw[if_pos s]at f;cases f;split at e
  .cases e;omega
  .split at e
   .omega
   .exact h p (j-1) x a Ω Ω Ω e z
 .rw[if_neg s]at f;split at e
  .cases e;have:=h j q b y;by_cases F:j<q
   .exact this F w s A f
   .omega
  .split at e
   .rename_i G;subst G;cases e;exact h (p-1) q a y Ω w s z f
   .exact h p q x y h1 w s e f
def swap_perm{m:Λ}{i:Nat}{a b:Int}(q:i<j)(h:m[i]?=σ a)(f:m[j]?=σ b):((m.set j a).set i b).Perm m:=by
 induction m generalizing i j with
 |nil=>simp at h
 |cons x m p=>
  cases j with
  |zero=>omega
  |succ j=>
   cases i with
   |zero=>
    simp at h f ⊢;subst h;have⟨r,f⟩:=x4.1 f;rw[show m=m.take j++m[j]::m.drop (j+1) by simp];rw[T7 _ _ Θ];have e:j-(m.take j).length=0:=Θ
    rw[e,f];simp only[List.set_cons_zero];apply(List.Perm.cons b (List.perm_middle)).trans;apply(List.Perm.swap x b _).trans;exact List.Perm.cons x List.perm_middle.symm
   |succ i=>
    simp at h f ⊢;exact p Ω h f
def Lm{m:Λ}(h:qZ m m.length):m.Pairwise (·<= ·):=by
 rw[V8];intro i j hi a e;exact h i j _ _ e a (x6 hi) (x6 a)
def Good(o:Λ)(n:Nat):Prop:=o.length=n/\∀(i:Nat)(p:Int),o[i]?=σ p->(0<=p/\p<n)/\∀j,j<i->o[j]? ≠σ p
def Good.inj{o:Λ}{i:Nat}{p:Int}(h:Good o n)(hi:o[i]?=σ p)(a:o[j]?=σ p):i=j:=by
 rcases Nat.lt_trichotomy i j with h1|h1|h1
 .exact absurd hi ((h.2 j p a).2 i h1)
 .exact h1
 .exact absurd a ((h.2 i p hi).2 j h1)
def BA(m:Λ):Prop:=∀i:Nat,i<m.length->m[i]?=σ (i:Int)
def BB{o m:Λ}(h:Good o n)(a:m.Perm o)(U:m.Pairwise (·<= ·)):BA m:=by
 have s:o.Nodup:=V8.2 λi j hi w B he=>by
  have:=h.inj (i:=i) (j:=j) (p:=o[j]) (by rw[x6 hi,he]) (x6 w);omega
 have y:m.Nodup:=a.nodup_iff.2 s;have C:m.length=n:=by rw[a.length_eq,h.1]
 have q:∀x∈m,0<=x/\x<(n:Int):=λx J=>by
  have⟨i,hi,he⟩:=List.getElem_of_mem (a.mem_iff.1 J);exact(h.2 i x (by rw[x6 hi,he])).1
 have r:∀(i:Nat)(hi:i+1<m.length),m[i]<m[i+1]:=λi hi=>by
  have h1:=V8.1 U i (i+1) Ω hi Ω;have e:=V8.1 y i (i+1) Ω hi Ω;omega
 have z:∀(i:Nat)(hi:i<m.length),(i:Int)<=m[i]:=by
  intro i;induction i with
  |zero=>intro hi;exact(q _ (S3 hi)).1
  |succ i f=>
   intro hi;have h1:=f Ω;have e:=r i hi;omega
 have A:∀(d i:Nat)(hi:i<m.length),i+d+1=m.length->m[i]<=(i:Int):=by
  intro d;induction d with
  |zero=>
   intro i hi he;have:=(q _ (S3 hi)).2;omega
  |succ d f=>
   intro i hi he;have h1:=f (i+1) Ω Ω;have e:=r i Ω;omega
 intro i hi;rw[x6 hi];have h1:=z i hi;have e:=A (m.length-i-1) i hi Ω;congr 1;omega
def Ln{o m:Λ}(h:BA m)(e:m.Perm o):Good o m.length:=by
 have s:m.Nodup:=V8.2 λi j hi a x he=>by
  have h1:=h i hi;have f:=h j a;rw[x6 hi]at h1;rw[x6 a]at f;have h1:=b9 h1;have f:=b9 f;omega
 have w:o.Nodup:=e.nodup_iff.1 s;refine⟨e.length_eq.symm,λi p hi=>⟨?_,λj a q=>?_⟩⟩
 .obtain⟨k,hk,he⟩:=List.getElem_of_mem (e.mem_iff.2 (x5 hi));have h1:=h k hk;rw[x6 hk,he]at h1;cases h1;omega
 .have r:i<o.length:=(x4.1 hi).1;have:=V8.1 w j i Ω r a;rw[x6 r]at hi;rw[x6 (show j<o.length by omega)]at q;exact this ((b9 q).trans (b9 hi).symm)
def Good.BC{o:Λ}{p:Nat}(h:Good o n)(f:p<n):∃j:Nat,o[j]?=σ (p:Int):=by
 let le:Int->Int->Bool:=λa b=>decide (a<=b);have h1:(o.mergeSort le).Perm o:=List.mergeSort_perm o le;have e:(o.mergeSort le).Pairwise (·<= ·):=by
  refine(List.pairwise_mergeSort (le:=le) (λa b c h1 e=>?_) (λa b=>?_) o).imp λh=>by simpa[le]using h
  .simp[le]at*;omega
  .simp[le];omega
 have q:=BB h h1 e p (by rw[h1.length_eq,h.1];exact f);have⟨j,r,he⟩:=List.getElem_of_mem (h1.mem_iff.1 (x5 q));exact⟨j,by rw[x6 r,he]⟩
def mo(o x:Λ):Λ:=(Y1 o.length).map λ(p:Nat)=>x.getD (o.idxOf (p:Int)) 0
def BD(o x:Λ):(mo o x).length=o.length:=by simp[mo]
def BE{o x:Λ}{p:Int}(h:Good o n)(J:x.length=n)(a:o[j]?=σ p):(mo o x)[p.toNat]?=x[j]?:=by
 have h1:=(h.2 j p a).1;have r:j<o.length:=(x4.1 a).1;have hm:p∈o:=x5 a;have e:=List.idxOf_lt_length_of_mem hm;have f:o.idxOf p=j:=h.inj (by rw[x6 e,List.getElem_idxOf e]) a;have q:((p.toNat:Nat):Int)=p:=Ω
 have s:=h.1;unfold mo;rw[x8,List.getElem?_range Ω];simp only[Z6,q,f];rw[u4,x6 (show j<x.length by omega)];rfl
def BF{o x y:Λ}(h:Good o n)(J:x.length=n)(r:y.length=n)(f:∀(j:Nat)(p:Int),o[j]?=σ p->y[p.toNat]?=x[j]?):y=mo o x:=by
 refine Y4 λp=>?_;have s:=h.1;by_cases q:p<n
 .obtain⟨j,a⟩:=h.BC q;have h1:=f j p a;have e:=BE h J a;rw[u7]at h1 e;rw[h1,e]
 .rw[Z2 Ω,Z2 (by rw[BD];omega)]
theorem oh:∀{s t:Λ},dr s t↔s.length=t.length/\∀(i:Nat)(a v:Int),s[i]?=σ a->t[i]?=σ v->0<=v/\v<a
 |[],t=>by
  rw[By];exact⟨λh=>⟨by rw[h],λi a v h _=>by simp at h⟩,λh=>j6 h.1.symm⟩
 |k::s,[]=>⟨λh=>absurd (tf h) Ξ,λh=>absurd h.1 Ξ⟩
 |k::s,v::t=>by
  rw[Bx,oh (s:=s) (t:=t)];refine⟨λ⟨h1,f,p⟩=>⟨by simp[f],λi a u e hu=>?_⟩,λ⟨h1,f⟩=>⟨f 0 k v T rfl,by simpa using h1,λi a u e hu=>f (i+1) a u (by simpa using e) (by simpa using hu)⟩⟩;cases i with
  |zero=>simp at e hu;subst e;subst hu;exact h1
  |succ i=>exact p i a u (by simpa using e) (by simpa using hu)
def en(s o:Λ):Λ:=o.map λp=>s.getD p.toNat 0
def th(s o:Λ):(en s o).length=o.length:=by simp[en]
def BG{s o:Λ}{p:Int}(h:Good o n)(U:s.length=n)(a:o[j]?=σ p):(en s o)[j]?=s[p.toNat]?:=by
 have h1:=(h.2 j p a).1;unfold en;rw[x8,a,Z6,u4,x6 (show p.toNat<s.length by omega)];rfl
def Lo{s o:Λ}(h:Good o n)(U:s.length=n){x:Int}(J:x∈en s o):x∈s:=by
 obtain⟨p,a,rfl⟩:=j5.1 J;have⟨j,e,he⟩:=List.getElem_of_mem a;have h1:=(h.2 j p (by rw[x6 e,he])).1;rw[u4,x6 (show p.toNat<s.length by omega)];exact S3 _
def cb.Lp{s o:Λ}(a:cb s)(h:Good o n)(U:s.length=n):cb (en s o):=
 ⟨by rw[th,h.1,<-U];exact a.1,λx J=>a.2 x (Lo h U J)⟩
def Lq{s o x:Λ}(h:Good o n)(U:s.length=n)(J:dr (en s o) x):dr s (mo o x):=by
 have⟨h1,w⟩:=oh.1 J;rw[th,h.1]at h1;refine oh.2 ⟨by rw[BD,h.1,U],λp a v e ad=>?_⟩;have y:p<n:=by have:=(x4.1 e).1;omega
 have⟨j,f⟩:=h.BC y;have q:=BG h U f;have r:=BE h h1.symm f;rw[u7]at q r;exact w j a v (by rw[q,e]) (by rw[<-r,ad])
def oi(s cs o:Λ):Λ:=(Y1 (aQ (en s o)).toNat).map λ(q:Nat)=>bl s cs (mo o (cR (en s o) q))
def BH(s cs o:Λ):(oi s cs o).length=(aQ (en s o)).toNat:=by simp[oi]
def wr{f:Int->Bool}{x:Int}:runN f (x::l)=if f x=true then runN f l+1 else 0:=by
 unfold runN;rw[List.takeWhile_cons];by_cases h:f x=true
 .rw[if_pos h,if_pos h,b6]
 .rw[if_neg h,if_neg h];rfl
theorem ws(f:Int->Bool):∀l:Λ,l.dropWhile f=l.drop (runN f l)
 |[]=>rfl
 |x::l=>by
  rw[List.dropWhile_cons,wr];by_cases h:f x=true
  .rw[if_pos h,if_pos h,ws f l];rfl
  .rw[if_neg h,if_neg h];rfl
theorem BI(f:Int->Bool):∀l:Λ,l.takeWhile f=l.take (runN f l)
 |[]=>rfl
 |x::l=>by
  rw[List.takeWhile_cons,wr];by_cases h:f x=true
  .rw[if_pos h,if_pos h,List.take_succ_cons,BI f l]
  .rw[if_neg h,if_neg h];rfl
theorem BJ{f:Int->Bool}:∀{l:Λ}{b:Int}{q:Λ},l.dropWhile f=b::q->f b=false
 |x::l,b,q,h=>by
  rw[List.dropWhile_cons]at h;by_cases J:f x=true
  .rw[if_pos J]at h;exact BJ h
  .rw[if_neg J]at h;have:=(List.cons.inj h).1;subst this;cases ae:f x
   .rfl
   .exact absurd ae J
def wu{p:Λ}{b:Int}{q:Λ}(h:p.drop a=b::q):p[a]?=σ b:=by
 have:=List.getElem?_drop (xs:=p) (i:=a) (j:=0);rw[h]at this;simpa using this.symm
def Lr(p:Λ)(at_:Nat):match pz p at_ with
  | .word a b=>lex (p.drop at_)=(((p.take b).drop a)::(lex (p.drop b)).1,(lex (p.drop b)).2)
  | .none=>lex (p.drop at_)=([],true)
  | .text _=>lex (p.drop at_)=([],false):=by
 have h:(p.drop at_).dropWhile cA=p.drop (gG p at_):=by rw[ws,List.drop_drop];rfl
 have s:(p.drop (gG p at_)).dropWhile bO=p.drop (iZ p (gG p at_)):=by rw[ws,List.drop_drop];rfl
 have y:(p.drop (gG p at_)).takeWhile bO=(p.take (iZ p (gG p at_))).drop (gG p at_):=by
  rw[BI,List.drop_take];congr 1;unfold iZ;omega
 have f:runN bO (p.drop (gG p at_))=iZ p (gG p at_)-gG p at_:=by unfold iZ;omega
 have K:gG p at_<=iZ p (gG p at_):=by unfold iZ;omega
 unfold pz;generalize gG p at_=a at*;generalize iZ p a=b at*;by_cases h1:b<p.length/\(∀c,p[b]?=σ c->cA c=false)
 .rw[if_pos h1];simp only;rw[kI,h];cases e:p.drop a with
  |nil=>
   have:=List.drop_eq_nil_iff.1 e;omega
  |cons x q=>
   simp only;rw[e]at s y f;by_cases J:bO x=true
   .rw[if_pos J,s];cases w:p.drop b with
    |nil=>have:=List.drop_eq_nil_iff.1 w;omega
    |cons c r=>
     simp only;rw[h1.2 c (wu w)];rfl
   .rw[if_neg J]
 .rw[if_neg h1];by_cases z:a=b
  .rw[if_pos z];simp only;subst z;rw[kI,h];cases e:p.drop a with
   |nil=>rfl
   |cons x q=>
    exfalso;have A:=wu e;have F:=(x4.1 A).1;rw[e]at f;rw[e]at h;have G:=BJ h;refine h1 ⟨F,λc B=>?_⟩;rw[A]at B;cases B;exact G
  .rw[if_neg z];simp only;rw[kI (p.drop at_),h];cases e:p.drop a with
   |nil=>
    rw[e]at f;have:runN bO []=0:=rfl;omega
   |cons x q=>
    simp only;rw[e]at s y f;have J:bO x=true:=by
     rw[wr]at f;by_cases J:bO x=true
     .exact J
     .rw[if_neg J]at f;omega
    rw[if_pos J,s,y];cases w:p.drop b with
    |nil=>simp only;rw[kI []];rfl
    |cons c r=>
     simp only;have C:=wu w;have H:=(x4.1 C).1;have I:cA c=true:=by
      cases U:cA c with
      |true=>rfl
      |false=>exact absurd ⟨H,λd E=>by rw[C]at E;cases E;exact U⟩ h1
     rw[if_pos I]
def hR(w:x3)(g:Nat)(R:Nat->Prop)(toks:List (Λ))(clean:Bool):Prop:=∃a p at_,ml w g a p at_ (-1)/\(∀r,leads a r->R r)/\lex (p.drop at_)=(toks,clean)
def hR.ab{g:Nat}(h:hR w g R toks clean)(J:ai S w w')(f:¬S g)(q:∀r,R r->¬S r):hR w' g R toks clean:=by
 have⟨s,p,a,⟨h1,x,y,z,bn,A⟩,e,B⟩:=h;exact⟨s,p,a,⟨h1,x,y,z.ab J f,bn,bw A J λr C=>q r (e r C)⟩,e,B⟩
def hR.words{g:Nat}(h:hR w g R toks clean):toks.length<=100000/\∀t∈toks,Bytes t/\t≠[]/\t.length<=100000:=by
 have⟨x,p,a,⟨y,z,A,_⟩,_,f⟩:=h;have B:(p.drop a).length<=100000:=by rw[List.length_drop];omega
 have e:=pw _ (p.drop a) (o4 _);rw[f]at e;refine⟨by show toks.length<=_;have e:toks.length<=_:=e;omega,λt r=>?_⟩;have q:=s4 _ (p.drop a) (o4 _) t (by rw[f];exact r);refine⟨λb s=>?_,q.1,Ω⟩;have:=of_decide_eq_true (q.2.1 b s);omega
def Ls(w:x3)(g:Nat)(R:Nat->Prop)(toks:List (Λ))(clean:Bool)(v:x1)(w':x3):Prop:=ai (λr=>r=g) w w'/\match toks with
 |t::l=>hR w' g R l clean/\∃n:Int,v= .tuple #[bL t,Δ n,Δ 0]
 |[]=>∃n:Int,v= .tuple #[bL [],Δ n,Δ (if clean then 2 else 11)]
def q0{g:Nat}(h:hR w g R toks clean):am x7 vE [Γ g] w (Ls w g R toks clean):=by
 have⟨A,p,a,h1,B,r⟩:=h;apply(KZ h1).mono;intro v w' _ hw;have e:=Lr p a;unfold qR at hw;cases s:pz p a with
 |word x y=>
  rw[s]at hw e;simp only at hw e;rw[r]at e;obtain⟨rfl,z,U⟩:=hw;have⟨f,q⟩:=Q4.inj e;subst f q;exact⟨z,⟨A,p,y,U,B,T⟩,_,T⟩
 |none=>
  rw[s]at hw e;simp only at hw e;rw[r]at e;have⟨f,q⟩:=Q4.inj e;subst f q;obtain⟨n,rfl,J⟩:=hw;exact⟨J.ab _,_,T⟩
 |text b=>
  rw[s]at hw e;simp only at hw e;rw[r]at e;have⟨f,q⟩:=Q4.inj e;subst f q;obtain⟨rfl,z,_⟩:=hw;exact⟨z,_,T⟩
def kL(w:Λ):x1:=match gF w with
 |some n=>.tuple #[Δ n,Δ 0]
 |none=>.tuple #[Δ 0,Δ 4]
def BK{i:Nat}{b:Int}(hi:l[i]?=σ b):(l.take (i+1)).all gE=((l.take i).all gE&&gE b):=by
 rw[u9,hi,List.all_append];simp
def BL{i:Nat}{b:Int}(hi:l[i]?=σ b):(l.take (i+1)).foldl e7 0=e7 ((l.take i).foldl e7 0) b:=by
 rw[u9,hi,S6];rfl
def BM(a:l≠[])(h:l.all gE=true):kJ l=σ (l.foldl e7 0):=by
 unfold kJ;cases l with
 |nil=>exact absurd T a
 |cons x l=>simp only[h,if_true]
def BN{i:Nat}{b:Int}(hi:l[i]?=σ b)(a:gE b=false):kJ l=ν:=by
 unfold kJ;cases l with
 |nil=>simp at hi
 |cons x l=>
  simp only;rw[if_neg];intro h;have:=List.all_eq_true.1 h b (x5 hi);rw[a]at this;cases this
def pE(w l:Λ)(s:Int):Prop:=(s=1\/s= -1)/\gF w=(kJ l).map λn=>s*n
def BO:pE (45::l) l (-1):=⟨.inr T,by simp only[gF];congr 1;funext n;omega⟩
def BP{w:Λ}(h:∀b,w[0]?=σ b->b≠45):pE w w 1:=⟨.inl T,by
 have e:gF w=kJ w:=by
  unfold gF;cases w with
  |nil=>rfl
  |cons x l=>
   have:=h x T;split
   .rename_i l' he;exact absurd (List.cons.inj he).1 this
   .rfl
 rw[e];cases kJ w with
 |none=>rfl
 |some n=>simp⟩
def ti{w:Λ}{s:Int}(h:pE w l s)(a:kJ l=ν):kL w= .tuple #[Δ 0,Δ 4]:=by
 unfold kL;rw[h.2,a];rfl
def BQ{w:Λ}{s n:Int}(h:pE w l s)(a:kJ l=σ n):kL w= .tuple #[Δ (s*n),Δ 0]:=by
 unfold kL;rw[h.2,a];rfl
def Lt(C:Bytes l)(L:l.length<=100000):am x7 IL [bL l] w λv w'=>v=kL l/\Ext w w':=by
 apply az func180;rw[KH];refine gQ (λR S V=>Ext w V/\∃(m:Λ)(s:Int),R=bL m/\S=Δ s/\Bytes m/\m.length<=100000/\pE l m s) ?_ ?_
 .rintro _ _ V ⟨I,m,s,rfl,rfl,J,ag,E⟩;rw[wb J (λb a=>by cases a),al];refine⟨λe=>⟨by rw[ti E (by rw[e];rfl)],I⟩,λe=>?_⟩;refine we cQ.u cN.u cJ.u J Ω λbv aa M N _=>?_;rw[aW cN.u N];refine sm.range m.length (λi _ _ c G=>Ext aa G/\c=Δ ((m.take i).foldl e7 0)/\(m.take i).all gE=true) Ω ⟨Ext.refl _,T,T⟩ ?_ ?_
  .rintro i U t3 _ G W hi ⟨f,rfl,p⟩ X;have⟨b,z⟩:=aH (l:=m) hi;have ah:=J b (x5 z);apply bz Ω;refine KI (λ_ _ c H=>Ext aa H/\c=Δ ((m.take (i+1)).foldl e7 0)/\(m.take (i+1)).all gE=true) ?_ ?_
   .rintro ai aj c H Y;rw[aN];exact X _ _ _ _ Y
   intro aA q;rw[bc cN.u cJ.i Ψ (N.ext f) z];refine aV (λv H=>G=H/\v= .bool (!gE b)) ?_ ?_
   rotate_left
   .intro Z A;rw[aP,al];refine⟨λh=>A _ _ ⟨T,by unfold gE;rw[decide_eq_false Ω];rfl⟩,λh=>?_⟩;rw[bJ];refine A _ _ ⟨T,?_⟩;unfold gE;congr 1;by_cases O:57<b
    .rw[decide_eq_true O,decide_eq_false Ω];rfl
    .rw[decide_eq_false O,decide_eq_true Ω];rfl
   rintro _ _ ⟨rfl,rfl⟩;cases K:gE b with
   |false=>
    rw[W3,bV];exact⟨by rw[ti E (BN z K)],(I.trans M).trans f⟩
   |true=>
    rw[Y7,a8];have ak:=of_decide_eq_true K;have B:=s5 (l:=m.take i) (n:=0) p ⟨Int.le_refl _,Φ⟩;rw[BL z,BK z,p,K]at q;generalize (m.take i).foldl e7 0=n at*;have B:0<=n/\n<=4611686018427387904:=B;rw[dN,wrap_u8 Ω Ω,fq cJ.u aq.u,wrap_i64 (x:=b-48) Ω Ω,dN,wrap_i64 Ω Ω,sR Φ,Int.tdiv_eq_ediv_of_nonneg Ω];rw[wrap_i64 Ω Ω,bJ,al];refine⟨λab=>q _ _ _ _ ⟨f,?_,T⟩,λab=>?_⟩
    .congr 1;unfold e7 aw;omega
    .rw[h9,wrap_i64 Ω Ω,aN,wrap_i64 Ω Ω];refine q _ _ _ _ ⟨f,?_,T⟩;congr 1;unfold e7 aw;omega
  .rintro U t3 _ G W ⟨f,rfl,p⟩;rw[o6]at p ⊢;apply b4 Ω;have B:=s5 (l:=m) (n:=0) p ⟨Int.le_refl _,Φ⟩;have B:0<=m.foldl e7 0/\m.foldl e7 0<=4611686018427387904:=B;rw[h9];have hw:X6.wrap (s*m.foldl e7 0)=s*m.foldl e7 0:=by
    rcases E.1 with rfl|rfl<;>exact wrap_i64 Ω Ω
   rw[hw];exact⟨by rw[BQ E (BM e p)],(I.trans M).trans f⟩
 .intro aA q;refine aV (λv aa=>w=aa/\∃c:Bool,v= .bool c/\(c=true↔l[0]?=σ 45)) ?_ ?_
  .rintro _ _ ⟨rfl,c,rfl,P⟩;rw[ca];refine⟨λac=>?_,λae=>?_⟩
   .intro an ad _ _;have Q:=P.1 ac;cases l with
    |nil=>simp at Q
    |cons x r=>
     have af:x=45:=by simpa using Q
     subst af;rw[A2 (y:=1) (i:=1) T cQ.u Ξ];exact q _ _ _ ⟨ad,r,-1,T,T,λb a=>C b (.tail _ a),by simp at L;omega,BO⟩
   .refine q _ _ _ ⟨Ext.refl _,l,1,T,T,C,L,BP λb a he=>?_⟩;subst he;rw[P.2 a]at ae;cases ae
  .intro Z A;rw[KM C (λb a=>by cases a),al];refine⟨λe=>?_,λe=>A _ _ ⟨T,false,T,⟨λh=>(by cases h),λh=>by rw[Z9.1 e]at h;simp at h⟩⟩⟩;cases l with
   |nil=>exact absurd T e
   |cons x r=>
    rw[qO (y:=0) (i:=0) (b:=x) T cQ.u C T,be];exact A _ _ ⟨T,_,T,Ξ⟩
def q1{s s':aF}{w:Λ}(h:dO s=σ (w,s')):s.toks=w::s'.toks/\s'={s with toks:=s'.toks}:=by
 unfold dO at h;cases a:s.toks with
 |nil=>rw[a]at h;cases h
 |cons x l=>
  rw[a]at h;simp only[Y3,T1]at h;obtain⟨rfl,rfl⟩:=h;exact⟨T,T⟩
def ib{n:Int}{s s':aF}(h:bh lo hi s=σ (n,s')):(lo<=n/\n<=hi)/\(∃w,s.toks=w::s'.toks/\gF w=σ n)/\s'={s with toks:=s'.toks}:=by
 unfold bh at h;cases hw:dO s with
 |none=>rw[hw]at h;cases h
 |some q=>
  have⟨w,s1⟩:=q;rw[hw]at h;simp only at h;have⟨h1,e⟩:=q1 hw;cases a:gF w with
  |none=>rw[a]at h;cases h
  |some m=>
   rw[a]at h;simp only at h;split at h
   .rename_i f;simp only[Y3,T1]at h;obtain⟨rfl,rfl⟩:=h;exact⟨f,⟨w,h1,a⟩,e⟩
   .cases h
def iD(k:Nat)(s s':aF):Prop:=s.toks.length=s'.toks.length+k/\s'={s with toks:=s'.toks}
def iD.refl(s:aF):iD 0 s s:=⟨T,T⟩
def iD.trans{b:Nat}{r s t:aF}(h:iD a r s)(k:iD b s t):iD (a+b) r t:=⟨by have:=h.1;have:=k.1;omega,by rw[k.2,h.2]⟩
def dl{n:Int}{s s':aF}(h:bh lo hi s=σ (n,s')):iD 1 s s':=by
 have⟨_,⟨w,h1,_⟩,a⟩:=ib h;exact⟨by rw[h1];simp,a⟩
def iD.eqs{k:Nat}{s s':aF}(h:iD k s s'):s'.told=s.told/\s'.big=s.big/\s'.shared=s.shared:=by rw[h.2];exact⟨T,T,T⟩
theorem i7{α:Type}{f:List α->aF->Option (α×aF)}(I:List α->aF->Prop)(ae:∀acc s a s',I acc s->f acc s=σ (a,s')->I (acc++[a]) s'):
  ∀(n:Nat)(acc:List α)(s:aF)(l:List α)(s':aF),I acc s->cK f n acc s=σ (l,s')->I l s'/\l.length=acc.length+n
 |0,acc,s,l,s',e,h=>by
  simp only[cK,Y3,T1]at h;obtain⟨rfl,rfl⟩:=h;exact⟨e,Ω⟩
 |n+1,acc,s,l,s',e,h=>by
  simp only[cK]at h;cases p:f acc s with
  |none=>rw[p]at h;cases h
  |some q=>
   have⟨a,s1⟩:=q;rw[p]at h;have:=i7 I ae n _ _ _ _ (ae _ _ _ _ e p) h;exact⟨this.1,by rw[this.2];simp;omega⟩
def tj{n:Int}{k:Nat}{s s':aF}(h:eW n k s=σ (l,s')):iD l.length s s'/\l.length=k/\l.Nodup/\∀v∈l,0<=v/\v<n:=by
 have:=i7 (λacc t=>iD acc.length s t/\acc.Nodup/\∀v∈acc,0<=v/\v<n) (λacc t a bt ⟨h1,p,r⟩ h=>by
  cases e:bh 0 (n-1) t with
  |none=>rw[e]at h;cases h
  |some q=>
   have⟨v,z⟩:=q;rw[e]at h;simp only at h;split at h
   .cases h
   .rename_i w;simp only[Y3,T1]at h;obtain⟨rfl,rfl⟩:=h;have A:=(ib e).1;refine⟨by rw[r9];exact h1.trans (dl e),List.nodup_append.2 ⟨p,Ξ,λx J y f he=>?_⟩,λx J=>?_⟩
    .rw[o9]at f;subst f;subst he;exact w J
    .rcases o5.1 J with J|J
     .exact r x J
     .rw[o9.1 J];omega) k [] s l s' ⟨iD.refl s,List.nodup_nil,λv ad=>by cases ad⟩ h
 exact⟨this.1.1,by simpa using this.2,this.1.2.1,this.1.2.2⟩
theorem wv:∀{ks acc:Λ}{s s':aF}{t:Λ},iY ks acc s=σ (t,s')->∃u,t=acc++u/\dr ks u/\iD u.length s s'
 |[],acc,s,s',t,h=>by
  simp only[iY,Y3,T1]at h;obtain⟨rfl,rfl⟩:=h;exact⟨[],Ξ,By.2 T,iD.refl s⟩
 |k::ks,acc,s,s',t,h=>by
  simp only[iY]at h;cases a:bh 0 (k-1) s with
  |none=>rw[a]at h;cases h
  |some q=>
   have⟨v,s1⟩:=q;rw[a]at h;obtain⟨u,rfl,hu,e⟩:=wv h;have f:=(ib a).1;exact⟨v::u,Ξ,Bx.2 ⟨Ω,hu⟩,by rw[b6,Nat.add_comm];exact(dl a).trans e⟩
def nf(sizes:Λ)(l:List (Λ×Int)):Prop:=(l.map (·.1)).Nodup/\∀p∈l,dr sizes p.1/\0<=p.2
def oj{acc:List (Λ×Int)}{s s':aF}{a:Λ×Int}(h:dU sizes acc s=σ (a,s')):a.1∉acc.map (·.1)/\dr sizes a.1/\0<=a.2/\iD (a.1.length+1) s s':=by
 unfold dU at h;cases f:iY sizes [] s with
 |none=>rw[f]at h;cases h
 |some q=>
  have⟨t,s1⟩:=q;rw[f]at h;simp only at h;have⟨u,hu,ad,p⟩:=wv f;rw[List.nil_append]at hu;subst hu;cases e:bh 0 aw s1 with
  |none=>rw[e]at h;cases h
  |some q=>
   have⟨c,w⟩:=q;rw[e]at h;simp only at h;split at h
   .cases h
   .rename_i r;simp only[Y3,T1]at h;obtain⟨rfl,rfl⟩:=h;exact⟨r,ad,(ib e).1.1,p.trans (dl e)⟩
structure BR(s s':aF):Prop where
 toks:s'.toks.length<s.toks.length
 big:s.big=true->s'.big=true
def Lu{s s':aF}{l:List (Λ×Int)}(C:∀q∈s.shared,nf q.1 q.2/\q.2.length<=N)(O:s.toks.length<=N)(h:dF sizes s=σ (l,s')):
  nf sizes l/\l.length<=N/\s'.shared=s.shared/\BR s s':=by
 unfold dF at h;cases r:bh (-aw) aw s with
 |none=>rw[r]at h;cases h
 |some q=>
  have⟨n,s1⟩:=q;rw[r]at h;simp only at h;have h1:=dl r;have⟨P,E,w⟩:=h1.eqs;split at h
  .cases U:s1.shared[(-n-1).toNat]? with
   |none=>rw[U]at h;cases h
   |some q=>
    have⟨z,l'⟩:=q;rw[U]at h;simp only at h;split at h
    .rename_i H;simp only[Y3,T1]at h;obtain⟨rfl,rfl⟩:=h;subst H;have hm:=x5 U;rw[w]at hm;exact⟨(C _ hm).1,(C _ hm).2,w,by have:=h1.1;omega,λf=>by rw[E];exact f⟩
    .cases h
  .have:=i7 (λacc t=>nf sizes acc/\t.shared=s.shared/\t.toks.length+acc.length<=s1.toks.length/\(s.big=true->t.big=true)) (λacc t a bt ⟨g1,A,I,B⟩ g=>by
    have⟨K,L,M,F⟩:=oj g;have⟨f1,f2,f3⟩:=F.eqs;refine⟨⟨?_,λp e=>?_⟩,by rw[f3,A],by have:=F.1;simp only[r9,T2];omega,λf=>by rw[f2];exact B f⟩
    .rw[Z4];exact List.nodup_append.2 ⟨g1.1,Ξ,λx J y G he=>by
      simp only[U7,List.map_nil,o9]at G;subst G;subst he;exact K J⟩
    .rcases o5.1 e with e|e
     .exact g1.2 p e
     .rw[o9.1 e];exact⟨L,M⟩) n.toNat [] (bb (decide (16384<min (s1.told+n) aw)) {s1 with told:=min (s1.told+n) aw}) l s' ⟨⟨Ξ,λp e=>by cases e⟩,w,by simp[bb],λf=>by simp[bb,E,f]⟩ h
   have⟨⟨g1,A,I,B⟩,_⟩:=this;have:=h1.1;exact⟨g1,Ω,A,⟨Ω,B⟩⟩
structure tk(all:Λ)(N:Nat)(f:cn):Prop where
 scope:f.scope.Nodup/\∀v∈f.scope,0<=v/\v<all.length
 sizes:f.sizes=f.scope.map λv=>all.getD v.toNat 0
 other:0<=f.other
 lines:nf f.sizes f.lines
 len:f.lines.length<=N
def Lv{all:Λ}{s s':aF}{f:cn}(C:∀q∈s.shared,nf q.1 q.2/\q.2.length<=N)(W:s.toks.length<=N)(h:cZ all s=σ (f,s')):
  tk all N f/\(∀q∈s'.shared,nf q.1 q.2/\q.2.length<=N)/\BR s s'/\(s'.big=false->f.scope.length<=6/\dq f.sizes=false):=by
 unfold cZ at h;cases E:bh (-aw) aw s with
 |none=>rw[E]at h;cases h
 |some q=>
 have⟨a,s1⟩:=q;rw[E]at h;simp only at h;have t0:=dl E;have⟨X,O,P⟩:=t0.eqs;cases h1:eW all.length a.natAbs s1 with
 |none=>rw[h1]at h;cases h
 |some q=>
 have⟨sc,x⟩:=q;rw[h1]at h;simp only at h;have⟨G,Y,Q,R⟩:=tj h1;have⟨Z,S,T⟩:=G.eqs;generalize U:sc.map (λv=>all.getD v.toNat 0)=sizes at h;cases z:bh 0 aw (bb (decide (6<a.natAbs)||dq sizes) x)with
 |none=>rw[z]at h;cases h
 |some q=>
 have⟨other,r⟩:=q;rw[z]at h;simp only at h;have H:=dl z;have⟨aa,A,y⟩:=H.eqs;have y:r.shared=s.shared:=by rw[y];show x.shared=_;rw[T,P]
 have ab:r.toks.length<s.toks.length:=by
  have:=t0.1;have:=G.1;have B:=H.1;have:(bb (decide (6<a.natAbs)||dq sizes) x).toks.length=x.toks.length:=rfl;omega
 cases B:dF sizes r with
 |none=>rw[B]at h;cases h
 |some q=>
 have⟨lines,p⟩:=q;rw[B]at h;simp only[Y3,T1]at h;obtain⟨rfl,rfl⟩:=h;have⟨g1,I,J,K⟩:=Lu (N:=N) (by rw[y];exact C) Ω B;have V:=K.big;have gt:=K.toks;have L:r.big=true->∀F:aF,F=(if a<0 then{p with shared:=p.shared++[(sizes,lines)]}else p)->F.big=true:=λw F he=>by
  rw[he];split<;>exact V w
 have A:r.big=(s.big||(decide (6<a.natAbs)||dq sizes)):=by
  rw[A];show(x.big||_)=_;rw[S,O]
 refine⟨⟨⟨Q,R⟩,U.symm,(ib z).1.1,g1,I⟩,λq e=>?_,⟨?_,λw=>L (by rw[A,w];rfl) _ rfl⟩,λw=>?_⟩
 .split at e
  .rcases o5.1 e with e|e
   .rw[show p.shared=s.shared by rw[J,y]]at e;exact C q e
   .rw[o9.1 e];exact⟨g1,I⟩
  .rw[show p.shared=s.shared by rw[J,y]]at e;exact C q e
 .have:(if a<0 then{p with shared:=p.shared++[(sizes,lines)]}else p).toks=p.toks:=by split<;>rfl
  rw[this];omega
 .have M:r.big=false:=by
   cases e:r.big with
   |false=>rfl
   |true=>rw[L e _ rfl]at w;cases w
  rw[A,S8,S8,decide_eq_false_iff_not]at M;show sc.length<=6/\_;exact⟨Ω,M.2.2⟩
structure e8(N:Nat)(f:b3):Prop where
 name:f.name.length<=64
 k:1<=f.k/\f.k<=2147483648
 sizes:1<=f.sizes.length/\f.sizes.length<=64/\∀z∈f.sizes,1<=z/\z<=32
 lr:f.funs.length<=256
 funs:∀x∈f.funs,tk f.sizes N x/\x.scope.length<=6/\dq x.sizes=false
def q2{b:Bool}{s:aF}(h:(bb b s).big=false):s.big=false/\b=false:=by
 have h:(s.big||b)=false:=h;exact S8.1 h
def Lw{a b:aF}(h:a.big=true->b.big=true)(e:b.big=false):a.big=false:=by
 cases f:a.big with
 |false=>rfl
 |true=>rw[h f]at e;cases e
def BS{s s':aF}{f:b3}(U:s.shared=[])(h:hn s=σ (f,s'))(e:s'.big=false):e8 s.toks.length f/\f.name∈s.toks:=by
 unfold hn at h;cases K:dO s with
 |none=>rw[K]at h;cases h
 |some q=>
 have⟨name,s0⟩:=q;rw[K]at h;simp only at h;have⟨V,aa⟩:=q1 K;cases h1:bh 1 aw (bb (decide (64<name.length)) s0)with
 |none=>rw[h1]at h;cases h
 |some q=>
 have⟨n,s1⟩:=q;rw[h1]at h;simp only at h;have r:=dl h1;cases L:bh 1 aw (bb (decide (64<n)) s1)with
 |none=>rw[L]at h;cases h
 |some q=>
 have⟨most,Z⟩:=q;rw[L]at h;simp only at h;have M:=dl L;cases N:bh 0 aw Z with
 |none=>rw[N]at h;cases h
 |some q=>
 have⟨E,F⟩:=q;rw[N]at h;simp only at h;have t3:=dl N;cases G:bh 1 aw (bb (decide (256<E)) F)with
 |none=>rw[G]at h;cases h
 |some q=>
 have⟨k,A⟩:=q;rw[G]at h;simp only at h;have t4:=dl G;cases O:cK (fi most) n.toNat [] (bb (decide (2147483648<k)) A)with
 |none=>rw[O]at h;cases h
 |some q=>
 have⟨sizes,H⟩:=q;rw[O]at h;simp only at h;cases P:cK (λ_ s=>cZ sizes s) E.toNat [] H with
 |none=>rw[P]at h;cases h
 |some q=>
 have⟨funs,ab⟩:=q;rw[P]at h;simp only[Y3,T1]at h;obtain⟨rfl,rfl⟩:=h;have ac:=i7 (λ(acc:Λ)t=>t.shared=[]/\t.toks.length<=s.toks.length/\(t.big=false->A.big=false/\k<=2147483648/\∀z∈acc,1<=z/\z<=32)) (λacc t a bt ⟨g1,T,Q⟩ g=>by
  unfold fi at g;cases w:bh 1 most t with
  |none=>rw[w]at g;cases g
  |some q=>
   have⟨z,r⟩:=q;rw[w]at g;simp only[Y3,T1]at g;obtain⟨rfl,rfl⟩:=g;have W:=dl w;have⟨aB,ad,ae⟩:=W.eqs;have aC:=(ib w).1;refine⟨by show r.shared=[];rw[ae,g1],by show r.toks.length<=_;have:=W.1;omega,λe=>?_⟩;have⟨p,B⟩:=q2 e;rw[ad]at p;have⟨R,S,af⟩:=Q p;refine⟨R,S,λy C=>?_⟩;rcases o5.1 C with C|C
   .exact af y C
   .rw[o9.1 C];have:=of_decide_eq_false B;omega) n.toNat [] (bb (decide (2147483648<k)) A) sizes H ⟨by
     show A.shared=[];rw[t4.eqs.2.2];show F.shared=[];rw[t3.eqs.2.2,M.eqs.2.2];show s1.shared=[];rw[r.eqs.2.2];show s0.shared=[];rw[aa];exact U,by
     show A.toks.length<=_;have ag:=r.1;have ah:=M.1;have a3:=t3.1;have a4:=t4.1;have p:(bb (decide (64<name.length)) s0).toks=s0.toks:=rfl;have B:(bb (decide (64<n)) s1).toks=s1.toks:=rfl;have I:(bb (decide (256<E)) F).toks=F.toks:=rfl;rw[p]at ag;rw[B]at ah;rw[I]at a4;rw[V,b6];omega,λe=>by
     have⟨p,B⟩:=q2 e;have:=of_decide_eq_false B;exact⟨p,Ω,λz ai=>by cases ai⟩⟩ O
 have⟨⟨aj,ak,al⟩,am⟩:=ac;have an:=i7 (λ(acc:List cn)t=>(∀q∈t.shared,nf q.1 q.2/\q.2.length<=s.toks.length)/\t.toks.length<=s.toks.length/\(t.big=false->H.big=false/\∀x∈acc,tk sizes s.toks.length x/\x.scope.length<=6/\dq x.sizes=false)) (λacc t a bt ⟨g1,T,Q⟩ g=>by
  have⟨ao,ap,X,aq⟩:=Lv g1 T g;refine⟨ap,by have:=X.toks;omega,λe=>?_⟩;have⟨R,S⟩:=Q (Lw X.big e);refine⟨R,λx J=>?_⟩;rcases o5.1 J with J|J
  .exact S x J
  .rw[o9.1 J];exact⟨ao,aq e⟩) E.toNat [] H funs ab ⟨(by rw[aj];intro q w;cases w),ak,λe=>⟨e,λx J=>by cases J⟩⟩ P
 have⟨⟨_,_,d3⟩,d4⟩:=an;have⟨au,d5⟩:=d3 e;have⟨I,av,ax⟩:=al au;rw[t4.eqs.2.1]at I;have⟨Y,ay⟩:=q2 I;rw[t3.eqs.2.1,M.eqs.2.1]at Y;have⟨p,az⟩:=q2 Y;rw[r.eqs.2.1]at p;have⟨_,aA⟩:=q2 p;have:=of_decide_eq_false ay;have:=of_decide_eq_false az;have:=of_decide_eq_false aA;have aD:=(ib h1).1;have hk:=(ib G).1;simp only[List.length_nil,X2]at am d4;exact⟨⟨by show name.length<=64;omega,⟨hk.1,av⟩,⟨by show 1<=sizes.length;omega,by show sizes.length<=64;omega,ax⟩,by show funs.length<=256;omega,d5⟩,by rw[V];exact .head _⟩
def j7(x:cn)(k:Int)(t:Λ):Int:=min (match x.lines.find? (λp=>decide (p.1=t))with
 |some p=>p.2
 |none=>x.other) k
def br(l:Λ):Λ:=((Y1 64).map λ(v:Nat)=>(v:Int)).filter λv=>decide (v∈l)
def bX(sizes scope:Λ):Λ:=scope.map λv=>sizes.getD v.toNat 0
def pF(scope a t:Λ):Λ:=scope.map λv=>t.getD (a.idxOf v) 0
abbrev cL:Type:=Λ×Λ
def ic(sizes:Λ)(k:Int)(x:cn):cL:=(br x.scope,(bm (bX sizes (br x.scope))).map λt=>j7 x k (pF x.scope (br x.scope) t))
def ea(k:Int)(a b:Λ):Λ:=List.zipWith (λx y=>min (x+y) k) a b
def iE(k:Int)(acc:List cL)(g:cL):List cL:=if g.1∈acc.map (·.1)then acc.map λh=>if h.1=g.1 then(h.1,ea k h.2 g.2)else h else acc++[g]
def jH:Λ->Int
 |[]=>0
 |x::l=>x*64 ^ l.length+jH l
def dg(l:Λ):Int:=l.length*64 ^ 6+jH l
def hS(g:cL):List cL->List cL
 |[]=>[g]
 |h::l=>if dg h.1<dg g.1 then h::hS g l else g::h::l
def fu(g:cL):Bool:=g.2.any λc=>decide (0<c)
def fj(f:b3):List cL:=(f.funs.map (ic f.sizes f.k)).foldl (iE f.k) []
def fv(f:b3):List cL:=((fj f).filter fu).foldl (λl g=>hS g l) []
structure aG where
 k:Int
 sizes:Λ
 zero:Int
 unary:List (Λ)
 funs:List cL
deriving DecidableEq
def cS(f:b3):aG:=(fv f).foldl (λn g=>match g.1 with
 |[]=>{n with zero:=g.2.getD 0 0}
 |[v]=>{n with unary:=n.unary.set v.toNat g.2}
 |_=>{n with funs:=n.funs++[g]}) ⟨f.k,f.sizes,0,f.sizes.map λz=>p8 z.toNat 0,[]⟩
abbrev i9:Type:=Rd (Λ)×Rd (List (Λ×Int))
def bG(g gs:Nat)(A:ak):ak:=λr=>r=g\/r=gs\/A r
def fV(gs:Nat)(e big a f told:Int)(sv:x1):List x1:=[Γ gs,Δ e,Δ big,Δ a,Δ f,Δ told,sv]
def cH(g gs:Nat)(A:ak)(B:ak):ak:=λr=>¬bG g gs A r/\B r
def lu(w:x3)(g gs:Nat)(A:ak)(B:ak):Prop:=g≠gs/\¬A g/\¬A gs/\(∀r,bG g gs A r->r<w.heap.size)/\∀r,B r->r<w.heap.size
def dp(w:x3)(g gs:Nat)(A:ak)(B:ak)(s:aF)(clean:Bool):Prop:=lu w g gs A B/\hR w gs (cH g gs A B) s.toks clean/\(0<=s.told/\s.told<=aw/\s.shared.length+s.toks.length<=100000)/\
 ∃big a e told sv,ag w g cj (fV gs 0 big a e told sv)/\((s.big=true↔big≠0)/\(s.big=false->told=s.told))/\bI A (cH g gs A B) w [sv] (show List i9 from s.shared)
def eE(w:x3)(g gs:Nat)(A:ak)(B:ak):Prop:=lu w g gs A B/\∃(e big a f told:Int)(sv:x1)(l:List i9),ag w g cj (fV gs e big a f told sv)/\(e≠0/\l.length<=100000)/\bI A (cH g gs A B) w [sv] l
def lu.ab{g:Nat}{A:ak}{B:ak}(h:lu w g gs A B)(J:ai S w w'):lu w' g gs A B:=by
 have⟨h1,e,f,p,q⟩:=h;exact⟨h1,e,f,λr a=>Q2 (p r a) J.size,λr a=>Q2 (q r a) J.size⟩
def BT{g:Nat}{A:ak}{B:ak}(a:∀r,A r->¬S r)(e:∀r,cH g gs A B r->¬S r):∀r,A r\/cH g gs A B r->¬S r:=λr h=>h.elim (a r) (e r)
def dp.ab{g:Nat}{A:ak}{B:ak}{s:aF}(h:dp w g gs A B s clean)(J:ai S w w')(a:∀r,bG g gs A r->¬S r)(e:∀r,cH g gs A B r->¬S r):dp w' g gs A B s clean:=by
 have⟨h1,f,p,big,q,x,told,sv,y,z,C⟩:=h;exact⟨h1.ab J,f.ab J (a gs (.inr (.inl T))) e,p,big,q,x,told,sv,y.ab J (a g (.inl T)),z,au.ab C J λr _ h=>BT (λr E=>a r (.inr (.inr E))) e r h⟩
def eE.ab{g:Nat}{A:ak}{B:ak}(h:eE w g gs A B)(J:ai S w w')(a:∀r,bG g gs A r->¬S r)(f:∀r,cH g gs A B r->¬S r):eE w' g gs A B:=by
 have⟨h1,e,big,p,q,told,sv,l,s,x,y⟩:=h;exact⟨h1.ab J,e,big,p,q,told,sv,l,s.ab J (a g (.inl T)),x,au.ab y J λr _ h=>BT (λr z=>a r (.inr (.inr z))) f r h⟩
def dp.ext{g:Nat}{A:ak}{B:ak}{s:aF}(h:dp w g gs A B s clean)(J:Ext w w'):dp w' g gs A B s clean:=h.ab (J.ab λ_=>False) (λ_ _ h=>h) (λ_ _ h=>h)
def eE.ext{g:Nat}{A:ak}{B:ak}(h:eE w g gs A B)(J:Ext w w'):eE w' g gs A B:=h.ab (J.ab λ_=>False) (λ_ _ h=>h) (λ_ _ h=>h)
def gk(w:x3)(g gs:Nat)(A:ak)(B:ak)(clean:Bool)(s':Option aF)(w':x3):Prop:=ai (bG g gs A) w w'/\match s' with
 |some s'=>dp w' g gs A B s' clean
 |none=>eE w' g gs A B
def wx{g:Nat}{e big a f told:Int}(h:ag w g cj (fV gs e big a f told sv)):am x7 ld [Γ g] w λv w'=>v= .bool (decide (e=0))/\Ext w w':=by
 apply az func108;rw[bZ,aU cj.p T,aU e6.p T,ax Ψ (h.cell (o:=0+1+0) T),be];exact⟨T,Ext.refl _⟩
def pG{g:Nat}{A:ak}{B:ak}{s:aF}(h:dp w g gs A B s clean):am x7 ld [Γ g] w λv w'=>v= .bool true/\Ext w w':=by
 have⟨_,_,_,big,e,f,told,sv,a,_⟩:=h;exact(wx a).mono λ_ _ _ h=>h
def ol{g:Nat}{A:ak}{B:ak}(h:eE w g gs A B):am x7 ld [Γ g] w λv w'=>v= .bool false/\Ext w w':=by
 have⟨_,e,big,p,q,told,sv,l,a,f,_⟩:=h;apply(wx a).mono;rintro _ V _ ⟨rfl,J⟩;exact⟨by rw[decide_eq_false f.1],J⟩
def tm{g:Nat}{A B:ak}(h:A r\/cH g gs A B r)(a:¬A g):r≠g:=by
 rintro rfl;rcases h with h|h
 .exact a h
 .exact h.1 (.inl T)
def tn{g:Nat}{A:ak}{B:ak}{big x a told e:Int}{l:List i9}(U:lu w g gs A B)(y:ag w g cj (fV gs 0 big x a told sv))(z:bI A (cH g gs A B) w [sv] l)(he:e≠0)(C:l.length<=100000):
  am x7 nS [Γ g,Δ e,Δ at_] w λ_ w'=>ai (λr=>r=g) w w'/\eE w' g gs A B:=by
 apply az func111;rw[bZ,aU cj.p T,aU e6.p T,ax Ψ (y.cell (o:=0+1+0) T),be,al];refine⟨λ_=>?_,λh=>absurd T h⟩;rw[bZ,aU cj.p T,aU e6.p T];refine bq (g:=g) (o:=1) jX.i T rfl y (by simp[fV]) λV E I f=>?_;have f:ag V g cj (fV gs e big x a told sv):=f;rw[bZ,aU cj.p T,aU e6.p T];refine bq (g:=g) (o:=3) ah.i T rfl f (by simp[fV]) λaa G J q=>?_;have q:ag aa g cj (fV gs e big at_ a told sv):=q;have s:=E.trans G;exact⟨s,U.ab s,e,big,at_,a,told,sv,l,q,⟨he,C⟩,au.ab z s λr _ h H=>tm h U.2.1 H⟩
def tp{g:Nat}{A:ak}{B:ak}{s:aF}{e:Int}(h:dp w g gs A B s clean)(he:e≠0):am x7 nS [Γ g,Δ e,Δ at_] w λ_ w'=>ai (λr=>r=g) w w'/\eE w' g gs A B:=by
 have⟨U,_,a,big,q,x,told,sv,f,_,p⟩:=h;exact tn U f p he (by have:=a.2.2;show s.shared.length<=_;omega)
def Lx{g:Nat}{A:ak}{B:ak}{e:Int}(h:eE w g gs A B):am x7 nS [Γ g,Δ e,Δ at_] w λ_ w'=>Ext w w':=by
 have⟨_,f,big,q,r,told,sv,l,h1,a,_⟩:=h;apply az func111;rw[bZ,aU cj.p T,aU e6.p T,ax Ψ (h1.cell (o:=0+1+0) T),be,al];exact⟨λh=>absurd h a.1,λ_=>Ext.refl _⟩
def tq{g:Nat}{A:ak}{B:ak}{s:aF}{b:Bool}(h:dp w g gs A B s clean):am x7 qB [Γ g,.bool b,Δ at_] w λ_ w'=>ai (λr=>r=g) w w'/\dp w' g gs A B (bb b s) clean:=by
 have⟨U,C,E,big,e,G,told,sv,f,H,I⟩:=id h;apply az func106;refine aV (λv V=>w=V/\v= .bool (b&&decide (big=0))) ?_ ?_
 rotate_left
 .intro aA x;cases b with
  |false=>rw[a8];exact x _ _ ⟨T,T⟩
  |true=>
   rw[bV,bZ,aU cj.p T,aU e6.p T,ax Ψ (f.cell (o:=0+1+1) T),be,al];refine⟨λa=>?_,λa=>x _ _ ⟨T,by rw[decide_eq_false a];rfl⟩⟩;rw[bZ,aU cj.p T,aU e6.p T,ax Ψ (f.cell (o:=0+1+0) T),be];exact x _ _ ⟨T,by rw[decide_eq_true a];rfl⟩
 rintro _ _ ⟨rfl,rfl⟩;rw[ca];refine⟨λJ=>?_,λae=>?_⟩
 .obtain⟨rfl,a⟩:=Bool.and_eq_true_iff.1 J;rw[bZ,aU cj.p T,aU e6.p T];refine bq (g:=g) (o:=2) jX.i T rfl f (by simp[fV]) λV K O y=>?_;have y:ag V g cj (fV gs 0 5 e G told sv):=y;rw[bZ,aU cj.p T,aU e6.p T];refine bq (g:=g) (o:=4) ah.i T rfl y (by simp[fV]) λaa L P z=>?_;have z:ag aa g cj (fV gs 0 5 e at_ told sv):=z;have q:=K.trans L;exact⟨q,U.ab q,C.ab q (λhe=>U.1 he.symm) (λr M he=>M.1 (.inl he)),E,5,e,at_,told,sv,z,⟨⟨λ_=>Ω,λ_=>by simp[bb]⟩,λh=>by simp[bb]at h⟩,au.ab I q λr _ h N=>tm h U.2.1 N⟩
 .refine⟨ai.refl _ _,U,C,E,big,e,G,told,sv,f,⟨?_,λh=>H.2 (by
   have h:(s.big||b)=false:=h;exact(S8.1 h).1)⟩,I⟩
  show(s.big||b)=true↔big≠0;cases b with
  |false=>rw[Bool.or_false];exact H.1
  |true=>
   have a:big≠0:=of_decide_eq_false (by simpa using ae);simp[a]
def BU{g:Nat}{A:ak}{B:ak}{b:Bool}(h:eE w g gs A B):am x7 qB [Γ g,.bool b,Δ at_] w λ_ w'=>Ext w w':=by
 have⟨_,q,big,r,s,told,sv,l,h1,e,_⟩:=h;apply az func106;refine aV (λv V=>w=V/\v= .bool false) ?_ ?_
 .rintro _ _ ⟨rfl,rfl⟩;rw[a8];exact Ext.refl _
 intro aA a;cases b with
 |false=>rw[a8];exact a _ _ ⟨T,T⟩
 |true=>
  rw[bV,bZ,aU cj.p T,aU e6.p T,ax Ψ (h1.cell (o:=0+1+1) T),be,al];refine⟨λf=>?_,λf=>a _ _ ⟨T,T⟩⟩;rw[bZ,aU cj.p T,aU e6.p T,ax Ψ (h1.cell (o:=0+1+0) T),be];exact a _ _ ⟨T,by rw[decide_eq_false e.1]⟩
def dp.scan{g:Nat}{A:ak}{B:ak}{s:aF}{l:List (Λ)}(h:dp w g gs A B s clean)(a:ai (λr=>r=gs) w w')(U:hR w' gs (cH g gs A B) l clean)(C:l.length<=s.toks.length):dp w' g gs A B {s with toks:=l} clean:=by
 have⟨h1,_,e,big,p,q,told,sv,x,y,z⟩:=h;refine⟨h1.ab a,U,⟨e.1,e.2.1,by have:=e.2.2;show s.shared.length+l.length<=100000;omega⟩,big,p,q,told,sv,x.ab a h1.1,y,au.ab z a λr _ h f=>?_⟩;have f:r=gs:=f;subst f;rcases h with h|h
 .exact h1.2.2.1 h
 .exact h.1 (.inr (.inl T))
def BV{g:Nat}{A:ak}{B:ak}{s:aF}(h:dp w g gs A B s clean):am x7 zU [Γ g] w λv w'=>gk w g gs A B clean ((dO s).map (·.2)) w'/\∃(t:Λ)(n:Int),v= .tuple #[bL t,Δ n]/\Bytes t/\t.length<=100000/\∀q,dO s=σ q->t=q.1:=by
 apply az func105;apply(pG h).mono;rintro _ V _ ⟨rfl,J⟩;rw[bK,Y7,a8];have h1:=h.ext J;have⟨_,K,_,big,N,O,told,sv,z,_⟩:=id h1;have P:=K.words.2;rw[aT cj.p 0 z T];apply(q0 K).mono;rintro v aa _ ⟨x,ad⟩;have L:ai (bG g gs A) w aa:=(J.ab _).trans (x.mono λr _ h=>.inr (.inl h));cases f:s.toks with
 |cons t l=>
  rw[f]at ad;obtain⟨Q,n,rfl⟩:=ad;have R:=h1.scan x Q (by rw[f];simp);have C:dO s=σ (t,{s with toks:=l}):=by unfold dO;rw[f]
  have M:=P t (by rw[f];exact .head _);rw[fR,fS,fT];refine aV (λv E=>aa=E/\v=Δ 0) ?_ ?_
  .rintro _ _ ⟨rfl,rfl⟩;refine dc (λy=>aa=y) ?_ ?_
   .rintro _ rfl;rw[C];exact⟨⟨L,R⟩,t,n,T,M.1,M.2.2,λq G=>by cases G;rfl⟩
   .intro aA a;rw[bB,al];exact⟨λh=>absurd T h,λ_=>a _ T⟩
  .intro aA a;rw[be,al];exact⟨λh=>Ω,λ_=>a _ _ ⟨T,T⟩⟩
 |nil=>
  rw[f]at ad;obtain⟨n,rfl⟩:=ad;have C:dO s=ν:=by unfold dO;rw[f]
  have⟨H,_,S,big,N,O,told,sv,z,ae,U⟩:=id h1;have W:=z.ab x H.1;have X:=au.ab U x λr _ h I=>by
   have I:r=gs:=I;subst I;rcases h with h|h
   .exact H.2.2.1 h
   .exact h.1 (.inr (.inl T))
  rw[fR,fS,fT];refine aV (λv E=>aa=E/\∃e:Int,v=Δ e/\e≠0) ?_ ?_
  .rintro _ _ ⟨rfl,e,rfl,he⟩;refine dc (λy=>ai (λr=>r=g) aa y/\eE y g gs A B) ?_ ?_
   .rintro y ⟨Y,Z⟩;rw[C];exact⟨⟨L.trans (Y.mono λr _ h=>.inl h),Z⟩,[],n,T,λb ac=>(by cases ac),Ξ,λq G=>by cases G⟩
   .intro aA a;rw[bB,al];refine⟨λ_=>?_,λh=>absurd he h⟩;exact(tn (H.ab x) W X he (by have:=S.2.2;show s.shared.length<=_;omega)).mono λ_ w' _ h=>a _ h
  .intro aA a;rw[be,al];cases clean with
   |true=>exact⟨λ_=>a _ _ ⟨T,4,T,Ω⟩,λh=>absurd T h⟩
   |false=>exact⟨λh=>by simp at h,λ_=>a _ _ ⟨T,11,T,Ω⟩⟩
def Ly{g:Nat}{A:ak}{B:ak}(h:eE w g gs A B):am x7 zU [Γ g] w λv w'=>Ext w w'/\v= .tuple #[bL [],Δ 0]:=by
 apply az func105;apply(ol h).mono;rintro _ V _ ⟨rfl,a⟩;rw[bK,W3,bV];exact⟨a,T⟩
def wy{g:Nat}{A:ak}{B:ak}{s:aF}(h:dp w g gs A B s clean):am x7 nR [Γ g,Δ lo,Δ hi] w λv w'=>gk w g gs A B clean ((bh lo hi s).map (·.2)) w'/\∃n at_:Int,v= .tuple #[Δ n,Δ at_]/\(∀q,bh lo hi s=σ q->n=q.1)/\(bh lo hi s=ν->n=0):=by
 apply az func107;apply(BV h).mono;rintro _ V _ ⟨⟨z,f⟩,t,n,rfl,I,J,hw⟩;rw[bo,bp];cases p:dO s with
 |none=>
  have a:bh lo hi s=ν:=by unfold bh;rw[p]
  rw[p]at f;have f:eE V g gs A B:=f;apply(ol f).mono;rintro _ aa _ ⟨rfl,x⟩;rw[bK,W3,bV,a];exact⟨⟨z.trans (x.ab _),f.ext x⟩,0,n,T,λq h=>(by cases h),λ_=>rfl⟩
 |some q=>
  have⟨bt,s1⟩:=q;have:=hw _ p;subst this;rw[p]at f;have f:dp V g gs A B s1 clean:=f;apply(pG f).mono;rintro _ aa _ ⟨rfl,x⟩;rw[bK,Y7,a8];apply(Lt I J).mono;rintro _ C _ ⟨rfl,E⟩;have G:=(f.ext x).ext E;have H:ai (bG g gs A) w C:=(z.trans (x.ab _)).trans (E.ab _);obtain⟨m,e,ad,hm⟩:∃m e:Int,kL t= .tuple #[Δ m,Δ e]/\((gF t=σ m/\e=0)\/(gF t=ν/\e=4)):=by
   unfold kL;cases N:gF t with
   |none=>exact⟨0,4,T,.inr ⟨T,T⟩⟩
   |some m=>exact⟨m,0,T,.inl ⟨T,T⟩⟩
  rw[ad,bo,bp];refine aV (λv K=>C=K/\v= .bool (bh lo hi s).isNone) ?_ ?_
  .rintro _ _ ⟨rfl,rfl⟩;cases a:bh lo hi s with
   |none=>
    rw[Option.isNone_none,bV];apply(tp G Ω).mono;rintro _ O _ ⟨L,M⟩;exact⟨⟨H.trans (L.mono λr _ h=>.inl h),M⟩,0,n,T,λq h=>(by cases h),λ_=>rfl⟩
   |some q=>
    rw[Z5,a8];unfold bh at a;rw[p]at a;simp only at a;rcases hm with⟨hm,_⟩|⟨hm,_⟩
    .rw[hm]at a;simp only at a;split at a
     .cases a;exact⟨⟨H,G⟩,m,n,T,λq h=>(by cases h;rfl),λh=>(by cases h)⟩
     .cases a
    .rw[hm]at a;cases a
  .intro aA y;have a:bh lo hi s=match gF t with
     |none=>ν
     |some n=>if lo<=n/\n<=hi then σ (n,s1)else ν:=by
    unfold bh;rw[p];simp only;cases gF t<;>rfl
   rw[bB,al];rcases hm with⟨hm,rfl⟩|⟨hm,rfl⟩
   .rw[hm]at a;simp only at a;refine⟨λh=>absurd T h,λ_=>?_⟩;rw[aP,al];refine⟨λh=>y _ _ ⟨T,by rw[a,if_neg Ω];rfl⟩,λh=>?_⟩;rw[bJ];refine y _ _ ⟨T,?_⟩;rw[a];by_cases aB:hi<m
    .rw[decide_eq_true aB,if_neg Ω];rfl
    .rw[decide_eq_false aB,if_pos Ω];rfl
   .rw[hm]at a;exact⟨λ_=>y _ _ ⟨T,by rw[a];rfl⟩,λh=>absurd (by omega:(4:Int)≠0) h⟩
def Lz{g:Nat}{A:ak}{B:ak}(h:eE w g gs A B):am x7 nR [Γ g,Δ lo,Δ hi] w λv w'=>Ext w w'/\v= .tuple #[Δ 0,Δ 0]:=by
 apply az func107;apply(Ly h).mono;rintro _ V _ ⟨a,rfl⟩;rw[bo,bp];apply(ol (h.ext a)).mono;rintro _ aa _ ⟨rfl,e⟩;rw[bK,W3,bV];exact⟨a.trans e,T⟩
def LA{x:Int}(h:aI .i64 w sv l):am x7 JG [sv,Δ x] w λv w'=>Ext w w'/\∃r:Int,v=Δ r/\(0<=r↔x∈l):=by
 apply az func271;rw[aW ay.u h];refine bT.range l.length (λi _ V=>Ext w V/\x∉l.take i) h.le ⟨Ext.refl _,Ξ⟩ ?_ ?_
 .rintro i _ V k hi ⟨a,e⟩ hk;apply bz Ω;have⟨y,f⟩:=aH (l:=l) hi;rw[bc ay.u aq.i Ψ (h.ext a) f,be,al];refine⟨λhe=>⟨a,i,T,⟨λ_=>he▸x5 f,λ_=>Ω⟩⟩,λhe=>?_⟩;rw[aN];refine hk _ _ ⟨a,λhm=>?_⟩;rw[u9,f]at hm;rcases o5.1 hm with hm|hm
  .exact e hm
  .simp at hm;exact he hm
 .rintro _ V k ⟨a,e⟩;rw[o6]at e;rw[aP,al];exact⟨λh=>Ω,λ_=>⟨a,-1,T,⟨λh=>Ω,λh=>absurd h e⟩⟩⟩
def LB{x:Int}(h:aI .i64 w sv l):am x7 Jk [sv,Δ x] w λv w'=>v= .bool (decide (x∈l))/\Ext w w':=by
 apply az func232;apply(LA h).mono;rintro _ V _ ⟨J,r,rfl,a⟩;rw[cO];exact⟨by congr 1;rw[U1,decide_eq_true_eq,decide_eq_true_eq];exact a,J⟩
theorem tr:∀{l:Λ},(∀z∈l,1<=z)->∀i,aQ ((l.take i).map λk=>min k 4097)<=aQ (l.map λk=>min k 4097)/\1<=aQ ((l.take i).map λk=>min k 4097)
 |[],_,i=>by simp[aQ]
 |z::l,h,0=>by
  have a:=tr (l:=l) (λx J=>h x (.tail _ J)) l.length;rw[o6]at a;have e:=h z (.head _);simp only[List.take_zero,List.map_nil,U7,aQ];have:=Int.mul_le_mul_of_nonneg_left a.2 (show 0<=min z 4097 by omega);omega
 |z::l,h,i+1=>by
  have a:=tr (l:=l) (λx J=>h x (.tail _ J)) i;have e:=h z (.head _);simp only[List.take_succ_cons,U7,aQ];have h1:=Int.mul_le_mul_of_nonneg_left a.1 (show 0<=min z 4097 by omega);have f:=Int.mul_le_mul_of_nonneg_left a.2 (show 0<=min z 4097 by omega);exact⟨h1,Ω⟩
def BW(l:Λ)(x:Int):aQ (l++[x])=aQ l*x:=by
 induction l with
 |nil=>simp[aQ]
 |cons a l e=>rw[List.cons_append,aQ,e,aQ,Int.mul_assoc]
def BX(h:aI .i64 w sv l)(h1:∀z∈l,1<=z):am x7 IM [sv] w λv w'=>v= .bool (dq l)/\Ext w w':=by
 apply az func182;rw[aW ay.u h];refine kz.range l.length (λi _ n V=>Ext w V/\n=Δ (aQ ((l.take i).map λk=>min k 4097))/\aQ ((l.take i).map λk=>min k 4097)<=4096) h.le ⟨Ext.refl _,by simp[aQ],by simp[aQ]⟩ ?_ ?_
 .rintro i _ _ V q hi ⟨a,rfl,f⟩ r;apply bz Ω;have⟨z,p⟩:=aH (l:=l) hi;have x:=h1 z (x5 p);have y:=tr h1 i;have A:=tr h1 (i+1);have e:aQ ((l.take (i+1)).map λk=>min k 4097)=aQ ((l.take i).map λk=>min k 4097)*min z 4097:=by
   rw[u9,p,n9,Z4,U7,List.map_nil,BW]
  rw[bc ay.u aq.i Ψ (h.ext a) p,mg,h9,<-e];have B:aQ ((l.take (i+1)).map λk=>min k 4097)<=4096*4097:=by
   rw[e];have C:=Int.mul_le_mul_of_nonneg_right f (show 0<=min z 4097 by omega);have E:=Int.mul_le_mul_of_nonneg_left (show min z 4097<=4097 by omega) (show(0:Int)<=4096 by omega);omega
  rw[wrap_i64 Ω Ω,bJ,al];refine⟨λs=>⟨?_,a⟩,λs=>?_⟩
  .unfold dq;rw[decide_eq_true];omega
  .rw[aN];exact r _ _ _ ⟨a,T,Ω⟩
 .rintro _ _ V q ⟨a,rfl,f⟩;rw[o6]at f;rw[aP,al];refine⟨λh=>Ω,λ_=>⟨?_,a⟩⟩;unfold dq;rw[decide_eq_false];omega
def kM(n:Int)(acc:Λ)(s:aF):Option (Int×aF):=match bh 0 (n-1) s with
 |none=>ν
 |some (v,s)=>if v∈acc then ν else σ (v,s)
def pH{α:Type}{f:List α->aF->Option (α×aF)}{acc:List α}{s:aF}(h:f acc s=ν):cK f (n+1) acc s=ν:=by
 simp only[cK,h]
def ts{α:Type}{f:List α->aF->Option (α×aF)}{acc:List α}{s s':aF}{a:α}(h:f acc s=σ (a,s')):cK f (n+1) acc s=cK f n (acc++[a]) s':=by
 simp only[cK,h]
def dp.q3{g:Nat}{A:ak}{B:ak}{s:aF}(h:dp w g gs A B s clean):(∀r,bG g gs A r->r<w.heap.size)/\(∀r,B r->r<w.heap.size):=⟨h.1.2.2.2.1,h.1.2.2.2.2⟩
def LC{g k:Nat}{A B:ak}{s:aF}{m:Int}(h:dp w g gs A B s clean)(hk:k<=4611686018427387904)(hm:0<=m/\m<=1000000):
  am x7 z7 [Γ g,Δ (k:Int),Δ m] w λv w'=>gk w g gs A B clean ((eW m k s).map (·.2)) w'/\
   ∃gr l,av .i64 aq w' gr v l/\(∀r,leads v r->w.heap.size<=r)/\l.length<=100001/\∀q,eW m k s=σ q->l=q.1:=by
 have⟨ac,ax⟩:=h.q3;have aB:=h.2.1.words.1;apply az func181;refine⟨λout Q V=>∃i:Nat,Q=Δ (i:Int)/\i<=k/\ai (bG g gs A) w V/\∃gr l,av .i64 aq V gr out l/\w.heap.size<=gr/\l.length<=100001/\
  ((∃st,dp V g gs A B st clean/\cK (kM m) (k-i) l st=eW m k s/\l.length+st.toks.length<=100000)\/(eE V g gs A B/\eW m k s=ν)),λ_ Q _=>k-(bW Q).toNat,
  ⟨0,T,X5 _,ai.refl _ _,w.heap.size,[],av.nil _ _ _ _,o4 _,Ξ,.inl ⟨s,h,T,by simpa using aB⟩⟩,?_⟩
 rintro out _ V ⟨i,rfl,aC,ad,gr,l,ae,bb,bc,af⟩;have s1:=ad.size;have R:∀r,leads out r->w.heap.size<=r:=λr z=>by have:=bS ae z;omega
 refine aV (λv aa=>Ext V aa/\((v= .bool true/\i<k/\∃st,dp aa g gs A B st clean/\cK (kM m) (k-i) l st=eW m k s/\l.length+st.toks.length<=100000)\/
  (v= .bool false/\((∃st,dp aa g gs A B st clean/\eW m k s=σ (l,st))\/(eE aa g gs A B/\eW m k s=ν))))) ?_ ?_
 rotate_left
 .intro aA K;rw[aP,al];refine⟨λbd=>?_,λbe=>?_⟩
  .rcases af with⟨st,C,y,S⟩|⟨G,U⟩
   .refine (pG C).mono ?_;rintro _ aa _ ⟨rfl,E⟩;exact K _ _ ⟨E,.inl ⟨T,Ω,st,C.ext E,y,S⟩⟩
   .refine (ol G).mono ?_;rintro _ aa _ ⟨rfl,E⟩;exact K _ _ ⟨E,.inr ⟨T,.inr ⟨G.ext E,U⟩⟩⟩
  .have aD:k-i=0:=Ω
   rcases af with⟨st,C,y,S⟩|aE
   .rw[aD]at y;exact K _ _ ⟨Ext.refl _,.inr ⟨T,.inl ⟨st,C,y.symm⟩⟩⟩
   .exact K _ _ ⟨Ext.refl _,.inr ⟨T,.inr aE⟩⟩
 rintro _ aa ⟨E,aG⟩;have W:ai (bG g gs A) w aa:=ad.trans (E.ab _);have L:=ae.ext E;rcases aG with⟨rfl,aC,st,C,y,S⟩|⟨rfl,aH⟩
 rotate_left
 .rw[a8];rcases aH with⟨st,C,I⟩|⟨G,I⟩
  .rw[I];exact⟨⟨W,C⟩,gr,l,L,R,Ω,λq f=>by cases f;rfl⟩
  .rw[I];exact⟨⟨W,G⟩,gr,l,L,R,Ω,λq f=>by cases f⟩
 rw[bV,dN,wrap_i64 Ω Ω];have aI:k-i=(k-(i+1))+1:=Ω
 rw[aI]at y;apply(wy C).mono;rintro _ M _ ⟨⟨N,O⟩,n,at_,rfl,aJ,bf⟩;rw[bo,bp];have ag:∀r,leads out r->¬bG g gs A r:=λr z aK=>by have:=ac r aK;have:=R r z;omega
 have bg:∀r,g=r->bG g gs A r:=λr h=>.inl h.symm;refine dc (λe=>ai (bG g gs A) aa e/\((∃x,dp e g gs A B x clean/\cK (kM m) (k-(i+1)) (l++[n]) x=eW m k s/\l.length+1+x.toks.length<=100000)\/(eE e g gs A B/\eW m k s=ν))/\l.length+1<=100001) ?_ ?_
 .rintro e ⟨ah,aL,aj⟩;have aM:=bw L ah ag;have an:=W.trans ah;have bi:=an.size;refine eD ay.u aq.i T λa ga ao bj H aO=>?_;refine jA ay.u aq.i T (aM.ext H) aO.ls Θ Θ λaQ aR aS bk aT X=>?_;have bl:=H.size;rw[aN,wrap_i64 Ω Ω];have aU:ai (bG g gs A) w aS:=hQ (an.trans (H.ab _)) X λr z he=>by have he:r=gr:=he;omega
  have ap:∀r,bG g gs A r->¬(λr=>r=gr) r:=λr z he=>by have:=ac r z;have he:r=gr:=he;omega
  have au:∀r,cH g gs A B r->¬(λr=>r=gr) r:=λr z he=>by have:=ax r z.2;have he:r=gr:=he;omega
  refine⟨⟨i+1,T,Ω,aU,aR,l++[n],aT,Ω,Θ,?_⟩,by simp only[bW];omega⟩;rcases aL with⟨x,P,aW,bm⟩|⟨aX,U⟩
  .exact .inl ⟨x,(P.ext H).ab X ap au,aW,Θ⟩
  .exact .inr ⟨(aX.ext H).ab X ap au,U⟩
 .intro bn Y;cases f:bh 0 (m-1) st with
  |none=>
   rw[f]at O;have G:eE M g gs A B:=O;have J:kM m l st=ν:=by unfold kM;rw[f]
   have I:eW m k s=ν:=by rw[<-y];exact pH J
   refine aV (λv e=>Ext M e/\v= .bool false) ?_ ?_
   rotate_left
   .intro aY Z;apply(ol G).mono;rintro _ e _ ⟨rfl,p⟩;rw[a8];exact Z _ _ ⟨p,T⟩
   rintro _ e ⟨p,rfl⟩;rw[a8];exact Y _ ⟨N.trans (p.ab _),.inr ⟨G.ext p,I⟩,Ω⟩
  |some q=>
   have⟨aQ,x⟩:=q;have aZ:=aJ _ f;subst aZ;rw[f]at O;have aw:dp M g gs A B x clean:=O;have a1:=dl f;have aj:l.length+1+x.toks.length<=100000:=by have:=a1.1;omega
   refine aV (λv e=>Ext M e/\v= .bool (decide (n∈l))) ?_ ?_
   rotate_left
   .intro aY Z;apply(pG aw).mono;rintro _ e _ ⟨rfl,p⟩;rw[bV];apply(LB ((bw L N ag).ext p).ls).mono;rintro _ ao _ ⟨rfl,H⟩;exact Z _ _ ⟨p.trans H,T⟩
   rintro _ e ⟨p,rfl⟩;have P:=aw.ext p;rw[al];refine⟨λa2=>?_,λa6=>?_⟩
   .have J:kM m l st=ν:=by unfold kM;rw[f];simp only;rw[if_pos a2]
    apply(tp P Ω).mono;rintro _ ao _ ⟨a7,ba⟩;exact Y _ ⟨(N.trans (p.ab _)).trans (a7.mono λr _ h=>.inl h),.inr ⟨ba,by rw[<-y];exact pH J⟩,Ω⟩
   .have J:kM m l st=σ (n,x):=by unfold kM;rw[f];simp only;rw[if_neg a6]
    exact Y _ ⟨N.trans (p.ab _),.inl ⟨x,P,by rw[<-y];exact(ts J).symm,aj⟩,Ω⟩
def LD{s t:Λ}(U:dP s):qS (bm s) t=match cq s t 0 with
  |some n=>n
  |none=>-1:=by
 unfold qS;cases ae:(bm s).findIdx? (λx=>decide (x=t))with
 |none=>
  cases hi:cq s t 0 with
  |none=>rfl
  |some n=>
   have:=kK U hi;rw[List.findIdx?_eq_none_iff]at ae;have:=ae t (x5 this);simp at this
 |some i=>
  rw[List.findIdx?_eq_some_iff_getElem]at ae;have⟨hi,h1,_⟩:=ae;have h1:(bm s)[i]=t:=by simpa using h1
  have:=jG U (i:=i) (t:=t) (by rw[x6 hi,h1]);rw[this]
def mp{a b:Int}(e:0<=a/\a<=4294967296)(f:0<=b/\b<=4294967296):am x7 G9 [Δ a,Δ b,Δ k] w λv w'=>v=Δ (min (a+b) k)/\Ext w w':=by
 apply az func32;simp only[aN,bJ,al];rw[wrap_i64 Ω Ω];exact⟨λh=>⟨by rw[Int.min_eq_right Ω],Ext.refl _⟩,λh=>⟨by rw[Int.min_eq_left Ω],Ext.refl _⟩⟩
def om(a b k:Int):x1:=if cu a k/\cu b k then .tuple #[Δ (min (a+b) k),Δ 0]else .tuple #[Δ 0,Δ 3]
def wz{a b:Int}:am x7 zR [Δ a,Δ b,Δ k] w λv w'=>v=om a b k/\Ext w w':=by
 apply az func72;refine aV (λv V=>Ext w V/\v= .bool (decide (¬(cu a k/\cu b k)))) ?_ ?_
 .rintro _ V ⟨J,rfl⟩;simp only[al,aN,mg];refine⟨λh=>⟨by unfold om;rw[if_neg h],J⟩,λh=>?_⟩;have h:=Z9.1 h;have⟨⟨h1,r⟩,s,x⟩:=id h;have:=h1.2;rw[wrap_i64 Ω Ω];exact⟨by unfold om;rw[if_pos h],J⟩
 .intro aA e;apply j1.mono;rintro _ aa _ ⟨rfl,f⟩;simp only[bK,ca];refine⟨λh=>e _ _ ⟨f,?_⟩,λh=>?_⟩
  .have:¬cu a k:=by simpa using h
   rw[decide_eq_true];exact λh=>this h.1
  .have p:cu a k:=by simpa using h
   apply j1.mono;rintro _ y _ ⟨rfl,q⟩;simp only[bK];exact e _ _ ⟨f.trans q,by simp[p]⟩
def LF(h:aI .i64 w sv l)(f:l≠[]):
  am x7 JN [sv] w λv w'=>v=Δ (wp l)/\Ext w w':=by
 obtain⟨x,l,rfl⟩:∃x r,l=x::r:=by cases l with
  |nil=>exact absurd T f
  |cons x r=>exact⟨x,r,T⟩
 have p:=h.le;apply az func289;refine dc (λV=>w=V) ?_ ?_
 .rintro _ rfl;rw[fP (y:=0) (i:=0) T ay.u aq.i Ψ h (by rfl)];refine⟨λm i aa=>Ext w aa/\∃k:Nat,i=Δ (k+1:Nat)/\k<=l.length/\m=Δ ((l.take k).foldl min x),λ_ i _=>l.length+1-(bW i).toNat,⟨Ext.refl _,0,T,X5 _,T⟩,?_⟩;rintro _ _ aa ⟨a,k,rfl,hk,rfl⟩;rw[aW ay.u (h.ext a)];simp only[b6,aP,al]at p ⊢;refine⟨λs=>?_,λz=>⟨?_,a⟩⟩
  .obtain⟨y,e⟩:=aH (l:=l) (i:=k) Ω;rw[bc ay.u aq.i Ψ (h.ext a) (show(x::l)[k+1]?=σ y from e),mg];simp only[aN];rw[wrap_i64 Ω Ω];refine⟨⟨a,k+1,by congr 1,Ω,?_⟩,?_⟩
   .rw[u9,e,S6];rfl
   .simp only[bW];omega
  .have:k=l.length:=Ω
   subst this;rw[o6];rfl
 .intro aA q;rw[aW ay.u h];simp only[aP,al];exact⟨λh=>by simp at h;omega,λ_=>q _ T⟩
def BY{g:Nat}{cs:Λ}(h:dk w g a sv aj k cs):am x7 vM [Γ g] w λv w'=>v=Δ k/\Ext w w':=by
 have⟨⟨a7,gs,e,hm,f⟩,_⟩:=h;apply az func255;rw[di eV.u];simp only[Z5,a8];rw[aT cX.p 1 e T];exact⟨T,Ext.refl _⟩
def ng{g e:Nat}{cs:Λ}(h:dk w g e sv aj k cs):
  am x7 H6 [Γ g] w λv w'=>Ext w w'/\∃a,w.heap.size<=a/\av .i64 aq w' a v cs:=by
 have⟨⟨a7,gs,f,hm,q⟩,⟨_,_,r⟩,U,s⟩:=h;apply az func122;rw[di eV.u];simp only[Z5,a8];rw[aT cX.p 2 f T];exact vX q.ls Ω
def pI{g e:Nat}{cs:Λ}(h:dk w g e sv aj k cs):
  am x7 I6 [Γ g] w λv w'=>v= .agg #[sv]/\Ext w w':=by
 have⟨⟨a7,gs,f,hm,z⟩,_⟩:=h;have q:=hm.ls.cells;apply az func210;refine bu bF.i λA V B a s=>?_;rw[di eV.u];simp only[Z5,a8];rw[bZ,aU cX.p T,bR (cs:=[sv]) bF.p bF.i T (oa (f.ext a) (by
  intro j v ad
  match j,ad with
  |0,ad=>exact ad))]
 refine cd (vs:=[sv]) bF.i T rfl (by intro u hu;simp at hu;subst hu;exact q.2) s λC x E y=>?_;rw[fQ bF.p bF.i T y.range];exact⟨T,a.then x (by rintro r G rfl;omega)⟩
def BZ(h:aI .i64 w sv aj)(r:aj.length<=1000):am x7 Ai [.agg #[sv]] w λv w'=>Ext w w'/\∃a,w.heap.size<=a/\av .i64 ah w' a v aj:=by
 apply az func254;refine bd λg V s e f=>?_;rw[aL bF.p 0 f T];apply(kH (h.ext e) Ω).mono;rintro v aa _ ⟨q,a,x,hm⟩;have s1:=e.size;exact⟨e.trans q,a,Ω,hm⟩
def B1(h:aI .i64 w sv aj):am x7 JK [.agg #[sv]] w λv w'=>v=Δ aj.length/\Ext w w':=by
 apply az func278;refine bd λg V f a e=>?_;rw[aL bF.p 0 e T,aW an.u (h.ext a)];exact⟨T,a⟩
def ie(aj:Λ)(i:Int):Int:=if 0<=i then aj.getD i.toNat 0 else 0
def q4{i:Int}(h:aI .i64 w sv aj):am x7 JL [.agg #[sv],Δ i] w λv w'=>v=Δ (ie aj i)/\Ext w w':=by
 apply az func279;refine bd λg V s a e=>?_;refine aV (λv aa=>v= .bool (decide (i<0\/(aj.length:Int)<=i))/\V=aa) ?_ ?_
 .rintro _ _ ⟨rfl,rfl⟩;simp only[al];refine⟨λh=>⟨?_,a⟩,λr=>?_⟩
  .unfold ie;split
   .rw[u4,Z2 Ω];rfl
   .rfl
  .rw[aL bF.p 0 e T];obtain⟨n,rfl⟩:∃n:Nat,i=n:=⟨i.toNat,Ω⟩;have f:n<aj.length:=Ω
   rw[bc an.u ah.i Ψ (h.ext a) (x6 f)];refine⟨?_,a⟩;unfold ie;rw[if_pos Ω,u4,u7,x6 f];rfl
 .intro aA q;simp only[aP,al];refine⟨λh=>q _ _ ⟨by rw[decide_eq_true];omega,T⟩,λr=>?_⟩;rw[aL bF.p 0 e T,aW an.u (h.ext a)];simp only[cO];exact q _ _ ⟨by congr 1;simp;omega,T⟩
def wA{g B0:Nat}(U:cb aj):
  pc x7 l8 [Γ g] (aQ aj).toNat (λk vs w=>∃aM gt,vs=[Δ (k:Int),aM]/\B0<=gt/\av .i64 ah w gt aM (cR aj k))
   (λw=>ag w g bF [sv]/\aI .i64 w sv aj/\B0<=w.heap.size):=by
 refine⟨l8.enters,λl aA P w r _ z ⟨s,x,A⟩ B=>?_⟩;have Q:=prod_bound U;apply qF func99;rw[bR bF.p bF.i T s.range];apply(pt x U).free.mono;rintro _ V ⟨C,rfl,J⟩;refine cp.range (aQ aj).toNat (λi aa=>aA i aa/\ag aa g bF [sv]/\aI .i64 aa sv aj/\B0<=aa.heap.size) Ω ⟨r 0 _ _ J C.b B,s.ext J,x.ext J,Y9 A J.size⟩ ?_ ?_
 .rintro i aa k hi ⟨e,f,q,y⟩ hk;simp only[aP,al];refine⟨λ_=>?_,λh=>Ω⟩;rw[bR bF.p bF.i T f.range];apply(Kj q U Ω Ω).free.mono;rintro _ E ⟨G,a,aM,gt,rfl,H,I⟩;rw[bo,bp];refine⟨T,(z i _ E hi ⟨f.ext a,q.ext a,Y9 y a.size⟩ ⟨aM,gt,T,Y9 y H,I⟩ (r _ _ _ a G.b e)).mono ?_⟩;rintro _ R (⟨rfl,⟨K,L,M⟩,N⟩|⟨rfl,O⟩)
  .simp only[bK,Y7,a8,aN];exact hk _ ⟨N.1,K,L,M⟩
  .simp only[bK,W3,bV];exact .inr ⟨i,hi,O⟩
 .rintro aa k ⟨e,f,q,_⟩;simp only[aP,al];exact⟨λh=>Ω,λ_=>.inl e⟩
def wB:am x7 Hn [.agg #[sv]] w λr w'=>Ext w w'/\∃g,r= .func (.func l8) #[] #[Γ g]/\w.heap.size<=g/\ag w' g bF [sv]:=by
 apply az func50;refine bd λg V f a e=>?_;rw[iy];exact⟨a,g,T,Ω,e⟩
end Go.Proofs.YtikkpokkcdocoabGreatDoor
namespace Go.Vc
open Go Go.RowKit
set_option maxRecDepth 100000
section
variable{P:W8}{w:x3}
def aE.cw{α:Type}{s:Sem α}{K:α->x3->Prop}(h:aE P s w λv w'=>cM w w'->K v w'):aE P s w K:=by
 have⟨v,w',h1,a,e⟩:=h;exact⟨v,w',h1,a,e a⟩
structure Keys(P:W8)(k:p9)(G:x1->Prop):Prop where
 check:∀(w:x3)(em:Bool){v:x1},G v->(Instr.checkKey em 10000 k v).run P w= .ok () w
 find:∀(w:x3){x:x1},G x->∀es:List MapEntry,(∀e∈es,G e.key)->
  ((Instr.findKey k x es).run P w= .ok ν w/\∀e∈es,e.key≠x)\/∃j e,(Instr.findKey k x es).run P w= .ok (σ (j,e.val)) w/\es[j]?=σ e/\e.key=x
 stays:∀(w:x3){v:x1},G v->(Instr.keyThatStays v v).run P w= .ok v w
def Keys.law{k:p9}(K:WideMaps.KeyLaw P k):Keys P k λv=>∃l,keyOf P k v=σ l:=
 ⟨λw a _ ⟨_,h⟩=>K.check w a h,λw _ ⟨_,h⟩ e f=>K.find w h e f,λw _ ⟨_,h⟩=>K.stays w h⟩
def Keys.int{k:p9}{a:o7}(hk:P.underlying k=σ (.int a)):Keys P k λv=>∃n,v= .int a n:=by
 have key:∀n,MapKept.IsKey (.int a) (.int a n):=λn=>rfl;refine⟨λw p v ⟨n,h⟩=>?_,λw x ⟨n,h⟩ q r=>?_,λw v ⟨n,h⟩=>?_⟩
 .subst h;exact MapKept.run_checkKey hk (key n) p 9999
 .subst h;rcases MapKept.findNow_spec (key n) q 0 (λe he=>by have⟨m,h⟩:=r e he;rw[h];exact key m)with⟨h1,f⟩|⟨j,e,h1,f,s⟩
  .exact .inl ⟨MapKept.run_findKey hk h1,f⟩
  .exact .inr ⟨j,e,by have:=MapKept.run_findKey (P:=P) (w:=w) hk h1;simpa using this,f,s⟩
 .subst h;exact MapKept.run_keyThatStays (d:=.int a) (key n)
def gU(e:MapEntry):x1×x1:=(e.key,e.val)
def c6(w:x3)(m:Nat)(d:List (x1×x1)):Prop:=∃a e,w.heap[m]?=σ (.map a e)/\MapKept.Stamped a e/\a.toList.map gU=d
def c6.ext{m:Nat}{d:List (x1×x1)}(h:c6 w m d)(J:Ext w w'):c6 w' m d:=by
 have⟨a,c,h1,e⟩:=h;exact⟨a,c,J.a6 m _ h1 T,e⟩
def c6.ab{m:Nat}{d:List (x1×x1)}(h:c6 w m d)(J:ai S w w')(a:¬S m):c6 w' m d:=by
 have⟨e,c,h1,f⟩:=h;exact⟨e,c,J.a6 m _ h1 T a,f⟩
def c6.lt{m:Nat}{d:List (x1×x1)}(h:c6 w m d):m<w.heap.size:=by
 have⟨a,c,h1,e⟩:=h;exact(j4.1 h1).1
def c6.nodup{m:Nat}{d:List (x1×x1)}(h:c6 w m d):(d.map (·.1)).Nodup:=by
 obtain⟨e,c,_,⟨_,_,a⟩,rfl⟩:=h;rw[S1];exact a
def kN{α:Type}{l:List α}(h:l.Nodup){i:Nat}{x:α}(hi:l[i]?=σ x)(q:l[j]?=σ x):i=j:=by
 have a:=x4.1 hi;have e:=x4.1 q;have p:=V8.1 h;rcases Nat.lt_trichotomy i j with f|rfl|f
 .exact absurd (a.2.trans e.2.symm) (p i j a.1 e.1 f)
 .rfl
 .exact absurd (e.2.trans a.2.symm) (p j i e.1 a.1 f)
theorem nh{α β:Type}(f:α->β):∀(l:List α)(i:Nat),(l.map f).eraseIdx i=(l.eraseIdx i).map f
 |[],_=>Ξ
 |_::_,0=>rfl
 |x::l,i+1=>by simp[nh f l i]
def c6.uniq{m:Nat}{d:List (x1×x1)}(h:c6 w m d){i:Nat}{p q:x1×x1}(hi:d[i]?=σ p)(a:d[j]?=σ q)(he:p.1=q.1):i=j:=by
 have e:=h.nodup;have h1:(d.map (·.1))[i]?=σ p.1:=by rw[x8,hi];rfl
 have f:(d.map (·.1))[j]?=σ p.1:=by rw[x8,a,he];rfl
 exact kN e h1 f
def tt{m:Nat}{s:Array MapEntry}{c:Nat}(h:w.heap[m]?=σ (.map s c))(a:Array MapEntry)(e:Nat):
  ai (λr=>r=m) w {w with heap:=w.heap.setIfInBounds m (.map a e)}/\cM w {w with heap:=w.heap.setIfInBounds m (.map a e)}/\({w with heap:=w.heap.setIfInBounds m (.map a e)}:x3).heap[m]?=σ (.map a e):=by
 have U:=MapKept.heap_set (o':=.map a e) h;refine⟨⟨Ξ,λr o f p x=>?_⟩,⟨T,.kv,T,Ξ,λr o f p=>?_⟩,U.1⟩
 .show (w.heap.setIfInBounds m _)[r]?=σ o;rw[U.2 r x];exact f
 .show (w.heap.setIfInBounds m _)[r]?=σ o;by_cases q:r=m
  .subst q;rw[h]at f;cases f;cases p
  .rw[U.2 r q];exact f
def tu{K:x1->x3->Prop}(h:∀m w',m=w.heap.size->Ext w w'->c6 w' m []->K (.map (σ m)) w'):aE P (Instr.makeMap t ν) w K:=by
 refine .of (run_makeMap t w) (pf w _) (h _ _ T (pe w _) ⟨#[],0,?_,MapKept.stamped_empty 0,T⟩);exact heap_alloc_new w _
variable{k e:p9}{G:x1->Prop}
def q5{c:Bool}{m:Nat}{d:List (x1×x1)}{x:x1}(s:P.underlying t=σ (.map k e))(hk:Keys P k G)(hm:c6 w m d)(y:∀p∈d,G p.1)(J:G x)(a:d[j]?=σ (x,v)):
  ac P (Instr.lookup t (.map (σ m)) x c) w K=K (if c then .tuple #[v,.bool true]else v):=ac.of λw' z=>by
 obtain⟨f,A,q,B,rfl⟩:=hm.ext z;have C:∀e∈f.toList,G e.key:=λe he=>y (gU e) (j5.2 ⟨e,he,T⟩);rcases hk.find w' J f.toList C with⟨_,h⟩|⟨i,r,h1,h,E⟩
 .rw[x8]at a;have⟨F,H,I⟩:=X1.1 a;exact absurd (congrArg Prod.fst I) (h F (x5 H))
 .have ad:r.val=v:=by
   have hi:(f.toList.map gU)[i]?=σ (gU r):=by rw[x8,h];rfl
   have L:c6 w' m (f.toList.map gU):=⟨f,A,q,B,T⟩;have:=L.uniq hi a E;subst this;rw[hi]at a;exact congrArg Prod.snd (b9 a)
  simp only[Instr.lookup,W5,run_underlying s,W7,MapKept.run_getObj_map q,V3,hk.check w' _ J,h1,ad]
def tv{c:Bool}{m:Nat}{d:List (x1×x1)}{x:x1}(r:P.underlying t=σ (.map k e))(hk:Keys P k G)(a:∃s b,aS P e s b z)(hm:c6 w m d)(y:∀p∈d,G p.1)(J:G x)(A:∀p∈d,p.1≠x):
  ac P (Instr.lookup t (.map (σ m)) x c) w K=K (if c then .tuple #[z,.bool false]else z):=ac.of λw' B=>by
 obtain⟨f,I,C,L,rfl⟩:=hm.ext B;have E:∀e∈f.toList,G e.key:=λe he=>y (gU e) (j5.2 ⟨e,he,T⟩);have F:(zeroValue e).run P w'= .ok z w':=by
  have⟨s,b,i,hi,_,_,a⟩:=a;simp[zeroValue,typeInfo,hi,a]
 rcases hk.find w' J f.toList E with⟨h1,h⟩|⟨i,q,h1,h,H⟩
 .simp only[Instr.lookup,W5,run_underlying r,W7,MapKept.run_getObj_map C,V3,hk.check w' _ J,h1,F]
 .exact absurd H (A (gU q) (j5.2 ⟨q,x5 h,T⟩))
def LG{a:Array MapEntry}{e:MapEntry}{f:MapEntry->MapEntry}(h:a[j]?=σ e):(a.modify j f).toList.map gU=(a.toList.map gU).set j (gU (f e)):=by
 refine Y4 λi=>?_;simp only[x8,S9,Array.getElem?_modify,X0,r8,Array.length_toList];by_cases p:j=i
 .subst p;have:=(j4.1 h);simp[this.1,this.2]
 .simp[p]
def q6{m:Nat}{d:List (x1×x1)}{x:x1}{K:Unit->x3->Prop}(A:P.underlying t=σ (.map k e))(hk:Keys P k G)(hm:c6 w m d)(H:∀p∈d,G p.1)(J:G x)(h1:∀j v0 w',d[j]?=σ (x,v0)->c6 w' m (d.set j (x,v))->ai (λr=>r=m) w w'->K () w')(I:∀w',(∀p∈d,p.1≠x)->c6 w' m (d++[(x,v)])->ai (λr=>r=m) w w'->K () w'):aE P (Instr.mapUpdate t (.map (σ m)) x v) w K:=by
 obtain⟨f,h,a,B,rfl⟩:=hm;have L:∀e∈f.toList,G e.key:=λe he=>H (gU e) (j5.2 ⟨e,he,T⟩);rcases hk.find w J f.toList L with⟨ae,C⟩|⟨i,E,ae,hi,he⟩
 .obtain⟨q,s,y⟩:=tt a (f.push {key:=x,val:=v,born:=h}) (h+1);refine .of (v:=()) (w':=_) ?_ s (I _ (λp M=>?_) ⟨_,_,y,MapKept.stamped_push B C,by simp[gU]⟩ q)
  .simp only[Instr.mapUpdate,W5,run_underlying A,W7,MapKept.run_getObj_map a,hk.check w _ J,ae,MapKept.run_setObj_map _ a]
  .obtain⟨N,O,rfl⟩:=j5.1 M;exact C N O
 .have z:f[i]?=σ E:=by simpa using hi
  have⟨q,s,y⟩:=tt a (f.modify i λe=>{e with key:=x,val:=v}) h;refine .of (v:=()) (w':=_) ?_ s (h1 i E.val _ (by rw[x8,hi];simp[gU,he]) ⟨_,_,y,MapKept.stamped_modify B _ _ (λ_ _=>rfl) (λQ _ F=>by rw[z]at F;cases F;exact he.symm),LG z⟩ q);simp only[Instr.mapUpdate,W5,run_underlying A,W7,MapKept.run_getObj_map a,hk.check w _ J,ae,z,Z6,V4,he,hk.stays w J,MapKept.run_setObj_map _ a]
def LH{B C:p9}{m:Nat}{d:List (x1×x1)}{x:x1}{K:x1->x3->Prop}(y:P.underlying t=σ (.map k e))(hk:Keys P k G)(hm:c6 w m d)(E:∀p∈d,G p.1)(J:G x)(h1:∀j v0 w',d[j]?=σ (x,v0)->c6 w' m (d.eraseIdx j)->ai (λr=>r=m) w w'->K (.tuple #[]) w')(F:∀w',(∀p∈d,p.1≠x)->c6 w' m d->ai (λr=>r=m) w w'->K (.tuple #[]) w'):aE P (Z3.delete_ #[t,B] C #[.map (σ m),x]) w K:=by
 obtain⟨f,z,a,A,rfl⟩:=hm;have H:∀e∈f.toList,G e.key:=λe he=>E (gU e) (j5.2 ⟨e,he,T⟩);rcases hk.find w J f.toList H with⟨ae,I⟩|⟨i,L,ae,hi,he⟩
 .obtain⟨h,q,s⟩:=tt a f z;refine .of (v:=.tuple #[]) (w':=_) ?_ q (F _ (λp M=>?_) ⟨_,_,s,A,T⟩ h)
  .simp only[Z3.delete_,List.getElem?_toArray,List.getElem?_cons_zero,List.getElem?_cons_succ,W5,run_underlying y,W7,MapKept.run_getObj_map a,hk.check w _ J,ae,MapKept.run_setObj_map _ a,V3]
  .obtain⟨N,O,rfl⟩:=j5.1 M;exact I N O
 .obtain⟨h,q,s⟩:=tt a (f.eraseIdxIfInBounds i) z;refine .of (v:=.tuple #[]) (w':=_) ?_ q (h1 i L.val _ (by rw[x8,hi];simp[gU,he]) ⟨_,_,s,MapKept.stamped_erase A _,by rw[nh];simp⟩ h);simp only[Z3.delete_,List.getElem?_toArray,List.getElem?_cons_zero,List.getElem?_cons_succ,W5,run_underlying y,W7,MapKept.run_getObj_map a,hk.check w _ J,ae,MapKept.run_setObj_map _ a,V3]
def LI{a:p9}{m:Nat}{d:List (x1×x1)}(f:P.underlying t=σ (.map k e))(hm:c6 w m d):ac P (V0 #[t] a #[.map (σ m)]) w K=K (Δ d.length):=ac.of λw' h=>by
 obtain⟨q,r,p,s,rfl⟩:=hm.ext h;simp[V0,run_underlying f,MapKept.run_getObj_map p,goInt]
def hT(w:x3)(q m:Nat)(d left:List (x1×x1))(r:Option (x1×x1)):Prop:=∃a f seen hl,w.heap[m]?=σ (.map a f)/\MapKept.Stamped a f/\a.toList.map gU=d/\
 w.heap[q]?=σ (.mapIter (σ m) f seen hl)/\f<=hl/\(leftOf a seen).toList.map gU=left/\∀p,r=σ p->hl=f/\∃h,a.toList.find? (λe=>e.born == seen.back?.getD 0)=σ h/\seen.back? =σ h.born/\gU h=p
def hT.map{m:Nat}{d left:List (x1×x1)}{e:Option (x1×x1)}(h:hT w a m d left e):c6 w m d:=by
 have⟨f,c,_,_,h1,p,q,_⟩:=h;exact⟨f,c,h1,p,q⟩
def hT.a6{m:Nat}{d left:List (x1×x1)}{e:Option (x1×x1)}(h:hT w a m d left e)(J:ai S w w')(hm:¬S m)(hi:e4 w w'):hT w' a m d left e:=by
 have⟨f,c,s,hl,h1,p,q,r,x⟩:=h;exact⟨f,c,s,hl,J.a6 m _ h1 T hm,p,q,hi a _ r T,x⟩
def hT.ext{m:Nat}{d left:List (x1×x1)}{e:Option (x1×x1)}(h:hT w a m d left e)(J:Ext w w')(hi:e4 w w'):hT w' a m d left e:=
 h.a6 (J.ab λ_=>False) (λh=>h) hi
def LJ(a:Array MapEntry):leftOf a #[]=a:=by
 unfold leftOf;exact Array.filter_eq_self.2 λx J=>Ξ
def B2{m:Nat}{d:List (x1×x1)}{K:x1->x3->Prop}(s:P.underlying t=σ (.map k e))(hm:c6 w m d)(h:∀a w',a=w.heap.size->Ext w w'->e4 w w'->hT w' a m d d ν->K (Γ a) w'):aE P (Instr.range t (.map (σ m))) w K:=by
 obtain⟨q,f,r,x,rfl⟩:=hm;refine .of (run_range_map w t k e m q f s r) (pf w _) (h _ _ T (pe w _) (pf w _).kw ⟨q,f,#[],f,(pe w _).a6 m _ r T,x,T,heap_alloc_new w _,o4 _,by rw[LJ],λp y=>by cases y⟩)
theorem B3:∀(l:List MapEntry)(j:Nat)(a:MapEntry),(l.map (·.born)).Nodup->l[j]?=σ a->l.filter (λx=>!(x.born == a.born))=l.eraseIdx j
 |[],j,a,_,h=>by simp at h
 |x::l,0,a,f,h=>by
  simp at h;subst h;have e:=List.nodup_cons.1 (by simpa using f:(x.born::l.map (·.born)).Nodup);simp only[List.filter_cons,beq_self_eq_true,Y7,Bool.false_eq_true,if_false,List.eraseIdx_cons_zero];refine List.filter_eq_self.2 λy p=>?_;have:y.born≠x.born:=λhe=>e.1 (he▸j5.2 ⟨y,p,T⟩);simpa using this
 |x::l,j+1,a,f,h=>by
  simp at h;have e:=List.nodup_cons.1 (by simpa using f:(x.born::l.map (·.born)).Nodup);have J:x.born≠a.born:=λhe=>e.1 (he▸j5.2 ⟨a,x5 h,T⟩);have q:=B3 l j a e.2 h;simp only[List.filter_cons,List.eraseIdx_cons_succ,q];simp[J]
def B4{free:fJ}{m:Nat}{d left:List (x1×x1)}{Q:Option (x1×x1)}{K:x1->x3->Prop}(h:hT w a m d left Q)(ae:free.1=false->free.2<=a)(R:left=[]->K (.tuple #[.bool false]) w)(h1:∀j p w',left[j]?=σ p->Ext w w'->cC a w w'->hT w' a m d (left.eraseIdx j) (σ p)->K (.tuple #[.bool true,p.1,p.2]) w'):r7 P free (Instr.next (Γ a) false 0) w K:=by
 obtain⟨q,s,seen,hl,z,B,rfl,hi,S,rfl,_⟩:=h;have G:∀x∈q.toList,x.born<s:=B.1;have H:=B.2.1;have I:∀x∈(leftOf q seen).toList,x.born<s:=λx J=>G x (mem_left J).1;have T:∀(V:x3)(o':Obj),V.heap=w.heap->(setObj a o').run P V= .ok () {V with heap:=V.heap.setIfInBounds a o'}:=λV o' he=>by
  simp only[setObj,Sem.run];rw[he,hi]
 unfold r7;simp only[Instr.next,getObj,W5,Sem.run,hi,z,W7,next_test_false seen q s hl G S,Bool.false_eq_true,if_false];have W:Array.filter (λe=>!seen.contains e.born) q=leftOf q seen:=rfl;rw[W];have X:((leftOf q seen).toList.map (·.born)).Nodup:=by
  unfold leftOf;rw[Array.toList_filter];exact(List.Sublist.map _ List.filter_sublist).nodup H
 have Y:∀A:MapEntry,leftOf q (seen.push A.born)=(leftOf q seen).filter λx=>!(x.born == A.born):=λA=>by
  unfold leftOf;rw[Array.filter_filter];congr 1;funext x;rw[contains_push];cases seen.contains x.born<;>cases x.born == A.born<;>rfl
 generalize Z:leftOf q seen=L at*;have aa:L.filter (λx=>decide (x.born<s))=L:=Array.filter_eq_self.2 (λx J=>by simpa using I x (by simpa using J));have ab:L.filter (λx=>decide (x.born≥s))= #[]:=by
  rw[Array.filter_eq_empty_iff];intro x J;have:=I x (by simpa using J);simp;omega
 simp only[aa,ab,Array.append_empty];by_cases M:L.size=0
 .have ac:L= #[]:=Array.eq_empty_of_size_eq_zero M;subst ac;refine⟨.tuple #[.bool false],w,?_,λ_=>cC.refl _ _,R rfl⟩;simp[choose,Sem.run,Question.forced]
 .have ad:L.isEmpty=false:=by simp[Array.isEmpty,M]
  simp only[ad,Bool.false_eq_true,if_false,Array.empty_append,Array.size_map];have af:∃(j:Nat)(n:Nat),j<L.size/\w.drawn<=n/\(choose (Question.mapNext L.size)).run P w= .ok j {w with drawn:=n}:=by
   by_cases ae:L.size<=1
   .exact⟨0,w.drawn,Ω,o4 _,by simp[choose,Sem.run,Question.forced,ae]⟩
   .exact⟨_,w.drawn+1,Nat.mod_lt _ Ω,Nat.le_succ _,by
     simp only[choose,Sem.run,Question.forced,decide_eq_true_eq,ae,if_false,Question.cut];rfl⟩
  have⟨j,n,C,N,ag⟩:=af;have O:L.toList[j]?=σ L[j]:=by simp[C]
  have ah:L[j]∈q.toList:=(mem_left (seen:=seen) (by rw[Z];exact Array.mem_toList_iff.2 (Array.getElem_mem C))).1;refine⟨.tuple #[.bool true,L[j].key,L[j].val],{w with drawn:=n,heap:=w.heap.setIfInBounds a (.mapIter (σ m) s (seen.push L[j].born) s)},?_,?_,?_⟩
  .have U:=T {w with drawn:=n} (.mapIter (σ m) s (seen.push L[j].born) s) rfl;simp only[ag,Array.getElem?_map,Array.getElem?_eq_getElem C,Z6,W5,U,W7,V3]
  .intro ai;have:=ae ai;refine⟨rfl,⟨rfl,N⟩,rfl,Ξ,λr o f E=>?_,λr o aj f F=>?_⟩
   .show (w.heap.setIfInBounds a _)[r]?=σ o;by_cases y:r=a
    .subst y;rw[hi]at f;cases f;cases E
    .rw[(MapKept.heap_set hi).2 r y];exact f
   .show (w.heap.setIfInBounds a _)[r]?=σ o;rw[(MapKept.heap_set hi).2 r Ω];exact f
  .refine h1 j (gU L[j]) _ (by rw[x8,O];rfl) ⟨Ξ,λr o f F=>?_⟩ ⟨rfl,⟨rfl,N⟩,rfl,Ξ,λr o f E=>?_,λr o aj f F=>?_⟩ ⟨q,s,seen.push L[j].born,s,?_,B,rfl,?_,o4 _,?_,λp ak=>⟨rfl,L[j],?_,Ξ,b9 ak⟩⟩
   .show (w.heap.setIfInBounds a _)[r]?=σ o;by_cases y:r=a
    .subst y;rw[hi]at f;cases f;cases F
    .rw[(MapKept.heap_set hi).2 r y];exact f
   .show (w.heap.setIfInBounds a _)[r]?=σ o;by_cases y:r=a
    .subst y;rw[hi]at f;cases f;cases E
    .rw[(MapKept.heap_set hi).2 r y];exact f
   .show (w.heap.setIfInBounds a _)[r]?=σ o;rw[(MapKept.heap_set hi).2 r Ω];exact f
   .show (w.heap.setIfInBounds a _)[m]?=_;rw[(MapKept.heap_set hi).2 m (λhe=>by subst he;rw[hi]at z;cases z)];exact z
   .exact (MapKept.heap_set hi).1
   .rw[Y,Array.toList_filter,B3 _ _ _ X O,nh]
   .simp only[Array.back?_push,V4];exact find_born _ _ H ah
def B5{m:Nat}{d left:List (x1×x1)}{p:x1×x1}{K:x1->x3->Prop}(h:hT w a m d left (σ p))(q:K (.tuple #[p.1,p.2]) w):aE P (Instr.entry (Γ a)) w K:=by
 obtain⟨x,y,seen,hl,r,z,rfl,hi,A,rfl,s⟩:=h;obtain⟨rfl,e,h1,f,rfl⟩:=s p T;refine .of (v:=.tuple #[e.key,e.val]) (w':=w) ?_ (cM.refl _) q;rw[f]at h1;simp only[Instr.entry,getObj,W5,Sem.run,hi,r,W7,f,bne_self_eq_false,Bool.false_eq_true,if_false,<-Array.find?_toList];simp only[V4]at h1;rw[h1];rfl
end
end Go.Vc
namespace Go.Proofs.YtikkpokkcdocoabGreatDoor
open Go Go.Vc Go.RowKit Go.Proofs Go.Proofs.Tryz
set_option maxRecDepth 100000
def ef(ks:Λ):x1:=.agg (ints .i8 ks).toArray
def lv(ks:Λ):Prop:=ks.length=6/\∀x∈ks,0<=x/\x<32
def LK{a b:Λ}(h:ef a=ef b):a=b:=by
 unfold ef at h;have h:ints .i8 a=ints .i8 b:=congrArg Array.toList (x1.agg.inj h);have e:∀l:Λ,(ints .i8 l).map valOf=l:=λl=>by
  unfold ints;rw[S1];exact List.map_id l
 rw[<-e a,<-e b,h]
def B6(ks:Λ):(ef ks).cells.toList=ints .i8 ks:=by simp[ef,x1.cells]
def LL:WideMaps.ArrKey x7 cG gi 6:=⟨cG.u,Ψ,Ψ,Ψ⟩
def keys:Keys x7 cG λv=>∃l,keyOf x7 cG v=σ l:=Keys.law LL.law
def wC(h:lv ks):∃l,keyOf x7 cG (ef ks)=σ l:=by
 have⟨s,p⟩:=h
 match ks,s with
 |[a,b,c,d,e,f],_=>
  have w:=p a Ξ;have y:=p b Ξ;have z:=p c Ξ;have rd:=p d Ξ;have A:=p e Ξ;have kv:=p f Ξ;have wf:∀x:Int,0<=x/\x<32->(Lit.int .i8 x).wf=true:=λx J=>by
   simp only[Lit.wf,V5,decide_eq_true_eq];have G:o7.i8.min= -128:=Φ
   have H:o7.i8.max=127:=Φ
   omega
  have q:decide (0<x7.types.size)=true:=Ψ
  have q:=of_decide_eq_true q;obtain⟨n,B⟩:∃n,x7.types.size=n+1:=⟨x7.types.size-1,Ω⟩;have one:∀x:Int,0<=x/\x<32->x7.keyLits (n+1) gi [.int .i8 x]=σ [.int .i8 x]:=λx J=>by
   unfold W8.keyLits;rw[gi.u];simp[wf x J]
  unfold keyOf;rw[cG.u];simp only;have C:x7.keyType cG=true:=Ψ
  have E:x7.cellsOf gi=1:=Ψ
  have r:x7.cellsOf cG=6:=Ψ
  have ae:(ef [a,b,c,d,e,f]).formed x7 cG=true:=by
   unfold ef x1.formed;rw[cG.u,r];rfl
  rw[C,ae,B6,B];simp only[Bool.and_self,if_true];unfold W8.keyLits;rw[cG.u];simp only[r,E,ints];have F:Y1 6=[0,1,2,3,4,5]:=Φ
  simp[F,one a w,one b y,one c z,one d rd,one e A,one f kv]
def pad(t:Λ):Λ:=t++p8 (6-t.length) 0
def LM{t:Λ}(e:t.length<=6)(a:∀x∈t,0<=x/\x<32):lv (pad t):=
 ⟨by simp[pad];omega,λx J=>by
  rcases o5.1 J with h|h
  .exact a x h
  .have:=(List.mem_replicate.1 h).2;omega⟩
def LN{a b:Λ}(e:a.length=b.length)(h:pad a=pad b):a=b:=by
 unfold pad at h;exact(List.append_inj h e).1
def B7{t:Λ}:(pad t).take t.length=t:=by simp[pad]
def oo{b o:Nat}(a:ks.length=6)(h:w.rangeAt b o (ints .i8 ks)):ac x7 (u5 cG (.pointer (σ ⟨b,o,ν⟩))) w K=K (ef ks):=
 Av cG.u T cG.i (by simp[a]) h
def LO{b o:Nat}(a:ks.length=6)(h:w.rangeAt b o (ints .i8 ks)):ac x7 (do loadVar cG (<-asAddr (.pointer (σ ⟨b,o,ν⟩)))) w K=K (ef ks):=ac.of λw' J=>by
 have:=run_loadVar_mid (P:=x7) w' b o cG (ints .i8 ks) (.array 6 gi) (nY J h) cG.u T (by rw[cG.i.size];simp[a]);simp only[asAddr,W5,V3,Result.andThen_ok,this];rfl
def q7{g:Nat}{K:Unit->x3->Prop}(a:ks.length=6)(e:cs.length=6)(f:ag w g cG cs)(h:∀w',ai (λr=>r=g) w w'->w'.heap.size=w.heap.size->ag w' g cG (ints .i8 ks)->K () w'):aE x7 (o8 cG (Γ g) (ef ks)) w K:=
 cd (vs:=ints .i8 ks) cG.i (by simp[a]) e (λv ad=>by obtain⟨x,_,rfl⟩:=j5.1 ad;rfl) f h
def tw:List x1:=[.int .i8 0,.int .i8 0,.int .i8 0,.int .i8 0,.int .i8 0,.int .i8 0]
def LP{x:Int}:am x7 sK [Δ x] w λv w'=>v= .bool (decide (¬iA x))/\Ext w w':=by
 apply az func234;simp only[cz,aP,bJ,al];refine⟨λh=>⟨?_,Ext.refl _⟩,λh=>⟨?_,Ext.refl _⟩⟩
 .rw[decide_eq_true];intro a;have:=a.1;omega
 .congr 1;have:(32<x)=(¬iA x):=propext ⟨λe a=>by have:=a.2;omega,λe=>by
   by_cases f:32<x
   .exact f
   .exact absurd ⟨Ω,Ω⟩ e⟩
  simp only[this]
def LQ(h:aI .i64 w sv l):
  am x7 vG [sv,.func (.func sK) #[] #[]] w λv w'=>Ext w w'/\∃n:Int,v=Δ n/\((0<=n)=¬∀x∈l,iA x):=by
 have z:=h.le;apply az func133;rw[aW an.u h];refine⟨λ_ t V=>Ext w V/\∃i:Nat,t=Δ i/\i<=l.length/\∀x∈l.take i,iA x,λ_ t _=>l.length-(bW t).toNat,⟨Ext.refl _,0,T,X5 _,Ξ⟩,?_⟩;rintro _ _ V ⟨J,i,rfl,hi,e⟩;simp only[aP,al];refine⟨λA=>?_,λB=>⟨J,-1,T,?_⟩⟩
 .obtain⟨x,f⟩:=aH (l:=l) (i:=i) Ω;rw[bc an.u ah.i Ψ (h.ext J) f];show am x7 sK [Δ x] V _;apply LP.mono;rintro _ aa _ ⟨rfl,p⟩;simp only[al,aN];refine⟨λq=>⟨J.trans p,i,T,?_⟩,λr=>?_⟩
  .exact propext ⟨λ_ s=>q (s x (x5 f)),λ_=>Ω⟩
  .rw[wrap_i64 Ω Ω];refine⟨⟨J.trans p,i+1,T,Ω,λy a=>?_⟩,?_⟩
   .rw[u9,f]at a;rcases o5.1 a with a|a
    .exact e y a
    .simp at a;subst a;exact Z9.1 r
   .simp only[bW];omega
 .have:i=l.length:=Ω
  rw[this,o6]at e;exact propext ⟨λh=>Ω,λh=>absurd e h⟩
def B8(h:aI .i64 w sv l):
  am x7 vJ [sv,.func (.func sK) #[] #[]] w λv w'=>v= .bool (decide (¬∀x∈l,iA x))/\Ext w w':=by
 apply az func235;apply(LQ h).mono;rintro _ V _ ⟨J,n,rfl,a⟩;simp only[cO];exact⟨by congr 1;simp only[a],J⟩
abbrev Told:=List (Λ×Int)
def j8(p:Λ×Int):x1×x1:=(ef (pad p.1),Δ p.2)
def eO(w:x3)(g m:Nat)(aj:Λ)(k o:Int)(D:Told):Prop:=
 (∃sv gs,ag w g fO [sv,Δ k,Δ o,.map (σ m)]/\av .i64 ah w gs sv aj)/\c6 w m (D.map j8)/\cb aj/\cu o k/\∀p∈D,dr aj p.1/\cu p.2 k/\p.2≠o
def eO.ext{g m:Nat}{o:Int}{D:Told}(h:eO w g m aj k o D)(J:Ext w w'):eO w' g m aj k o D:=by
 have⟨⟨sv,gs,h1,a⟩,e,f⟩:=h;exact⟨⟨sv,gs,h1.ext J,a.ext J⟩,e.ext J,f⟩
def wD{t:Λ}(U:cb aj)(h:dr aj t):t.length=aj.length/\∀x∈t,0<=x/\x<32:=by
 have⟨h1,f⟩:=oh.1 h;refine⟨h1.symm,λx J=>?_⟩;obtain⟨i,hi,rfl⟩:=List.getElem_of_mem J;have⟨a,e⟩:=aH (l:=aj) (i:=i) Ω;have p:=f i a _ e (x6 hi);have q:=(U.2 a (x5 e)).2;omega
def q8{t:Λ}(U:cb aj)(h:dr aj t):lv (pad t):=by
 have⟨h1,a⟩:=wD U h;exact LM (by rw[h1];exact U.1) a
def eO.pJ{g m:Nat}{o:Int}{D:Told}(h:eO w g m aj k o D):∀p∈D.map j8,∃l,keyOf x7 cG p.1=σ l:=λp a=>by
 obtain⟨q,e,rfl⟩:=j5.1 a;exact wC (q8 h.2.2.1 (h.2.2.2.2 q e).1)
def B9{s t:Λ}(U:dr aj s)(a:dr aj t)(h:ef (pad s)=ef (pad t)):s=t:=
 LN ((tf U).symm.trans (tf a)) (LK h)
theorem eO.nodup{g m:Nat}{o:Int}{D:Told}(h:eO w g m aj k o D):(D.map (·.1)).Nodup:=by
 have e:=h.2.1.nodup;rw[S1]at e;refine List.Pairwise.of_map (S:=λa b=>a≠b) (λt=>ef (pad t)) (λa b h he=>h (by rw[he])) ?_;rw[S1];exact e
def LR(w:x3)(l:Λ)(k o:Int)(v:x1)(w':x3):Prop:=
 Ext w w'/\(¬cb l->v= .tuple #[.pointer ν,Δ 1])/\(cb l->¬cu o k->v= .tuple #[.pointer ν,Δ 3])/\
  (cb l->cu o k->∃g m,v= .tuple #[Γ g,Δ 0]/\w.heap.size<=g/\w.heap.size<=m/\eO w' g m l k o [])
def Ca{o:Int}(h:aI .i64 w sv l):am x7 pi [sv,Δ k,Δ o] w (LR w l k o):=by
 apply az func187;refine aV (λv V=>Ext w V/\∃c,v= .bool c/\(c=true↔¬cb l)) ?_ ?_
 .rintro _ V ⟨e,c,rfl,f⟩;rw[ca];refine⟨λx=>⟨e,λ_=>rfl,λh=>absurd h (f.1 x),λh=>absurd h (f.1 x)⟩,λae=>?_⟩;have U:cb l:=Classical.byContradiction λh=>by have:=f.2 h;rw[ae]at this;cases this
  have G:=U.1;apply j1.mono;rintro _ aa _ ⟨rfl,a⟩;by_cases hi:cu o k
  rotate_left
  .simp only[hi,decide_false,bK,W3,bV];exact⟨e.trans a,λh=>absurd U h,λ_ _=>rfl,λ_ h=>absurd h hi⟩
  simp only[hi,decide_true,bK,Y7,a8];apply(kH ((h.ext e).ext a) Ω).mono;rintro aM H _ ⟨y,A,I,hm⟩;have J:=hm.ls.cells;refine tu λm K L q B=>?_;rw[cY (cs:=#[aM,Δ k,Δ o,.map (σ m)]) (by obtain⟨_,_,_,_,_,rfl,_⟩:=hm.ls;kernel_rfl)];refine bd λg M N r C=>?_;have s1:=e.size;have O:=a.size;have P:=y.size;have Q:=q.size;exact⟨((((e.trans a).trans y).trans q).trans r),λh=>absurd U h,λ_ h=>absurd hi h,λ_ _=>⟨g,m,T,Ω,Ω,⟨aM,A,C,(hm.ext q).ext r⟩,B.ext r,U,hi,λp E=>by cases E⟩⟩
 .intro aA z;rw[aW an.u h];simp only[bJ,al];refine⟨λR=>z _ _ ⟨Ext.refl _,true,T,λ_ U=>by have:=U.1;omega,λ_=>rfl⟩,λS=>?_⟩;apply(B8 h).mono;rintro _ aa _ ⟨rfl,a⟩;refine z _ _ ⟨a,_,T,?_⟩;rw[decide_eq_true_eq];exact⟨λs U=>s U.2,λs U=>s ⟨Ω,U⟩⟩
def ja(t:Λ)(i:Nat):Λ:=t.take i++p8 (6-i) 0
def LS{t:Λ}{i:Nat}(hi:i<=t.length)(a:t.length<=6):(ja t i).length=6:=by simp[ja];omega
def LU{t:Λ}{i:Nat}{x:Int}(J:t[i]?=σ x)(e:t.length<=6):(ja t i).set i x=ja t (i+1):=by
 have hi:=(x4.1 J).1;unfold ja;have a:(t.take i).length=i:=by rw[l9];omega
 rw[T7 _ _ Ω,a,U4,u9,J];have:6-i=(6-(i+1))+1:=Ω
 rw[this,List.replicate_succ];simp
def LV(t:Λ):ja t t.length=pad t:=by simp[ja,pad]
def Cb(w:x3)(aj t:Λ)(v:x1)(w':x3):Prop:=Ext w w'/\∃ks e,v= .tuple #[ef ks,Δ e]/\ks.length=6/\(dr aj t->ks=pad t/\e=0)/\(¬dr aj t->e=3)
def LW{g m:Nat}{t:Λ}{o:Int}{D:Told}{aM:x1}(h:eO w g m aj k o D)(E:aI .i64 w aM t):am x7 Jl [Γ g,aM] w (Cb w aj t):=by
 have⟨⟨sv,gs,G,hm⟩,_,U,_⟩:=h;have aG:=U.1;apply az func236;refine bu cG.i λA V aJ R B=>?_;refine bu cG.i λao aa aK H I=>?_;have s:=R.trans H;have s1:=R.size;have aL:=H.size;have aO:=B.lt;have aQ:=I.lt;have aR:=G.lt;have B:=B.ext H;have af:=G.ext s;rw[di eU.u];simp only[Z5,a8];have K:∀{f:x3}{ks:Λ}{e:Int},Ext w f->ag f ao cG (ints .i8 ks)->ag f A cG tw->ks.length=6->(dr aj t->ks=pad t/\e=0)->(¬dr aj t->e=3)->
   ac x7 (u5 cG (Γ ao)) f λai=>aE x7 (o8 cG (Γ A) ai) f λ(_:Unit)L=>ac x7 (do loadVar cG (<-asAddr (Γ A))) L λak=>Cb w aj t (.tuple #[ak,Δ e]) L:=by
  intro f ks e q r y C ad M;rw[oo C r.range];refine q7 C T y λL ap aS aq=>?_;rw[LO C aq.range];exact⟨q.put ap Ω,ks,e,T,C,ad,M⟩
 rw[aW an.u (E.ext s),aT fO.p 0 af T,aW an.u (hm.ls.ext s)];simp only[bB,al];have S:ints .i8 (ja t 0)=tw:=by simp[ja,tw,ints]
 refine⟨λau=>K s (ks:=ja t 0) (e:=3) (by rw[S];exact I) B (by simp[ja]) (λad=>absurd (by rw[tf ad]) au) (λ_=>rfl),λW=>?_⟩;have W:t.length=aj.length:=Ω
 rw[aW an.u (E.ext s)];refine bT.range t.length (λi _ f=>Ext w f/\ag f ao cG (ints .i8 (ja t i))/\ag f A cG tw/\∀(j:Nat)(a x:Int),j<i->aj[j]?=σ a->t[j]?=σ x->0<=x/\x<a) Ω
  ⟨s,by rw[S];exact I,B,λj a x av=>Ω⟩ ?_ ?_
 .rintro i _ f aw hi ⟨q,r,y,N⟩ ax;simp only[aP,al];refine⟨λ_=>?_,λh=>Ω⟩;have⟨x,J⟩:=aH (l:=t) hi;have⟨a,z⟩:=aH (l:=aj) (i:=i) Ω;have aU:=U.2 a (x5 z);rw[bc an.u ah.i Ψ (E.ext q) J];have X:=LS (t:=t) (i:=i) Ω Ω;refine aV (λv ay=>f=ay/\v= .bool (decide (¬(0<=x/\x<a)))) ?_ ?_
  .rintro _ _ ⟨rfl,rfl⟩;simp only[al];refine⟨λaC=>K q r y X (λad=>absurd ((oh.1 ad).2 i a x z J) aC) (λ_=>rfl),λO=>?_⟩;have O:=Z9.1 O;rw[fq ah.u gi.u,J5 Ω Ω,sT cG.u gi.i Ω];refine bq gi.i T rfl r (by simp[X];omega) λaX Y aY Z=>?_;simp only[aN];refine ax _ _ ⟨q.put Y Ω,?_,y.ab Y (by show¬(A=ao);omega),λj a' aD av P Q=>?_⟩
   .have e:(ints .i8 (ja t i)).set (0+i*1) (.int .i8 x)=ints .i8 (ja t (i+1)):=by
     rw[<-LU J Ω];simp[ints,U5]
    rw[e]at Z;exact Z
   .by_cases aF:j=i
    .subst aF;rw[z]at P;rw[J]at Q;cases P;cases Q;exact O
    .exact N j a' aD Ω P Q
  .intro aA ae;simp only[aP,al];refine⟨λaZ=>ae _ _ ⟨T,by rw[decide_eq_true];omega⟩,λa1=>?_⟩;rw[aT fO.p 0 (G.ext q) T,bc an.u ah.i Ψ (hm.ls.ext q) z,cO];refine ae _ _ ⟨T,?_⟩;congr 1;exact decide_eq_decide.2 ⟨λh aB=>Ω,λh=>Ω⟩
 .rintro _ f aw ⟨q,r,y,N⟩;simp only[aP,al];refine⟨λh=>Ω,λ_=>?_⟩;rw[LV]at r;exact K q r y (by simp[pad];omega) (λ_=>⟨T,T⟩) (λM=>absurd (oh.2 ⟨W.symm,λj a x z J=>N j a x (x4.1 J).1 z J⟩) M)
def iF(D:Told)(o:Int)(t:Λ):Int:=match D.find? (λp=>decide (p.1=t))with
 |some p=>p.2
 |none=>o
def Cc{D:Told}(e:(D.map (·.1)).Nodup){p q:Λ×Int}(f:p∈D)(r:q∈D)(h:p.1=q.1):p=q:=by
 have⟨i,hi⟩:=X3.1 f;have⟨j,a⟩:=X3.1 r;have h1:(D.map (·.1))[i]?=σ p.1:=by rw[x8,hi];rfl
 have s:(D.map (·.1))[j]?=σ p.1:=by rw[x8,a,h];rfl
 have:=kN e h1 s;subst this;rw[hi]at a;exact b9 a
def q9{D:Told}{o:Int}{t:Λ}(a:(D.map (·.1)).Nodup)(h:(t,c)∈D):iF D o t=c:=by
 unfold iF;cases ae:D.find? (λp=>decide (p.1=t))with
 |none=>
  have:=List.find?_eq_none.1 ae _ h;simp at this
 |some p=>
  have h1:=List.find?_some ae;have h1:p.1=t:=by simpa using h1
  have:=Cc a (List.mem_of_find?_eq_some ae) h h1;rw[this]
def ra{D:Told}{o:Int}{t:Λ}(h:∀p∈D,p.1≠t):iF D o t=o:=by
 unfold iF;cases ae:D.find? (λp=>decide (p.1=t))with
 |none=>rfl
 |some p=>
  have h1:=List.find?_some ae;have h1:p.1=t:=by simpa using h1
  exact absurd h1 (h p (List.mem_of_find?_eq_some ae))
def lx(D:Told)(t:Λ)(c o:Int)(D':Told):Prop:=(∀p,p∈D'↔(c≠o/\p=(t,c))\/(p∈D/\p.1≠t))/\D'.length<=D.length+1
def lx.cost{D D':Told}{t:Λ}{o:Int}(h:lx D t c o D')(w:(D.map (·.1)).Nodup)(f:(D'.map (·.1)).Nodup)(s:Λ):iF D' o s=if s=t then c else iF D o s:=by
 by_cases U:s=t
 .subst U;rw[if_pos T];by_cases q:c=o
  .subst q;exact ra λp a he=>by
    rcases(h.1 p).1 a with e|e
    .exact e.1 T
    .exact e.2 he
  .exact q9 f ((h.1 _).2 (.inl ⟨q,T⟩))
 .rw[if_neg U];by_cases he:∃p∈D,p.1=s
  .obtain⟨p,a,rfl⟩:=he;rw[q9 (c:=p.2) w a];exact q9 f ((h.1 _).2 (.inr ⟨a,U⟩))
  .have r:∀p∈D,p.1≠s:=λp a h=>he ⟨p,a,h⟩;rw[ra r];exact ra λp a e=>by
    rcases(h.1 p).1 a with⟨_,rfl⟩|⟨x,_⟩
    .exact U e.symm
    .exact r p x e
def LX{D:Told}{t:Λ}{o v0:Int}(q:(D.map (·.1)).Nodup)(f:D[j]?=σ (t,v0))(r:c≠o):lx D t c o (D.set j (t,c)):=by
 have h:=(x4.1 f).1;refine⟨λp=>⟨λa=>?_,λa=>?_⟩,Ξ⟩
 .obtain⟨i,hi⟩:=X3.1 a;by_cases e:j=i
  .subst e;rw[c8 h]at hi;exact .inl ⟨r,(b9 hi).symm⟩
  .rw[Y2 e]at hi;refine .inr ⟨x5 hi,λhe=>e ?_⟩;exact kN q (x:=t) (by rw[x8,f];rfl) (by rw[x8,hi,Z6,he])
 .rcases a with⟨_,rfl⟩|⟨a,s⟩
  .exact x5 (c8 h)
  .obtain⟨i,hi⟩:=X3.1 a;have e:j≠i:=λhe=>by subst he;rw[f]at hi;cases hi;exact s T
   exact x5 (by rw[Y2 e];exact hi)
def Cd{D:Told}{t:Λ}{o:Int}(a:∀p∈D,p.1≠t)(e:c≠o):lx D t c o (D++[(t,c)]):=by
 refine⟨λp=>?_,Ξ⟩;rw[o5,o9];exact⟨λh=>h.elim (λh=>.inr ⟨h,a p h⟩) (λh=>.inl ⟨e,h⟩),λh=>h.elim (λh=>.inr h.2) (λh=>.inl h.1)⟩
def LY{D:Told}{t:Λ}{o v0:Int}(f:(D.map (·.1)).Nodup)(e:D[j]?=σ (t,v0)):lx D t o o (D.eraseIdx j):=by
 refine⟨λp=>⟨λa=>?_,λa=>?_⟩,by have:=List.length_eraseIdx_le D j;omega⟩
 .refine .inr ?_;have⟨i,q,hi⟩:=List.mem_eraseIdx_iff_getElem?.1 a;refine⟨x5 hi,λhe=>q ?_⟩;exact kN f (x:=t) (by rw[x8,hi,Z6,he]) (by rw[x8,e];rfl)
 .rcases a with⟨h,_⟩|⟨a,r⟩
  .exact absurd T h
  .obtain⟨i,hi⟩:=X3.1 a;exact List.mem_eraseIdx_iff_getElem?.2 ⟨i,λhe=>by subst he;rw[e]at hi;cases hi;exact r T,hi⟩
def LZ{D:Told}{t:Λ}{o:Int}(a:∀p∈D,p.1≠t):lx D t o o D:=
 ⟨λp=>⟨λh=>.inr ⟨h,a p h⟩,λh=>h.elim (λh=>absurd T h.1) (λh=>h.1)⟩,Ω⟩
def Ce{g m:Nat}{t:Λ}{o:Int}{D:Told}(h:eO w g m aj k o D)(f:dr aj t)(a:(D.map j8)[j]?=σ (ef (pad t),v)):∃c,D[j]?=σ (t,c)/\v=Δ c:=by
 rw[x8]at a;have⟨p,e,he⟩:=X1.1 a;have h1:=B9 (h.2.2.2.2 p (x5 e)).1 f (congrArg Prod.fst he);exact⟨p.2,by rw[e,<-h1],(congrArg Prod.snd he).symm⟩
def Cf{g m:Nat}{t:Λ}{o:Int}{D:Told}(h:eO w g m aj k o D)(a:∀p∈D.map j8,p.1≠ef (pad t)):∀p∈D,p.1≠t:=λp e he=>a (j8 p) (j5.2 ⟨p,e,T⟩) (by rw[j8,he])
def L0(w:x3)(g m:Nat)(aj t:Λ)(k o c:Int)(D:Told)(v:x1)(w':x3):Prop:=
 (¬(dr aj t/\cu c k)->v=Δ 3/\Ext w w')/\(dr aj t/\cu c k->v=Δ 0/\ai (λr=>r=m) w w'/\∃D',lx D t c o D'/\eO w' g m aj k o D')
def Cg{g m:Nat}{t:Λ}{o:Int}{D:Told}{aM:x1}(h:eO w g m aj k o D)(ae:aI .i64 w aM t):am x7 IS [Γ g,aM,Δ c] w (L0 w g m aj t k o c D):=by
 apply az func188;apply(LW h ae).mono;rintro _ V _ ⟨S,ks,e,rfl,K,af,ag⟩;rw[bo,bp];refine bu cG.i λao aa aF W X=>?_;refine q7 K T X λL ah aG Y=>?_;have s1:=S.size;have aH:=W.size;have aJ:=X.lt;have G:Ext w L:=(S.trans W).put ah Ω;refine aV (λv M=>v=Δ 0/\(dr aj t/\cu c k)/\ai (λr=>r=m) w M/\∃D',lx D t c o D'/\eO M g m aj k o D') ?_ ?_
 .rintro _ M ⟨_,h1,C⟩;exact⟨λh=>absurd h1 h,λ_=>⟨T,C⟩⟩
 intro aA ak;simp only[bB,al];by_cases ad:dr aj t
 rotate_left
 .have he:=ag ad;subst he;exact⟨λ_=>⟨λ_=>⟨T,G⟩,λh=>absurd h.1 ad⟩,λh=>by simp at h⟩
 obtain⟨rfl,rfl⟩:=af ad;refine⟨λh=>absurd T h,λ_=>?_⟩;have x:=h.ext G;have⟨⟨sv,gs,y,hm⟩,H,U,an,ap⟩:=id x;rw[aT fO.p 1 y T];apply j1.mono;rintro _ aq _ ⟨rfl,z⟩;have au:=G.trans z;by_cases hi:cu c k
 rotate_left
 .simp only[hi,decide_false,bK,W3,bV];exact⟨λ_=>⟨T,au⟩,λh=>absurd h.2 hi⟩
 simp only[hi,decide_true,bK,Y7,a8];rw[aT fO.p 2 (y.ext z) T];simp only[be,al,ev];have Z:=wC (q8 U ad);have av:∀{D':Told},lx D t c o D'->∀p∈D',dr aj p.1/\cu p.2 k/\p.2≠o:=λhu p aw=>by
  rcases(hu.1 p).1 aw with⟨B,rfl⟩|⟨h1,_⟩
  .exact⟨ad,hi,B⟩
  .exact ap p h1
 have I:∀{E A:x3}{D':Told},Ext aq E->ai (λr=>r=m) E A->c6 A m (D'.map j8)->lx D t c o D'->aA (Δ 0) A:=by
  intro E A D' f q ax hu;have ay:g≠m:=λhe=>by
   have⟨aC,aD,aB,_⟩:=H;have y:L.heap[g]?=_:=y;rw[he,aB]at y;cases y
  have aE:∀r,leads sv r->r≠m:=λr ac he=>by
   subst he;have⟨aC,aD,aB,_⟩:=H;obtain⟨_,⟨rfl,_⟩|⟨cap,cs,rfl,J,_⟩⟩:=hm
   .obtain⟨a,n,c,h1,_⟩:=ac;cases h1
   .obtain⟨a,n,c,h1,C⟩:=ac;cases h1;have J:L.heap[gs]?=_:=J;have C:gs=r:=C;rw[C,aB]at J;cases J
  have N:=z.trans f;exact ak _ _ ⟨T,⟨ad,hi⟩,((G.trans N).ab _).trans q,D',hu,⟨sv,gs,(y.ext N).ab q ay,bw (hm.ext N) q aE⟩,ax,U,an,av hu⟩
 refine⟨λB E f _ _=>?_,λB E f _ _=>?_⟩
 .rw[aT fO.p 3 ((y.ext z).ext f) T,oo K ((Y.ext z).ext f).range];subst B;refine LH iV.u keys ((H.ext z).ext f) x.pJ Z (λj v0 A O s q=>?_) (λA P s q=>?_)
  .obtain⟨hl,Q,_⟩:=Ce x ad O;rw[nh]at s;exact I f q s (LY x.nodup Q)
  .exact I f q s (LZ (Cf x P))
 .rw[aT fO.p 3 ((y.ext z).ext f) T,oo K ((Y.ext z).ext f).range];refine q6 iV.u keys ((H.ext z).ext f) x.pJ Z (λj v0 A O s q=>?_) (λA P s q=>?_)
  .obtain⟨hl,Q,_⟩:=Ce x ad O;have R:(D.map j8).set j (ef (pad t),Δ c)=(D.set j (t,c)).map j8:=by rw[U5];rfl
   rw[R]at s;exact I f q s (LX x.nodup Q B)
  .have R:D.map j8++[(ef (pad t),Δ c)]=(D++[(t,c)]).map j8:=by rw[Z4];rfl
   rw[R]at s;exact I f q s (Cd (Cf x P) B)
def L1{g m:Nat}{t:Λ}{o:Int}{D:Told}{b:Bool}(h:eO w g m aj k o D)(ad:dr aj t)(h1:∀c,(t,c)∈D->K (if b then .tuple #[Δ c,.bool true]else Δ c))(r:(∀p∈D,p.1≠t)->K (if b then .tuple #[Δ 0,.bool false]else Δ 0)):
  ac x7 (Instr.lookup iV (.map (σ m)) (ef (pad t)) b) w K:=by
 have e:=wC (q8 h.2.2.1 ad);by_cases he:∃p∈D,p.1=t
 .obtain⟨p,a,rfl⟩:=he;have⟨j,s⟩:=X3.1 a;rw[q5 iV.u keys h.2.1 h.pJ e (j:=j) (v:=Δ p.2) (by rw[x8,s];rfl)];exact h1 p.2 a
 .have f:∀p∈D,p.1≠t:=λp a h=>he ⟨p,a,h⟩;rw[tv iV.u keys ⟨_,_,aq.i⟩ h.2.1 h.pJ e (λq x hk=>by
   obtain⟨p,a,rfl⟩:=j5.1 x;exact f p a (B9 (h.2.2.2.2 p a).1 ad hk))]
  exact r f
def L2{g m:Nat}{o:Int}{D:Told}(h:eO w g m aj k o D):am x7 Jo [Γ g] w λv w'=>v=Δ D.length/\Ext w w':=by
 have⟨⟨sv,gs,a,hm⟩,e,_⟩:=h;apply az func241;rw[di eU.u];simp only[Z5,a8];rw[aT fO.p 3 a T,LI iV.u e];exact⟨Ξ,Ext.refl _⟩
def L3{g m:Nat}{o:Int}{D:Told}(h:eO w g m aj k o D):am x7 JT [Γ g] w λv w'=>v=Δ k/\Ext w w':=by
 have⟨⟨sv,gs,a,hm⟩,_⟩:=h;apply az func297;rw[di eU.u];simp only[Z5,a8];rw[aT fO.p 1 a T];exact⟨T,Ext.refl _⟩
def wE{g m:Nat}{o:Int}{D:Told}(h:eO w g m aj k o D):am x7 Jp [Γ g] w λv w'=>Ext w w'/\∃a,w.heap.size<=a/\av .i64 ah w' a v aj:=by
 have⟨⟨sv,gs,e,hm⟩,_,U,_⟩:=h;have f:=U.1;apply az func242;rw[di eU.u];simp only[Z5,a8];rw[aT fO.p 0 e T];exact kH hm.ls Ω
def L4{g m:Nat}{o:Int}{D:Told}(h:eO w g m aj k o D):am x7 JU [Γ g] w λv w'=>v=Δ aj.length/\Ext w w':=by
 apply az func298;apply(wE h).mono;rintro v V _ ⟨J,a,_,hm⟩;rw[aW an.u hm.ls];exact⟨T,J⟩
end Go.Proofs.YtikkpokkcdocoabGreatDoor
namespace Go.Vc
open Go Go.RowKit
set_option maxRecDepth 100000
def leadsTo(v:x1)(r:Nat):Prop:=∃a n c,v= .slice (σ a) n c/\a.block=r
def e9(h:leadsTo (.slice ν 0 0) r):False:=by
 have⟨a,n,c,h,_⟩:=h;cases h
section
variable{α:Type}{f:α->List x1}{k:Nat}
theorem ig:∀{L:List α},(∀a∈L,(f a).length=k)->(L.flatMap f).length=L.length*k
 |[],_=>Ξ
 |a::L,h=>by
  rw[X8,r9,h a (.head _),ig λb e=>h b (.tail _ e),b6,U3];omega
theorem pK:∀{L:List α}(i:Nat),(∀a∈L,(f a).length=k)->(L.flatMap f).take (i*k)=(L.take i).flatMap f
 |[],i,_=>Ξ
 |a::L,0,_=>Ξ
 |a::L,i+1,h=>by
  have e:=h a (.head _);rw[X8,List.take_succ_cons,X8,<-pK i λb p=>h b (.tail _ p),U3,Nat.one_mul,Nat.add_comm,List.take_append,e];congr 1
  .exact b8 Ω
  .congr 1;omega
theorem tx:∀{L:List α}(i:Nat),(∀a∈L,(f a).length=k)->(L.flatMap f).drop (i*k)=(L.drop i).flatMap f
 |[],i,_=>Ξ
 |a::L,0,_=>Ξ
 |a::L,i+1,h=>by
  have e:=h a (.head _);rw[X8,List.drop_succ_cons,<-tx i λb p=>h b (.tail _ p),U3,Nat.one_mul,Nat.add_comm,List.drop_append,e];rw[List.drop_of_length_le Ω,List.nil_append];congr 1;omega
def pL{L:List α}{i:Nat}{a:α}(h:∀a∈L,(f a).length=k)(hi:L[i]?=σ a)(e:(f a)[j]?=σ v):(L.flatMap f)[i*k+j]?=σ v:=by
 have q:=(x4.1 e).1;rw[<-List.getElem?_drop,tx i h];have p:=x4.1 hi;rw[X4 p.1,p.2,X8,Y6 q];exact e
def wF{L:List α}{i:Nat}{a:α}(h:∀a∈L,(f a).length=k)(e:(f a).length=k)(hi:i<L.length):over (L.flatMap f) (i*k) (f a)=(L.set i a).flatMap f:=by
 have q:=ig h;have p:(i+1)*k<=L.length*k:=X9 _ hi;rw[U3,Nat.one_mul]at p;rw[mY Ω,e,pK i h,show i*k+k=(i+1)*k by rw[U3,Nat.one_mul],tx (i+1) h,List.set_eq_take_append_cons_drop,if_pos hi,List.flatMap_append,X8,V1]
def tz{vs:List x1}{o m:Nat}(h1:o+vs.length<=m)(a:m<=cs.length):(over cs o vs).take m=over (cs.take m) o vs:=by
 rw[mY Ω,mY (by rw[l9];omega),V1,V1,List.take_append,List.take_append,List.take_take,List.take_take,List.drop_take,l9];rw[show min m o=o by omega,show min o m=o by omega,show min o cs.length=o by omega,b8 (l:=vs) Ω];congr 3;omega
def bk(f:α->List x1)(k:Nat)(e:p9)(w:x3)(g:Nat)(v:x1)(L:List α):Prop:=b1 w g e k v L.length (L.flatMap f)/\∀a∈L,(f a).length=k
variable{P:W8}{w:x3}{e:p9}{g:Nat}{v:x1}{L:List α}
def bk.nil(f:α->List x1)(k:Nat)(e:p9)(w:x3)(g:Nat):bk f k e w g (.slice ν 0 0) []:=⟨b1.nil w g e k,λa h=>by cases h⟩
def bk.leads(h:bk f k e w g v L)(p:leadsTo v r):r=g/\g<w.heap.size:=by
 obtain⟨_,⟨rfl,_⟩|⟨cap,cs,rfl,q,_⟩⟩:=h.1
 .exact (e9 p).elim
 .obtain⟨a,n,c,h1,s⟩:=p;cases h1;exact⟨s.symm,q.lt⟩
def bk.ab(h:bk f k e w g v L)(J:ai S w w')(a:∀r,leadsTo v r->¬S r):bk f k e w' g v L:=
 ⟨⟨h.1.1,h.1.2.imp id λ⟨cap,cs,h1,p,q⟩=>⟨cap,cs,h1,p.ab J (a g ⟨_,_,_,h1,T⟩),q⟩⟩,h.2⟩
def bk.ext(h:bk f k e w g v L)(J:Ext w w'):bk f k e w' g v L:=h.ab (J.ab λ_=>False) λ_ _ h=>h
def bk.sl(h:bk f k e w g v L):ck w k v L.length (L.flatMap f):=h.1.sl
def bk.le(h:bk f k e w g v L):L.length<=9223372036854775807:=by
 have:=ck.le h.sl;simpa[maxLen]using this
def eF{a:p9}(p:P.underlying t=σ (.slice e))(h:bk f k e w g v L):ac P (V0 #[t] a #[v]) w K=K (Δ L.length):=by
 obtain⟨_,_,_,_,_,rfl,_⟩:=h.sl;exact hI p
def dw{q:o7}{b:Nat}{i:Nat}(a:y=(i:Int))(p:P.underlying t=σ (.slice e))(hi:aS P e k b z)(h:bk f k e w g v L)(r:i<L.length):
  ac P (j9 t v (.int q y)) w K=K (.pointer (σ ⟨g,i*k,ν⟩)):=by
 subst a;obtain⟨_,⟨rfl,s⟩|⟨cap,cs,rfl,x,A⟩⟩:=h.1
 .omega
 .rw[fg p hi r (λ_=>rfl),X2]
def bk.range{i:Nat}{a:α}(h:bk f k e w g v L)(hi:L[i]?=σ a):w.rangeAt g (i*k) (f a):=λj u hu=>by
 have h1:=pL h.2 hi hu;have s:=(x4.1 hi).1;obtain⟨_,⟨rfl,x⟩|⟨cap,cs,rfl,q,_,_,y,r⟩⟩:=h.1
 .omega
 .have p:=(x4.1 h1).1;rw[ig h.2]at p;rw[<-r,Z7 p]at h1;exact q.cell h1
def Ch{b:Nat}{i:Nat}{a:α}{K:Unit->x3->Prop}(hi:aS P t k b z)(h:bk f k e w g v L)(p:(f a).length=k)(h1:∀u∈f a,u.oneCell'=true)(x:i<L.length)(B:∀w',ai (λr=>leadsTo v r) w w'->w'.heap.size=w.heap.size->bk f k e w' g v (L.set i a)->K () w'):aE P (o8 t (.pointer (σ ⟨g,i*k,ν⟩)) (.agg (f a).toArray)) w K:=by
 have M:=ig h.2;have C:(i+1)*k<=L.length*k:=X9 _ x;rw[U3,Nat.one_mul]at C;obtain⟨⟨N,⟨rfl,O⟩|⟨cap,cs,rfl,E,y,F,A,G⟩⟩,q⟩:=h
 .omega
 .have H:L.length*k<=cs.length:=by rw[A];exact X9 _ y
  refine vS hi p h1 E Ω λw' I U J=>B w' (I.mono λr _ he=>⟨_,_,_,T,he.symm⟩) U ⟨⟨?_,.inr ⟨cap,_,Ξ,J,by simpa using y,F,by rw[lj,A],?_⟩⟩,λb s=>?_⟩
  .rw[ig (L:=L.set i a) λb s=>by
    rcases W0 s with h|rfl
    .exact q b h
    .exact p]
  .rw[c9,<-wF q p x,<-G,tz (by rw[p];omega) H]
  .rcases W0 s with h|rfl
   .exact q b h
   .exact p
def pM{b:Nat}{u:x1}{i:Nat}{a a':α}{K:Unit->x3->Prop}(hi:aS P t 1 b z)(hu:u.cells= #[u])(h1:u.oneCell'=true)(h:bk f k e w g v L)(s:L[i]?=σ a)(ae:f a'=(f a).set j u)(V:j<k)(I:∀w',ai (λr=>leadsTo v r) w w'->w'.heap.size=w.heap.size->bk f k e w' g v (L.set i a')->K () w'):aE P (o8 t (.pointer (σ ⟨g,i*k+j,ν⟩)) u) w K:=by
 have A:=(x4.1 s).1;have W:=ig h.2;have J:(i+1)*k<=L.length*k:=X9 _ A;rw[U3,Nat.one_mul]at J;have M:(f a).length=k:=h.2 a (x5 s);have q:(f a').length=k:=by rw[ae,c9];exact M
 have N:(L.flatMap f).set (i*k+j) u=(L.set i a').flatMap f:=by
  rw[<-wF h.2 q A];refine Y4 λp=>?_;rw[mX _ _ _ Ω,X0,q];by_cases B:i*k<=p/\p<i*k+k
  .rw[if_pos B,ae,X0];by_cases C:i*k+j=p
   .rw[if_pos C,if_pos Ω,if_pos Ω,if_pos Ω]
   .rw[if_neg C,if_neg Ω];obtain⟨y,E⟩:∃y,(f a)[p-i*k]?=σ y:=⟨_,x6 Ω⟩;have:=pL h.2 s E;rw[show i*k+(p-i*k)=p by omega]at this;rw[this,E]
  .rw[if_neg B,if_neg Ω]
 obtain⟨⟨X,⟨rfl,Y⟩|⟨cap,cs,rfl,O,F,Q,G,R⟩⟩,H⟩:=h
 .omega
 .have Z:L.length*k<=cs.length:=by rw[G];exact X9 _ F
  refine bq hi hu h1 O Ω λw' S U T=>I w' (S.mono λr _ he=>⟨_,_,_,rfl,he.symm⟩) U ⟨⟨?_,.inr ⟨cap,_,Ξ,T,by simpa using F,Q,by rw[c9,G],?_⟩⟩,λb x=>?_⟩
  .rw[ig (L:=L.set i a') λb x=>by
    rcases W0 x with h|rfl
    .exact H b h
    .exact q]
  .rw[c9,<-N,<-R,List.take_set]
  .rcases W0 x with h|rfl
   .exact H b h
   .exact q
def iG{M:p9}{b:Nat}{x:x1}{a:α}{K:x1->x3->Prop}(A:P.underlying t=σ (.slice e))(hi:aS P e k b z)(G:z.cells.size=k)(h:bk f k e w g v L)(J:ck w k x 1 (f a))(h1:∀u∈f a,u.oneCell'=true)(B:(L.length+1)*b<=140737488355328)(H:L.length+1<=9223372036854775807)(I:∀p q w',bk f k e w' q p (L++[a])->(∀r,leadsTo p r->leadsTo v r\/w.heap.size<=r)->ai (λr=>leadsTo v r) w w'->K p w'):aE P (Z0 #[t,t] M #[v,x]) w K:=by
 have N:(f a).length=k:=by have:=J.1;omega
 have C:∀p q w',b1 w' q e k p (L.length+1) (L.flatMap f++f a)->bk f k e w' q p (L++[a]):=λp q w' hm=>⟨by simpa using hm,λb B=>by
  rcases o5.1 B with h'|h'
  .exact h.2 b h'
  .rw[o9.1 h'];exact N⟩
 rcases h.1.2 with⟨ad,O⟩|⟨cap,cs,ad,Q,_⟩
 .have hm:b1 w w.heap.size e k v L.length (L.flatMap f):=⟨h.1.1,.inl ⟨ad,O⟩⟩;subst ad;refine n3 A A hi G hm J h1 (by simpa using B) (by simpa[maxLen]using H) λp q w' E s F=>I p q w' (C _ _ _ s) (λr y=>.inr ?_) (F.mono λr y h=>Ω);have:=((C _ _ _ s).leads y).1;omega
 .refine n3 A A hi G h.1 J h1 (by simpa using B) (by simpa[maxLen]using H) λp q w' E s F=>I p q w' (C _ _ _ s) (λr y=>?_) (F.mono λr y h=>⟨_,_,_,ad,h.symm⟩);have:=((C _ _ _ s).leads y).1;rcases E with E|E
  .exact .inl ⟨_,_,_,ad,by show g=r;omega⟩
  .exact .inr Ω
def L5{q:p9}{b:Nat}{x:x1}{a:α}{K:x1->x3->Prop}(s:P.underlying t=σ (.slice e))(hi:aS P e k b z)(y:z.cells.size=k)(h:bk f k e w g v L)(J:ck w k x 1 (f a))(h1:∀a,∀u∈f a,u.oneCell'=true)(A:(L.length+1)*b<=140737488355328)(B:L.length+1<=9223372036854775807)(C:∀p E w',bk f k e w' E p (L++[a])->(∀r,leadsTo p r->leadsTo v r\/w.heap.size<=r)->ai (λr=>leadsTo v r) w w'->K p w'):aE P (Z0 #[t,t] q #[v,x]) w K:=iG s hi y h J (h1 a) A B C
def hU{b:Nat}{a:α}{x:x1}{K:x1->x3->Prop}(q:P.underlying t=σ (.slice e))(hi:aS P e k b z)(B:k<=100000)(J:x.cells=(f a).toArray)(p:(f a).length=k)(r:∀v g w',g=w.heap.size->Ext w w'->bk f k e w' g v [a]->K v w'):aE P (Y5 t 1 #[(0,x)]) w K:=
 kD q hi Ω (cs:=x.cells) (AG Ξ (by rw[J];simpa using p)) λg w' s y h=>by
  have h:ag w' g e (f a):=by rw[J]at h;simpa using h
  exact r _ g w' s y ⟨by simpa using b1.full (k:=k) (n:=1) h Ω (by simp[maxLen]),λc A=>by rw[o9.1 A];exact p⟩
end
end Go.Vc
namespace Go.Proofs.YtikkpokkcdocoabGreatDoor
open Go Go.Vc Go.RowKit Go.Proofs Go.Proofs.Tryz
set_option maxRecDepth 100000
theorem wG{α:Type}:∀{l:List α}{j:Nat}{x:α},l[j]?=σ x->(x::l.eraseIdx j).Perm l
 |[],j,x,h=>by simp at h
 |a::l,0,x,h=>by simp at h;subst h;exact List.Perm.refl _
 |a::l,j+1,x,h=>by
  simp at h;rw[List.eraseIdx_cons_succ];exact(List.Perm.swap a x _).trans ((wG h).cons a)
def Ci{α:Type}{l:List α}(h:j<l.length):(l.eraseIdx j).length+1=l.length:=by
 rw[List.length_eraseIdx,if_pos h];omega
def pN(w:x3)(a:Nat):Nat:=match w.heap[a]? with
 |some (.mapIter (σ m) _ seen _)=>(match w.heap[m]? with
  |some (.map e _)=>(leftOf e seen).size
  |_=>0)
 |_=>0
def tA{m:Nat}{d left:List (x1×x1)}{e:Option (x1×x1)}(h:hT w a m d left e):pN w a=left.length:=by
 obtain⟨p,q,seen,hl,h1,_,_,f,_,rfl,_⟩:=h;unfold pN;rw[f];simp only;rw[h1];simp
def L6{w0:x3}{m:Nat}{d d0 left:List (x1×x1)}{e:Option (x1×x1)}(h:hT w a m d left e)(hm:c6 w0 m d0)(h1:Ext w0 w)(p:Ext w0 w')(hi:e4 w w'):hT w' a m d left e:=by
 have⟨q,c,s,hl,r,x,y,z,A⟩:=h;have⟨B,C,f1,_⟩:=hm;have g1:=h1.a6 m _ f1 T;have f:=p.a6 m _ f1 T;rw[r]at g1;rw[<-g1]at f;exact⟨q,c,s,hl,f,x,y,hi a _ z T,A⟩
abbrev oq(w:x3)(g:Nat)(v:x1)(L:List (Λ)):Prop:=bk (ints .i8) 6 cG w g v L
def Cj{k:o7}:∀u∈ints k l,u.oneCell'=true:=λu hu=>by
 obtain⟨x,_,rfl⟩:=j5.1 hu;rfl
def keysIter{dm m:Nat}{d:List (x1×x1)}{KS:List (Λ)}{w0:x3}(Q:ag w0 dm iV [.map (σ m)])(hm:c6 w0 m d)(R:d.map (·.1)=KS.map ef)(S:∀ks∈KS,ks.length=6):
  pb x7 true md [Γ dm] ([]:List (Λ)) (λh=>h.Perm KS) (λh vs h' _=>∃ks∈KS,h.length<KS.length/\vs=[ef ks]/\h'=h++[ks]) (λw=>Ext w0 w):=by
 refine⟨md.enters,λl aA aF w f _ U J W=>?_⟩;apply qF func295;rw[ax Ψ ((Q.ext J).Qz T)];refine aE.cw (B2 iV.u (hm.ext J) λA V X q aG Y Z=>?_);refine⟨λaa=>∃h a left B,aA h aa/\Ext w0 aa/\w.heap.size<=aa.heap.size/\hT aa A m d left B/\left.map (·.1)=a.map ef/\(h++a).Perm KS,λaa=>pN aa A,
  ⟨[],KS,d,ν,f _ _ _ q Z.b W,J.trans q,q.size,Y,R,List.Perm.refl _⟩,?_⟩
 rintro aa ⟨h,a,left,B,C,ab,aH,E,r,e⟩;have ac:left.length=a.length:=by have:=congrArg S5 r;simpa using this
 refine B4 E (λh=>by cases h) (λad=>?_) (λj p ae G H af I=>?_)
 .rw[iX (v:=.bool false) T,a8];subst ad;have:a=[]:=j6 (by rw[<-ac];rfl);subst this;rw[W6]at e;exact .inl ⟨h,e,C⟩
 .rw[iX (v:=.bool true) T,bV];apply B5 I;obtain⟨ks,s,ah⟩:∃ks,a[j]?=σ ks/\p.1=ef ks:=by
   have h1:(left.map (·.1))[j]?=σ p.1:=by rw[x8,G];rfl
   rw[r,x8]at h1;have⟨ks,K,ai⟩:=X1.1 h1;exact⟨ks,K,ai.symm⟩
  have L:ks∈KS:=e.mem_iff.1 (o5.2 (.inr (x5 s)));have M:=S ks L;rw[iX (v:=p.1) T,ah];refine aE.cw (bu cG.i λaI aJ aK aj ak al=>?_);refine aE.cw (q7 M T ak λx am aL an ao=>?_);rw[oo M an.range];have y:Ext ae x:=aj.put am Ω;have N:=al.trans ao;have O:Ext w0 x:=(ab.trans H).trans y;have ap:=f _ _ _ H (by rw[<-X];exact af) C;have aq:=f _ _ _ y N.b ap;have au:=I.ext y N.kw;have av:h.length<KS.length:=by
   have h1:=e.length_eq;have K:=(x4.1 s).1;rw[r9]at h1;omega
  refine⟨T,(U h (h++[ks]) _ x O ⟨ks,L,av,T,T⟩ aq).mono ?_⟩;rintro _ aw (⟨rfl,P,ay,az⟩|⟨rfl,aB⟩)
  .simp only[bK,Y7,a8];have z:=L6 au hm O P (az T).kw;have aC:w.heap.size<=aw.heap.size:=by
    have⟨_,_,_,_,_,_,_,aD,_⟩:=z;have:=(j4.1 aD).1;omega
   refine⟨⟨h++[ks],a.eraseIdx j,left.eraseIdx j,σ p,ay,P,aC,z,?_,?_⟩,?_⟩
   .rw[<-nh,r,nh]
   .refine List.Perm.trans ?_ e;rw[V1];exact List.Perm.append_left h (wG s)
   .rw[tA z,tA E];have:=Ci (x4.1 G).1;omega
  .simp only[bK,W3,bV];exact .inr ⟨h,aB⟩
def L7{m:Nat}:am x7 JB [.map (σ m)] w λr w'=>Ext w w'/\∃g,r= .func (.func md) #[] #[Γ g]/\w.heap.size<=g/\ag w' g iV [.map (σ m)]:=by
 apply az func262;refine bd λg V f a e=>?_;rw[iy];exact⟨a,g,T,Ω,e⟩
def L8{dm m:Nat}{d:List (x1×x1)}{KS:List (Λ)}(U:ag w dm iV [.map (σ m)])(hm:c6 w m d)(W:d.map (·.1)=KS.map ef)(C:∀ks∈KS,ks.length=6)(aC:KS.length<=1000000):
  am x7 JW [.slice ν 0 0,.func (.func md) #[] #[Γ dm]] w λv w'=>Ext w w'/\∃g L,(∀r,leadsTo v r->w.heap.size<=r)/\L.Perm KS/\oq w' g v L:=by
 apply hG func306;refine bd λgs V aD E q=>?_;have q:ag V gs jv [.slice ν 0 0]:=q;have aF:=q.lt;refine jW.old ⟨List (Λ),true,_,_,_,_,_,_,λh w'=>ai (λr=>w.heap.size<=r) w w'/\∃v g,ag w' gs jv [v]/\(∀r,leadsTo v r->w.heap.size<=r/\r≠gs)/\oq w' g v h,λ_ _ _=>False,T,keysIter U hm W C,?_,λ_ _ J h=>h.trans J,
  λ_ _ _ J h=>⟨h.1.trans (J.ab _),by have⟨v,g,h1,X,Y⟩:=h.2;exact⟨v,g,h1.ext J,X,Y.ext J⟩⟩,λ_ _ _ _ _ h=>h,E,⟨E.ab _,_,0,q,λr h=>(e9 h).elim,bk.nil _ _ _ _ _⟩,?_,?_,λ_ _ h=>h.elim,λ_ _ _ h=>h.elim⟩
 .rintro h _ h' w' ⟨ks,_,_,rfl,_⟩;rfl
 .rintro a h h' aa Z ⟨ks,ac,aG,ae,rfl⟩ ⟨G,v,g,y,dn,ad⟩;cases ae;have z:=C ks ac;have aH:h.length<=1000000:=Ω
  refine aE.cw (bu cG.i λaI aJ aK af H ah=>?_);refine aE.cw (q7 z T H λaj ak aL al an=>?_);intro aM I _ ao;have aN:=H.lt;have ap:Ext aa aj:=af.put ak Ω;have p:=ap.trans I;rw[ax Ψ ((y.ext p).Qz T),oo z (al.ext I).range];refine aE.cw (hU (f:=ints .i8) (a:=ks) jv.u cG.i Ω (by simp[ef,x1.cells]) (by simp[z]) λa ga aO aP s aq au=>?_);have K:=aq.sl;rw[X8,List.flatMap_nil,W6]at K;refine aE.cw (L5 jv.u cG.i T ((ad.ext p).ext s) K (λa=>Cj) Ω Ω λM av N A aw x ay=>?_);have aQ:=G.size;have aR:=p.size;have aS:=s.size;have aT:=y.lt;have O:∀r,leadsTo M r->w.heap.size<=r/\r≠gs:=λr e=>by
   rcases aw r e with h|h
   .exact dn r h
   .omega
  have B:ag N gs jv [v]:=((y.ext p).ext s).ab x (λh=>(dn gs h).2 T);refine aE.cw (bq jv.i (by obtain⟨_,_,_,_,_,rfl,_⟩:=A.sl;rfl) (by obtain⟨_,_,_,_,_,rfl,_⟩:=A.sl;rfl) B Ξ λP Q aU az aA=>?_);have R:ai (λr=>w.heap.size<=r) aa P:=(((p.trans s).ab _).trans (x.mono λr _ h=>(dn r h).1)).trans (Q.mono λr _ h=>by show w.heap.size<=r;omega);refine⟨Z.then R (λr e h=>by have h:w.heap.size<=r:=h;omega),⟨G.trans R,M,av,az,O,A.ab Q λr e h=>(O r e).2 h⟩,λ_=>?_⟩;exact((((ah.kw.trans an.kw).trans ao).trans au.kw).trans ay.kw).trans aA.kw
 .rintro h N aB ⟨x,v,g,B,dn,ad⟩;rw[ax Ψ (B.Qz T)];intro P S _;exact⟨(x.ext λr e h=>by have:w.heap.size<=r:=h;omega).trans S,g,h,λr e=>(dn r e).1,aB,ad.ext S⟩
def L9{dm m:Nat}{d:List (x1×x1)}{KS:List (Λ)}(a:ag w dm iV [.map (σ m)])(hm:c6 w m d)(e:d.map (·.1)=KS.map ef)(f:∀ks∈KS,ks.length=6)(p:KS.length<=1000000):
  am x7 JQ [.func (.func md) #[] #[Γ dm]] w λv w'=>Ext w w'/\∃g L,(∀r,leadsTo v r->w.heap.size<=r)/\L.Perm KS/\oq w' g v L:=by
 apply az func293;exact(L8 a hm e f p).mono λ_ _ _ h=>h
def gH:Λ->Int
 |[]=>0
 |x::l=>x*32 ^ l.length+gH l
def wH(n:Nat):(0:Int)<32 ^ n:=Int.pow_pos Ω
theorem tB:∀(l:Λ),(∀x∈l,0<=x/\x<32)->0<=gH l/\gH l<32 ^ l.length
 |[],_=>by simp[gH]
 |x::l,h=>by
  have f:=tB l λy a=>h y (.tail _ a);have J:=h x (.head _);have p:=wH l.length;simp only[gH,b6];have e:(32:Int) ^ (l.length+1)=32*32 ^ l.length:=by rw[Int.pow_succ,Int.mul_comm]
  have h1:x*32 ^ l.length<=31*32 ^ l.length:=Int.mul_le_mul_of_nonneg_right Ω Ω;have q:0<=x*32 ^ l.length:=Int.mul_nonneg J.1 Ω;rw[e];omega
def iH:Λ->Λ->Int
 |x::a,y::b=>if x<y then-1 else if y<x then 1 else iH a b
 |_,_=>0
theorem Ck:∀(a b:Λ),a.length=b.length->(∀x∈a,0<=x/\x<32)->(∀x∈b,0<=x/\x<32)->(iH a b<0↔gH a<gH b)/\(gH a=gH b->a=b)
 |[],[],_,_,_=>by simp[iH]
 |[],_::_,h,_,_=>by simp at h
 |_::_,[],h,_,_=>by simp at h
 |x::a,y::b,h,w,A=>by
  have p:a.length=b.length:=by simpa using h
  have q:∀x∈a,0<=x/\x<32:=λz e=>w z (.tail _ e);have r:∀x∈b,0<=x/\x<32:=λz e=>A z (.tail _ e);have s:=Ck a b p q r;have B:=tB a q;have E:=tB b r;have F:=wH b.length;simp only[iH,gH];rw[p]at B ⊢;have step:∀u v:Int,u<v->u*32 ^ b.length+32 ^ b.length<=v*32 ^ b.length:=λu v G=>by
   have:=Int.mul_le_mul_of_nonneg_right (show u+1<=v by omega) (show(0:Int)<=32 ^ b.length by omega);rw[Int.add_mul,Int.one_mul]at this;exact this
  by_cases h1:x<y
  .rw[if_pos h1];have:=step x y h1;exact⟨⟨λ_=>Ω,λ_=>Ω⟩,λh=>Ω⟩
  .rw[if_neg h1];by_cases f:y<x
   .rw[if_pos f];have:=step y x f;exact⟨⟨λh=>Ω,λh=>Ω⟩,λh=>Ω⟩
   .rw[if_neg f];have C:x=y:=Ω
    subst C;exact⟨s.1.trans ⟨λh=>Ω,λh=>Ω⟩,λh=>by rw[s.2 Ω]⟩
theorem wI:∀{a b:Λ}{i:Nat},(∀(j:Nat)(x y:Int),j<i->a[j]?=σ x->b[j]?=σ y->x=y)->i<=a.length->i<=b.length->iH a b=iH (a.drop i) (b.drop i)
 |_,_,0,_,_,_=>Ξ
 |[],_,i+1,_,h,_=>by simp at h
 |_::_,[],i+1,_,_,h=>by simp at h
 |x::a,y::b,i+1,he,h1,e=>by
  have f:=he 0 x y Ω T rfl;subst f;simp only[iH,Int.lt_irrefl,if_false,List.drop_succ_cons];exact wI (λj u v p hu ad=>he (j+1) u v Ω hu ad) (by simpa using h1) (by simpa using e)
def Cl{x:Int}:am x7 JV [.int .i8 x] w λv w'=>v= .bool false/\Ext w w':=by
 apply az func305;simp only[bB];exact⟨Ξ,Ext.refl _⟩
def Ma{x:Int}:am x7 JP [.int .i8 x,.int .i8 y] w λv w'=>v=Δ (if x<y then-1 else if y<x then 1 else 0)/\Ext w w':=by
 apply az func292;apply Cl.mono;rintro _ V _ ⟨rfl,a⟩;apply Cl.mono;rintro _ aa _ ⟨rfl,e⟩;simp only[a8,aP,bJ,al];exact⟨λh=>⟨by rw[if_pos h],a.trans e⟩,λh=>⟨λf=>⟨by rw[if_neg h,if_pos f],a.trans e⟩,λf=>⟨by rw[if_neg h,if_neg f],a.trans e⟩⟩⟩
def Mb{bj bv:x1}{a b:Λ}(q:aI .i8 w bj a)(s:aI .i8 w bv b)(R:a.length=b.length):am x7 Jz [bj,bv] w λv w'=>v=Δ (iH a b)/\Ext w w':=by
 apply az func260;have S:=q.le;rw[aW lh.u q];refine bT.range a.length (λi _ V=>Ext w V/\∀(j:Nat)(x y:Int),j<i->a[j]?=σ x->b[j]?=σ y->x=y) Ω ⟨Ext.refl _,λj x y H=>Ω⟩ ?_ ?_
 .rintro i _ V I hi ⟨e,r⟩ K;simp only[aP,al];refine⟨λ_=>?_,λh=>Ω⟩;have⟨x,J⟩:=aH (l:=a) hi;have⟨y,z⟩:=aH (l:=b) (i:=i) Ω;rw[bc lh.u gi.i Ψ (q.ext e) J,aW lh.u (s.ext e)];simp only[cO,al];refine⟨λh=>Ω,λ_=>?_⟩;rw[bc lh.u gi.i Ψ (s.ext e) z];apply Ma.mono;rintro _ aa _ ⟨rfl,C⟩;have f:iH a b=iH (a.drop i) (b.drop i):=wI r Ω Ω;have L:a.drop i=x::a.drop (i+1):=by rw[X4 hi,(x4.1 J).2]
  have M:b.drop i=y::b.drop (i+1):=by rw[X4 Ω,(x4.1 z).2]
  rw[L,M]at f;simp only[iH]at f;simp only[bB,al,aN];refine⟨λE=>⟨?_,e.trans C⟩,λN=>K _ _ ⟨e.trans C,λj O P H A B=>?_⟩⟩
  .rw[f];by_cases h1:x<y
   .rw[if_pos h1,if_pos h1]
   .by_cases p:y<x
    .rw[if_neg h1,if_pos p,if_neg h1,if_pos p]
    .rw[if_neg h1,if_neg p]at E;exact absurd T E
  .by_cases Q:j=i
   .subst Q;rw[J]at A;rw[z]at B;cases A;cases B;have G:=Z9.1 N;by_cases h1:x<y
    .rw[if_pos h1]at G;omega
    .by_cases p:y<x
     .rw[if_neg h1,if_pos p]at G;omega
     .omega
   .exact r j O P Ω A B
 .rintro _ V I ⟨e,r⟩;simp only[aP,show decide ((a.length:Int)<(a.length:Int))=false from decide_eq_false Ω,a8];rw[aW lh.u (q.ext e),aW lh.u (s.ext e)];simp only[aP,al];refine⟨λh=>Ω,λ_=>⟨?_,e⟩⟩;have f:iH a b=iH (a.drop a.length) (b.drop a.length):=wI r Ω Ω;rw[f,List.drop_length];cases b.drop a.length<;>rfl
def Mc{a b:Λ}(q:lv a)(r:lv b):am x7 Aj [ef a,ef b] w λv w'=>Ext w w'/\v=Δ (iH a b):=by
 have C:∀{c:Λ},lv c->(ints .i8 c).length=6:=λh=>by simp[h.1]
 apply az func259;refine bd λg1 V E z e=>?_;refine bd λG aa H s f=>?_;rw[B6]at e f;intro x p _ _;have e:=(e.ext s).ext p;have f:=f.ext p;rw[sV cG.u gi.i (l:=0) (h:=6) (m:=6) jx jy fh Ω Ω Ω,sV cG.u gi.i (l:=0) (h:=6) (m:=6) jx jy fh Ω Ω Ω];rw[if_neg Ω,if_neg Ω];have ls:∀{g:Nat}{c:Λ},lv c->ag x g cG (ints .i8 c)->aI .i8 x (.slice (σ ⟨g,0+0*1,ν⟩) (6-0) (6-0)) c:=λ{g c}y A=>by
  unfold aI;refine⟨Ξ,g,0,_,6,by rw[y.1],by rw[y.1];omega,by simp[maxLen],λ_=>rfl,A.range⟩
 apply(Mb (ls q e) (ls r f) (by rw[q.1,r.1])).mono;rintro _ I _ ⟨rfl,B⟩;exact⟨((z.trans s).trans p).trans B,T⟩
end Go.Proofs.YtikkpokkcdocoabGreatDoor
namespace Go.Vc
open Go Go.RowKit Go.Shelf Go.Proofs Go.Sort
def grown_of(J:Ext w w')(a:cM w w'):∃q os,w'=grow (w.drewN q) os:=by
 refine⟨w'.drawn-w.drawn,w'.heap.extract w.heap.size w'.heap.size,?_⟩;have hk:∀k,k<w.heap.size->w'.heap[k]?=w.heap[k]?:=λk hk=>by
  have e:w.heap[k]?=σ w.heap[k]:=Array.getElem?_eq_getElem hk;rw[e];cases U:fH w.heap[k]with
  |true=>exact J.a6 k _ e U
  |false=>exact a.a6 k _ e U
 have aB:w'.heap=w.heap++w'.heap.extract w.heap.size w'.heap.size:=by
  apply Array.ext_getElem?;intro k;rw[Array.getElem?_append];by_cases h:k<w.heap.size
  .rw[if_pos h,hk k h]
  .rw[if_neg h,Array.getElem?_extract];have:=J.size;by_cases f:k<w'.heap.size
   .rw[if_pos Ω];congr 1;omega
   .rw[if_neg Ω,Array.getElem?_eq_none Ω]
 have h1:=a.os;have f:=a.tape.1;have p:=a.output;have r:w.drawn+(w'.drawn-w.drawn)=w'.drawn:=by have:=a.tape.2;omega
 cases w';simp only[grow,x3.drewN]at*;subst h1 f p;rw[<-aB,r]
section
variable{α:Type}[Inhabited α]
def Cm(enc:α->List x1)(k:Nat)(hk:∀x,(enc x).length=k)(d:Array α):(flatK enc k d).toList=d.toList.flatMap enc:=by
 apply Y4;intro t;by_cases h:t<d.size*k
 .have p:0<k:=by
   rcases Q3 k with e|e
   .rw[e]at h;simp at h
   .exact e
  have q:t / k<d.size:=(Nat.div_lt_iff_lt_mul p).2 h;have r:=Nat.mod_lt t p;have s:(flatK enc k d).toList[t]?=σ ((enc d[t / k]!)[t % k]!):=by
   rw[S9,Array.getElem?_eq_getElem (by simpa using h)];have:=get_flatK enc k d t h;rw[getElem!_pos _ t (by simpa using h)]at this;rw[this]
  have w:d.toList[t / k]?=σ d[t / k]!:=by
   rw[S9,Array.getElem?_eq_getElem q,getElem!_pos d _ q]
  have ad:(enc d[t / k]!)[t % k]?=σ ((enc d[t / k]!)[t % k]!):=by
   generalize d[t / k]! =z;rw[x6 (by rw[hk];exact r),getElem!_pos (enc z) _ (by rw[hk];exact r)]
  have:=pL (f:=enc) (k:=k) (λa _=>hk a) w ad;rw[s,<-this];congr 1;rw[Nat.mul_comm];exact Nat.div_add_mod t k
 .rw[Z2 (by simpa using h),Z2];rw[ig (k:=k) λa _=>hk a];simpa using h
def Cn(enc:α->List x1)(k:Nat)(hk:∀x,(enc x).length=k){g m:Nat}{d:Array α}{os:Array Obj}(h:ag w g e cs)(z:d.size*k<=cs.length):
  ag (sortWorldK enc k w g 0 m d os) g e (d.toList.flatMap enc++cs.drop (d.size*k))/\∀r,r<w.heap.size->r≠g->(sortWorldK enc k w g 0 m d os).heap[r]?=w.heap[r]?:=by
 have s:=h.lt;have q:∀r,r<w.heap.size->(sortWorldK enc k w g 0 m d os).heap[r]?=(w.heap.modify g (onCells (putCells id 0 (flatK enc k d))))[r]?:=λr p=>by
  show((w.heap.modify g (onCells (putCells id 0 (flatK enc k d))))++os)[r]?=_;rw[Array.getElem?_append_left (by simpa using p)]
 refine⟨?_,λr p y=>?_⟩
 .unfold ag at h ⊢;rw[q g s,Array.getElem?_modify,if_pos T,h];show σ (Obj.cells (putCells id 0 (flatK enc k d) cs.toArray) e (0,0))=_;refine congrArg σ (congrArg (λc=>Obj.cells c e (0,0)) ?_);apply Array.ext';apply Y4;intro t;show _=(d.toList.flatMap enc++cs.drop (d.size*k))[t]?;rw[List.getElem?_append,ig (k:=k) λa _=>hk a,S9];unfold putCells;rw[Array.getElem?_mapIdx,List.getElem?_toArray];have U:d.toList.length=d.size:=rfl;by_cases f:t<d.size*k
  .rw[if_pos (by rw[U];exact f),x6 Ω,<-Cm enc k hk,S9,Array.getElem?_eq_getElem (by simpa using f)];simp only[Z6,id];rw[if_pos (by simpa using f),Nat.sub_zero,getElem!_pos _ t (by simpa using f)]
  .rw[if_neg (by rw[U];exact f),List.getElem?_drop,U,show d.size*k+(t-d.size*k)=t by omega];cases A:cs[t]? with
   |none=>rfl
   |some x=>
    simp only[Z6];rw[if_neg Θ]
 .rw[q r p,Array.getElem?_modify,if_neg (Ne.symm y)]
end
theorem wJ{P:W8}{C:Ren}(V:SlLaysF0.n6 P C){α:Type}{f:α->List x1}{k:Nat}{G:α->Prop}{num:α->Int}{cf:α->α->Int}{E:R7}{cap:Array x1}(aB:∀w,(isAgg (C.t 24)).run P w= .ok true w)(aC:∀w,(Go.sizeOf (C.t 24)).run P w= .ok k w)(h1:∀a,G a->∀u∈f a,u.oneCell'=true)(hk:∀a,G a->(f a).length=k)(aD:∀a b,G a->G b->(cf a b<0↔num a<num b))(af:Enters P E){w:x3}{g:Nat}{v:x1}{L:List α}(h:bk f k e w g v L)(H:∀a∈L,G a)(ah:L.length<65536)(aE:∀W a b,ai (λr=>r=g) w W->G a->G b->am P E ([.agg (f a).toArray,.agg (f b).toArray]++cap.toList) W λu aF=>Ext W aF/\u=Δ (cf a b)):
  am P (C.f 6) [v,.func (.func E) #[] cap] w λ_ w'=>ai (λr=>leadsTo v r) w w'/\∃M,M.Perm L/\(∀(p q:Nat)(x y:α),p<q->M[p]?=σ x->M[q]?=σ y->num x<=num y)/\bk f k e w' g v M:=by
 have aj:Enters P (C.f 6):=λargs w=>V.f6.enters rfl args w;have⟨⟨aX,ad⟩,aY⟩:=id h;have ak:∀p c,v= .slice p 0 c->L=[]->am P (C.f 6) [v,.func (.func E) #[] cap] w λ_ w'=>ai (λr=>leadsTo v r) w w'/\∃M,M.Perm L/\(∀(p q:Nat)(x y:α),p<q->M[p]?=σ x->M[q]?=σ y->num x<=num y)/\bk f k e w' g v M:=λp c I ah=>by
  refine .code aj ?_;rw[I];refine(AnyF.slices_SortFunc_none V p c _ w).mono ?_;rintro aZ w' ⟨rfl,rfl⟩;refine⟨_,rfl,cM.refl _,ai.refl _ _,L,.refl _,λp q x y _ J=>by rw[ah]at J;simp at J,by rw[<-I];exact h⟩
 rcases ad with⟨rfl,aG⟩|⟨c,cs,rfl,B,al,hm,X,aH⟩
 .exact ak _ _ rfl (j6 aG)
 cases Y:L with
 |nil=>subst Y;exact ak _ _ rfl rfl
 |cons a0 a1=>
 rw[<-Y];let β:={a:α // G a};have:Inhabited β:=⟨⟨a0,H a0 (by rw[Y];exact .head _)⟩⟩;let enc:β->List x1:=λx=>f x.1;let d:Array β:=(L.attach.map λx=>(⟨x.1,H x.1 x.2⟩:β)).toArray;have an:d.toList.map Subtype.val=L:=by
  show(L.attach.map λx=>(⟨x.1,H x.1 x.2⟩:β)).map Subtype.val=L;rw[S1];exact List.attach_map_subtype_val L
 have O:d.size=L.length:=by simp[d]
 have F:∀x:β,(enc x).length=k:=λx=>hk x.1 x.2;have aI:d.toList.flatMap enc=L.flatMap f:=by
  have K:=congrArg (λl=>l.flatMap f) an;rw[<-K];exact(List.flatMap_map Subtype.val f d.toList).symm
 have Q:d.size*k<=cs.length:=by rw[O,X];exact X9 k al
 have aJ:HoldsK enc k w g 0 d:=by
  intro j R;rw[size_flatK]at R;have ao:j<cs.length:=Ω
  have Z:(flatK enc k d)[j]! =cs[j]:=by
   have K:(flatK enc k d).toList[j]?=σ cs[j]:=by
    rw[Cm enc k F,aI,<-aH,Z7 (by rw[<-O];exact R),x6 ao]
   rw[S9]at K;rw[getElem!_pos _ j (by simpa using R)];rw[Array.getElem?_eq_getElem (by simpa using R)]at K;exact b9 K
  refine⟨?_,?_⟩
  .show w.cell? ⟨g,0+j,ν⟩=σ ((flatK enc k d)[j]!);rw[Z];exact B.cell (o:=0+j) (by rw[X2];exact x6 ao)
  .unfold x3.frozen?;unfold ag at B;rw[B];simp
 have S:∀x y:β,ltOf (λx y:β=>cf x.1 y.1) x y=decide (num x.1<num y.1):=λx y=>by
  unfold ltOf;exact decide_eq_decide.2 (aD x.1 y.1 x.2 y.2)
 have aK:SWO (ltOf λx y:β=>cf x.1 y.1):=
  ⟨λx=>by rw[S];simp,λx y z p q=>by rw[S]at*;simp at*;omega,λx y z p q=>by rw[S]at*;simp at*;omega⟩
 have ap:∀m (d2:Array β) os,d2.size=d.size->ai (λr=>r=g) w (sortWorldK enc k w g 0 m d2 os)/\cM w (sortWorldK enc k w g 0 m d2 os):=λm d2 os U=>by
  have⟨a2,aq⟩:=Cn enc k F (m:=m) (os:=os) B (d:=d2) (by rw[U];exact Q);have au:w.heap.size<=(sortWorldK enc k w g 0 m d2 os).heap.size:=by
   show w.heap.size<=((w.heap.modify g _)++os).size;simp
  refine⟨⟨au,λr o A _ aa=>?_⟩,rfl,⟨rfl,Nat.le_add_right _ _⟩,rfl,au,λr o A U=>?_⟩
  .rw[aq r (j4.1 A).1 aa];exact A
  .have aa:r≠g:=λhe=>by subst he;unfold ag at B;rw[B]at A;cases A;cases U
   rw[aq r (j4.1 A).1 aa];exact A
 have aL:CmpLays P E cap enc k (λx y:β=>cf x.1 y.1) g 0 d.size w:=λm os aM U x y=>by
  have J:=(aE _ x.1 y.1 (ap m aM os U).1 x.2 y.2).calls af;have N:([x1.agg (f x.1).toArray,.agg (f y.1).toArray]++cap.toList).toArray= #[.agg (enc x).toArray,.agg (enc y).toArray]++cap:=by
   apply Array.ext';simp[enc]
  rw[N]at J;refine J.mono ?_;rintro _ w' ⟨_,rfl,aN,aO,rfl⟩;exact⟨rfl,grown_of aO aN⟩
 have av:=AnyQ.slices_SortFunc V k aB aC enc F (λx=>h1 x.1 x.2) (λx y:β=>cf x.1 y.1) aK E cap g 0 c d w (λargs w=>af args w) aL aJ B.lt (by rw[O];omega);rw[O]at av;refine .code aj (av.mono ?_);rintro _ w' ⟨rfl,s,n,os,⟨aP,_,I⟩,aQ,rfl⟩;have ab:s.size=d.size:=aP;have⟨aR,aS⟩:=ap n s os ab;have⟨aT,_⟩:=Cn enc k F (m:=n) (os:=os) B (d:=s) (by rw[ab];exact Q);have T:(s.toList.map Subtype.val).Perm L:=by
  have Z:(s.extract 0 L.length).toList=s.toList:=by rw[show L.length=s.size by omega,Array.extract_size]
  have aU:(d.extract 0 L.length).toList=d.toList:=by rw[show L.length=d.size by omega,Array.extract_size]
  rw[Z,aU]at I;rw[<-an];exact I.map _
 have aw:=T.length_eq;refine⟨_,rfl,aS,aR.mono λr _ A=>⟨_,_,_,rfl,A.symm⟩,s.toList.map Subtype.val,T,λp q x y aV J ax=>?_,⟨?_,.inr ⟨c,_,by rw[aw],aT,by rw[aw];exact al,hm,?_,?_⟩⟩,λa N=>hk a (H a (T.mem_iff.1 N))⟩
 .rw[x8,X1]at J ax;obtain⟨a6,ay,rfl⟩:=J;obtain⟨a7,az,rfl⟩:=ax;rw[S9]at ay az;have aA:=(j4.1 ay);have ac:=(j4.1 az);have:=aQ p q (X5 _) aV (by have:=ac.1;omega);rw[getElem!_pos s p aA.1,getElem!_pos s q ac.1,aA.2,ac.2,S]at this;simpa using this
 .rw[ig (k:=k) λa N=>hk a (H a (T.mem_iff.1 N))]
 .have ae:(s.toList.flatMap enc).length=s.size*k:=by rw[ig (k:=k) λa _=>F a];rfl
  rw[r9,ae,List.length_drop,ab,X];rw[X]at Q;exact Nat.add_sub_cancel' Q
 .have ae:(s.toList.flatMap enc).length=s.size*k:=by rw[ig (k:=k) λa _=>F a];rfl
  have aW:(List.map Subtype.val s.toList).length*k=(s.toList.flatMap enc).length:=by rw[ae,r8];rfl
  rw[aW,List.take_left,List.flatMap_map]
end Go.Vc
namespace Go.Proofs
open Go.Shelf
def Tryz.wK:Go.Shelf.Ren:=⟨λ|6=>294|15=>81|14=>307|28=>171|29=>172|20=>322|21=>323|22=>324|23=>325|24=>326|25=>327|26=>328|27=>329|46=>337|47=>228|48=>229|49=>338|50=>339|57=>342|n=>n,λ|22=>360|24=>336|25=>359|3=>3|39=>144|0=>0|53=>258|55=>93|4=>4|46=>251|45=>250|50=>255|5=>5|9=>9|66=>323|70=>327|76=>366|77=>367|n=>n,λ|n=>n⟩
def Tryz.Md:Go.Proofs.SlLaysF0.n6 Tryz.prog Tryz.wK:={
 mixed:=Ψ,
 f6:=⟨Tryz.f294.name,Φ,Tryz.func294.trans (congrArg σ Ψ)⟩,
 f14:=⟨Tryz.f307.name,Φ,Tryz.func307.trans (congrArg σ Ψ)⟩,
 f15:=Tryz.func81.trans (congrArg σ Ψ),
 f20:=⟨Tryz.f322.name,Φ,Tryz.func322.trans (congrArg σ Ψ)⟩,
 f21:=⟨Tryz.f323.name,Φ,Tryz.func323.trans (congrArg σ Ψ)⟩,
 f22:=⟨Tryz.f324.name,Φ,Tryz.func324.trans (congrArg σ Ψ)⟩,
 f23:=⟨Tryz.f325.name,Φ,Tryz.func325.trans (congrArg σ Ψ)⟩,
 f24:=⟨Tryz.f326.name,Φ,Tryz.func326.trans (congrArg σ Ψ)⟩,
 f25:=⟨Tryz.f327.name,Φ,Tryz.func327.trans (congrArg σ Ψ)⟩,
 f26:=⟨Tryz.f328.name,Φ,Tryz.func328.trans (congrArg σ Ψ)⟩,
 f27:=⟨Tryz.f329.name,Φ,Tryz.func329.trans (congrArg σ Ψ)⟩,
 f28:=Tryz.func171.trans (congrArg σ Ψ),
 f29:=Tryz.func172.trans (congrArg σ Ψ),
 f46:=⟨Tryz.f337.name,Φ,Tryz.func337.trans (congrArg σ Ψ)⟩,
 f47:=Tryz.func228.trans (congrArg σ Ψ),
 f48:=Tryz.func229.trans (congrArg σ Ψ),
 f49:=⟨Tryz.f338.name,Φ,Tryz.func338.trans (congrArg σ Ψ)⟩,
 f50:=⟨Tryz.f339.name,Φ,Tryz.func339.trans (congrArg σ Ψ)⟩,
 f57:=⟨Tryz.f342.name,Φ,Tryz.func342.trans (congrArg σ Ψ)⟩,
 t0:=Tryz.underlying0,
 a0:=Tryz.isAgg0,
 z0:=Tryz.sizeOf0,
 v0:=Tryz.zeroValue0,
 t3:=Tryz.underlying3,
 a3:=Tryz.isAgg3,
 z3:=Tryz.sizeOf3,
 v3:=Tryz.zeroValue3,
 t4:=Tryz.underlying4,
 a4:=Tryz.isAgg4,
 z4:=Tryz.sizeOf4,
 v4:=Tryz.zeroValue4,
 t5:=Tryz.underlying5,
 a5:=Tryz.isAgg5,
 z5:=Tryz.sizeOf5,
 v5:=Tryz.zeroValue5,
 t9:=Tryz.underlying9,
 a9:=Tryz.isAgg9,
 z9:=Tryz.sizeOf9,
 v9:=Tryz.zeroValue9,
 t22:=Tryz.underlying360,
 a22:=Tryz.isAgg360,
 z22:=Tryz.sizeOf360,
 v22:=Tryz.zeroValue360,
 t25:=Tryz.underlying359,
 a25:=Tryz.isAgg359,
 z25:=Tryz.sizeOf359,
 v25:=Tryz.zeroValue359,
 t39:=Tryz.underlying144,
 a39:=Tryz.isAgg144,
 z39:=Tryz.sizeOf144,
 v39:=Tryz.zeroValue144,
 t45:=Tryz.underlying250,
 a45:=Tryz.isAgg250,
 z45:=Tryz.sizeOf250,
 v45:=Tryz.zeroValue250,
 t46:=Tryz.underlying251,
 a46:=Tryz.isAgg251,
 z46:=Tryz.sizeOf251,
 v46:=Tryz.zeroValue251,
 t50:=Tryz.underlying255,
 a50:=Tryz.isAgg255,
 z50:=Tryz.sizeOf255,
 v50:=Tryz.zeroValue255,
 t53:=Tryz.underlying258,
 a53:=Tryz.isAgg258,
 z53:=Tryz.sizeOf258,
 v53:=Tryz.zeroValue258,
 t55:=Tryz.underlying93,
 a55:=Tryz.isAgg93,
 z55:=Tryz.sizeOf93,
 v55:=Tryz.zeroValue93,
 t66:=Tryz.underlying323,
 a66:=Tryz.isAgg323,
 z66:=Tryz.sizeOf323,
 v66:=Tryz.zeroValue323,
 t70:=Tryz.underlying327,
 a70:=Tryz.isAgg327,
 z70:=Tryz.sizeOf327,
 v70:=Tryz.zeroValue327,
 t76:=Tryz.underlying366,
 a76:=Tryz.isAgg366,
 z76:=Tryz.sizeOf366,
 v76:=Tryz.zeroValue366,
 t77:=Tryz.underlying367,
 a77:=Tryz.isAgg367,
 z77:=Tryz.sizeOf367,
 v77:=Tryz.zeroValue367}
def Tryz.wL:Go.Shelf.Ren:=⟨λ|6=>201|15=>81|14=>253|28=>171|29=>172|20=>281|21=>282|22=>283|23=>284|24=>285|25=>286|26=>287|27=>288|46=>300|47=>228|48=>229|49=>301|50=>302|57=>321|n=>n,λ|22=>280|24=>285|25=>293|3=>3|39=>144|0=>0|53=>258|55=>93|4=>4|46=>251|45=>250|50=>255|5=>5|9=>9|66=>323|70=>327|76=>366|77=>367|n=>n,λ|n=>n⟩
def Tryz.Me:Go.Proofs.SlLaysF0.n6 Tryz.prog Tryz.wL:={
 mixed:=Ψ,
 f6:=⟨Tryz.f201.name,Φ,Tryz.func201.trans (congrArg σ Ψ)⟩,
 f14:=⟨Tryz.f253.name,Φ,Tryz.func253.trans (congrArg σ Ψ)⟩,
 f15:=Tryz.func81.trans (congrArg σ Ψ),
 f20:=⟨Tryz.f281.name,Φ,Tryz.func281.trans (congrArg σ Ψ)⟩,
 f21:=⟨Tryz.f282.name,Φ,Tryz.func282.trans (congrArg σ Ψ)⟩,
 f22:=⟨Tryz.f283.name,Φ,Tryz.func283.trans (congrArg σ Ψ)⟩,
 f23:=⟨Tryz.f284.name,Φ,Tryz.func284.trans (congrArg σ Ψ)⟩,
 f24:=⟨Tryz.f285.name,Φ,Tryz.func285.trans (congrArg σ Ψ)⟩,
 f25:=⟨Tryz.f286.name,Φ,Tryz.func286.trans (congrArg σ Ψ)⟩,
 f26:=⟨Tryz.f287.name,Φ,Tryz.func287.trans (congrArg σ Ψ)⟩,
 f27:=⟨Tryz.f288.name,Φ,Tryz.func288.trans (congrArg σ Ψ)⟩,
 f28:=Tryz.func171.trans (congrArg σ Ψ),
 f29:=Tryz.func172.trans (congrArg σ Ψ),
 f46:=⟨Tryz.f300.name,Φ,Tryz.func300.trans (congrArg σ Ψ)⟩,
 f47:=Tryz.func228.trans (congrArg σ Ψ),
 f48:=Tryz.func229.trans (congrArg σ Ψ),
 f49:=⟨Tryz.f301.name,Φ,Tryz.func301.trans (congrArg σ Ψ)⟩,
 f50:=⟨Tryz.f302.name,Φ,Tryz.func302.trans (congrArg σ Ψ)⟩,
 f57:=⟨Tryz.f321.name,Φ,Tryz.func321.trans (congrArg σ Ψ)⟩,
 t0:=Tryz.underlying0,
 a0:=Tryz.isAgg0,
 z0:=Tryz.sizeOf0,
 v0:=Tryz.zeroValue0,
 t3:=Tryz.underlying3,
 a3:=Tryz.isAgg3,
 z3:=Tryz.sizeOf3,
 v3:=Tryz.zeroValue3,
 t4:=Tryz.underlying4,
 a4:=Tryz.isAgg4,
 z4:=Tryz.sizeOf4,
 v4:=Tryz.zeroValue4,
 t5:=Tryz.underlying5,
 a5:=Tryz.isAgg5,
 z5:=Tryz.sizeOf5,
 v5:=Tryz.zeroValue5,
 t9:=Tryz.underlying9,
 a9:=Tryz.isAgg9,
 z9:=Tryz.sizeOf9,
 v9:=Tryz.zeroValue9,
 t22:=Tryz.underlying280,
 a22:=Tryz.isAgg280,
 z22:=Tryz.sizeOf280,
 v22:=Tryz.zeroValue280,
 t25:=Tryz.underlying293,
 a25:=Tryz.isAgg293,
 z25:=Tryz.sizeOf293,
 v25:=Tryz.zeroValue293,
 t39:=Tryz.underlying144,
 a39:=Tryz.isAgg144,
 z39:=Tryz.sizeOf144,
 v39:=Tryz.zeroValue144,
 t45:=Tryz.underlying250,
 a45:=Tryz.isAgg250,
 z45:=Tryz.sizeOf250,
 v45:=Tryz.zeroValue250,
 t46:=Tryz.underlying251,
 a46:=Tryz.isAgg251,
 z46:=Tryz.sizeOf251,
 v46:=Tryz.zeroValue251,
 t50:=Tryz.underlying255,
 a50:=Tryz.isAgg255,
 z50:=Tryz.sizeOf255,
 v50:=Tryz.zeroValue255,
 t53:=Tryz.underlying258,
 a53:=Tryz.isAgg258,
 z53:=Tryz.sizeOf258,
 v53:=Tryz.zeroValue258,
 t55:=Tryz.underlying93,
 a55:=Tryz.isAgg93,
 z55:=Tryz.sizeOf93,
 v55:=Tryz.zeroValue93,
 t66:=Tryz.underlying323,
 a66:=Tryz.isAgg323,
 z66:=Tryz.sizeOf323,
 v66:=Tryz.zeroValue323,
 t70:=Tryz.underlying327,
 a70:=Tryz.isAgg327,
 z70:=Tryz.sizeOf327,
 v70:=Tryz.zeroValue327,
 t76:=Tryz.underlying366,
 a76:=Tryz.isAgg366,
 z76:=Tryz.sizeOf366,
 v76:=Tryz.zeroValue366,
 t77:=Tryz.underlying367,
 a77:=Tryz.isAgg367,
 z77:=Tryz.sizeOf367,
 v77:=Tryz.zeroValue367}
def Tryz.wM:Go.Shelf.Ren:=⟨λ|6=>26|15=>81|14=>80|28=>171|29=>172|20=>163|21=>164|22=>165|23=>166|24=>167|25=>168|26=>169|27=>170|46=>227|47=>228|48=>229|49=>230|50=>231|57=>270|n=>n,λ|22=>36|24=>43|25=>71|3=>3|39=>144|0=>0|53=>258|55=>93|4=>4|46=>251|45=>250|50=>255|5=>5|9=>9|66=>323|70=>327|76=>366|77=>367|n=>n,λ|n=>n⟩
def Tryz.Mf:Go.Proofs.SlLaysF0.n6 Tryz.prog Tryz.wM:={
 mixed:=Ψ,
 f6:=⟨Tryz.f26.name,Φ,Tryz.func26.trans (congrArg σ Ψ)⟩,
 f14:=⟨Tryz.f80.name,Φ,Tryz.func80.trans (congrArg σ Ψ)⟩,
 f15:=Tryz.func81.trans (congrArg σ Ψ),
 f20:=⟨Tryz.f163.name,Φ,Tryz.func163.trans (congrArg σ Ψ)⟩,
 f21:=⟨Tryz.f164.name,Φ,Tryz.func164.trans (congrArg σ Ψ)⟩,
 f22:=⟨Tryz.f165.name,Φ,Tryz.func165.trans (congrArg σ Ψ)⟩,
 f23:=⟨Tryz.f166.name,Φ,Tryz.func166.trans (congrArg σ Ψ)⟩,
 f24:=⟨Tryz.f167.name,Φ,Tryz.func167.trans (congrArg σ Ψ)⟩,
 f25:=⟨Tryz.f168.name,Φ,Tryz.func168.trans (congrArg σ Ψ)⟩,
 f26:=⟨Tryz.f169.name,Φ,Tryz.func169.trans (congrArg σ Ψ)⟩,
 f27:=⟨Tryz.f170.name,Φ,Tryz.func170.trans (congrArg σ Ψ)⟩,
 f28:=Tryz.func171.trans (congrArg σ Ψ),
 f29:=Tryz.func172.trans (congrArg σ Ψ),
 f46:=⟨Tryz.f227.name,Φ,Tryz.func227.trans (congrArg σ Ψ)⟩,
 f47:=Tryz.func228.trans (congrArg σ Ψ),
 f48:=Tryz.func229.trans (congrArg σ Ψ),
 f49:=⟨Tryz.f230.name,Φ,Tryz.func230.trans (congrArg σ Ψ)⟩,
 f50:=⟨Tryz.f231.name,Φ,Tryz.func231.trans (congrArg σ Ψ)⟩,
 f57:=⟨Tryz.f270.name,Φ,Tryz.func270.trans (congrArg σ Ψ)⟩,
 t0:=Tryz.underlying0,
 a0:=Tryz.isAgg0,
 z0:=Tryz.sizeOf0,
 v0:=Tryz.zeroValue0,
 t3:=Tryz.underlying3,
 a3:=Tryz.isAgg3,
 z3:=Tryz.sizeOf3,
 v3:=Tryz.zeroValue3,
 t4:=Tryz.underlying4,
 a4:=Tryz.isAgg4,
 z4:=Tryz.sizeOf4,
 v4:=Tryz.zeroValue4,
 t5:=Tryz.underlying5,
 a5:=Tryz.isAgg5,
 z5:=Tryz.sizeOf5,
 v5:=Tryz.zeroValue5,
 t9:=Tryz.underlying9,
 a9:=Tryz.isAgg9,
 z9:=Tryz.sizeOf9,
 v9:=Tryz.zeroValue9,
 t22:=Tryz.underlying36,
 a22:=Tryz.isAgg36,
 z22:=Tryz.sizeOf36,
 v22:=Tryz.zeroValue36,
 t25:=Tryz.underlying71,
 a25:=Tryz.isAgg71,
 z25:=Tryz.sizeOf71,
 v25:=Tryz.zeroValue71,
 t39:=Tryz.underlying144,
 a39:=Tryz.isAgg144,
 z39:=Tryz.sizeOf144,
 v39:=Tryz.zeroValue144,
 t45:=Tryz.underlying250,
 a45:=Tryz.isAgg250,
 z45:=Tryz.sizeOf250,
 v45:=Tryz.zeroValue250,
 t46:=Tryz.underlying251,
 a46:=Tryz.isAgg251,
 z46:=Tryz.sizeOf251,
 v46:=Tryz.zeroValue251,
 t50:=Tryz.underlying255,
 a50:=Tryz.isAgg255,
 z50:=Tryz.sizeOf255,
 v50:=Tryz.zeroValue255,
 t53:=Tryz.underlying258,
 a53:=Tryz.isAgg258,
 z53:=Tryz.sizeOf258,
 v53:=Tryz.zeroValue258,
 t55:=Tryz.underlying93,
 a55:=Tryz.isAgg93,
 z55:=Tryz.sizeOf93,
 v55:=Tryz.zeroValue93,
 t66:=Tryz.underlying323,
 a66:=Tryz.isAgg323,
 z66:=Tryz.sizeOf323,
 v66:=Tryz.zeroValue323,
 t70:=Tryz.underlying327,
 a70:=Tryz.isAgg327,
 z70:=Tryz.sizeOf327,
 v70:=Tryz.zeroValue327,
 t76:=Tryz.underlying366,
 a76:=Tryz.isAgg366,
 z76:=Tryz.sizeOf366,
 v76:=Tryz.zeroValue366,
 t77:=Tryz.underlying367,
 a77:=Tryz.isAgg367,
 z77:=Tryz.sizeOf367,
 v77:=Tryz.zeroValue367}
def Tryz.Mg(w:x3):(isAgg (Tryz.wK.t 24)).run Tryz.prog w= .ok true w:=Tryz.isAgg336 w
def Tryz.Mh(w:x3):(Go.sizeOf (Tryz.wK.t 24)).run Tryz.prog w= .ok 6 w:=Tryz.sizeOf336 w
def Tryz.Mi:Tryz.prog.funcs[259]?=σ Tryz.f259:=Tryz.func259
def Tryz.Mj(w:x3):(isAgg (Tryz.wL.t 24)).run Tryz.prog w= .ok true w:=Tryz.isAgg285 w
def Tryz.Mk(w:x3):(Go.sizeOf (Tryz.wL.t 24)).run Tryz.prog w= .ok 2 w:=Tryz.sizeOf285 w
def Tryz.Ml:Tryz.prog.funcs[202]?=σ Tryz.f202:=Tryz.func202
def Tryz.Mm(w:x3):(isAgg (Tryz.wM.t 24)).run Tryz.prog w= .ok true w:=Tryz.isAgg43 w
def Tryz.Mn(w:x3):(Go.sizeOf (Tryz.wM.t 24)).run Tryz.prog w= .ok 4 w:=Tryz.sizeOf43 w
def Tryz.Mo:Tryz.prog.funcs[27]?=σ Tryz.f27:=Tryz.func27
end Go.Proofs
namespace Go.Proofs.YtikkpokkcdocoabGreatDoor
open Go Go.Vc Go.RowKit Go.Proofs Go.Proofs.Tryz
set_option maxRecDepth 100000
def tC{α:Type}(f:α->Int)(L:List α)(a i:Nat):Prop:=∀(p q:Nat)(x y:α),a<=p->p<q->q<i->L[p]?=σ x->L[q]?=σ y->f x<=f y
def pO(L:List (Λ)):Prop:=∀ks∈L,lv ks
def pO.perm{L M:List (Λ)}(h:pO L)(a:M.Perm L):pO M:=λks hk=>h ks (a.mem_iff.1 hk)
def Mp{g:Nat}{L:List (Λ)}{i:Nat}(a:y=(i:Int))(h:oq w g v L)(hi:L[i]?=σ ks):
  ac x7 (j9 jv v (Δ y)) w (λp=>ac x7 (u5 cG p) w K)=K (ef ks):=by
 have e:ks.length=6:=by have:=h.2 ks (x5 hi);simpa using this
 rw[dw a jv.u cG.i h (x4.1 hi).1,oo e (h.range hi)]
abbrev Co:x1:=.func (.func Aj) #[] #[]
def tD{P:W8}{k:o7}{s:ByteArray}{i:Nat}(a:P.underlying t=σ .string)(hi:i<s.size):
  ac P (Instr.index t (.string s) (.int k (i:Int))) w K=K (.int .u8 (s[i].toNat:Int)):=ac.of λw' _=>by
 simp[Instr.index,asIntOf,run_underlying a,hi]
def ek(n:Nat):Nat:=if n=0 then 0 else Nat.log2 n+1
def Cp(h:n<256):ek n<=8:=by
 unfold ek;by_cases a:n=0
 .rw[if_pos a];omega
 .rw[if_neg a];have e:Nat.log2 n<8:=(Nat.log2_lt a).2 Ω;omega
def Mq{g:Nat}{L:List (Λ)}(h:oq w g v L)(s:pO L)(z:L.length<65536):
  am x7 JR [v,Co] w λ_ w'=>ai (λr=>leadsTo v r) w w'/\∃M,M.Perm L/\tC gH M 0 M.length/\oq w' g v M:=by
 apply(wJ Md (G:=lv) (num:=gH) (cf:=iH) (cap:=#[]) Mg Mh (λa _=>Cj) (λa e=>by simp[e.1]) (λa b e f=>(Ck a b (by rw[e.1,f.1]) e.2 f.2).1) (Enters.of x7 Mi T Ψ) h s z λH a b _ e f=>Mc e f).mono;rintro _ w' _ ⟨A,M,B,hu,hm⟩;exact⟨A,M,B,λp q x y _ C _ J E=>hu p q x y C J E,hm⟩
end Go.Proofs.YtikkpokkcdocoabGreatDoor
namespace Go.Vc
open Go Go.RowKit
set_option maxRecDepth 100000
def Keys.str{P:W8}{k:p9}(hk:P.underlying k=σ .string):Keys P k λv=>∃s,v= .string s:=by
 have key:∀s,MapKept.IsKey .string (.string s):=λs=>trivial;refine⟨λw f v ⟨n,h⟩=>?_,λw x ⟨n,h⟩ p q=>?_,λw v ⟨n,h⟩=>?_⟩
 .subst h;exact MapKept.run_checkKey hk (key n) f 9999
 .subst h;rcases MapKept.findNow_spec (key n) p 0 (λe he=>by have⟨m,h⟩:=q e he;rw[h];exact key m)with⟨h1,a⟩|⟨j,e,h1,a,r⟩
  .exact .inl ⟨MapKept.run_findKey hk h1,a⟩
  .exact .inr ⟨j,e,by have:=MapKept.run_findKey (P:=P) (w:=w) hk h1;simpa using this,a,r⟩
 .subst h;exact MapKept.run_keyThatStays (d:=.string) (key n)
section
variable{P:W8}{w:x3}
def ly{s:Sem x1}(h:∀K:x1->Prop,ac P s w K=K v):cD P s v w:=by
 have h1:ac P s w (λu=>u=v):=(h λu=>u=v).mpr T;obtain⟨u,hu,rfl⟩:=h1;exact hu
variable{k e:p9}{G:x1->Prop}
end
end Go.Vc
namespace Go.Proofs.YtikkpokkcdocoabGreatDoor
open Go Go.Vc Go.RowKit Go.Proofs Go.Proofs.Tryz
set_option maxRecDepth 100000
def gV:Nat->Nat->Λ
 |0,_=>[]
 |n+1,u=>gV n (u / 10)++[48+((u % 10:Nat):Int)]
theorem rb:∀(n u:Nat),(gV n u).length=n
 |0,_=>rfl
 |n+1,u=>by rw[gV,r9,rb n];rfl
def Mr(n u:Nat):gV (n+2) u=gV n (u / 100)++[48+((u / 10 % 10:Nat):Int),48+((u % 10:Nat):Int)]:=by
 rw[gV,gV,V1];rw[show u / 10 / 10=u / 100 by omega];rfl
theorem Cq:∀(n u:Nat),10 ^ n<=u->u<10 ^ (n+1)->gV (n+1) u=ft u
 |0,u,h1,a=>by
  rw[oe,if_pos (by simpa using a)];simp[gV]
 |n+1,u,h1,a=>by
  have e:(10:Nat) ^ (n+1)=10*10 ^ n:=by rw[Nat.pow_succ,Nat.mul_comm]
  have f:(10:Nat) ^ (n+1+1)=10*10 ^ (n+1):=by rw[Nat.pow_succ,Nat.mul_comm]
  have h:1<=10 ^ n:=Nat.one_le_iff_ne_zero.2 Ξ;rw[oe,if_neg Ω,gV,Cq n (u / 10) Ω Ω]
def gI(a C:Λ)(nd u:Nat):Prop:=nd<=a.length/\C.length=a.length/\∃t,C.drop nd=t/\a=gV nd u++t
def gI.two{a:Λ}{nd u:Nat}(h:gI a C (nd+2) u):gI a ((C.set (nd+1) (48+((u % 10:Nat):Int))).set nd (48+((u / 10 % 10:Nat):Int))) nd (u / 100):=by
 have⟨h1,e,t,f,p⟩:=h;refine⟨Ω,by simp[e],_,T,?_⟩;rw[p,Mr,V1];congr 1;rw[List.drop_set,if_neg Ω,List.drop_set,if_neg Ω,<-f];have q:nd<C.length:=Ω
 have r:nd+1<C.length:=Ω
 rw[X4 q,X4 r,U4,R6];rfl
def gI.one{a:Λ}{u:Nat}(h:gI a C 1 u):C.set 0 (48+((u % 10:Nat):Int))=a:=by
 have⟨h1,e,t,f,p⟩:=h;rw[p,gV,gV,List.nil_append,<-f];cases C with
 |nil=>simp at e;omega
 |cons c C=>simp
def gI.zero{a:Λ}{u:Nat}(h:gI a C 0 u):C=a:=by
 have⟨h1,p,t,e,f⟩:=h;rw[f,gV,List.nil_append,<-e,List.drop_zero]
def ka:ByteArray:=⟨#[48,48,48,49,48,50,48,51,48,52,48,53,48,54,48,55,48,56,48,57,49,48,49,49,49,50,49,51,49,52,49,53,49,54,49,55,49,56,49,57,50,48,50,49,50,50,50,51,50,52,50,53,50,54,50,55,50,56,50,57,51,48,51,49,51,50,51,51,51,52,51,53,51,54,51,55,51,56,51,57,52,48,52,49,52,50,52,51,52,52,52,53,52,54,52,55,52,56,52,57,53,48,53,49,53,50,53,51,53,52,53,53,53,54,53,55,53,56,53,57,54,48,54,49,54,50,54,51,54,52,54,53,54,54,54,55,54,56,54,57,55,48,55,49,55,50,55,51,55,52,55,53,55,54,55,55,55,56,55,57,56,48,56,49,56,50,56,51,56,52,56,53,56,54,56,55,56,56,56,57,57,48,57,49,57,50,57,51,57,52,57,53,57,54,57,55,57,56,57,57]⟩
def Cr:ka.size=200:=by decide+kernel
def Ms:∀q:Fin 100,ka.data.toList[2*q.val]?=σ (UInt8.ofNat (48+q.val / 10))/\ka.data.toList[2*q.val+1]?=σ (UInt8.ofNat (48+q.val % 10)):=by decide+kernel
def wN{q:Nat}(e:q<100):(∀h,(ka[2*q]'h).toNat=48+q / 10)/\∀h,(ka[2*q+1]'h).toNat=48+q % 10:=by
 have⟨h1,f⟩:=Ms ⟨q,e⟩;refine⟨λh=>?_,λh=>?_⟩
 .have a:=(x4.1 h1).2;have:ka[2*q]=UInt8.ofNat (48+q / 10):=a;rw[this,UInt8.toNat_ofNat'];omega
 .have a:=(x4.1 f).2;have:ka[2*q+1]=UInt8.ofNat (48+q % 10):=a;rw[this,UInt8.toNat_ofNat'];omega
def wrap_u32{x:Int}(h1:0<=x)(a:x<4294967296):o7.u32.wrap x=x:=by
 simp[o7.wrap,o7.bits,o7.signed];omega
def kb(w:x3)(g o:Nat)(a C e:Λ):Prop:=ag w g mU (ints .u8 (a++C++e))/\a.length=o
def wO{g o c i:Nat}{a:o7}(e:y=(i:Int))(hi:i<n):
  ac x7 (j9 cN (.slice (σ ⟨g,o,ν⟩) n c) (.int a y)) w K=K (.pointer (σ ⟨g,o+i,ν⟩)):=by
 subst e;rw[fg cN.u cJ.i hi (λ_=>rfl),U2]
def wP{g o i:Nat}{x:Int}{a f:Λ}{K:Unit->x3->Prop}(h:kb w g o a C f)(hi:i<C.length)(q:∀w',ai (λr=>r=g) w w'->kb w' g o a (C.set i x) f->K () w'):aE x7 (o8 cJ (.pointer (σ ⟨g,o+i,ν⟩)) (.int .u8 x)) w K:=by
 obtain⟨h,rfl⟩:=h;refine bq (g:=g) (o:=a.length+i) cJ.i T rfl h Θ λw' s U p=>q w' s ⟨?_,T⟩;have e:(ints .u8 (a++C++f)).set (a.length+i) (.int .u8 x)=ints .u8 (a++C.set i x++f):=by
  unfold ints;rw[<-U5,V1,T7 _ _ Ω,R6,List.set_append_left _ _ hi,V1]
 rw[e]at p;exact p
theorem ot{g o c nd q i:Nat}{x e t:Int}{f h:Λ}{K:x3->Prop}(y:kb w g o f C h)(W:C.length=n)(X:n<=1000)(Y:nd<=n)(h1:(nd:Int)-x=((i+1:Nat):Int))(E:(nd:Int)-e=(i:Int))(F:i+1<n)(G:t=((2*q:Nat):Int))(p:q<100)(H:∀w',ai (λr=>r=g) w w'->kb w' g o f ((C.set (i+1) (48+((q % 10:Nat):Int))).set i (48+((q / 10:Nat):Int))) h->K w'):
  ev w λaa=>
  ac x7 (aO .sub ah false true (Δ (nd:Int)) (Δ x)) aa λI=>
  ac x7 (aO .sub ah false true (Δ (nd:Int)) (Δ e)) aa λz=>
  ac x7 (aO .add po false true (.int .u32 t) (.int .u32 1)) aa λJ=>
  ac x7 (Instr.index cQ (.string ka) J) aa λt50=>
  ac x7 (Instr.index cQ (.string ka) (.int .u32 t)) aa λA=>
  ac x7 (j9 cN (.slice (σ ⟨g,o,ν⟩) n c) I) aa λt53=>
  aE x7 (o8 cJ t53 t50) aa λ(_:Unit)a=>
   (Ext aa a\/cD x7 (Instr.index cQ (.string ka) (.int .u32 t)) A a/\cD x7 (aO .sub ah false true (Δ (nd:Int)) (Δ e)) z a/\True)/\
  ac x7 (j9 cN (.slice (σ ⟨g,o,ν⟩) n c) z) a λL=>
   aE x7 (o8 cJ L A) a λ(_:Unit)s=>K s:=by
 subst G;intro aa B _ _;have M:ai (λr=>r=g) w aa:=B.ab _;have N:kb aa g o f C h:=⟨y.1.ext B,y.2⟩;rw[dN,wrap_i64 Ω Ω,dN,wrap_i64 Ω Ω,aN,wrap_u32 Ω Ω];rw[show((2*q:Nat):Int)+1=((2*q+1:Nat):Int) by omega];have U:=Cr;rw[tD cQ.u (by rw[U];omega),tD cQ.u (by rw[U];omega)];rw[(wN p).1,(wN p).2,wO h1 F];refine wP N Ω λa O P=>⟨.inr ⟨ly λK=>?_,ly λK=>?_,trivial⟩,?_⟩
 .rw[tD cQ.u (by rw[U];omega),(wN p).1]
 .rw[dN,wrap_i64 Ω Ω]
 .rw[wO E Ω];refine wP P Θ λs Q R=>H s ((M.trans O).trans Q) ?_;have S:48+((q % 10:Nat):Int)=((48+q % 10:Nat):Int):=Ω
  have V:48+((q / 10:Nat):Int)=((48+q / 10:Nat):Int):=Ω
  rw[S,V];exact R
def gI.pair{a:Λ}{nd u q:Nat}(h:gI a C (nd+2) u)(e:q=u % 100):gI a ((C.set (nd+1) (48+((q % 10:Nat):Int))).set nd (48+((q / 10:Nat):Int))) nd (u / 100):=by
 have:=h.two;rw[show u % 10=q % 10 by omega,show u / 10 % 10=q / 10 by omega]at this;exact this
def ou{k:o7}{b:Nat}(e:b≠0):ac x7 (aO .rem t cx cy (.int k (a:Int)) (.int k (b:Int))) w K=K (.int k ((a % b:Nat):Int)):=by
 rw[sS Ω,Int.tmod_eq_emod_of_nonneg Ω,Int.natCast_emod]
def u32_quo{b:Nat}(e:b≠0)(f:a<4294967296):ac x7 (aO .quo t cx cy (.int .u32 (a:Int)) (.int .u32 (b:Int))) w K=K (.int .u32 ((a / b:Nat):Int)):=by
 have:=Nat.div_le_self a b;rw[sR Ω,Int.tdiv_eq_ediv_of_nonneg Ω,<-Int.natCast_ediv];generalize a / b=m at this ⊢;rw[wrap_u32 Ω Ω]
def u64_quo{b:Nat}(e:b≠0)(f:a<18446744073709551616):ac x7 (aO .quo t cx cy (.int .u64 (a:Int)) (.int .u64 (b:Int))) w K=K (.int .u64 ((a / b:Nat):Int)):=by
 have:=Nat.div_le_self a b;rw[sR Ω,Int.tdiv_eq_ediv_of_nonneg Ω,<-Int.natCast_ediv];generalize a / b=m at this ⊢;rw[wrap_u64 Ω Ω]
def ov{b:Nat}(f:a*b<4294967296):ac x7 (aO .mul t cx cy (.int .u32 (a:Int)) (.int .u32 (b:Int))) w K=K (.int .u32 ((a*b:Nat):Int)):=by
 have e:(a:Int)*(b:Int)=((a*b:Nat):Int):=Ξ
 rw[h9,e];generalize a*b=m at f ⊢;rw[wrap_u32 Ω Ω]
def gI.start{u:Nat}(h:C.length=N):gI (gV N u) C N u:=⟨by rw[rb];omega,by rw[rb,h],[],by rw[List.drop_eq_nil_iff];omega,Ξ⟩
def Mt{g o c u:Nat}{E G:Λ}(ag:kb w g o E C G)(ah:C.length=N)(aw:N<=19)(hu:u<10 ^ N):
  am x7 JZ [.slice (σ ⟨g,o,ν⟩) N c,.int .u64 (u:Int)] w λv w'=>v= .tuple #[]/\ai (λr=>r=g) w w'/\kb w' g o E (gV N u) G:=by
 have s:=rb N u;apply az func310;rw[hI cN.u];refine⟨λaj P V=>∃eX nd:Nat,aj= .int .u64 (eX:Int)/\P=Δ (nd:Int)/\eX<10 ^ nd/\nd<=N/\ai (λr=>r=g) w V/\∃H,kb V g o E H G/\gI (gV N u) H nd eX,
  λ_ P _=>(bW P).toNat,⟨u,N,T,T,hu,o4 _,ai.refl _ _,C,ag,gI.start ah⟩,?_⟩
 rintro _ _ V ⟨eX,nd,rfl,rfl,I,x,Q,H,R,ae⟩;have ab:H.length=N:=by rw[ae.2.1,s]
 have ax:(10:Nat) ^ nd<=10 ^ 19:=S2 Ω Ω;have ak:eX<18446744073709551616:=Ω
 have ay:(8:Int)=((8:Nat):Int):=rfl;rw[cO,al];refine⟨λan=>?_,λan=>?_⟩
 .obtain⟨m,rfl⟩:∃m,nd=m+8:=⟨nd-8,Ω⟩;have aB:eX % 100000000<100000000:=Nat.mod_lt _ Ω;rw[show V6 .u64 100000000=V6 .u64 ((100000000:Nat):Int)from T,ou Ω,fq fL.u po.u,wrap_u32 Ω Ω,u64_quo Ω ak];rw[show V6 .u32 10000=V6 .u32 ((10000:Nat):Int)from T,show V6 .u32 100=V6 .u32 ((100:Nat):Int)from T,show V6 .u32 2=V6 .u32 ((2:Nat):Int)from T];rw[u32_quo Ω Ω,ou Ω,u32_quo Ω Ω,ov Ω,ou Ω,ov Ω,u32_quo Ω Ω,ov Ω,ou Ω,ov Ω];refine ot (i:=m+6) (q:=eX % 100000000 % 10000 % 100) R ab Ω x Ω Ω Ω Ω Ω λaa z A=>?_;have f:=ae.pair (q:=eX % 100000000 % 10000 % 100) Ω;have J:=f.2.1.trans s;refine ot (i:=m+4) (q:=eX % 100000000 % 10000 / 100) A J Ω x Ω Ω Ω Ω Ω λB p h=>?_;have e:=gI.pair (nd:=m+4) (q:=eX % 100000000 % 10000 / 100) f Ω;have ac:=e.2.1.trans s;refine ot (i:=m+2) (q:=eX % 100000000 / 10000 % 100) h ac Ω x Ω Ω Ω Ω Ω λao S M=>?_;have ad:=gI.pair (nd:=m+2) (q:=eX % 100000000 / 10000 % 100) e Ω;have ap:=ad.2.1.trans s;refine ot (i:=m) (q:=eX % 100000000 / 10000 / 100) M ap Ω x Ω Ω Ω Ω Ω λaC aq au=>?_;have af:=gI.pair (nd:=m) (q:=eX % 100000000 / 10000 / 100) ad Ω;rw[dN,wrap_i64 Ω Ω];refine⟨⟨eX / 100000000,m,T,by congr 1;omega,?_,Ω,(((Q.trans z).trans p).trans S).trans aq,_,au,?_⟩,by simp only[bW];omega⟩
  .rw[Nat.pow_add]at I;exact Nat.div_lt_of_lt_mul (by rw[Nat.mul_comm];exact I)
  .rw[show eX / 100 / 100 / 100 / 100=eX / 100000000 by omega]at af;exact af
 .have aD:nd<8:=Ω
  have aE:(10:Nat) ^ nd<=10 ^ 7:=S2 Ω Ω;rw[fq fL.u po.u,wrap_u32 Ω Ω];refine gQ (λa b aa=>∃eY m:Nat,a=Δ (m:Int)/\b= .int .u32 (eY:Int)/\eY<10 ^ m/\m<4/\m<=N/\ai (λr=>r=g) w aa/\∃O,kb aa g o E O G/\gI (gV N u) O m eY) ?_ ?_
  rotate_left
  .intro aA K;rw[cO,al];refine⟨λU=>?_,λU=>K _ _ _ ⟨eX,nd,T,T,I,Ω,x,Q,H,R,ae⟩⟩;obtain⟨m,rfl⟩:∃m,nd=m+4:=⟨nd-4,Ω⟩;rw[show V6 .u32 10000=V6 .u32 ((10000:Nat):Int)from T,show V6 .u32 100=V6 .u32 ((100:Nat):Int)from T,show V6 .u32 2=V6 .u32 ((2:Nat):Int)from T];rw[ou Ω,u32_quo Ω Ω,u32_quo Ω Ω,ov Ω,ou Ω,ov Ω];refine ot (i:=m+2) (q:=eX % 10000 % 100) R ab Ω x Ω Ω Ω Ω Ω λaa z A=>?_;have f:=ae.pair (q:=eX % 10000 % 100) Ω;have J:=f.2.1.trans s;refine ot (i:=m) (q:=eX % 10000 / 100) A J Ω x Ω Ω Ω Ω Ω λB p h=>?_;have e:=gI.pair (nd:=m) (q:=eX % 10000 / 100) f Ω;rw[dN,wrap_i64 Ω Ω];refine K _ _ _ ⟨eX / 10000,m,by congr 1;omega,T,?_,Ω,Ω,(Q.trans z).trans p,_,h,?_⟩
   .rw[Nat.pow_add]at I;exact Nat.div_lt_of_lt_mul (by rw[Nat.mul_comm];exact I)
   .rw[show eX / 100 / 100=eX / 10000 by omega]at e;exact e
  rintro _ _ aa ⟨eY,m,rfl,rfl,W,aF,X,z,O,A,f⟩;have J:=f.2.1.trans s;have aG:(10:Nat) ^ m<=10 ^ 3:=S2 Ω Ω;refine gQ (λa b B=>∃L m:Nat,a=Δ (m:Int)/\b= .int .u32 (L:Int)/\L<10 ^ m/\m<2/\m<=N/\ai (λr=>r=g) w B/\∃Y,kb B g o E Y G/\gI (gV N u) Y m L) ?_ ?_
  rotate_left
  .intro aA K;rw[cO,al];refine⟨λU=>?_,λU=>K _ _ _ ⟨eY,m,T,T,W,Ω,X,z,O,A,f⟩⟩;obtain⟨m,rfl⟩:∃b2,m=b2+2:=⟨m-2,Ω⟩;rw[show V6 .u32 100=V6 .u32 ((100:Nat):Int)from T,show V6 .u32 2=V6 .u32 ((2:Nat):Int)from T];rw[ou Ω,ov Ω,u32_quo Ω Ω];refine ot (i:=m) (q:=eY % 100) A J Ω X Ω Ω Ω Ω Ω λB p h=>?_;have e:=f.pair (q:=eY % 100) T;rw[dN,wrap_i64 Ω Ω];refine K _ _ _ ⟨eY / 100,m,by congr 1;omega,T,?_,Ω,Ω,z.trans p,_,h,e⟩;rw[Nat.pow_add]at W;exact Nat.div_lt_of_lt_mul (by rw[Nat.mul_comm];exact W)
  rintro _ _ B ⟨L,m,rfl,rfl,Z,aH,X,p,Y,h,e⟩;have ac:=e.2.1.trans s;rw[bJ,al];refine⟨λav=>?_,λav=>?_⟩
  .obtain rfl:m=1:=Ω
   have Z:L<10:=by simpa using Z
   rw[aN,wrap_u32 Ω Ω,fq po.u cJ.u,wrap_u8 Ω Ω,wO (y:=0) (i:=0) T Ω];refine wP h Ω λao S M=>?_;have:=e.one;rw[Nat.mod_eq_of_lt Z]at this;rw[this]at M;exact⟨T,p.trans S,M⟩
  .obtain rfl:m=0:=Ω
   rw[e.zero]at h;exact⟨T,p,h⟩
def re:Λ:=[1,10,100,1000,10000,100000,1000000,10000000,100000000,1000000000,10000000000,100000000000,1000000000000,10000000000000,100000000000000,1000000000000000,10000000000000000,100000000000000000,1000000000000000000,10000000000000000000]
def fa(w:x3):Prop:=w.rangeAt 1 0 (ints .u64 re)
def fa.ext(h:fa w)(J:Ext w w'):fa w':=nY J h
def Mu:∀k:Nat,k<20->re[k]?=σ (((10 ^ k:Nat)):Int):=Φ
def Cs{s:Nat}(h:2 ^ s<=n):ek n=s+ek (n / 2 ^ s):=by
 have U:=Nat.two_pow_pos s;have h1:n / 2 ^ s≠0:=by have:=Nat.div_pos h U;omega
 have f:n≠0:=Ω
 unfold ek;rw[if_neg f,if_neg h1];have e:Nat.log2 n=Nat.log2 (n / 2 ^ s)+s:=by
  refine(Nat.log2_eq_iff f).2 ⟨?_,?_⟩
  .rw[Nat.pow_add];have:=X9 (2 ^ s) (Nat.log2_self_le h1);have:=Nat.div_mul_le_self n (2 ^ s);omega
  .have p:=Nat.lt_log2_self (n:=n / 2 ^ s);rw[show Nat.log2 (n / 2 ^ s)+s+1=(Nat.log2 (n / 2 ^ s)+1)+s by omega,Nat.pow_add];have:=X9 (2 ^ s) (show n / 2 ^ s+1<=2 ^ (Nat.log2 (n / 2 ^ s)+1) by omega);have q:=Nat.lt_div_mul_add U (a:=n);rw[U3]at this;omega
 omega
def rf:ByteArray:=⟨#[0,1,2,2,3,3,3,3,4,4,4,4,4,4,4,4,5,5,5,5,5,5,5,5,5,5,5,5,5,5,5,5,6,6,6,6,6,6,6,6,6,6,6,6,6,6,6,6,6,6,6,6,6,6,6,6,6,6,6,6,6,6,6,6,7,7,7,7,7,7,7,7,7,7,7,7,7,7,7,7,7,7,7,7,7,7,7,7,7,7,7,7,7,7,7,7,7,7,7,7,7,7,7,7,7,7,7,7,7,7,7,7,7,7,7,7,7,7,7,7,7,7,7,7,7,7,7,7,8,8,8,8,8,8,8,8,8,8,8,8,8,8,8,8,8,8,8,8,8,8,8,8,8,8,8,8,8,8,8,8,8,8,8,8,8,8,8,8,8,8,8,8,8,8,8,8,8,8,8,8,8,8,8,8,8,8,8,8,8,8,8,8,8,8,8,8,8,8,8,8,8,8,8,8,8,8,8,8,8,8,8,8,8,8,8,8,8,8,8,8,8,8,8,8,8,8,8,8,8,8,8,8,8,8,8,8,8,8,8,8,8,8,8,8,8,8,8,8,8,8,8,8,8,8,8,8]⟩
def Mv:rf.size=256:=by decide+kernel
def Mw:∀q:Fin 256,rf.data.toList[q.val]?=σ (UInt8.ofNat (ek q.val)):=by decide+kernel
def Mx{q:Nat}(a:q<256):∀h,(rf[q]'h).toNat=ek q:=λh=>by
 have h1:=Mw ⟨q,a⟩;have e:=(x4.1 h1).2;have:rf[q]=UInt8.ofNat (ek q):=e;have f:=Cp a;rw[this,UInt8.toNat_ofNat'];omega
def My(E:n<18446744073709551616):am x7 ID [.int .u64 (n:Int)] w λv w'=>v=Δ (ek n:Int)/\Ext w w':=by
 apply az func172;have step:∀{s x m:Nat}{aA:x1->x1->x3->Prop}{y c:Int},s<64->x<18446744073709551616->m+ek x=ek n->m<=64->y=(2 ^ s:Nat)->c=(s:Int)->2 ^ s<=18446744073709551615->(∀a b2:Nat,a<2 ^ s\/(a=x / 2 ^ s/\b2=m+s)->a<=x->b2+ek a=ek n->b2<=m+s->aA (.int .u64 (a:Int)) (Δ (b2:Int)) w)->
   ac x7 (aO .geq fL false true (.int .u64 (x:Int)) (.int .u64 y)) w λt4=>
    Split t4 (ac x7 (aO .shr fL false true (.int .u64 (x:Int)) (.int .u64 c)) w λr=>ac x7 (aO .add ah false true (Δ (m:Int)) (Δ c)) w λz=>aA r z w) (aA (.int .u64 (x:Int)) (Δ (m:Int)) w):=by
  intro s x m aA y c U J hm G A B p e;subst A B;rw[cO,al];refine⟨λh=>?_,λh=>e x m (.inl Ω) (o4 _) hm Ω⟩;rw[lq U,aN,wrap_i64 Ω Ω];have:=Cs (n:=x) (s:=s) Ω;have:=e (x / 2 ^ s) (m+s) (.inr ⟨T,T⟩) (Nat.div_le_self _ _) Ω Ω;exact this
 refine gQ (λx m V=>w=V/\∃a b2:Nat,x= .int .u64 (a:Int)/\m=Δ (b2:Int)/\a<4294967296/\b2+ek a=ek n/\b2<=32) ?_ ?_
 rotate_left
 .intro aA e;rw[cO,al];refine⟨λh=>?_,λh=>e _ _ _ ⟨T,n,0,T,T,Ω,Ω,Ω⟩⟩;rw[show V6 .u64 32=V6 .u64 ((32:Nat):Int)from T,lq Ω];have:=Cs (n:=n) (s:=32) Ω;exact e _ _ _ ⟨T,n / 2 ^ 32,32,T,T,Ω,Ω,Ω⟩
 rintro _ _ _ ⟨rfl,x,m,rfl,rfl,J,hm,q⟩;refine gQ (λx m V=>w=V/\∃a b2:Nat,x= .int .u64 (a:Int)/\m=Δ (b2:Int)/\a<65536/\b2+ek a=ek n/\b2<=48) ?_ ?_
 rotate_left
 .intro aA e;refine step (s:=16) Ω Ω hm Ω Ω Ω Ω λa b2 h1 p f C=>e _ _ _ ⟨T,a,b2,T,T,?_,f,Ω⟩;rcases h1 with h1|⟨h1,_⟩<;>omega
 rintro _ _ _ ⟨rfl,x,m,rfl,rfl,J,hm,q⟩;refine gQ (λx m V=>w=V/\∃a b2:Nat,x= .int .u64 (a:Int)/\m=Δ (b2:Int)/\a<256/\b2+ek a=ek n/\b2<=56) ?_ ?_
 rotate_left
 .intro aA e;refine step (s:=8) Ω Ω hm Ω Ω Ω Ω λa b2 h1 p f C=>e _ _ _ ⟨T,a,b2,T,T,?_,f,Ω⟩;rcases h1 with h1|⟨h1,_⟩<;>omega
 rintro _ _ _ ⟨rfl,x,m,rfl,rfl,J,hm,q⟩;have U:=Mv;have H:=Cp J;rw[fq fL.u cJ.u,wrap_u8 Ω Ω];refine(tD (s:=rf) cQ.u (by rw[U];omega)).mpr ?_;rw[Mx J,fq cJ.u ah.u,wrap_i64 Ω Ω,aN,wrap_i64 Ω Ω];exact⟨by congr 1;omega,Ext.refl _⟩
def Ct{k:o7}(f:n<64):ac x7 (aO .shr t cx cy (Δ (a:Int)) (.int k (n:Int))) w K=K (Δ ((a / 2 ^ n:Nat):Int)):=ac.of λw' _=>by
 have e:(a:Int).fdiv (2 ^ min n X6.bits)=((a / 2 ^ n:Nat):Int):=by
  have:min n X6.bits=n:=Nat.min_eq_left (by show n<=64;omega);rw[this,Int.fdiv_eq_ediv_of_nonneg _ (by exact Int.le_of_lt (Int.pow_pos Ω))];simp
 simp only[aO,eqGuard,binOp,Op.shift,u7,e];rfl
def Mz:∀L:Fin 64,7<=L.val->2 ^ L.val<=10 ^ (L.val*78913 / 262144+1)/\10 ^ (L.val*78913 / 262144)<=10*2 ^ (L.val-1)/\1<=L.val*78913 / 262144/\L.val*78913 / 262144<19:=by decide+kernel
def MA{d:Nat}(z:fa w)(h1:100<=d)(G:d<9223372036854775808):am x7 JY [.int .u64 (d:Int)] w λv w'=>Ext w w'/\∃n:Nat,v=Δ ((n+1:Nat):Int)/\n<19/\10 ^ n<=d/\d<10 ^ (n+1):=by
 have p:d≠0:=Ω
 have q:ek d=Nat.log2 d+1:=by unfold ek;rw[if_neg p]
 have H:2 ^ (ek d-1)<=d:=by rw[q];exact Nat.log2_self_le p
 have I:d<2 ^ ek d:=by rw[q];exact Nat.lt_log2_self
 have A:7<=ek d:=by
  by_cases h:7<=ek d
  .exact h
  .have:2 ^ ek d<=2 ^ 6:=S2 Ω Ω;omega
 have B:ek d<64:=by
  by_cases h:ek d<64
  .exact h
  .have:2 ^ 63<=2 ^ (ek d-1):=S2 Ω Ω;omega
 have⟨C,r,t3,t4⟩:=Mz ⟨ek d,B⟩ A;simp only at C r t3 t4;apply az func309;apply(My Ω).mono;rintro _ V _ ⟨rfl,a⟩;generalize ek d=L at*;refine am.mono (K:=λv aa=>v=Δ ((L*78913 / 262144:Nat):Int)/\Ext V aa) ?_ ?_
 .refine az func330 ?_;rw[h9,wrap_i64 Ω Ω,show V6 .u64 18=V6 .u64 ((18:Nat):Int)from T,show(L:Int)*78913=((L*78913:Nat):Int) by omega,Ct Ω];exact⟨T,Ext.refl _⟩
 rintro _ aa _ ⟨rfl,e⟩;generalize L*78913 / 262144=t at*;have E:=Mu t Ω;rw[sT (t:=sQ) sQ.u fL.i Ω,ax Ψ (by rw[U2];exact((z.ext a).ext e) _ _ (lk E)),cO];refine am.mono (K:=λv x=>v=Δ ((if 10 ^ t<=d then 1 else 0:Nat):Int)/\Ext aa x) ?_ ?_
 .refine az func331 ?_;rw[al];refine⟨λh=>⟨by rw[if_pos Ω];rfl,Ext.refl _⟩,λh=>⟨by rw[if_neg Ω];rfl,Ext.refl _⟩⟩
 rintro _ x _ ⟨rfl,y⟩;rw[aN];by_cases f:10 ^ t<=d
 .rw[if_pos f,wrap_i64 Ω Ω];exact⟨(a.trans e).trans y,t,by congr 1,t4,f,Ω⟩
 .rw[if_neg f,wrap_i64 Ω Ω];obtain⟨s,rfl⟩:∃s,t=s+1:=⟨t-1,Ω⟩;rw[Nat.pow_succ]at r;exact⟨(a.trans e).trans y,s,by congr 1,Ω,Ω,Ω⟩
def Cu{k a:o7}{x:Int}{i:Nat}{s:ByteArray}(J:x=(i:Int))(e:y=(j:Int))(f:x7.underlying t=σ .string)(p:i<=j)(q:j<=s.size):
  ac x7 (V9 t (.string s) (σ (.int k x)) (σ (.int a y)) ν) w K=K (.string (s.extract i j)):=ac.of λw' _=>by
 subst J e;have r:=sU (P:=x7) w' (sl:=false) (n:=s.size) (c:=s.size) (low:=σ (.int k (i:Int))) (high:=σ (.int a (j:Int))) (mx:=ν) (l:=i) (h:=j) (m:=s.size) ⟨k,T⟩ ⟨a,T⟩ fh p q (o4 _);simp[V9,Instr.slice,run_underlying f,r]
def MB:∀q:Fin 100,ka.extract (2*q.val) (2*q.val+2)=strOfNums [48+((q.val / 10:Nat):Int),48+((q.val % 10:Nat):Int)]:=by decide+kernel
def Cv:ByteArray:=⟨#[48,49,50,51,52,53,54,55,56,57,97,98,99,100,101,102,103,104,105,106,107,108,109,110,111,112,113,114,115,116,117,118,119,120,121,122]⟩
def MC:∀q:Fin 10,Cv.extract q.val (q.val+1)=strOfNums [48+(q.val:Int)]:=by decide+kernel
def Cw(h:n<10):ft n=[48+(n:Int)]:=by rw[oe,if_pos h,Nat.mod_eq_of_lt h];rfl
def MD(h1:10<=n)(a:n<100):ft n=[48+((n / 10:Nat):Int),48+((n % 10:Nat):Int)]:=by
 rw[oe,if_neg Ω,Cw Ω];rfl
def ME(a:n<100):am x7 JX [Δ (n:Int)] w λv w'=>v=bL (ft n)/\Ext w w':=by
 apply az func308;rw[aP,al];refine⟨λh=>?_,λh=>?_⟩
 .rw[aN,wrap_i64 Ω Ω];refine(Cu (s:=Cv) (i:=n) (j:=n+1) T Ω cQ.u Ω (by show n+1<=36;omega)).mpr ?_;rw[MC ⟨n,Ω⟩,Cw Ω];exact⟨T,Ext.refl _⟩
 .rw[h9,wrap_i64 Ω Ω,h9,wrap_i64 Ω Ω,aN,wrap_i64 Ω Ω];refine(Cu (s:=ka) (i:=2*n) (j:=2*n+2) Ω Ω cQ.u Ω (by rw[Cr];omega)).mpr ?_;rw[MB ⟨n,a⟩,MD Ω a];exact⟨T,Ext.refl _⟩
def MF{g:Nat}{e f:Λ}(a:kb w g 1 e C f)(h:C.length<=23):aI .u8 w (.slice (σ ⟨g,1,ν⟩) C.length 23) C:=by
 have⟨a,p⟩:=a;refine⟨Ξ,g,1,_,23,T,h,by simp[maxLen],λ_=>rfl,λj v ad=>?_⟩;have q:j<C.length:=by have:=(x4.1 ad).1;simpa using this
 apply a.cell;rw[ints,Z4,Z4,Y6 Θ,Y8 Θ,r8,p,R6];exact ad
def Cx{g m:Nat}(a:y=((m+2:Nat):Int))(hm:m<=22):
  ac x7 (V9 mU (Γ g) (σ (Δ 1)) (σ (Δ y)) ν) w K=K (.slice (σ ⟨g,1,ν⟩) (m+1) 23):=by
 subst a;have:=sV (w:=w) (b:=g) (o:=0) (low:=σ (Δ 1)) (high:=σ (Δ ((m+2:Nat):Int))) (mx:=ν) (l:=1) (h:=m+2) (m:=24) (K:=K) mU.u cJ.i ⟨_,T⟩ ⟨_,T⟩ fh Ω Ω Ω;rw[this,if_neg Ω];rfl
def MG(s:fa w)(x:n<9223372036854775808):am x7 JS [Δ (n:Int),Δ 10] w λv w'=>v=bL (ft n)/\Ext w w':=by
 apply az func296;rw[be];refine(al).mpr ⟨λ_=>?_,λh=>absurd T h⟩;refine aV (λv V=>w=V/\v= .bool (decide (n<100))) ?_ ?_
 rotate_left
 .intro aA a;rw[mV,al];refine⟨λ_=>?_,λh=>Ω⟩;rw[aP];exact a _ _ ⟨T,by congr 1;rw[U1,decide_eq_true_eq,decide_eq_true_eq];omega⟩
 rintro _ _ ⟨rfl,rfl⟩;rw[al];refine⟨λh=>?_,λh=>?_⟩
 .exact (ME h).mono λ_ _ _ h=>h
 refine bu mU.i λg V G f y=>?_;rw[fq aq.u fL.u,wrap_u64 Ω Ω];refine aV (λv aa=>V=aa/\v= .int .u64 (n:Int)) ?_ ?_
 rotate_left
 .intro aA a;rw[aP,al];exact⟨λh=>Ω,λ_=>a _ _ ⟨T,T⟩⟩
 rintro _ _ ⟨rfl,rfl⟩;apply(MA (s.ext f) Ω x).mono;rintro _ aa _ ⟨p,m,rfl,hm,z,q⟩;rw[aN,wrap_i64 Ω Ω];rw[Cx (m:=m) Ω Ω];have A:kb aa g 1 [0] (p8 (m+1) 0) (p8 (22-m) 0):=by
  refine⟨?_,T⟩;have e:[0]++p8 (m+1) (0:Int)++p8 (22-m) 0=p8 24 0:=by
   rw[show[(0:Int)]=p8 1 0 from T,List.replicate_append_replicate,List.replicate_append_replicate];congr 1;omega
  rw[e];exact y.ext p
 apply(Mt (N:=m+1) A Ξ Ω q).mono;rintro _ H _ ⟨rfl,B,C⟩;apply b4 Ω;rw[aN,wrap_i64 Ω Ω];rw[Cx (m:=m) Ω Ω];have E:=rb (m+1) n;have U:=MF C Ω;rw[E]at U;rw[wc cN.u cJ.u cQ.u U,Cq m n z q];refine⟨T,(f.trans p).then B λr I he=>?_⟩;have he:r=g:=he;omega
def MH(a:fa w)(e:n<9223372036854775808):am x7 vI [Δ (n:Int)] w λv w'=>v=bL (ft n)/\Ext w w':=by
 apply az func233;refine am.mono (K:=λv w'=>v=bL (ft n)/\Ext w w') ?_ (λ_ _ _ h=>h);apply az func272;exact(MG a e).mono λ_ _ _ h=>h
def fa.ab(h:fa w)(J:ai S w w')(a:¬S 1):fa w':=jw J a h
def ds(w:x3)(g gs:Nat)(A:ak)(B:ak)(clean:Bool)(s:Option aF):Prop:=match s with
 |some s=>dp w g gs A B s clean
 |none=>eE w g gs A B
def gk.of{g:Nat}{A:ak}{B:ak}{s:Option aF}(h:gk w g gs A B clean s w'):ai (bG g gs A) w w'/\ds w' g gs A B clean s:=h
def gk.mk{g:Nat}{A:ak}{B:ak}{s:Option aF}(h:ai (bG g gs A) w w')(a:ds w' g gs A B clean s):gk w g gs A B clean s w':=⟨h,a⟩
def ds.ab{g:Nat}{A:ak}{B:ak}{s:Option aF}(h:ds w g gs A B clean s)(J:ai S w w')(a:∀r,bG g gs A r->¬S r)(e:∀r,cH g gs A B r->¬S r):ds w' g gs A B clean s:=by
 cases s with
 |none=>exact eE.ab (g:=g) (gs:=gs) (A:=A) (B:=B) h J a e
 |some s=>exact dp.ab (g:=g) (gs:=gs) (A:=A) (B:=B) (s:=s) (clean:=clean) h J a e
def ds.ext{g:Nat}{A:ak}{B:ak}{s:Option aF}(h:ds w g gs A B clean s)(J:Ext w w'):ds w' g gs A B clean s:=h.ab (J.ab λ_=>False) (λ_ _ h=>h) λ_ _ h=>h
def ds.side{g:Nat}{A:ak}{B:ak}{s:Option aF}(h:ds w g gs A B clean s):lu w g gs A B:=by
 cases s with
 |none=>exact h.1
 |some s=>exact h.1
def bf(lo hi:Int)(s:Option aF):Option (Int×aF):=s.bind (bh lo hi)
def mq{g:Nat}{A:ak}{B:ak}{s:Option aF}(h:ds w g gs A B clean s):am x7 nR [Γ g,Δ lo,Δ hi] w λv w'=>gk w g gs A B clean ((bf lo hi s).map (·.2)) w'/\∃n at_:Int,v= .tuple #[Δ n,Δ at_]/\(∀q,bf lo hi s=σ q->n=q.1)/\(bf lo hi s=ν->n=0):=by
 cases s with
 |none=>
  apply(Lz h).mono;rintro _ V _ ⟨J,rfl⟩;exact⟨⟨J.ab _,eE.ext (g:=g) (gs:=gs) (A:=A) (B:=B) h J⟩,0,0,T,λq h=>(by cases h),λ_=>rfl⟩
 |some s=>exact wy (s:=s) h
def pP{g:Nat}{A:ak}{B:ak}{s:Option aF}(h:ds w g gs A B clean s):am x7 ld [Γ g] w λv w'=>v= .bool s.isSome/\Ext w w':=by
 cases s with
 |none=>exact ol h
 |some s=>exact pG h
def MI{g:Nat}{A:ak}{B:ak}{s:Option aF}{e:Int}(h:ds w g gs A B clean s)(he:e≠0):am x7 nS [Γ g,Δ e,Δ at_] w λ_ w'=>gk w g gs A B clean ν w':=by
 cases s with
 |none=>
  apply(Lx h).mono;rintro _ V _ J;exact⟨J.ab _,eE.ext (g:=g) (gs:=gs) (A:=A) (B:=B) h J⟩
 |some s=>
  apply(tp (s:=s) h he).mono;rintro _ V _ ⟨a,f⟩;exact⟨a.mono λr _ h=>.inl h,f⟩
def rg{g:Nat}{A:ak}{B:ak}{s:Option aF}{b:Bool}(h:ds w g gs A B clean s):am x7 qB [Γ g,.bool b,Δ at_] w λ_ w'=>gk w g gs A B clean (s.map (bb b)) w':=by
 cases s with
 |none=>
  apply(BU h).mono;rintro _ V _ J;exact⟨J.ab _,eE.ext (g:=g) (gs:=gs) (A:=A) (B:=B) h J⟩
 |some s=>
  apply(tq (s:=s) h).mono;rintro _ V _ ⟨a,e⟩;exact⟨a.mono λr _ h=>.inl h,e⟩
def ni{n:Int}{s:Option aF}{s':aF}(h:bf lo hi s=σ (n,s')):lo<=n/\n<=hi:=by
 cases s with
 |none=>cases h
 |some s=>exact(ib h).1
def fb(ks acc:Λ)(s:Option aF):Option (Λ×aF):=s.bind (iY ks acc)
def Cy{acc:Λ}{s:Option aF}:fb (k::ks) acc s=match bf 0 (k-1) s with
  |none=>ν
  |some (v,s)=>iY ks (acc++[v]) s:=by
 cases s with
 |none=>rfl
 |some s=>
  show iY (k::ks) acc s=_;rw[iY];show _=match bh 0 (k-1) s with|none=>ν|some (v,s)=>iY ks (acc++[v]) s
  cases bh 0 (k-1) s<;>rfl
theorem Cz:∀(t:Λ),(∀x∈t,0<=x/\x<=aw)->(ee t).length<=20*t.length
 |[],_=>by simp[ee]
 |x::t,h=>by
  have f:=Cz t λy a=>h y (.tail _ a);have J:=h x (.head _);have p:=wh 19 x.toNat (by unfold aw at J;omega) Ω;have e:ee (x::t)=ft x.toNat++[32]++ee t:=by simp[ee]
  rw[e];simp only[r9,b6,List.length_nil];omega
def MJ{g ao:Nat}{A B:ak}{s:Option aF}{Z:x1->x3->Prop}(h:ds w g gs A B clean s)(ae:aI .i64 w sv sizes)(aP:∀r,leads sv r->¬bG g gs A r/\r≠ao)(aQ:∀z∈sizes,1<=z/\z<=aw)(bO:sizes.length<=100001)(aR:fa w)(h1:cH g gs A B 1)(af:ag w ao ed [.slice ν 0 0,Δ 0])(aj:¬bG g gs A ao)(al:¬B ao)(an:∀t w' aM gt,t.length=sizes.length->(∀x∈t,0<=x/\x<=aw)->ai (λr=>bG g gs A r\/r=ao) w w'->ag w' ao ed [aM,Δ 0]->av .i64 aq w' gt aM t->w.heap.size<=gt->
   ds w' g gs A B clean ((fb sizes [] s).map (·.2))->(∀q,fb sizes [] s=σ q->t=q.1)->Z (bL (ee t)) w'):
  bT (.string ⟨#[]⟩) (Δ 0) w λkey R y aS=>
   ac x7 (aO .lss ah false false R (Δ (sizes.length:Int))) y λaT=>
   Split aT (ac x7 (j9 ay sv R) y λaV=>
   ac x7 (u5 aq aV) y λaW=>
   ac x7 (aO .sub aq false true aW (Δ 1)) y λaX=>
   am x7 nR [Γ g,(Δ 0),aX] y λap E=>
   ac x7 (Y0 ap 0) E λau=>
   ac x7 (Y0 ap 1) E λbP=>
   ac x7 (u6 ed (Γ ao) 0) E λaY=>
   ac x7 (u5 ay aY) E λaZ=>
   aE x7 (Y5 ay 1 #[(0,au)]) E λa1 a2=>
   aE x7 (Z0 #[ay,ay] ay #[aZ,a1]) a2 λa6 ax=>
   ac x7 (u6 ed (Γ ao) 0) ax λa7=>
   aE x7 (o8 ay a7 a6) ax λ(_:Unit)a8=>
   am x7 vI [au] a8 λba I=>
   ac x7 (aO .add cQ false true ba (.string ⟨#[32]⟩)) I λbb=>
   ac x7 (aO .add cQ false false key bb) I λbd=>
   ac x7 (aO .add ah false true R (Δ 1)) I λbe=>
   aS bd be I) (Z key y):=by
 have bQ:=af.lt;have bg:=h.side;have⟨bR,bS,bU,bh,bi⟩:=bg;refine bT.range sizes.length (λj key V=>∃t aM gt s1,key=bL (ee t)/\t.length=j/\(∀x∈t,0<=x/\x<=aw)/\ai (λr=>bG g gs A r\/r=ao) w V/\ag V ao ed [aM,Δ 0]/\av .i64 aq V gt aM t/\w.heap.size<=gt/\
  ds V g gs A B clean s1/\fb sizes [] s=fb (sizes.drop j) t s1) ae.le ⟨[],_,w.heap.size,s,T,T,λx J=>(by cases J),ai.refl _ _,af,av.nil _ _ _ _,o4 _,h,T⟩ ?_ ?_
 rotate_left
 .rintro _ V bj ⟨t,aM,gt,s1,rfl,K,G,C,L,M,S,N,he⟩;apply b4 Ω;rw[List.drop_length]at he;cases s1 with
  |none=>
   have he:fb sizes [] s=ν:=he;exact an t V aM gt K G C L M S (by rw[he];exact N) (λq e=>by rw[he]at e;cases e)
  |some s1=>
   have he:fb sizes [] s=σ (t,s1):=he;exact an t V aM gt K G C L M S (by rw[he];exact N) (λq e=>by rw[he]at e;cases e;rfl)
 rintro j _ V bj az ⟨t,aM,gt,s1,rfl,K,G,C,L,M,S,N,he⟩ bk;have⟨z,U⟩:=aH (l:=sizes) az;have bl:=aQ z (x5 U);have bV:z<=4611686018427387904:=bl.2;have bm:aI .i64 V sv sizes:=ia ae C λr f a n c ad bn=>by
  have:=aP r ⟨a,n,c,ad,bn⟩;exact f.elim this.1 this.2
 have gT:∀r,bG g gs A r->r<w.heap.size:=bh;apply bz Ω;rw[bc ay.u aq.i Ψ bm U,dN,wrap_i64 Ω Ω];apply(mq N).mono;rintro _ aa _ ⟨br,n,at_,rfl,aA,bt⟩;have⟨O,bu⟩:=br.of;have aB:0<=n/\n<=aw:=by
  cases e:bf 0 (z-1) s1 with
  |none=>rw[bt e];exact⟨Ω,by unfold aw;omega⟩
  |some q=>
   rw[aA q e];have:=ni (s':=q.2) (n:=q.1) e;exact⟨this.1,by unfold aw;omega⟩
 rw[bo,bp];have aC:=L.ab O aj;have bw:=M.ab O λ_ bx=>by have:=gT _ bx;omega
 rw[aL ed.p 0 aC T];refine eD ay.u aq.i T λa ga bA bW H bB=>?_;refine jA ay.u aq.i T (bw.ext H) bB.ls Θ Θ λaD aG bC bX W P=>?_;have bY:=C.size;have bZ:=O.size;have z3:=H.size;have z4:=P.size;rw[aU ed.p T];have bD:=(aC.ext H).ab P (λhe=>by have he:ao=gt:=he;omega);refine bq (g:=ao) (o:=0) ay.i W.ls.cells.1 W.ls.cells.2 bD Ξ λaJ X b0 Y=>?_;have Y:ag aJ ao ed [aD,Δ 0]:=Y;have bE:ai (λr=>bG g gs A r\/r=ao) w bA:=(C.trans (O.mono λr _ h=>.inl h)).trans (H.ab _);have bF:ai (λr=>bG g gs A r\/r=ao) w bC:=hQ bE P λr f he=>by have he:r=gt:=he;omega
 have aK:ai (λr=>bG g gs A r\/r=ao) w aJ:=bF.trans (X.mono λr _ h=>.inr h);have bH:¬(λr=>bG g gs A r\/r=ao) 1:=λh=>h.elim h1.1 λh=>al (h▸h1.2);obtain⟨m,rfl⟩:∃m:Nat,n=(m:Int):=⟨n.toNat,Ω⟩;unfold aw at aB;apply(MH (aR.ab aK bH) Ω).mono;rintro _ b1 _ ⟨rfl,Q⟩;have b2:=wh 19 m Ω Ω;have b3:=Cz t G;rw[show(ByteArray.mk #[32])=strOfNums [32]from T,wa Θ,wa Θ,aN];refine bk _ _ ⟨t++[(m:Int)],aD,aG,(bf 0 (z-1) s1).map (·.2),?_,by simp[K],λx J=>?_,aK.trans (Q.ab _),Y.ext Q,(W.ab X (λ_ he=>by have he:aG=ao:=he;omega)).ext Q,Ω,?_,?_⟩
 .rw[KR,u7]
 .rcases o5.1 J with J|J
  .exact G x J
  .rw[o9.1 J];exact aB
 .refine ds.ext ?_ Q;have bI:=bu.ext H;have bJ:∀r,bG g gs A r->¬(λr=>r=gt) r:=λr f he=>by have:=gT r f;have he:r=gt:=he;omega
  have bK:∀r,cH g gs A B r->¬(λr=>r=gt) r:=λr f he=>by have:=bi r f.2;have he:r=gt:=he;omega
  have bM:∀r,bG g gs A r->¬(λr=>r=ao) r:=λr f he=>by have he:r=ao:=he;exact aj (he▸f)
  have bN:∀r,cH g gs A B r->¬(λr=>r=ao) r:=λr f he=>by have he:r=ao:=he;exact al (he▸f.2)
  exact(bI.ab P bJ bK).ab X bM bN
 .rw[he,X4 az,show sizes[j]=z from(x4.1 U).2,Cy];cases e:bf 0 (z-1) s1 with
  |none=>rfl
  |some q=>
   rw[aA q e];rfl
def dV(s:aF):Prop:=s.big=false->s.told<=16384
def kc(n:Int)(s:aF):aF:=bb (decide (16384<min (s.told+n) aw)) {s with told:=min (s.told+n) aw}
def MK(n:Int)(s:aF):dV (kc n s):=λh=>by
 have h:(s.big||decide (16384<min (s.told+n) aw))=false:=h;have:=of_decide_eq_false (S8.1 h).2;show min (s.told+n) aw<=16384;omega
def ML{g:Nat}{A B:ak}{s:Option aF}{n:Int}{K:x3->Prop}(h:ds w g gs A B clean s)(N:∀t,s=σ t->0<=n/\n<=aw/\dV t)(I:∀w',ai (bG g gs A) w w'->ds w' g gs A B clean (s.map (kc n))->K w'):
  ac x7 (bQ (Γ g)) w λO=>
  ac x7 (u6 cj O 2) w λP=>
  ac x7 (u5 aq P) w λQ=>
  ac x7 (aO .add aq false false Q (Δ n)) w λR=>
  ac x7 (Z3.min_ #[aq,aq] aq #[R,(Δ 4611686018427387904)]) w λS=>
  ac x7 (bQ (Γ g)) w λW=>
  ac x7 (u6 cj W 2) w λX=>
  aE x7 (o8 aq X S) w λ(_:Unit)x=>
  ac x7 (bQ (Γ g)) x λt77=>
  ac x7 (u6 cj t77 2) x λY=>
  ac x7 (u5 aq Y) x λZ=>
  ac x7 (aO .gtr aq false true Z (Δ 16384)) x λad=>
  am x7 qB [Γ g,ad,Δ at_] x λ_ ae=>K ae:=by
 cases s with
 |none=>
  have⟨U,e,big,z,C,told,sv,l,y,E,G⟩:=id h;rw[aT cj.p 2 y T,aN,mg,bZ,aU cj.p T];refine bq (g:=g) (o:=5) aq.i T rfl y (by simp[fV]) λV a af f=>?_;rw[aT cj.p 2 f T,bJ];have J:eE V g gs A B:=⟨U.ab a,e,big,z,C,_,sv,l,f,E,au.ab G a λr _ h H=>tm h U.2.1 H⟩;apply(BU J).mono;rintro _ aa _ L;exact I _ ((a.mono λr _ h=>.inl h).trans (L.ab _)) (J.ext L)
 |some s=>
  have⟨av,ah,hi⟩:=N s T;have⟨U,aj,al,big,z,C,told,sv,y,E,G⟩:=id h;rw[aT cj.p 2 y T,aN,mg,bZ,aU cj.p T];refine bq (g:=g) (o:=5) aq.i T rfl y (by simp[fV]) λV a af f=>?_;have f:ag V g cj (fV gs 0 big z C (min (X6.wrap (told+n)) 4611686018427387904) sv):=f;rw[aT cj.p 2 f T,bJ];have key:s.big=false->min (X6.wrap (told+n)) 4611686018427387904=min (s.told+n) aw:=λq=>by
   rw[E.2 q];have:=hi q;unfold aw at ah ⊢;rw[wrap_i64 Ω Ω]
  have an:dp V g gs A B {s with told:=min (s.told+n) aw} clean:=⟨U.ab a,aj.ab a (λhe=>U.1 he.symm) (λr ao he=>ao.1 (.inl he)),⟨by show 0<=min _ _;unfold aw;omega,by show min _ _<=_;omega,al.2.2⟩,big,z,C,_,sv,f,⟨E.1,key⟩,au.ab G a λr _ h H=>tm h U.2.1 H⟩;apply(tq an).mono;rintro _ aa _ ⟨ap,M⟩;apply I _ ((a.trans ap).mono λr _ h=>.inl h);have e:bb (decide (16384<min (X6.wrap (told+n)) 4611686018427387904)) {s with told:=min (s.told+n) aw}=kc n s:=by
   cases q:s.big with
   |false=>rw[key q,<-q];rfl
   |true=>simp[kc,bb,q]
  rw[e]at M;exact M
def jb(sizes:Λ)(s:Option aF):Option (List (Λ×Int)×aF):=s.bind (dF sizes)
def lz(w:x3)(m:Nat)(acc:List (Λ×Int)):Prop:=c6 w m (acc.map λp=>(bL (ee p.1),Δ 1))
def kO(w:x3)(m:Nat):Prop:=∃d,c6 w m d/\∀p∈d,∃(k:ByteArray)(c:Int),p=(.string k,Δ c)
def lz.any{m:Nat}{acc:List (Λ×Int)}(h:lz w m acc):kO w m:=⟨_,h,λp a=>by
 obtain⟨q,_,rfl⟩:=j5.1 a;exact⟨_,_,T⟩⟩
def MM{m:Nat}{k:ByteArray}(h:kO w m)(f:∀c:Int,K (Δ c)):ac x7 (Instr.lookup hh (.map (σ m)) (.string k) false) w K:=by
 have⟨d,hm,q⟩:=h;have hk:=Keys.str cQ.u;have r:∀p∈d,∃s,p.1=x1.string s:=λp a=>by obtain⟨s,c,rfl⟩:=q p a;exact⟨s,T⟩
 by_cases he:∃p∈d,p.1=x1.string k
 .obtain⟨p,a,e⟩:=he;have⟨j,x⟩:=X3.1 a;obtain⟨s,c,rfl⟩:=q p a;have e:x1.string s=x1.string k:=e;rw[e]at x;rw[q5 hh.u hk hm r ⟨k,T⟩ x];exact f c
 .have y:∀p∈d,p.1≠x1.string k:=λp a h=>he ⟨p,a,h⟩;rw[tv hh.u hk ⟨_,_,ah.i⟩ hm r ⟨k,T⟩ y];exact f 0
def MN{m:Nat}{k:ByteArray}{K:Unit->x3->Prop}(h:kO w m)(x:∀w',ai (λr=>r=m) w w'->kO w' m->K () w'):aE x7 (Instr.mapUpdate hh (.map (σ m)) (.string k) (Δ c)) w K:=by
 have⟨d,hm,e⟩:=h;have y:∀p∈d,∃s,p.1=x1.string s:=λp a=>by obtain⟨s,c,rfl⟩:=e p a;exact⟨s,T⟩
 refine q6 hh.u (Keys.str cQ.u) hm y ⟨k,T⟩ (λj v0 w' z f q=>x w' q ⟨_,f,λp a=>?_⟩) (λw' A f q=>x w' q ⟨_,f,λp a=>?_⟩)
 .rcases W0 a with a|rfl
  .exact e p a
  .exact⟨_,_,T⟩
 .rcases o5.1 a with a|a
  .exact e p a
  .rw[o9.1 a];exact⟨_,_,T⟩
def CA{a b:Λ}(e:∀x∈a,0<=x)(f:∀x∈b,0<=x)(h:bL (ee a)=bL (ee b)):a=b:=by
 have h:strOfNums (ee a)=strOfNums (ee b):=x1.string.inj h;exact Bb e f (str_inj (Bc a) (Bc b) h)
def wQ{acc:List (Λ×Int)}:∀p∈acc.map λp=>(bL (ee p.1),V6 .i64 1),∃s,p.1=x1.string s:=λp a=>by
 obtain⟨q,_,rfl⟩:=j5.1 a;exact⟨_,T⟩
def CB{m:Nat}{acc:List (Λ×Int)}{t:Λ}(h:lz w m acc)(f:∀p∈acc,∀x∈p.1,0<=x)(r:∀x∈t,0<=x):
  ac x7 (Instr.lookup hh (.map (σ m)) (bL (ee t)) false) w K=K (Δ (if t∈acc.map (·.1)then 1 else 0)):=by
 have hk:=Keys.str cQ.u;by_cases he:t∈acc.map (·.1)
 .rw[if_pos he];obtain⟨p,a,rfl⟩:=j5.1 he;have⟨j,s⟩:=X3.1 a;rw[q5 hh.u hk h wQ ⟨_,T⟩ (j:=j) (v:=Δ 1) (by rw[x8,s];rfl)];simp
 .rw[if_neg he];rw[tv hh.u hk ⟨_,_,ah.i⟩ h wQ ⟨_,T⟩ (λp a y=>?_)]
  .simp
  .obtain⟨q,e,rfl⟩:=j5.1 a;have:=CA (f q e) r y;exact he (j5.2 ⟨q,e,this⟩)
def MO{m:Nat}{acc:List (Λ×Int)}{t:Λ}{K:Unit->x3->Prop}(h:lz w m acc)(z:∀p∈acc,∀x∈p.1,0<=x)(A:∀x∈t,0<=x)(B:t∉acc.map (·.1))(C:∀w',ai (λr=>r=m) w w'->lz w' m (acc++[(t,c)])->K () w'):aE x7 (Instr.mapUpdate hh (.map (σ m)) (bL (ee t)) (Δ 1)) w K:=by
 refine q6 hh.u (Keys.str cQ.u) h wQ ⟨_,T⟩ (λj v0 w' e f s=>?_) (λw' _ f s=>C w' s ?_)
 .rw[x8]at e;have⟨q,y,a⟩:=X1.1 e;have a:bL (ee q.1)=bL (ee t):=congrArg Prod.fst a;have:=CA (z q (x5 y)) A a;exact absurd (j5.2 ⟨q,x5 y,this⟩) B
 .unfold lz;rw[Z4];exact f
def MP{m:Nat}{acc:List (Λ×Int)}{t:Λ}{ok:Prop}{K:Unit->x3->Prop}(e:kO w m)(A:ok->lz w m acc/\(∀p∈acc,∀x∈p.1,0<=x)/\(∀x∈t,0<=x)/\t∉acc.map (·.1))(f:∀w',ai (λr=>r=m) w w'->kO w' m->(ok->lz w' m (acc++[(t,c)]))->K () w'):
  ac x7 (Instr.lookup hh (.map (σ m)) (bL (ee t)) false) w λB=>
  ac x7 (aO .add ah false true B (Δ 1)) w λC=>
  aE x7 (Instr.mapUpdate hh (.map (σ m)) (bL (ee t)) C) w K:=by
 by_cases q:ok
 .obtain⟨h1,s,y,z⟩:=A q;rw[CB h1 s y,if_neg z,aN,wrap_i64 Ω Ω];exact MO (c:=c) h1 s y z λw' a U=>f w' a U.any λ_=>U
 .refine MM e λhl=>?_;rw[aN];exact MN e λw' a U=>f w' a U λh=>absurd h q
def fw{α:Type}(f:List α->aF->Option (α×aF))(n:Nat)(acc:List α)(o:Option aF):Option (List α×aF):=o.bind (cK f n acc)
def kO.ab{m:Nat}(h:kO w m)(J:ai S w w')(a:¬S m):kO w' m:=by
 have⟨d,h1,e⟩:=h;exact⟨d,h1.ab J a,e⟩
def ds.words{g:Nat}{A:ak}{B:ak}{s:aF}(h:ds w g gs A B clean (σ s)):s.toks.length<=100000:=by
 have h:dp w g gs A B s clean:=h;exact h.2.1.words.1
def CC{acc:List (Λ×Int)}{st:aF}{t:Λ}(p:∀q,fb sizes [] (σ st)=σ q->t=q.1)(a:∀q,bf 0 aw ((fb sizes [] (σ st)).map (·.2))=σ q->c=q.1):
  (bf 0 aw ((fb sizes [] (σ st)).map (·.2))=ν->dU sizes acc st=ν)/\∀q,bf 0 aw ((fb sizes [] (σ st)).map (·.2))=σ q->dU sizes acc st=if t∈acc.map (·.1)then ν else σ ((t,c),q.2):=by
 have e:fb sizes [] (σ st)=iY sizes [] st:=rfl;rw[e]at p a ⊢;unfold dU;cases h1:iY sizes [] st with
 |none=>exact⟨λ_=>rfl,λq f=>(by cases f)⟩
 |some q=>
  have⟨bt,s1⟩:=q;rw[h1]at p a;have:=p _ T;subst this;have r:bf 0 aw ((σ (t,s1)).map (·.2))=bh 0 aw s1:=rfl;rw[r]at a ⊢;simp only;cases s:bh 0 aw s1 with
  |none=>exact⟨λ_=>rfl,λq f=>(by cases f)⟩
  |some q=>
   have⟨w,x⟩:=q;rw[s]at a;have:=a _ T;subst this;exact⟨λh=>(by cases h),λq f=>(by cases f;rfl)⟩
def MQ{g:Nat}{A B:ak}{s:Option aF}{Q:x1->x3->Prop}(h:ds w g gs A B clean s)(b0:aI .i64 w sv sizes)(aX:∀r,leads sv r->¬bG g gs A r/\r<w.heap.size)(b1:∀z∈sizes,1<=z/\z<=aw)(b2:sizes.length<=100001)(b3:fa w)(h1:cH g gs A B 1)(b4:(N:Int)<=aw)(br:∀v w' l,gk w g gs A B clean ((fw (dU sizes) N [] s).map (·.2)) w'->bI (eN w.heap.size) bE w' [v] (show List (Λ×Int)from l)->(∀q,fw (dU sizes) N [] s=σ q->l=q.1)->Q v w'):
  aE x7 (Instr.makeMap hh ν) w λaY C=>
 bT (.slice ν 0 0) (Δ 0) C λout i I k=>
  cz (α:=x1->x3->Prop) (λ(b5:x1)(V:x3)=>
   Split b5 (aE x7 (Q1 ed true (.tuple #[])) V λx y=>
  ac x7 (V0 #[ay] ah #[sv]) y λb6=>
  bT (.string ⟨#[]⟩) (Δ 0) y λkey aZ W b7=>
   ac x7 (aO .lss ah false false aZ b6) W λb8=>
   Split b8 (ac x7 (j9 ay sv aZ) W λb9=>
   ac x7 (u5 aq b9) W λca=>
   ac x7 (aO .sub aq false true ca (Δ 1)) W λcb=>
   am x7 nR [Γ g,(Δ 0),cb] W λbt aa=>
   ac x7 (Y0 bt 0) aa λbw=>
   ac x7 (Y0 bt 1) aa λdt=>
   ac x7 (u6 ed x 0) aa λcc=>
   ac x7 (u5 ay cc) aa λcd=>
   aE x7 (Y5 ay 1 #[(0,bw)]) aa λce K=>
   aE x7 (Z0 #[ay,ay] ay #[cd,ce]) K λcg bx=>
   ac x7 (u6 ed x 0) bx λch=>
   aE x7 (o8 ay ch cg) bx λ(_:Unit)ci=>
   am x7 vI [bw] ci λcj aD=>
   ac x7 (aO .add cQ false true cj (.string ⟨#[32]⟩)) aD λck=>
   ac x7 (aO .add cQ false false key ck) aD λcl=>
   ac x7 (aO .add ah false true aZ (Δ 1)) aD λcm=>
   b7 cl cm aD)
    (am x7 nR [Γ g,(Δ 0),(Δ 4611686018427387904)] W λbz aG=>
  ac x7 (Y0 bz 0) aG λcn=>
  ac x7 (Y0 bz 1) aG λcp=>
  ac x7 (u6 ed x 1) aG λcq=>
  aE x7 (o8 aq cq cn) aG λ(_:Unit)cr=>
  cz (α:=x3->Prop) (λ(X:x3)=>
   ac x7 (Instr.lookup hh aY key false) X λct=>
   ac x7 (aO .add ah false true ct (Δ 1)) X λcu=>
   aE x7 (Instr.mapUpdate hh aY key cu) X λ(_:Unit)ae=>
   ac x7 (u5 ed x) ae λcw=>
   aE x7 (Y5 iU 1 #[(0,cw)]) ae λcA ax=>
   aE x7 (Z0 #[iU,iU] iU #[out,cA]) ax λcB aH=>
   ac x7 (aO .add aq false true i (Δ 1)) aH λcC=>
  k cB cC aH) λbB=>
  cz (α:=x1->x3->Prop) (λ(cD:x1)(P:x3)=>
   Split cD (am x7 nS [Γ g,(Δ 4),cp] P λdu bC=>
    bB bC)
    (bB P)) λbD=>
  am x7 ld [Γ g] cr λcE af=>
  Split cE (ac x7 (Instr.lookup hh aY key false) af λcF=>
  ac x7 (aO .gtr ah false true cF (Δ 0)) af λcG=>
  bD cG af)
   (bD (.bool false) af)))
    (Q out V)) λbF=>
  ac x7 (aO .lss aq false false i (Δ (N:Int))) I λcI=>
  Split cI (am x7 ld [Γ g] I λcJ cK=>
  bF cJ cK)
   (bF (.bool false) I):=by
 have⟨dv,dw,dx,cL,aJ⟩:=h.side;have gT:∀r,bG g gs A r->r<w.heap.size:=cL;unfold aw at b4;refine tu λE C dy a1 a2=>?_;have dz:=a1.size;have dA:=a2.lt;generalize G:fw (dU sizes) N [] s=bH at br;refine⟨λout a6 I=>∃(i:Nat)(acc:List (Λ×Int))(so:Option aF),a6=Δ (i:Int)/\i<=N/\ai (bG g gs A) w I/\C.heap.size<=I.heap.size/\bI (eN C.heap.size) bE I [out] acc/\ds I g gs A B clean so/\
   bH=fw (dU sizes) (N-i) acc so/\kO I E/\acc.length<=100001/\∀st,so=σ st->lz I E acc/\(∀p∈acc,∀x∈p.1,0<=x)/\acc.length+st.toks.length<=100000,
  λ_ a6 _=>N-(bW a6).toNat,⟨0,[],s,T,X5 _,a1.ab _,o4 _,hK,h.ext a1,G.symm,⟨[],a2,λp O=>(by cases O)⟩,Ξ,λst cM=>⟨a2,λp O=>(by cases O),?_⟩⟩,?_⟩
 .subst cM;have:=h.words;simpa using this
 rintro out _ I ⟨i,acc,so,rfl,dC,bK,z9,bL,a7,aK,cN,dD,ba⟩;refine aV (λv V=>Ext I V/\((v= .bool true/\i<N/\∃st,so=σ st)\/(v= .bool false/\(so=ν\/i=N)))) ?_ ?_
 rotate_left
 .intro aA bb;rw[aP,al];refine⟨λcO=>?_,λdE=>bb _ _ ⟨Ext.refl _,.inr ⟨T,.inr Ω⟩⟩⟩;apply(pP a7).mono;rintro _ V _ ⟨rfl,S⟩;cases so with
  |none=>exact bb _ _ ⟨S,.inr ⟨T,.inl T⟩⟩
  |some st=>exact bb _ _ ⟨S,.inl ⟨T,Ω,st,T⟩⟩
 rintro _ V ⟨S,cP⟩;rcases cP with⟨rfl,cO,st,rfl⟩|⟨rfl,cR⟩
 rotate_left
 .rw[a8];have bM:bH=so.map λst=>(acc,st):=by
   rcases cR with rfl|rfl
   .exact aK
   .rw[U4]at aK;rw[aK];cases so<;>rfl
  refine br out V acc (gk.mk (bK.trans (S.ab _)) ?_) (bA (au.mono bL (λr _ h=>by have h:C.heap.size<=r:=h;show w.heap.size<=r;omega) λ_ _ h=>h) S) (λq L=>?_)
  .rw[bM,Option.map_map];have e:V7 ((λx=>x.2)∘λst=>(acc,st)) so=so:=by cases so<;>rfl
   rw[e];exact a7.ext S
  .rw[bM]at L;cases so with
   |none=>cases L
   |some st=>cases L;rfl
 rw[bV];have⟨ba,bc,dF⟩:=ba st T;have dG:=S.size;refine bu ed.i λao y dH bN bO=>?_;have az:=S.trans bN;have bd:ai (bG g gs A) w y:=bK.trans (az.ab _);have bP:aI .i64 y sv sizes:=ia b0 bd λr f a n c ad cS=>(aX r ⟨a,n,c,ad,cS⟩).1 f;rw[aW ay.u bP];have aL:¬bG g gs A ao:=λG=>by have:=gT _ G;omega
 refine MJ (s:=σ st) (a7.ext az) bP (λr f=>⟨(aX r f).1,by have:=(aX r f).2;omega⟩) b1 b2 (b3.ab bd h1.1) h1 bO aL (λcT=>by have:=aJ _ cT;omega) λt W aM gt dI cU bQ cV cW cX cY cZ=>?_;have dJ:=bN.size;have z12:=bQ.size;have dK:=bO.lt;have be:∀x∈t,0<=x:=λx J=>(cU x J).1;apply(mq cY).mono;rintro _ aa _ ⟨bg,c,dL,rfl,c0,dM⟩;have⟨aQ,c1⟩:=bg.of;have dN:=aQ.size;rw[bo,bp,aU ed.p T];refine bq (g:=ao) (o:=1) aq.i T rfl (cV.ab aQ aL) Ξ λK aR dO bh=>?_;have bh:ag K ao ed [aM,Δ c]:=bh;have c2:av .i64 aq K gt aM t:=(cW.ab aQ (λ_ G=>by have:=gT _ G;omega)).ab aR (λ_ he=>by have he:gt=ao:=he;omega);have bi:ai (λr=>bG g gs A r\/r=ao) y K:=(bQ.trans (aQ.mono λr _ h=>.inl h)).trans (aR.mono λr _ h=>.inr h);have Y:ds K g gs A B clean ((bf 0 aw ((fb sizes [] (σ st)).map (·.2))).map (·.2)):=c1.ab aR (λr f he=>by have he:r=ao:=he;exact aL (he▸f)) (λr f he=>by have:=aJ r f.2;have he:r=ao:=he;omega);have bS:¬(λr=>bG g gs A r\/r=ao) E:=λh=>h.elim (λh=>by have:=gT _ h;omega) (λh=>Ω);have c3:kO K E:=(cN.ab (az.ab (λ_=>False)) (λh=>h)).ab bi bS;have bU:lz K E acc:=(c6.ext ba az).ab bi bS;have⟨bj,bk⟩:=CC (acc:=acc) cZ c0;refine dc (λX=>ai (bG g gs A) K X/\ds X g gs A B clean ((dU sizes acc st).map (·.2))) ?_ ?_
 .rintro X ⟨aj,c4⟩;have bl:¬bG g gs A E:=λh=>by have:=gT _ h;omega
  have dP:=aR.size;have dQ:=aj.size;refine MP (acc:=acc) (t:=t) (c:=c) (ok:=∃q,dU sizes acc st=σ q) (c3.ab aj bl) (λ⟨q,L⟩=>⟨c6.ab bU aj bl,bc,be,λU=>?_⟩) λae aB c5 c7=>?_
  .cases M:bf 0 aw ((fb sizes [] (σ st)).map (·.2))with
   |none=>rw[bj M]at L;cases L
   |some an=>rw[bk an M,if_pos U]at L;cases L
  have dR:=aB.size;have c8:ag ae ao ed [aM,Δ c]:=(bh.ab aj aL).ab aB (λhe=>by have he:ao=E:=he;omega);have c9:av .i64 aq ae gt aM t:=(c2.ab aj (λ_ G=>by have:=gT _ G;omega)).ab aB (λ_ he=>by have he:gt=E:=he;omega);rw[bR ed.p ed.i T c8.range];have bX:bI (eN y.heap.size) bE ae [aM,Δ c] (t,c):=⟨[aM],[Δ c],eN y.heap.size,bE,T,λ_ h=>h,λ_ h=>h.elim,λ_ _ _ h=>h,au.mono (n7 c9) (λr _ h=>by subst h;exact cX) (λ_ _ h=>h),T⟩;refine kG (α:=Λ×Int) (a:=(t,c)) (cs:=[aM,Δ c]) (A:=eN y.heap.size) (R:=bE) iU.u ed.i Φ T bX λu ax ap _ da=>?_;have z22:=ap.size;have db:bI (λr=>eN C.heap.size r/\r<y.heap.size/\r≠ao) bE y [out] acc:=bA (au.mono (mZ bL) (λr _ h=>⟨h.1,by have:=h.2;omega,by have:=h.2;omega⟩) λ_ _ h=>h) az;have bY:ai (λr=>bG g gs A r\/r=ao\/r=E) y ax:=(((bi.mono λr _ h=>h.elim .inl λh=>.inr (.inl h)).trans (aj.mono λr _ h=>.inl h)).trans (aB.mono λr _ h=>.inr (.inr h))).trans (ap.ab _);have dd:=au.ab db bY λr f h G=>by
   rcases h with h|h
   .have aS:C.heap.size<=r:=h.1;rcases G with G|G|G
    .have:=gT _ G;omega
    .exact h.2.2 G
    .omega
   .exact h
  refine n5 (α:=Λ×Int) (a:=(t,c)) (A:=eN y.heap.size) iU.u ed.i T dd da (bA bX ap) (λr _ h h'=>?_) Ω Ω λdS aH de aC=>?_
  .rcases h' with h'|h'
   .have:=h.2;have:y.heap.size<=r:=h';omega
   .exact h'
  have dT:=aC.size;rw[aN,wrap_i64 Ω Ω];have df:ai (bG g gs A) w ax:=hQ bd bY λr f h=>by
   rcases h with h|h|h
   .exact h
   .omega
   .omega
  have dg:ai (bG g gs A) w aH:=hQ df aC λr f h=>by have aS:C.heap.size<=r:=h.1;omega
  have dh:ds ax g gs A B clean ((dU sizes acc st).map (·.2)):=(c4.ab aB (λr f he=>by have he:r=E:=he;exact bl (he▸f)) (λr f he=>by have:=aJ r f.2;have he:r=E:=he;omega)).ext ap;have di:∀r,bG g gs A r->¬(eN C.heap.size r/\r<y.heap.size/\r≠ao):=λr f he=>by have:=gT _ f;have aS:C.heap.size<=r:=he.1;omega
  have dj:∀r,cH g gs A B r->¬(eN C.heap.size r/\r<y.heap.size/\r≠ao):=λr f he=>by have:=aJ r f.2;have aS:C.heap.size<=r:=he.1;omega
  have bZ:¬(eN C.heap.size E/\E<y.heap.size/\E≠ao):=λhe=>by have aS:C.heap.size<=E:=he.1;omega
  refine⟨⟨i+1,acc++[(t,c)],(dU sizes acc st).map (·.2),T,Ω,dg,Ω,?_,dh.ab aC di dj,?_,(c5.ab (ap.ab (λ_=>False)) (λh=>h)).ab aC bZ,Θ,λdk dl=>?_⟩,by simp only[bW];omega⟩
  .refine au.mono de (λr _ h=>?_) λ_ _ h=>h;show C.heap.size<=r;rcases h with h|h|h
   .exact h.1
   .have h:y.heap.size<=r:=h;omega
   .omega
  .rw[aK,show N-i=(N-(i+1))+1 by omega];cases H:dU sizes acc st with
   |none=>exact pH H
   |some q=>
    have⟨a,dk⟩:=q;have dm:a=(t,c):=by
     cases M:bf 0 aw ((fb sizes [] (σ st)).map (·.2))with
     |none=>rw[bj M]at H;cases H
     |some an=>
      rw[bk an M]at H;split at H
      .cases H
      .cases H;rfl
    subst dm;exact ts H
  .obtain⟨q,L,rfl⟩:=X1.1 dl;have dV:=(oj L).2.2.2.1;refine⟨c6.ab ((c6.ext (c7 ⟨q,L⟩) ap)) aC bZ,λp O=>?_,by simp only[r9,T2];omega⟩;rcases o5.1 O with O|O
   .exact bc p O
   .rw[o9.1 O];exact be
 .intro dW bm;cases M:bf 0 aw ((fb sizes [] (σ st)).map (·.2))with
  |none=>
   rw[M]at Y;have H:=bj M;refine aV (λv P=>Ext K P/\v= .bool false) ?_ ?_
   .rintro _ P ⟨Z,rfl⟩;rw[a8];exact bm _ ⟨Z.ab _,by rw[H];exact Y.ext Z⟩
   .intro dn bn;apply(pP Y).mono;rintro _ af _ ⟨rfl,aT⟩;rw[show((ν:Option (Int×aF)).map (·.2)).isSome=false from T,a8];exact bn _ _ ⟨aT,T⟩
  |some an=>
   rw[M]at Y;have H:=bk an M;refine aV (λv P=>Ext K P/\v= .bool (decide (t∈acc.map (·.1)))) ?_ ?_
   .rintro _ P ⟨Z,rfl⟩;rw[al];refine⟨λU=>?_,λdp=>?_⟩
    .refine (MI (Y.ext Z) Ω).mono ?_;rintro _ bC _ bg;have⟨dq,dr⟩:=bg.of;exact bm _ ⟨(Z.ab _).trans dq,by rw[H,if_pos U];exact dr⟩
    .exact bm _ ⟨Z.ab _,by rw[H,if_neg dp];exact Y.ext Z⟩
   .intro dn bn;apply(pP Y).mono;rintro _ af _ ⟨rfl,aT⟩;rw[show((σ an:Option (Int×aF)).map (·.2)).isSome=true from T,bV,CB (c6.ext bU aT) bc be,bJ];refine bn _ _ ⟨aT,?_⟩;congr 1;by_cases U:t∈acc.map (·.1)
    .rw[if_pos U,decide_eq_true U];rfl
    .rw[if_neg U,decide_eq_false U];rfl
def CD(sizes:Λ)(s:Option aF):jb sizes s=match bf (-aw) aw s with
 |none=>ν
 |some (n,s)=>
  if n<0 then match s.shared[(-n-1).toNat]? with
   |none=>ν
   |some (z,l)=>if z=sizes then σ (l,s)else ν
  else cK (dU sizes) n.toNat [] (kc n s):=by
 cases s with
 |none=>rfl
 |some s=>
  show dF sizes s=_;unfold dF;show _=match bh (-aw) aw s with
   |none=>ν
   |some (n,s)=>
    if n<0 then match s.shared[(-n-1).toNat]? with
     |none=>ν
     |some (z,l)=>if z=sizes then σ (l,s)else ν
    else cK (dU sizes) n.toNat [] (kc n s)
  cases bh (-aw) aw s<;>rfl
def CE{m:Bool}{S R:ak}{a:i9}(h:au.rep (α:=i9) m S R w cs a):∃u v,cs=[u,v]/\au.rep (α:=Λ) false bE R w [u] a.1/\au.rep (α:=List (Λ×Int)) false bE R w [v] a.2:=by
 obtain⟨c,d,f,p,rfl,_,_,_,h1,e⟩:=h;have h1:au.rep (α:=Λ) false bE R w c a.1:=h1;have e:au.rep (α:=List (Λ×Int)) false bE R w d a.2:=e;obtain⟨u,rfl⟩:=W9.1 (show c.length=1 from au.len h1);obtain⟨v,rfl⟩:=W9.1 (show d.length=1 from au.len e);exact⟨u,v,T,h1,e⟩
def MR{g:Nat}{A B:ak}{s:Option aF}(h:ds w g gs A B clean s)(hi:∀t,s=σ t->dV t)(av:aI .i64 w sv sizes)(K:∀r,leads sv r->¬bG g gs A r/\r<w.heap.size)(ay:∀z∈sizes,1<=z/\z<=aw)(aB:sizes.length<=100001)(aC:fa w)(h1:cH g gs A B 1):
  am x7 IN [Γ g,sv] w λv w'=>gk w g gs A B clean ((jb sizes s).map (·.2)) w'/\∃l,Seen (λr=>cH g gs A B r\/w.heap.size<=r) w' [v] (show List (Λ×Int)from l)/\∀q,jb sizes s=σ q->l=q.1:=by
 have aD:=h.side;have⟨bc,bd,be,aE,bg⟩:=id aD;have gT:∀r,bG g gs A r->r<w.heap.size:=aE;apply az func183;apply(mq (lo:=-aw) (hi:=aw) h).mono;rintro _ V _ ⟨aG,n,at_,rfl,Q,aH⟩;have⟨L,ag⟩:=aG.of;have bh:=L.size;have x:=CD sizes s;rw[bo,bp];have ah:aI .i64 V sv sizes:=ia av L λr E a n c ad U=>(K r ⟨a,n,c,ad,U⟩).1 E;have bi:∀r,leads sv r->¬bG g gs A r/\r<V.heap.size:=λr E=>⟨(K r E).1,by have:=(K r E).2;omega⟩;have rest:∀aa,Ext V aa->(∀q,bf (-aw) aw s=σ q->¬n<0)->∀N:Nat,n=(N:Int)->(N:Int)<=aw->∀C,ai (bG g gs A) aa C->ds C g gs A B clean (((bf (-aw) aw s).map (·.2)).map (kc n))->
   ∀v w' l,gk C g gs A B clean ((fw (dU sizes) N [] (((bf (-aw) aw s).map (·.2)).map (kc n))).map (·.2)) w'->bI (eN C.heap.size) bE w' [v] (show List (Λ×Int)from l)->(∀q,fw (dU sizes) N [] (((bf (-aw) aw s).map (·.2)).map (kc n))=σ q->l=q.1)->
   gk w g gs A B clean ((jb sizes s).map (·.2)) w'/\∃l,Seen (λr=>cH g gs A B r\/w.heap.size<=r) w' [v] (show List (Λ×Int)from l)/\∀q,jb sizes s=σ q->l=q.1:=by
  intro aa y M N W X C H Y v w' l aJ aK aL;have⟨aM,aN⟩:=aJ.of;have aO:=y.size;have z3:=H.size;have e:jb sizes s=fw (dU sizes) N [] (((bf (-aw) aw s).map (·.2)).map (kc n)):=by
   rw[x];cases f:bf (-aw) aw s with
   |none=>rfl
   |some q=>
    have⟨aQ,s1⟩:=q;have:=Q _ f;subst this;simp only;rw[if_neg (M _ f),W,u7];rfl
  rw[e];refine⟨gk.mk (((L.trans (y.ab _)).trans H).trans aM) aN,l,qH aK λr _ h=>?_,aL⟩;rcases h with h|h
  .have h:C.heap.size<=r:=h;exact .inr Ω
  .exact h.elim
 refine aV (λv aa=>Ext V aa/\v= .bool (decide (n<0/\(bf (-aw) aw s).isSome=true))) ?_ ?_
 rotate_left
 .intro aA P;apply(pP ag).mono;rintro _ aa _ ⟨rfl,y⟩;cases f:bf (-aw) aw s with
  |none=>
   rw[show((ν:Option (Int×aF)).map (·.2)).isSome=false from T,a8];exact P _ _ ⟨y,by rw[decide_eq_false];rintro⟨_,h⟩;rw[f]at h;cases h⟩
  |some q=>
   rw[show((σ q:Option (Int×aF)).map (·.2)).isSome=true from T,bV,aP];exact P _ _ ⟨y,by congr 1;rw[U1,decide_eq_true_eq,decide_eq_true_eq,f];exact⟨λh=>⟨h,T⟩,λh=>h.1⟩⟩
 rintro _ aa ⟨y,rfl⟩;have I:=ag.ext y;have aO:=y.size;rw[al];refine⟨λM=>?_,λaR=>?_⟩
 rotate_left
 .have M:∀q,bf (-aw) aw s=σ q->¬n<0:=λq f h=>aR ⟨h,by rw[f];rfl⟩;obtain⟨N,W,X⟩:∃N:Nat,n=(N:Int)/\(N:Int)<=aw:=by
   cases f:bf (-aw) aw s with
   |none=>rw[aH f];exact⟨0,T,by unfold aw;omega⟩
   |some q=>
    have h1:=M q f;have aS:=ni (n:=q.1) (s':=q.2) f;have aW:=Q q f;exact⟨n.toNat,Ω,Ω⟩
  refine ML (at_:=at_) I (λt aX=>?_) λC H Y=>?_
  .obtain⟨q,f,rfl⟩:=X1.1 aX;have aS:=ni (n:=q.1) (s':=q.2) f;have aW:=Q q f;refine⟨Ω,Ω,?_⟩;cases s with
   |none=>cases f
   |some s0=>
    have aj:=(dl (n:=q.1) (s':=q.2) f).eqs;have an:=hi s0 T;intro ao;rw[aj.1];rw[aj.2.1]at ao;exact an ao
  .have z3:=H.size;have aY:ai (bG g gs A) w C:=(L.trans (y.ab _)).trans H;subst W;refine MQ (N:=N) Y ((ia (ah.ext y) H λr E a n c ad U=>(K r ⟨a,n,c,ad,U⟩).1 E)) (λr E=>⟨(K r E).1,by have:=(K r E).2;omega⟩) ay aB (aC.ab aY h1.1) h1 X λv w' l a b c=>?_;exact rest aa y M N T X C H Y v w' l a b c
 .obtain⟨aZ,a1⟩:=M;have⟨⟨aQ,s1⟩,f⟩:=Option.isSome_iff_exists.1 a1;have:=Q _ f;subst this;have bj:=ni f;rw[f]at x I;simp only at x;rw[if_pos aZ]at x;have I:dp aa g gs A B s1 clean:=I;have⟨_,an,bk,big,bl,bm,told,bn,Z,bq,ac⟩:=id I;have br:aw=4611686018427387904:=rfl;refine aV (λv C=>Ext aa C/\v= .bool (decide (jb sizes s=ν))) ?_ ?_
  .rintro _ C ⟨G,rfl⟩;rw[al];refine⟨λa2=>?_,λap=>?_⟩
   .refine (tp (I.ext G) Ω).mono ?_;rintro _ bt _ ⟨a6,a7⟩;rw[a2];refine⟨gk.mk (((L.trans (y.ab _)).trans (G.ab _)).trans (a6.mono λr _ h=>.inl h)) a7,[],hK,λq f=>by cases f⟩
   .cases O:s1.shared[(-n-1).toNat]? with
    |none=>rw[O]at x;exact absurd x ap
    |some q=>
     have⟨z,l⟩:=q;rw[O]at x;simp only at x;have ba:z=sizes:=by
      by_cases J:z=sizes
      .exact J
      .rw[if_neg J]at x;exact absurd x ap
     rw[if_pos ba]at x;rw[aT cj.p 3 (Z.ext G) T,mf,wrap_i64 Ω Ω,dN,wrap_i64 Ω Ω];refine kF (α:=i9) (m:=true) (S:=A) (R:=cH g gs A B) (i:=(-n-1).toNat) (a:=(z,l)) Ω hE.u jY.i (bA ac G) O λb o cs ae af=>?_;obtain⟨u,v,rfl,hu,ad⟩:=CE af;rw[aU jY.p T,ax Ψ (ae 1 v T)];rw[x];refine⟨gk.mk ((L.trans (y.ab _)).trans (G.ab _)) (I.ext G),l,qH ad λr _ h=>?_,λq f=>by cases f;rfl⟩;rcases h with h|h
     .exact h.elim
     .exact .inl h
  .intro aA P;rw[mf,wrap_i64 Ω Ω,aT cj.p 3 Z T,hL hE.u ac,bJ,al];refine⟨λaq=>P _ _ ⟨Ext.refl _,?_⟩,λau=>?_⟩
   .have aq:(s1.shared.length:Int)<0-n:=aq;rw[Z2 Ω]at x;rw[decide_eq_true x]
   .have au:¬(s1.shared.length:Int)<0-n:=au;have bb:(-n-1).toNat<s1.shared.length:=Ω
    obtain⟨⟨z,l⟩,O⟩:∃q,s1.shared[(-n-1).toNat]?=σ q:=⟨_,x6 bb⟩;rw[aT cj.p 3 Z T,mf,wrap_i64 Ω Ω,dN,wrap_i64 Ω Ω];refine kF (α:=i9) (m:=true) (S:=A) (R:=cH g gs A B) (i:=(-n-1).toNat) (a:=(z,l)) Ω hE.u jY.i ac O λb o cs ae af=>?_;obtain⟨u,v,rfl,hu,ad⟩:=CE af;rw[aU jY.p T,ax Ψ (ae 0 u T)];apply(Ki (de hu) (ah.ext y)).mono;rintro _ C _ ⟨rfl,G⟩;rw[bK];refine P _ _ ⟨G,?_⟩;rw[O]at x;simp only at x;by_cases J:z=sizes
    .rw[if_pos J]at x;rw[decide_eq_true J,decide_eq_false (by rw[x];simp)];rfl
    .rw[if_neg J]at x;rw[decide_eq_false J,decide_eq_true x];rfl
abbrev pQ(n:Nat):ak:=λr=>r<n
def rh(n:Int)(k:Nat)(s:Option aF):Option (Λ×aF):=s.bind (eW n k)
def MS{g k:Nat}{A B:ak}{s:Option aF}{m:Int}(h:ds w g gs A B clean s)(hk:k<=4611686018427387904)(hm:0<=m/\m<=1000000):
  am x7 z7 [Γ g,Δ (k:Int),Δ m] w λv w'=>gk w g gs A B clean ((rh m k s).map (·.2)) w'/\
   ∃gr l,av .i64 aq w' gr v l/\(∀r,leads v r->w.heap.size<=r)/\l.length<=100001/\∀q,rh m k s=σ q->l=q.1:=by
 cases s with
 |some s=>exact LC (s:=s) h hk hm
 |none=>
  have h:eE w g gs A B:=h;apply az func181;refine⟨λout p V=>w=V/\out= .slice ν 0 0/\p=Δ 0,λ_ _ _=>0,⟨T,T,T⟩,?_⟩;rintro _ _ _ ⟨rfl,rfl,rfl⟩;refine aV (λv aa=>Ext w aa/\v= .bool false) ?_ ?_
  .rintro _ aa ⟨e,rfl⟩;rw[a8];exact⟨gk.mk (e.ab _) (h.ext e),0,[],av.nil _ _ _ _,λr x=>absurd x (λh=>by have⟨a,n,c,h,_⟩:=h;cases h),Ξ,λq y=>by cases y⟩
  .intro aA f;rw[aP,al];refine⟨λ_=>?_,λ_=>f _ _ ⟨Ext.refl _,T⟩⟩;apply(ol h).mono;rintro _ aa _ ⟨rfl,e⟩;exact f _ _ ⟨e,T⟩
def tE(z:Λ)(l:List (Λ×Int))(s:aF):aF:={s with shared:=s.shared++[(z,l)]}
def CF(w:x3)(g gs:Nat):Prop:=∃(e big a f told:Int)(sv:x1),ag w g cj (fV gs e big a f told sv)/\e≠0
def ho(w:x3)(g gs:Nat)(A:ak)(B:ak)(clean:Bool)(s:Option aF):Prop:=match s with
 |some s=>dp w g gs A B s clean
 |none=>CF w g gs
def ds.q{g:Nat}{A:ak}{B:ak}{s:Option aF}(h:ds w g gs A B clean s):ho w g gs A B clean s:=by
 cases s with
 |some s=>exact h
 |none=>
  have⟨_,e,big,a,f,told,sv,l,p,r,_⟩:=h;exact⟨e,big,a,f,told,sv,p,r.1⟩
def ho.ab{g:Nat}{A:ak}{B:ak}{s:Option aF}(h:ho w g gs A B clean s)(J:ai S w w')(f:¬S g)(p:∀r,bG g gs A r->r<w.heap.size->¬S r)(q:∀r,cH g gs A B r->¬S r):ho w' g gs A B clean s:=by
 cases s with
 |some s=>
  have h:dp w g gs A B s clean:=h;exact dp.ab h J (λr a=>p r a (h.1.2.2.2.1 r a)) q
 |none=>
  have⟨e,big,x,y,told,sv,z,C⟩:=h;exact⟨e,big,x,y,told,sv,z.ab J f,C⟩
def ho.ext{g:Nat}{A:ak}{B:ak}{s:Option aF}(h:ho w g gs A B clean s)(J:Ext w w'):ho w' g gs A B clean s:=h.ab (J.ab λ_=>False) (λh=>h) (λ_ _ _ h=>h) (λ_ _ h=>h)
def CG{g:Nat}{A:ak}{B:ak}{s:Option aF}(h:ho w g gs A B clean s):am x7 ld [Γ g] w λv w'=>v= .bool s.isSome/\Ext w w':=by
 cases s with
 |none=>
  have⟨e,big,p,q,told,sv,a,f⟩:=h;apply(wx a).mono;rintro _ V _ ⟨rfl,J⟩;exact⟨by rw[decide_eq_false f];rfl,J⟩
 |some s=>exact pG h
def hR.a6{g:Nat}{R':Nat->Prop}(h:hR w g R toks clean)(J:ai S w w')(q:¬S g)(s:∀r,R r->¬S r)(x:∀r,R r->R' r):hR w' g R' toks clean:=by
 have⟨y,p,a,⟨h1,z,A,B,bn,C⟩,f,E⟩:=h;exact⟨y,p,a,⟨h1,z,A,B.ab J q,bn,bw C J λr e=>s r (f r e)⟩,λr e=>x r (f r e),E⟩
def mr{α:Type}[au α]{m:Bool}{S R:ak}{l:List α}(h:au.rep m S R w [v] l):∃a n c,v= .slice a n c:=by
 have⟨vs,e,F,f,he,U,hm⟩:=jC h;obtain⟨p,b,o,base,cap,rfl,_⟩:=U;exact⟨_,_,_,T⟩
def lA(w:x3)(g gs:Nat)(A:ak)(B:ak)(R:ak)(clean:Bool)(s:Option aF):Prop:=match s with
 |some s=>lu w g gs A B/\hR w gs R s.toks clean/\(0<=s.told/\s.told<=aw/\s.shared.length+s.toks.length<=100000)/\
  ∃big a e told sv,ag w g cj (fV gs 0 big a e told sv)/\((s.big=true↔big≠0)/\(s.big=false->told=s.told))/\bI A R w [sv] (show List i9 from s.shared)
 |none=>CF w g gs
def lA.ab{g:Nat}{A R:ak}{B:ak}{s:Option aF}(h:lA w g gs A B R clean s)(J:ai S w w')(x:¬S g)(y:∀r,bG g gs A r->r<w.heap.size->¬S r)(z:∀r,R r->¬S r):lA w' g gs A B R clean s:=by
 cases s with
 |some s=>
  have⟨h1,C,E,big,a,f,told,sv,p,q,F⟩:=h;have G:=h1.2.2.2.1;exact⟨h1.ab J,C.ab J (y gs (.inr (.inl T)) (G _ (.inr (.inl T)))) z,E,big,a,f,told,sv,p.ab J x,q,au.ab F J λr H h=>h.elim (λh=>y r (.inr (.inr h)) H) (z r)⟩
 |none=>
  have⟨e,big,a,f,told,sv,p,q⟩:=h;exact⟨e,big,a,f,told,sv,p.ab J x,q⟩
def lA.out{g:Nat}{A R B e:ak}{s:Option aF}(h:lA w g gs A B R clean s)(f:∀r,R r->cH g gs A e r)(q:∀r,e r->r<w.heap.size):ho w g gs A e clean s:=by
 cases s with
 |some s=>
  have⟨⟨x,y,z,C,P⟩,⟨E,p,a,F,G,H⟩,I,big,J,K,told,sv,L,M,N⟩:=h;exact⟨⟨x,y,z,C,q⟩,⟨E,p,a,F,λr O=>f r (G r O),H⟩,I,big,J,K,told,sv,L,M,au.mono N (λ_ _ h=>h) λr _ h=>f r h⟩
 |none=>exact h
def ds.qr{g:Nat}{A R:ak}{B:ak}{s:Option aF}(h:ds w g gs A B clean s)(z:∀r,cH g gs A B r->R r):lA w g gs A B R clean s:=by
 cases s with
 |some s=>
  have⟨h1,⟨C,p,a,E,F,G⟩,H,big,f,q,told,sv,x,y,I⟩:=h;exact⟨h1,⟨C,p,a,E,λr J=>z r (F r J),G⟩,H,big,f,q,told,sv,x,y,au.mono I (λ_ _ h=>h) λr _ h=>z r h⟩
 |none=>
  have⟨_,e,big,f,q,told,sv,l,x,y,_⟩:=h;exact⟨e,big,f,q,told,sv,x,y.1⟩
def MT{g O:Nat}{A B R:ak}{s:Option aF}{aK az u:x1}{z:Λ}{l:List (Λ×Int)}{K:x3->Prop}(h:ds w g gs A B clean s)(P:∀r,cH g gs A B r->R r)(aj:∀r,R r->cH g gs A (pQ w.heap.size) r)(al:∀t,s=σ t->t.shared.length+1+t.toks.length<=100000)(am:ag w O b7 [aK,u,az,v])(hu:au.rep (α:=Λ) false bE R w [u] z)(ad:au.rep (α:=List (Λ×Int)) false bE R w [v] l)(aA:∀w' aR,ai (bG g gs A) w w'->(∀r,aR r->A r\/w.heap.size<=r)->lA w' g gs aR (pQ w.heap.size) R clean (s.map (tE z l))->K w'):
  ac x7 (bQ (Γ g)) w λQ=>
  ac x7 (u6 cj Q 3) w λS=>
  ac x7 (u5 hE S) w λan=>
  ac x7 (u6 b7 (Γ O) 1) w λt76=>
  ac x7 (u5 ay t76) w λt77=>
  ac x7 (u6 b7 (Γ O) 3) w λaC=>
  ac x7 (u5 iU aC) w λaD=>
  ac x7 (Instr.build jY #[(0,t77),(1,aD)]) w λaG=>
  aE x7 (Y5 hE 1 #[(0,aG)]) w λaH G=>
   (Ext w G\/cD x7 (u5 hE S) an G/\cD x7 (u6 cj Q 3) S G/\cD x7 (bQ (Γ g)) Q G/\True)/\
   aE x7 (Z0 #[hE,hE] hE #[an,aH]) G λaI W=>
    ac x7 (bQ (Γ g)) W λaJ=>
    ac x7 (u6 cj aJ 3) W λaM=>
    aE x7 (o8 hE aM aI) W λ(_:Unit)aN=>K aN:=by
 obtain⟨aO,e,big,q,y,told,sv,I,C,L,a1,aP⟩:lu w g gs A B/\∃e big q y told sv,∃I:List i9,ag w g cj (fV gs e big q y told sv)/\bI A R w [sv] I/\I.length<=100000/\
   ∀w' aR E,lu w' g gs aR (pQ w.heap.size)->ai (λr=>A r\/r=g) w w'->ag w' g cj (fV gs e big q y told E)->bI aR R w' [E] (I++[((z,l):i9)])->lA w' g gs aR (pQ w.heap.size) R clean (s.map (tE z l)):=by
  cases s with
  |none=>
   have⟨h1,e,big,q,y,told,sv,l',X,M,Y⟩:=h;exact⟨h1,e,big,q,y,told,sv,l',X,au.mono Y (λ_ _ h=>h) λr _ h=>P r h,M.2,λw' aR E U _ C L=>⟨e,big,q,y,told,E,C,M.1⟩⟩
  |some s=>
   have⟨h1,aQ,ao,big,q,y,told,sv,X,M,Y⟩:=h;have al:=al s T;refine⟨h1,0,big,q,y,told,sv,s.shared,X,au.mono Y (λ_ _ h=>h) λr _ h=>P r h,(show s.shared.length<=100000 by omega),λw' aR E U aS C L=>⟨U,?_,⟨ao.1,ao.2.1,?_⟩,big,q,y,told,E,C,M,L⟩⟩
   .exact hR.a6 aQ aS (λhe=>he.elim h1.2.2.1 λh=>h1.1 h.symm) (λr f he=>he.elim (λh=>f.1 (.inr (.inr h))) λh=>f.1 (.inl h)) P
   .show (s.shared++[(z,l)]).length+s.toks.length<=100000;simp;omega
 have⟨aV,Z,aW,ap,a2⟩:=id aO;rw[aT cj.p 3 C T,aL b7.p 1 am T,aL b7.p 3 am T];rw[cY (cs:=#[u,v]) (by obtain⟨_,_,_,rfl⟩:=mr hu;obtain⟨_,_,_,rfl⟩:=mr ad;kernel_rfl)];have aq:bI (λ_=>False) R w [u,v] ((z,l):i9):=⟨[u],[v],bE,bE,T,λ_ h=>h,λ_ h=>h,λ_ _ h _=>h,hu,ad⟩;refine kG (α:=i9) (a:=(z,l)) (cs:=[u,v]) (A:=λ_=>False) (R:=R) hE.u jY.i Φ T aq λx V F _ J=>?_;have a7:=F.size;refine⟨.inl F,?_⟩;refine n5 (α:=i9) (a:=(z,l)) (A:=λ_=>False) (R:=R) hE.u jY.i T (bA L F) J (bA aq F) (λr _ aX H=>?_) Ω Ω λav aa ae af=>?_
 .rcases H with H|H
  .exact H
  .exact (aj r H).1 (.inr (.inr aX))
 have a8:=af.size;have aY:=(C.ext F).ab af Z;rw[bZ,aU cj.p T];refine bq (g:=g) (o:=6) hE.i (qJ ae) (gS ae) aY (by simp[fV]) λN aw ba ah=>?_;have ah:ag N g cj (fV gs e big q y told av):=ah;have ax:ai (λr=>A r\/r=g) w N:=((F.ab _).trans (af.mono λr _ h=>.inl h)).trans (aw.mono λr _ h=>.inr h);let aR:ak:=λr=>(A r\/w.heap.size<=r)/\r<aa.heap.size;have bb:g<w.heap.size:=ap g (.inl T);have bc:gs<w.heap.size:=ap gs (.inr (.inl T));have aZ:=au.mono (S':=aR) (R':=R) ae (λr f h=>⟨h.elim .inl λh=>h.elim False.elim λh=>.inr Ω,f⟩) (λr f h=>h);refine aA N aR (ax.mono λr _ h=>h.elim (λh=>.inr (.inr h)) .inl) (λr f=>f.1) (aP N aR av ⟨aV,λh=>h.1.elim Z λh=>Ω,λh=>h.1.elim aW λh=>Ω,λr f=>?_,?_⟩ ax ah (au.ab aZ aw λr f aB he=>?_))
 .rcases f with rfl|rfl|f
  .omega
  .omega
  .have:=f.2;omega
 .intro r f;have f:r<w.heap.size:=f;omega
 .have he:r=g:=he;subst he;rcases aB with aB|aB
  .exact aB.1.elim Z λh=>Ω
  .exact (aj _ aB).1 (.inl T)
def MU{e:Nat}{aK A:x1}{scope all:Λ}{M:x3->Prop}(N:ag w e b7 [aK,.slice ν 0 0,Δ 0,.slice ν 0 0])(O:aI .i64 w aK scope)(Z:∀r,leads aK r->r≠e)(ae:aI .i64 w A all)(af:∀r,leads A r->r≠e)(ad:∀v∈scope,0<=v/\v<all.length)(aJ:scope.length<=100001)(aj:∀w' szv gz,ai (λr=>r=e) w w'->ag w' e b7 [aK,szv,Δ 0,.slice ν 0 0]->av .i64 aq w' gz szv (scope.map λv=>all.getD v.toNat 0)->w.heap.size<=gz->M w'):
 cp (Δ 0) w λG x k=>
  ac x7 (aO .lss ah false false G (Δ (scope.length:Int))) x λak=>
  Split ak (ac x7 (j9 ay aK G) x λam=>
  ac x7 (u5 aq am) x λan=>
  ev x λf=>
  ac x7 (u6 b7 (Γ e) 1) f λt39=>
  ac x7 (u5 ay t39) f λP=>
  ac x7 (j9 ay A an) f λao=>
  ac x7 (u5 aq ao) f λap=>
  aE x7 (Y5 ay 1 #[(0,ap)]) f λt45 B=>
   (Ext f B\/cD x7 (u5 ay t39) P B/\cD x7 (u6 b7 (Γ e) 1) t39 B/\True)/\
  aE x7 (Z0 #[ay,ay] ay #[P,t45]) B λt46 Q=>
   ac x7 (u6 b7 (Γ e) 1) Q λau=>
   aE x7 (o8 ay au t46) Q λ(_:Unit)R=>
    ac x7 (aO .add ah false true G (Δ 1)) R λaw=>
  k aw R) (M x):=by
 have aM:=N.lt;refine cp.range scope.length (λi V=>ai (λr=>r=e) w V/\∃szv gz,ag V e b7 [aK,szv,Δ 0,.slice ν 0 0]/\av .i64 aq V gz szv ((scope.take i).map λv=>all.getD v.toNat 0)/\w.heap.size<=gz) O.le ⟨ai.refl _ _,_,w.heap.size,N,av.nil _ _ _ _,o4 _⟩ ?_ ?_
 rotate_left
 .rintro V ax ⟨q,szv,gz,C,E,S⟩;rw[o6]at E;rw[aP,al];exact⟨λh=>Ω,λ_=>aj V szv gz q C E S⟩
 rintro i V ax hi ⟨q,szv,gz,C,E,S⟩ az;have⟨v,H⟩:=aH (l:=scope) hi;have aQ:=ad v (x5 H);have aA:all[v.toNat]?=σ (all.getD v.toNat 0):=by
  rw[u4,x6 Ω];rfl
 have aB:aI .i64 V aK scope:=ia O q λr F a n c I J=>Z r ⟨a,n,c,I,J⟩ F;have aC:aI .i64 V A all:=ia ae q λr F a n c I J=>af r ⟨a,n,c,I,J⟩ F;apply bz Ω;rw[bc ay.u aq.i Ψ aB H];intro aa s _ _;have aR:=q.size;have aS:=s.size;rw[aL b7.p 1 (C.ext s) T];rw[fP (y:=v) (i:=v.toNat) Ω ay.u aq.i Ψ (aC.ext s) aA];refine eD ay.u aq.i T λa ga aT aV z aD=>?_;refine⟨.inl z,?_⟩;have z3:=z.size;refine jA ay.u aq.i T ((E.ext s).ext z) aD.ls Θ Θ λU W aW aX K X=>?_;rw[aU b7.p T];have aF:=((C.ext s).ext z).ab X (λhe=>by have he:e=gz:=he;omega);refine bq (g:=e) (o:=1) ay.i K.ls.cells.1 K.ls.cells.2 aF Ξ λaG Y aY L=>?_;have L:ag aG e b7 [aK,U,Δ 0,.slice ν 0 0]:=L;rw[aN];refine az _ ⟨(hQ (q.trans ((s.trans z).ab _)) X λr F he=>by have he:r=gz:=he;omega).trans Y,U,W,L,?_,Ω⟩;rw[u9,H,n9,Z4];exact K.ab Y (λ_ he=>by have he:W=e:=he;omega)
abbrev hV:Type:=Rd (Λ)×Rd (Λ)×Int×Rd (List (Λ×Int))
def hp(f:cn):hV:=(f.scope,f.sizes,f.other,f.lines)
def CH{R:ak}{aK szv cc:x1}{o:Int}{sc a:Λ}{l:List (Λ×Int)}(h1:au.rep (α:=Λ) false bE R w [aK] sc)(e:au.rep (α:=Λ) false bE R w [szv] a)(f:au.rep (α:=List (Λ×Int)) false bE R w [cc] l):
  Seen R w [aK,szv,Δ o,cc] ((sc,a,o,l):hV):=
 ⟨[aK],[szv,Δ o,cc],bE,bE,T,λ_ h=>h,λ_ h=>h,λ_ _ h _=>h,h1,[szv],[Δ o,cc],bE,bE,T,λ_ h=>h,λ_ h=>h,λ_ _ h _=>h,e,[Δ o],[cc],bE,bE,T,λ_ h=>h,λ_ h=>h,λ_ _ h _=>h,T,f⟩
def ri{R:ak}{g:Nat}(h:av .i64 e w g v l)(s:∀r,leads v r->R r):au.rep (α:=Λ) false bE R w [v] l:=by
 have h1:bI (λr=>r=g) bE w [v] l:=n7 h;have⟨vs,x,F,G,he,U,hm⟩:=jC h1;refine⟨v,T,vs,x,λ_ _=>False,⟨λ_ _ h=>h,λh=>(by cases h),λh=>by cases h⟩,⟨he.1,λi c a y z=>?_⟩,?_,λh=>by cases h⟩
 .exact he.2 i c a y z
 .obtain⟨f,b,o,base,cap,rfl,A,B,p,H,C⟩:=U;refine⟨f,b,o,base,cap,T,A,B,p,λq=>.inr (s b ?_),C⟩;have E:0<l.length:=by
   rw[f]at q;rcases Q3 l.length with h|h
   .rw[h,Nat.zero_mul]at q;omega
   .exact h
  exact⟨⟨b,o,ν⟩,l.length,cap,by rw[p E],T⟩
def CI{α:Type}[au α]{R R':ak}{a:α}(h:Seen R w cs a)(e:∀r,r<w.heap.size->R r->R' r):Seen R' w cs a:=au.mono h (λ_ _ h=>h) e
def CJ{f:Nat}{K:x1->x3->Prop}(e:cs.length=4)(h1:∀v∈cs,v.oneCell'=true)(s:ag w f b7 cs){h:List x1}(x:h.length=4)(y:ag w a b7 h)(z:∀w',ai (λr=>r=a) w w'->K (.agg cs.toArray) w'):
  ac x7 (u5 b7 (Γ f)) w λA=>
  aE x7 (o8 b7 (Γ a) A) w λ(_:Unit)q=>
  ac x7 (do loadVar b7 (<-asAddr (Γ a))) q λB=>K B q:=by
 rw[bR b7.p b7.i e s.range];refine cd b7.i e x h1 y λw' C _ E=>?_;rw[fQ b7.p b7.i e E.range];exact z w' C
def CK{s s':aF}{l:List (Λ×Int)}(h:dF sizes s=σ (l,s')):s'.shared=s.shared/\s'.toks.length<=s.toks.length:=by
 unfold dF at h;cases e:bh (-aw) aw s with
 |none=>rw[e]at h;cases h
 |some q=>
  have⟨n,s1⟩:=q;rw[e]at h;simp only at h;have h1:=dl e;have⟨x,y,p⟩:=h1.eqs;split at h
  .cases U:s1.shared[(-n-1).toNat]? with
   |none=>rw[U]at h;cases h
   |some q=>
    have⟨z,l'⟩:=q;rw[U]at h;simp only at h;split at h
    .simp only[Y3,T1]at h;obtain⟨rfl,rfl⟩:=h;exact⟨p,by have:=h1.1;omega⟩
    .cases h
  .have:=i7 (f:=dU sizes) (λacc t=>t.shared=s.shared/\t.toks.length<=s.toks.length) (λacc t a bt ⟨w,A⟩ g=>by
    have⟨B,C,E,r⟩:=oj g;have⟨f1,f2,f3⟩:=r.eqs;exact⟨by rw[f3,w],by have:=r.1;omega⟩) n.toNat [] (bb (decide (16384<min (s1.told+n) aw)) {s1 with told:=min (s1.told+n) aw}) l s' ⟨p,by have:=h1.1;show s1.toks.length<=_;omega⟩ h
   exact this.1
def MV{g:Nat}{A B:ak}{s:aF}{aC:x1}{all:Λ}(h:dp w g gs A B s clean)(hi:dV s)(bO:aI .i64 w aC all)(bd:∀r,leads aC r->¬bG g gs A r/\r<w.heap.size)(cm:∀z∈all,1<=z/\z<=aw)(dn:all.length<=100001)(cp:fa w)(h1:cH g gs A B 1):
  am x7 zV [Γ g,aC] w λv w'=>∃aR S cs,∃bP:hV,v= .agg cs.toArray/\cs.length=4/\ai (bG g gs A) w w'/\(∀r,aR r->A r\/w.heap.size<=r)/\(∀r,S r->(B r\/w.heap.size<=r)/\r<w'.heap.size)/\(∀r,B r->S r)/\ho w' g gs aR S clean ((cZ all s).map (·.2))/\
   Seen (cH g gs aR S) w' cs bP/\∀q,cZ all s=σ q->bP=hp q.1:=by
 have cq:=h.1;have⟨dr,dt,be,cr,U⟩:=id cq;have gT:∀r,bG g gs A r->r<w.heap.size:=cr;have du:aw=4611686018427387904:=rfl;have dv:s.shared.length+s.toks.length<=100000:=h.2.2.1.2.2;apply az func109;refine bu b7.i λE V dw bg aO=>?_;have aO:ag V E b7 [.slice ν 0 0,.slice ν 0 0,Δ 0,.slice ν 0 0]:=aO;have dx:=bg.size;have dy:=aO.lt;have L:¬bG g gs A E:=λC=>by have:=gT _ C;omega
 apply(wy (lo:=-aw) (hi:=aw) (h.ext bg)).mono;rintro _ aa _ ⟨W,a,at_,rfl,bQ,ct⟩;have⟨bi,bj⟩:=W.of;have dz:=bi.size;rw[bo,bp,aP,mf];have dA: -aw<=a/\a<=aw:=by
  cases G:bh (-aw) aw s with
  |none=>rw[ct G];unfold aw;omega
  |some q=>rw[bQ q G];exact(ib (n:=q.1) (s':=q.2) G).1
 rw[wrap_i64 Ω Ω,vR,show max a (0-a)=((a.natAbs:Nat):Int) by omega];have bR:ai (bG g gs A) w aa:=(bg.ab _).trans bi;have cu:aI .i64 aa aC all:=ia bO bR λr f a n c ad bk=>(bd r ⟨a,n,c,ad,bk⟩).1 f;rw[aW ay.u cu];apply(MS (k:=a.natAbs) (m:=(all.length:Int)) bj Ω Ω).mono;rintro aK dC _ ⟨W,gr,scope,aD,cw,dD,cz⟩;have⟨bl,cA⟩:=W.of;have z3:=bl.size;rw[cY (cs:=#[aK,.slice ν 0 0,Δ 0,.slice ν 0 0]) (by obtain⟨_,_,_,_,_,rfl,_⟩:=aD.ls;kernel_rfl)];refine bu b7.i λy cB dE aE aQ=>?_;have aQ:ag cB y b7 [.slice ν 0 0,.slice ν 0 0,Δ 0,.slice ν 0 0]:=aQ;have z4:=aE.size;have dG:=aQ.lt;have bm:=aD.ls.cells;refine cd (vs:=[aK,.slice ν 0 0,Δ 0,.slice ν 0 0]) b7.i T rfl (by intro v ad;simp at ad;rcases ad with rfl|rfl|rfl|rfl<;>first|exact bm.2|rfl) aQ λaS aG dH cC=>?_;have ah:¬bG g gs A y:=λC=>by have:=gT _ C;omega
 have bT:ds aS g gs A B clean ((rh all.length a.natAbs ((bh (-aw) aw s).map (·.2))).map (·.2)):=(cA.ext aE).ab aG (λr f he=>by have he:r=y:=he;exact ah (he▸f)) (λr f he=>by have:=U r f.2;have he:r=y:=he;omega);have bU:ai (bG g gs A) w aS:=hQ ((bR.trans bl).trans (aE.ab _)) aG λr f he=>by have he:r=y:=he;omega
 have cD:ag aS E b7 [.slice ν 0 0,.slice ν 0 0,Δ 0,.slice ν 0 0]:=(((aO.ab bi L).ab bl L).ext aE).ab aG (λhe=>by have he:E=y:=he;omega);have cE:av .i64 aq aS gr aK scope:=bw (aD.ext aE) aG λr f he=>by
  have⟨cF,bj⟩:=bS aD f;have he:r=y:=he;omega
 apply(pP bT).mono;rintro _ aT _ ⟨rfl,X⟩;have aj:=bT.ext X;have aH:=cE.ext X;have bn:=cC.ext X;have bV:=cD.ext X;have dI:=X.size;have z5:=aG.size;have P:∀r,leads aK r->aa.heap.size<=r/\r≠y/\r≠E:=λr f=>by
  have⟨cF,bj⟩:=bS aD f;have:=cw r f;exact⟨this,Ω,Ω⟩
 have K:cZ all s=match rh all.length a.natAbs ((bh (-aw) aw s).map (·.2))with
   |none=>ν
   |some (sc,I)=>(jb (sc.map λv=>all.getD v.toNat 0) ((bf 0 aw (σ (bb (decide (6<a.natAbs)||dq (sc.map λv=>all.getD v.toNat 0)) I))).map (·.2))).map λq=>((⟨sc,sc.map λv=>all.getD v.toNat 0,((bh 0 aw (bb (decide (6<a.natAbs)||dq (sc.map λv=>all.getD v.toNat 0)) I)).map (·.1)).getD 0,q.1⟩:cn),if a<0 then tE (sc.map λv=>all.getD v.toNat 0) q.1 q.2 else q.2):=by
  unfold cZ;cases G:bh (-aw) aw s with
  |none=>rfl
  |some q=>
   have⟨a',s1⟩:=q;have:=bQ _ G;subst this;simp only;show _=match eW all.length a.natAbs s1 with
    |none=>ν
    |some (sc,I)=>_
   cases eW all.length a.natAbs s1 with
   |none=>rfl
   |some q=>
    have⟨sc,I⟩:=q;simp only;show _=V7 _ (jb _ ((bh 0 aw _).map (·.2)));cases bh 0 aw (bb (decide (6<a.natAbs)||dq (sc.map λv=>all.getD v.toNat 0)) I)with
    |none=>rfl
    |some q=>
     have⟨o,H⟩:=q;simp only;show _=V7 _ (dF _ H);cases dF (sc.map λv=>all.getD v.toNat 0) H with
     |none=>rfl
     |some q=>rfl
 rw[bK,ca];cases Y:rh all.length a.natAbs ((bh (-aw) aw s).map (·.2))with
 |none=>
  rw[Y]at aj K;simp only at K;refine⟨λ_=>?_,λh=>by simp at h⟩;refine CJ T (by intro v ad;simp at ad;rcases ad with rfl|rfl|rfl|rfl<;>first|exact bm.2|rfl) bn rfl bV λZ M=>?_;have cG:=M.size;refine⟨A,λr=>(B r\/w.heap.size<=r)/\r<Z.heap.size,_,(scope,[],0,[]),T,T,hQ (bU.trans (X.ab _)) M λr f he=>by have he:r=E:=he;omega,λr f=>.inl f,λr f=>f,λr f=>⟨.inl f,by have:=U r f;omega⟩,?_,?_,λq G=>by rw[K]at G;cases G⟩
  .rw[K];have cI:ho Z g gs A B clean (V7 (λx=>x.2) (ν:Option (Λ×aF))):=aj.q.ab M (λhe=>by have:=gT g (.inl T);have he:g=E:=he;omega) (λr f _ he=>by have he:r=E:=he;exact L (he▸f)) (λr f he=>by have:=U r f.2;have he:r=E:=he;omega);exact cI
  .refine CH (ri (bw aH M λr f he=>(P r f).2.2 he) λr f=>?_) hK hK;have N:=P r f;have an:=(bS aH f);exact⟨λC=>by have:=gT _ C;omega,.inr Ω,Ω⟩
 |some q=>
  have⟨sc,I⟩:=q;have:=cz _ Y;subst this;rw[Y]at aj K;simp only at K;refine⟨λh=>by simp at h,λ_=>?_⟩;have aj:dp aT g gs A B I clean:=aj;obtain⟨s1,cJ,cK⟩:∃s1,(bh (-aw) aw s).map (·.2)=σ s1/\eW all.length a.natAbs s1=σ (scope,I):=by
   cases G:(bh (-aw) aw s).map (·.2)with
   |none=>rw[G]at Y;cases Y
   |some s1=>rw[G]at Y;exact⟨s1,T,Y⟩
  obtain⟨bW,cL,rfl⟩:=X1.1 cJ;have bX:=dl (n:=bW.1) (s':=bW.2) cL;have⟨bY,dJ,dK,bZ⟩:=tj cK;have br:=bX.eqs;have bt:=bY.eqs;have cM:dV I:=λQ=>by rw[bt.1,br.1];rw[bt.2.1,br.2.1]at Q;exact hi Q
  have cN:I.shared.length+1+I.toks.length<=100000:=by rw[bt.2.2,br.2.2];have:=bX.1;have:=bY.1;omega
  generalize bx:(scope.map λv=>all.getD v.toNat 0)=sizes at K;have b0:∀z∈sizes,1<=z/\z<=aw:=λz aV=>by
   rw[<-bx]at aV;obtain⟨v,ad,rfl⟩:=j5.1 aV;have:=bZ v ad;apply cm _;rw[u4,x6 Ω];exact S3 _
  have dL:sizes.length=scope.length:=by rw[<-bx,r8]
  have b1:ai (bG g gs A) w aT:=bU.trans (X.ab _);have cO:aI .i64 aT aC all:=ia bO b1 λr f a n c ad bk=>(bd r ⟨a,n,c,ad,bk⟩).1 f;rw[aL b7.p 0 bn T,aW ay.u aH.ls];refine MU bn aH.ls (λr f=>(P r f).2.1) cO (λr f=>by have:=(bd r f).2;omega) bZ Ω λZ szv gz M b2 aX dM=>?_;rw[bx]at aX;have cG:=M.size;have bz:∀r,cH g gs A B r->¬(λr=>r=y) r:=λr f he=>by have:=U r f.2;have he:r=y:=he;omega
  have bB:∀r,bG g gs A r->¬(λr=>r=y) r:=λr f he=>by have he:r=y:=he;exact ah (he▸f)
  have b3:=aj.ab M bB bz;have cP:ai (bG g gs A) w Z:=hQ b1 M λr f he=>by have he:r=y:=he;omega
  refine dc (λaY=>ai (bG g gs A) Z aY/\dp aY g gs A B (bb (decide (6<a.natAbs)||dq sizes) I) clean) ?_ ?_
  rotate_left
  .intro aA aJ;rw[bJ,al];refine⟨λdN=>?_,λdO=>?_⟩
   .refine (tq b3).mono ?_;rintro _ cQ _ ⟨cR,cS⟩;refine aJ _ ⟨cR.mono λr _ h=>.inl h,?_⟩;rw[decide_eq_true Ω,Bool.true_or];exact cS
   .rw[aL b7.p 1 b2 T];apply(BX aX.ls λz aV=>(b0 z aV).1).mono;rintro _ cQ _ ⟨rfl,b4⟩;apply(tq (b3.ext b4)).mono;rintro _ dP _ ⟨cT,cU⟩;refine aJ _ ⟨(b4.ab _).trans (cT.mono λr _ h=>.inl h),?_⟩;rw[decide_eq_false Ω,Bool.false_or];exact cU
  rintro aY ⟨aZ,a1⟩;have dQ:=aZ.size;generalize be:bb (decide (6<a.natAbs)||dq sizes) I=H at K a1;have cV:dV H:=λQ=>by
   subst be;have Q:(I.big||_)=false:=Q;exact cM (S8.1 Q).1
  have dR:H.shared.length+1+H.toks.length<=100000:=by subst be;exact cN
  have a1:ds aY g gs A B clean (σ H):=a1;apply(mq (lo:=0) (hi:=aw) a1).mono;rintro _ b5 _ ⟨W,o,dS,rfl,cW,dT⟩;have⟨a2,cX⟩:=W.of;have dU:=a2.size;rw[bo,bp,aU b7.p T];have c0:=(b2.ab aZ ah).ab a2 ah;refine bq (g:=y) (o:=2) aq.i T rfl c0 Ξ λa6 ao dW a7=>?_;have a7:ag a6 y b7 [aK,szv,Δ o,.slice ν 0 0]:=a7;rw[aL b7.p 1 a7 T];have c1:=cX.ab ao bB bz;have bC:ai (bG g gs A) Z b5:=aZ.trans a2;have c2:ai (bG g gs A) w b5:=cP.trans bC;have b6:ai (bG g gs A) w a6:=hQ c2 ao λr f he=>by have he:r=y:=he;omega
  have ac:∀r,leads szv r->aT.heap.size<=r/\r<Z.heap.size:=λr f=>by have:=bS aX f;omega
  have b8:av .i64 aq a6 gz szv sizes:=bw (bw aX bC λr f C=>by have:=gT _ C;have:=ac r f;omega) ao λr f he=>by have he:r=y:=he;have:=ac r f;omega
  have c3:av .i64 aq a6 gr aK scope:=bw (bw (bw aH M λr f he=>(P r f).2.1 he) bC λr f C=>by have:=gT _ C;have:=P r f;omega) ao λr f he=>(P r f).2.1 he;have dX:=ao.size;refine(MR c1 (λt bD=>?_) b8.ls (λr f=>⟨λC=>by have:=gT _ C;have:=ac r f;omega,by have:=ac r f;omega⟩) b0 Ω (cp.ab b6 h1.1) h1).mono ?_
  .obtain⟨q,G,rfl⟩:=X1.1 bD;have b9:=(dl (n:=q.1) (s':=q.2) G).eqs;intro Q;rw[b9.1];rw[b9.2.1]at Q;exact cV Q
  rintro cc c4 _ ⟨W,l,bF,cb⟩;have⟨ap,c5⟩:=W.of;have dY:=ap.size;have bH:cc.cells= #[cc]/\cc.oneCell'=true:=⟨qJ bF,gS bF⟩;rw[aU b7.p T];have c6:=a7.ab ap ah;refine bq (g:=y) (o:=3) iU.i bH.1 bH.2 c6 Ξ λJ ae dZ a8=>?_;have a8:ag J y b7 [aK,szv,Δ o,cc]:=a8;have ea:=ae.size;have ce:=c5.ab ae bB bz;have c7:ai (bG g gs A) w c4:=b6.trans ap;have c8:ai (bG g gs A) w J:=hQ c7 ae λr f he=>by have he:r=y:=he;omega
  have cg:av .i64 aq J gr aK scope:=bw (bw c3 ap λr f C=>by have:=gT _ C;have:=P r f;omega) ae λr f he=>(P r f).2.1 he;have ba:av .i64 aq J gz szv sizes:=bw (bw b8 ap λr f C=>by have:=gT _ C;have:=ac r f;omega) ae λr f he=>by have he:r=y:=he;have:=ac r f;omega
  have c9:ag J E b7 [.slice ν 0 0,.slice ν 0 0,Δ 0,.slice ν 0 0]:=((((((bV.ab M (λhe=>by have he:E=y:=he;omega)).ab aZ L).ab a2 L).ab ao (λhe=>by have he:E=y:=he;omega)).ab ap L).ab ae (λhe=>by have he:E=y:=he;omega));let O:ak:=λr=>(B r\/w.heap.size<=r)/\r<J.heap.size;have ch:au.rep (α:=List (Λ×Int)) false bE (λr=>cH g gs A O r/\r≠y/\r≠E) J [cc] l:=by
   refine CI (au.ab bF ae λr f h he=>?_) λr f h=>?_
   .have he:r=y:=he;rcases h with h|h
    .exact h
    .rcases h with h|h
     .have:=U r h.2;omega
     .omega
   .rcases h with h|h
    .have:=U r h.2;exact⟨⟨h.1,.inl h.2,f⟩,Ω,Ω⟩
    .exact⟨⟨λC=>by have:=gT _ C;omega,.inr Ω,f⟩,Ω,Ω⟩
  have da:∀r,leads aK r->cH g gs A O r/\r≠y/\r≠E:=λr f=>by
   have N:=P r f;have an:=(bS cg f);exact⟨⟨λC=>by have:=gT _ C;omega,.inr Ω,Ω⟩,N.2⟩
  have ci:∀r,leads szv r->cH g gs A O r/\r≠y/\r≠E:=λr f=>by
   have N:=ac r f;have an:=(bS ba f);exact⟨⟨λC=>by have:=gT _ C;omega,.inr Ω,Ω⟩,Ω,Ω⟩
  have db:Seen (λr=>cH g gs A O r/\r≠y/\r≠E) J [aK,szv,Δ o,cc] ((scope,sizes,o,l):hV):=CH (ri cg da) (ri ba ci) ch;have dd:∀q,cZ all s=σ q->((scope,sizes,o,l):hV)=hp q.1:=λq G=>by
   rw[K]at G;obtain⟨eb,bI,rfl⟩:=X1.1 G;have N:=cb _ bI;cases ax:bh 0 aw H with
   |none=>have e:bf 0 aw (σ H)=ν:=ax;rw[e]at bI;cases bI
   |some af=>
    have an:=cW af ax;rw[N,an];rfl
  have de:∀v∈[aK,szv,V6 .i64 o,cc],v.oneCell'=true:=by
   intro v ad;simp at ad;rcases ad with rfl|rfl|rfl|rfl
   .exact bm.2
   .exact ba.ls.cells.2
   .rfl
   .exact bH.2
  have cj:∀r,cH g gs A B r->cH g gs A O r/\r≠y/\r≠E:=λr f=>by
   have:=U r f.2;exact⟨⟨f.1,.inl f.2,Ω⟩,Ω,Ω⟩
  refine dc (λbL=>∃aR,ai (bG g gs A) J bL/\(∀r,aR r->A r\/J.heap.size<=r)/\∃S,lA bL g gs aR S (λr=>cH g gs A O r/\r≠y/\r≠E) clean ((cZ all s).map (·.2))) ?_ ?_
  .rintro bL ⟨aR,aM,aN,S,df⟩;have ec:=aM.size;refine CJ T de (a8.ab aM ah) T (c9.ab aM L) λbM bc=>?_;have ed:=bc.size;have ck:∀r,bG g gs aR r->¬(λr=>r=E) r:=λr f he=>by
    have he:r=E:=he;subst he;rcases f with f|f|f
    .exact L (.inl f)
    .exact L (.inr (.inl f))
    .rcases aN _ f with f|f
     .exact L (.inr (.inr f))
     .omega
   have cl:∀r,(cH g gs A O r/\r≠y/\r≠E)->cH g gs aR (λr=>(B r\/w.heap.size<=r)/\r<bM.heap.size/\(r<J.heap.size\/B r)) r:=λr h=>⟨λC=>h.1.1 (C.imp id (Or.imp id λC=>(aN r C).elim id λh'=>by have:=h.1.2.2;omega)),h.1.2.1,by have:=h.1.2.2;omega,.inl h.1.2.2⟩;have dg:lA bM g gs aR S (λr=>cH g gs A O r/\r≠y/\r≠E) clean ((cZ all s).map (·.2)):=df.ab bc (ck g (.inl T)) (λr f _=>ck r f) (λr f=>f.2.2);refine⟨aR,λr=>(B r\/w.heap.size<=r)/\r<bM.heap.size/\(r<J.heap.size\/B r),_,(scope,sizes,o,l),T,T,hQ (c8.trans aM) bc λr f he=>by have he:r=E:=he;omega,λr f=>(aN r f).imp id λh=>Ω,λr f=>⟨f.1,f.2.1⟩,λr f=>⟨.inl f,by have:=U r f;omega,.inr f⟩,dg.out cl λr f=>f.2.1,?_,dd⟩;refine CI (au.ab (au.ab db aM λr _ h C=>?_) bc λr _ h he=>?_) λr _ h=>cl r h
   .rcases h with h|h
    .exact h
    .exact h.1.1 C
   .rcases h with h|h
    .exact h
    .exact h.2.2 he
  .intro aA aJ;rw[al];refine⟨λdh=>?_,λdi=>?_⟩
   .intro bN aB _ _;have ee:=aB.size;have dj:∀r,(cH g gs A O r/\r≠y/\r≠E)->cH g gs A (pQ bN.heap.size) r:=λr h=>⟨h.1.1,by have:=h.1.2.2;show r<bN.heap.size;omega⟩;refine MT (R:=λr=>cH g gs A O r/\r≠y/\r≠E) (z:=sizes) (l:=l) (ce.ext aB) cj dj (λt bD=>?_) (a8.ext aB) (ri (ba.ext aB) ci) (bA ch aB) λef aR dk aN dm=>?_
    .obtain⟨q,G,rfl⟩:=X1.1 bD;cases ax:bh 0 aw H with
     |none=>have e:bf 0 aw (σ H)=ν:=ax;rw[e]at G;cases G
     |some af=>
      have e:bf 0 aw (σ H)=σ af:=ax;rw[e]at G;have h1:q.2.shared=af.2.shared/\q.2.toks.length<=af.2.toks.length:=CK (l:=q.1) (s':=q.2) G;have N:=dl (n:=af.1) (s':=af.2) ax;have an:=N.eqs.2.2;have eg:=N.1;rw[h1.1,an];have:=h1.2;omega
    .refine aJ _ ⟨aR,(aB.ab _).trans dk,λr f=>(aN r f).imp id λh=>Ω,pQ bN.heap.size,?_⟩;have e:(cZ all s).map (·.2)=((jb sizes ((bf 0 aw (σ H)).map (·.2))).map (·.2)).map (tE sizes l):=by
      rw[K];cases G:jb sizes ((bf 0 aw (σ H)).map (·.2))with
      |none=>rfl
      |some q=>
       have N:=cb _ G;simp only[Z6,if_pos dh,N]
     rw[e];exact dm
   .refine aJ _ ⟨A,ai.refl _ _,λr f=>.inl f,B,?_⟩;have e:(cZ all s).map (·.2)=(jb sizes ((bf 0 aw (σ H)).map (·.2))).map (·.2):=by
     rw[K];cases G:jb sizes ((bf 0 aw (σ H)).map (·.2))with
     |none=>rfl
     |some q=>simp only[Z6,if_neg di]
    rw[e];exact ce.qr cj
end Go.Proofs.YtikkpokkcdocoabGreatDoor
