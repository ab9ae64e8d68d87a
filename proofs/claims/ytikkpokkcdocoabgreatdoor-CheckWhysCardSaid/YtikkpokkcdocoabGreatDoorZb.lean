/- own texts, made small by a tool (wip/ holds them as they were written): no statement of the seat. -/
import Derived.Test.YtikkpokkcdocoabGreatDoorZa
set_option linter.defProp false
set_option linter.unusedVariables false
set_option linter.unusedSimpArgs false
set_option linter.unnecessarySimpa false
open Array renaming getElem?_eq_some_iff→j9,getElem?_toList→R6
open BitVec renaming ofInt→T5
open Bool renaming not_true→X2,not_false→V8,and_eq_true→V9,eq_iff_iff→U6,or_eq_false_iff→R5
open Decidable renaming not_not→Y3
open Go renaming Value→x1,World→x3,TypeId→p8,IntKind→n9,Builtin→Z6,Program→W9,Result→Q0,FuncId→Q4
open Go.Builtin renaming append_→Z5,len_→U1
open Go.Instr renaming loadAt→u5,fieldAt→u6,storeAt→l9,indexAt→c9,extract→Y4,buildSlice→Y5,sliceAt→U5,alloc→Q6
open Go.IntKind renaming i64→W5,u64→T1
open Go.Proofs.Tryz renaming prog→x7
open Go.Result renaming andThen→V6
open Go.Sem renaming run_bind→W7,run_pure→U2
open Go.Value renaming int→U3
open Int renaming toNat_natCast→u7
open List renaming getElem?_eq_some_iff→x4,mem_of_getElem?→x5,getElem?_eq_getElem→x6,getElem?_map→x8,getD_eq_getElem?_getD→u4,take_add_one→u9,length_append→r8,length_map→r9,mem_append→p9,replicate→o8,take_length→o9,mem_singleton→j5,length_take→j6,mem_map→c7,eq_nil_of_length_eq_zero→b6,getElem?_set_self→b8,length_cons→b9,length_set→Z0,take_of_length_le→Z2,range→Z4,getElem?_eq_none→Z7,map_append→Z9,getElem?_take_of_lt→Y2,getElem?_set_ne→Y6,append_nil→Y8,ext_getElem?→Y9,getElem?_append_left→X0,getElem?_append_right→X1,getElem?_set→X4,drop_eq_getElem_cons→X5,append_assoc→X6,mem_flatMap→X9,mem_iff_getElem?→W3,flatMap_cons→V0,pairwise_iff_getElem→V3,mem_or_eq_of_mem_set→V4,mem_cons→V5,length_eq_one_iff→V7,map_set→T0,map_cons→T3,length_singleton→T7,length_range→S0,set_append_right→S2,getElem_mem→S3,map_map→S6,foldl_cons→S8,length→R2,foldl_append→R3
open Nat renaming le_refl→o4,le_trans→X3,zero_le→X8,zero_add→W0,mul_le_mul_right→V1,mul_one→U7,add_mul→U8,sub_self→U9,pow_le_pow_right→S7,add_sub_cancel_left→Q3,lt_of_lt_of_le→Q7,eq_zero_or_pos→Q8
open Option renaming toList_some→j4,some→c8,isNone_some→Y0,map_some→Y1,map_eq_some_iff→X7,getD_some→V2,map→U4
open Option.some renaming inj→Z3,injEq→Y7
open Prod renaming mk→Q9
open Prod.mk renaming injEq→T6
set_option maxHeartbeats 16000000
open Option renaming some→σ,none→ν
variable{C al l sizes:Λ}{N a gs j n r:Nat}{e t:p8}{K:x1->Prop}{at_ c hi k lo y:Int}{cx cy:Bool}{sv v z:x1}{J w:x3}{R S:Nat->Prop}{cs:List x1}{toks:List (Λ)}
namespace Go.Vc
open Go Go.RowKit
set_option maxRecDepth 100000
def Lz:(⟨#[]⟩:ByteArray)=strOfNums []:=rfl
def LA{aB:x1->x1->x1->x3->Prop}{B:(x1->x1->x1->x3->Prop)->Prop}(G:x1->x1->x1->x3->Prop)(h1:∀t u v w,G t u v w->aB t u v w)(e:∀a:x1->x1->x1->x3->Prop,(∀t u v w,G t u v w->a t u v w)->B a):cw aB B:=e aB h1
def B2{aB:x1->x1->x1->x1->x3->Prop}{B:(x1->x1->x1->x1->x3->Prop)->Prop}(G:x1->x1->x1->x1->x3->Prop)(h1:∀s t u v w,G s t u v w->aB s t u v w)(e:∀a:x1->x1->x1->x1->x3->Prop,(∀s t u v w,G s t u v w->a s t u v w)->B a):cw aB B:=e aB h1
abbrev bW(l:Λ):x1:=.string (strOfNums l)
def Bytes(l:Λ):Prop:=∀b∈l,0<=b/\b<256
def n5(l:Λ):(strOfNums l).size=l.length:=strOfNums_size l
def LB(h:Bytes l){i:Nat}{b:Int}(hi:l[i]?=σ b):(strOfNums l)[i]?=σ (UInt8.ofNat b.toNat)/\((UInt8.ofNat b.toNat).toNat:Int)=b:=by
 have:=h b (x5 hi);have e:=x4.1 hi;refine⟨?_,by rw[UInt8.toNat_ofNat'];omega⟩;have V:i<(strOfNums l).size:=by rw[n5];exact e.1
 rw[getElem?_pos (strOfNums l) i V];congr 1;show(strOfNums l).data[i]=_;have a:(strOfNums l).data.toList[i]?=σ (UInt8.ofNat b.toNat):=by rw[strOfNums_data,x8,hi];rfl
 rw[R6]at a;exact(j9.1 a).2
def str_inj{a b:Λ}(e:Bytes a)(f:Bytes b)(h:strOfNums a=strOfNums b):a=b:=by
 have h1:(strOfNums a).data.toList=(strOfNums b).data.toList:=by rw[h]
 rw[strOfNums_data,strOfNums_data]at h1;have key:∀{l:Λ},Bytes l->(l.map λn=>UInt8.ofNat n.toNat).map (λu=>((u.toNat:Nat):Int))=l:=λ{l}p=>by
  rw[S6]
  conv=>rhs;rw[<-List.map_id l]
  refine List.map_congr_left λx U=>?_;have:=p x U;show(((UInt8.ofNat x.toNat).toNat:Nat):Int)=x;rw[UInt8.toNat_ofNat'];omega
 rw[<-key e,<-key f,h1]
def LC(a b:Λ):strOfNums a++strOfNums b=strOfNums (a++b):=by
 apply ByteArray.ext;rw[ByteArray.data_append];simp[strOfNums]
def LD(l:Λ)(i j:Nat):(strOfNums l).extract i j=strOfNums ((l.take j).drop i):=by
 apply ByteArray.ext;rw[ByteArray.data_extract];apply Array.toList_inj.1;rw[Array.toList_extract];simp[strOfNums,List.extract_eq_take_drop,List.map_drop,List.map_take,List.drop_take]
def B3(l:Λ):(strOfNums l).toList=l.map λn=>UInt8.ofNat n.toNat:=by
 rw[ByteArray.toList_eq];exact strOfNums_data l
def B4{a b:Λ}(e:Bytes a)(f:Bytes b):((strOfNums a).toList == (strOfNums b).toList)=decide (a=b):=by
 rw[U6,beq_iff_eq,decide_eq_true_eq,B3,B3];refine⟨λh=>str_inj e f ?_,λh=>by rw[h]⟩;unfold strOfNums;rw[h]
section
variable{P:W9}{w:x3}
def ph{a:p8}(e:P.underlying t=σ .string):ad P (U1 #[t] a #[bW l]) w K=K (Δ l.length):=ad.of λJ _=>by
 simp[U1,run_underlying e,goInt,n5]
def rG{k:n9}{b:Int}{i:Nat}(a:y=(i:Int))(f:P.underlying t=σ .string)(h:Bytes l)(hi:l[i]?=σ b):ad P (Instr.index t (bW l) (.int k y)) w K=K (.int .u8 b):=ad.of λJ _=>by
 subst a;obtain⟨h1,p⟩:=LB h hi;have e:(0:Int)<=(i:Int):=Ω
 simp only[Instr.index,asIntOf,W7,U2,V6,run_underlying f];rw[if_pos e,u7,h1];simp only[U2,p]
def xb{a b:Λ}(h:a.length+b.length<=9223372036854775807):ad P (aO .add t cx cy (bW a) (bW b)) w K=K (bW (a++b)):=ad.of λJ _=>by
 have:=run_string_add_sum (P:=P) (w:=J) (strOfNums a) (strOfNums b) (by rw[n5,n5];exact h);simp only[aO,eqGuard,binOp];simp[this,LC]
def xc{a b:Λ}(e:Bytes a)(f:Bytes b):ad P (aO .eql t cx cy (bW a) (bW b)) w K=K (.bool (decide (a=b))):=ad.of λJ _=>by
 simp[aO,eqGuard,binOp,Op.stringOp,B4 e f]
def LF{a b:Λ}(e:Bytes a)(f:Bytes b):ad P (aO .neq t cx cy (bW a) (bW b)) w K=K (.bool (decide (a≠b))):=ad.of λJ _=>by
 simp[aO,eqGuard,binOp,Op.stringOp,B4 e f]
def B5{k:n9}{i:Nat}(a:y=(i:Int))(f:P.underlying t=σ .string)(hi:i<=l.length):ad P (U5 t (bW l) (σ (.int k y)) ν ν) w K=K (bW (l.drop i)):=ad.of λJ _=>by
 have p:=tT (P:=P) J (sl:=false) (n:=(strOfNums l).size) (c:=(strOfNums l).size) (low:=σ (.int k y)) (high:=ν) (mx:=ν) (l:=i) (h:=(strOfNums l).size) (m:=(strOfNums l).size) (o2 i y a) ky ff (by rw[n5];exact hi) (o4 _) (o4 _);have e:(strOfNums l).extract i (strOfNums l).size=strOfNums (l.drop i):=by rw[LD,n5,o9]
 simp[U5,Instr.slice,run_underlying f,p,e]
def xd{s:p8}(V:P.underlying s=σ (.slice e))(he:P.underlying e=σ (.int .u8))(f:P.underlying t=σ .string)(h:aK .u8 w v l):ad P (convert s t v) w K=K (bW l):=ad.of λJ U=>by
 obtain⟨p,b,o,base,cap,rfl,_,_,r,x⟩:=h.ext U;have p:l.length=l.length*1:=by simpa using p
 by_cases y:0<l.length
 .rw[r y];refine run_convert_bytes_arg J s e V he b o l.length cap l F (λi hi=>?_) t f;have q:l[i]?=σ l[i]:=x6 hi;rw[u4,q];exact x i _ (lL q)
 .have z:l=[]:=b6 Ω;subst z;cases base with
  |none=>
   rw[run_convert_bytes_nil J s e V he _ _ t f];rfl
  |some a=>
   rw[run_convert_bytes_string J s t e _ _ _ V he f];have:=run_bytesToString (P:=P) J a 0 cap [] (by have:=run_loadCells_list (P:=P) J a [] (λj v A=>by simp at A);simpa using this);simp only[List.length_nil];rw[this];rfl
def xe{s:p8}{u:TypeDesc}{K:x1->x3->Prop}(V:P.underlying s=σ u)(x:P.underlying t=σ (.slice e))(he:P.underlying e=σ (.int .u8))(y:Bytes l)(hm:l.length<=1000000000)(z:∀v J,Ext w J->aK .u8 J v l->(∀r,(∃a n c,v= .slice (σ a) n c/\a.block=r)->w.heap.size<=r)->K v J):aF P (convert s t (bW l)) w K:=by
 have A:=Lib.bytesWorld_at_new w e (strOfNums l);have p:=λj f=>Lib.bytesWorld_at_old w e (strOfNums l) j f;have B:=Lib.bytesWorld_size w e (strOfNums l);refine .of (Lib.run_convert_string_bytes w s t e (strOfNums l) V x he) ⟨F,⟨F,Nat.le_succ _⟩,F,Ω,λr o h _=>?_⟩ (z _ _ ⟨Ω,λr o h _=>?_⟩ ?_ ?_)
 .rw[p r (j9.1 h).1];exact h
 .rw[p r (j9.1 h).1];exact h
 .rw[n5];refine⟨Ξ,w.heap.size,0,_,_,F,?_,?_,λ_=>rfl,λj v ae=>?_⟩
  .exact grownCap_ge w _ _ _
  .exact grownCap_le_maxLen w _ _ _ (by simp[maxLen];omega)
  .have f:j<l.length:=by have:=(x4.1 ae).1;simpa using this
   have q:l[j]?=σ l[j]:=x6 f;rw[W0,Lib.bytesWorld_cell w e (strOfNums l) j (by rw[n5];exact f)];rw[lL q]at ae;rw[<-Z3 ae,strOfNums_data,u4,x8,q];have:=y l[j] (S3 f);simp only[Y1,V2];congr 2;rw[UInt8.toNat_ofNat'];omega
 .rintro r ⟨a,n,c,h1,rfl⟩;cases h1;exact o4 _
end
end Go.Vc
namespace Go.Proofs.YtikkpokkcdocoabGreatDoor
open Go Go.Vc Go.RowKit Go.Proofs Go.Proofs.Tryz
set_option maxRecDepth 100000
def B6{b:Int}(h:cB b=true):bQ b=false:=by
 have h:=of_decide_eq_true h;unfold bQ;rw[decide_eq_false_iff_not];omega
def B7{b:Int}{p:Λ}(h:cB b=true):lex (b::p)=lex p:=by
 rw[lQ,lQ p,List.dropWhile_cons,if_pos h]
def LG{b:Int}{p:Λ}(h:cB b=false)(a:bQ b=false):lex (b::p)=([],false):=by
 rw[lQ,List.dropWhile_cons,if_neg (by simp[h])];simp only[a,Bool.false_eq_true,if_false]
def B8{b:Int}{p:Λ}(h:bQ b=true):lex (b::p)=match p.dropWhile bQ with
  |[]=>([b::p.takeWhile bQ],true)
  |c::r=>if cB c then((b::p.takeWhile bQ)::(lex (c::r)).1,(lex (c::r)).2)else([],false):=by
 have V:cB b=false:=by
  cases a:cB b with
  |false=>rfl
  |true=>rw[B6 a]at h;cases h
 rw[lQ,List.dropWhile_cons,if_neg (by simp[V])];simp only[h,if_true,List.dropWhile_cons,List.takeWhile_cons]
 all_goals (cases List.dropWhile bQ p<;>rfl)
def jE:Λ->List (Λ)->Λ->Bool->List (Λ)×Bool
 |[],out,w,op=>(if op then out++[w]else out,true)
 |b::p,out,w,op=>
  if cB b then jE p (if op then out++[w]else out) [] false
  else if bQ b then jE p out (if op then w++[b]else[b]) true
  else(out,false)
theorem rH:∀(p:Λ)(out:List (Λ))(w:Λ),jE p out w false=(out++(lex p).1,(lex p).2)/\
  jE p out w true=match p.dropWhile bQ with
   |[]=>(out++[w++p.takeWhile bQ],true)
   |c::r=>if cB c then(out++[w++p.takeWhile bQ]++(lex (c::r)).1,(lex (c::r)).2)else(out,false)
 |[],out,w=>by simp[jE,lQ []]
 |b::p,out,w=>by
  by_cases V:cB b=true
  .have hw:=B6 V;refine⟨?_,?_⟩
   .rw[jE,if_pos V,(rH p _ _).1,B7 V];simp
   .rw[jE,if_pos V,if_pos F,(rH p _ _).1,List.dropWhile_cons,if_neg (by simp[hw])];simp only[V,if_true,B7 V,List.takeWhile_cons,hw,Bool.false_eq_true,if_false,Y8]
  .have e:cB b=false:=by cases h:cB b;rfl;exact absurd h V
   by_cases hw:bQ b=true
   .refine⟨?_,?_⟩
    .rw[jE,if_neg V,if_pos hw,if_neg Ξ,(rH p _ _).2,B8 hw];cases p.dropWhile bQ with
     |nil=>simp
     |cons c r=>
      simp only;by_cases a:cB c=true
      .simp[a]
      .simp[a]
    .rw[jE,if_neg V,if_pos hw,if_pos F,(rH p _ _).2,List.dropWhile_cons,if_pos hw,List.takeWhile_cons,if_pos hw];cases p.dropWhile bQ with
     |nil=>simp
     |cons c r=>
      simp only;by_cases a:cB c=true
      .simp[a]
      .simp[a]
   .have f:bQ b=false:=by cases h:bQ b;rfl;exact absurd h hw
    refine⟨?_,?_⟩
    .rw[jE,if_neg V,if_neg hw,LG e f];simp
    .rw[jE,if_neg V,if_neg hw,List.dropWhile_cons,if_neg hw];simp[e]
def LH(p:Λ):jE p [] [] false=lex p:=by rw[(rH p [] []).1];simp
def qn:Nat->Nat->Λ
 |0,_=>[]
 |k+1,n=>(if n<10 then[]else qn k (n / 10))++[48+((n % 10:Nat):Int)]
def gg(n:Nat):Λ:=qn (n+1) n
theorem B9:∀{k m n:Nat},n<k->n<m->qn k n=qn m n
 |k+1,m+1,n,h1,a=>by
  unfold qn;by_cases h:n<10
  .rw[if_pos h,if_pos h]
  .rw[if_neg h,if_neg h,B9 (k:=k) (m:=m) (n:=n / 10) Ω Ω]
def pi(n:Nat):gg n=(if n<10 then[]else gg (n / 10))++[48+((n % 10:Nat):Int)]:=by
 unfold gg;rw[qn];by_cases h:n<10
 .rw[if_pos h,if_pos h]
 .rw[if_neg h,if_neg h,B9 (k:=n) (m:=n / 10+1) Ω Ω]
theorem Ca:∀(k n:Nat),n<k->∀b∈gg n,48<=b/\b<=57
 |k+1,n,hk,b,a=>by
  rw[pi]at a;rcases p9.1 a with a|a
  .by_cases h:n<10
   .rw[if_pos h]at a;simp at a
   .rw[if_neg h]at a;exact Ca k (n / 10) Ω b a
  .rw[j5]at a;omega
def Cb(n:Nat):∀b∈gg n,48<=b/\b<=57:=Ca (n+1) n Ω
def rI(l:Λ):Int:=l.foldl (λn b=>10*n+(b-48)) 0
def LI(l:Λ)(b:Int):rI (l++[b])=10*rI l+(b-48):=by simp[rI]
theorem xf:∀(k n:Nat),n<k->rI (gg n)=n
 |k+1,n,hk=>by
  rw[pi,LI];by_cases h:n<10
  .rw[if_pos h];have:rI []=0:=rfl;omega
  .rw[if_neg h,xf k (n / 10) Ω];omega
def LJ{b:Nat}(h:gg a=gg b):a=b:=by
 have h1:=xf (a+1) a Ω;have e:=xf (b+1) b Ω;rw[h,e]at h1;omega
theorem xg:∀(k n:Nat),n<10 ^ k->1<=k->(gg n).length<=k
 |k+1,n,h,_=>by
  rw[pi,r8];by_cases a:n<10
  .rw[if_pos a];simp
  .rw[if_neg a];have hk:1<=k:=by
    rcases k with _|k
    .simp at h;omega
    .omega
   have e:(10:Nat) ^ (k+1)=10*10 ^ k:=by rw[Nat.pow_succ,Nat.mul_comm]
   have:=xg k (n / 10) Ω hk;simp only[T7];omega
def eF(t:Λ):Λ:=t.flatMap λv=>gg v.toNat++[32]
def LK(t:Λ)(v:Int):eF (t++[v])=eF t++(gg v.toNat++[32]):=by simp[eF]
def Cc{r:Λ}(a:∀b∈l,b≠32):(l++32::r).takeWhile (λb=>decide (b≠32))=l/\(l++32::r).dropWhile (λb=>decide (b≠32))=32::r:=by
 induction l with
 |nil=>simp
 |cons x l e=>
  have U:=a x (.head _);have:=e λb f=>a b (.tail _ f);simp only[List.cons_append,List.takeWhile_cons,List.dropWhile_cons];simp only[U,ne_eq,not_false_eq_true,decide_true,if_true];exact⟨by rw[this.1],this.2⟩
theorem Cd:∀{a b:Λ},(∀x∈a,0<=x)->(∀x∈b,0<=x)->eF a=eF b->a=b
 |[],[],_,_,_=>rfl
 |[],y::b,_,_,h=>by simp[eF]at h
 |x::a,[],_,_,h=>by simp[eF]at h
 |x::a,y::b,p,q,h=>by
  have e:∀(z:Int)(l:Λ),eF (z::l)=gg z.toNat++32::eF l:=λz l=>by simp[eF]
  rw[e,e]at h;have d:∀z:Int,∀c∈gg z.toNat,c≠32:=λz c w=>by have:=Cb _ c w;omega
  have s1:=Cc (r:=eF a) (d x);have s:=Cc (r:=eF b) (d y);rw[h]at s1;have A:=s1.1.symm.trans s.1;have B:=s1.2.symm.trans s.2;have:=p x (.head _);have:=q y (.head _);have:=LJ A;have C:x=y:=Ω
  subst C;rw[Cd (λz f=>p z (.tail _ f)) (λz f=>q z (.tail _ f)) (List.cons.inj B).2]
def Ce(t:Λ):Bytes (eF t):=λb a=>by
 obtain⟨v,_,a⟩:=X9.1 a;rcases p9.1 a with a|a
 .have:=Cb _ b a;omega
 .rw[j5]at a;omega
def Cf{b:Int}:an x7 JI [.int .u8 b] w λv J=>v= .bool (cB b)/\Ext w J:=by
 refine aA func186 ?_;refine aV (λv aa=>v= .bool (cB b)/\Ext w aa) (λ_ _ h=>h) λaB a=>?_;rw[bf,am];refine⟨λh=>a _ _ ⟨by unfold cB;rw[decide_eq_true (.inl h)],Ext.refl _⟩,λh1=>?_⟩;rw[bf,am];refine⟨λh=>a _ _ ⟨by unfold cB;rw[decide_eq_true (.inr (.inl h))],Ext.refl _⟩,λe=>?_⟩;rw[bf,am];refine⟨λh=>a _ _ ⟨by unfold cB;rw[decide_eq_true (.inr (.inr (.inl h)))],Ext.refl _⟩,λf=>?_⟩;rw[bf];refine a _ _ ⟨?_,Ext.refl _⟩;congr 1;unfold cB;rw[U6,decide_eq_true_eq,decide_eq_true_eq];omega
def LL{b:Int}:an x7 JH [.int .u8 b] w λv J=>v= .bool (bQ b)/\Ext w J:=by
 refine aA func185 ?_;refine aV (λv aa=>v= .bool (bQ b)/\Ext w aa) (λ_ _ h=>h) λaB a=>?_;rw[cO,am];refine⟨λh=>?_,λh=>a _ _ ⟨by unfold bQ;rw[decide_eq_false Ω],Ext.refl _⟩⟩;rw[nf];refine a _ _ ⟨?_,Ext.refl _⟩;congr 1;unfold bQ;rw[U6,decide_eq_true_eq,decide_eq_true_eq];omega
def nn(w:x3)(g:Nat)(a:x1)(p:Λ)(at_:Nat)(bad:Int):Prop:=Bytes p/\p.length<=100000/\at_<=p.length/\ah w g je [a,Δ (at_:Int),Δ bad]/\∃bs,ay .u8 cI w bs a p
def nn.ext{g:Nat}{a:x1}{p:Λ}{at_:Nat}{bad:Int}(h:nn w g a p at_ bad)(U:Ext w J):nn J g a p at_ bad:=by
 obtain⟨h1,e,f,q,bs,r⟩:=h;exact⟨h1,e,f,q.ext U,bs,r.ext U⟩
def LM(h:aK .u8 w v l)(B:l.length<=100000):an x7 JC [v] w λf J=>Ext w J/\∃g,ay .u8 cI J g f l:=by
 have e:=h;obtain⟨C,b,o,base,cap,rfl,E,hm,q,G⟩:=h;refine aA func179 ?_;rw[nX cM.u,cd];refine⟨λr=>⟨Ext.refl _,0,?_⟩,λ_=>?_⟩
 .have:l=[]:=by
   cases base with
   |none=>
        by_cases e:0<l.length
        .have:=q e;cases this
        .exact b6 Ω
   |some a=>cases r
  subst this;exact ay.nil _ _ _ _
 .refine lK (k:=1) (cs:=#[]) cM.u cI.i Ω Ψ λg aa H p s=>?_;have x:ay .u8 cI aa g (.slice (σ ⟨g,0,ν⟩) 0 0) []:=ay.of (n:=0) (b1.full (by simpa using s) F Ξ);refine kA cM.u cI.i F x (e.ext p) Θ Θ λf y ab I z A=>?_;exact⟨p.put A Ω,y,by simpa using z⟩
def Cg(h:aK .u8 w v l)(r:Bytes l)(e:l.length<=100000):an x7 A1 [v] w λs J=>Ext w J/\∃g,s=Γ g/\w.heap.size<=g/\∃a,nn J g a l 0 (-1):=by
 refine aA func104 ?_;refine(LM h e).mono ?_;rintro a aa _ ⟨f,bs,p⟩;rw[cJ (cs:=#[a,Δ 0,Δ (-1)]) (by obtain⟨_,_,_,_,_,rfl,_⟩:=p.ls;kernel_rfl)];refine bh λg ab y q x=>?_;have:=f.size;exact⟨f.trans q,g,F,Ω,a,r,e,X8 _,x,bs,p.ext q⟩
def runN(f:Int->Bool)(p:Λ):Nat:=(p.takeWhile f).length
def LN(f:Int->Bool)(p:Λ):runN f p<=p.length:=(List.takeWhile_sublist f).length_le
def Ch{f:Int->Bool}{p:Λ}{i:Nat}{b:Int}(hi:p[i]?=σ b)(af:f b=true):i+runN f (p.drop i)=(i+1)+runN f (p.drop (i+1)):=by
 have a:=x4.1 hi;unfold runN;rw[X5 a.1,a.2,List.takeWhile_cons,if_pos af,b9];omega
def Ci{f:Int->Bool}{p:Λ}{i:Nat}(h:∀b,p[i]?=σ b->f b=false):runN f (p.drop i)=0:=by
 unfold runN;cases a:p[i]? with
 |none=>
  rw[List.drop_of_length_le (List.getElem?_eq_none_iff.1 a)];rfl
 |some b=>
  have e:=x4.1 a;rw[X5 e.1,e.2,List.takeWhile_cons,if_neg (by simp[h b a])];rfl
def LO{g at_:Nat}{A:x1}{p:Λ}{bad:Int}(h:nn w g A p at_ bad):an x7 JG [Γ g] w λv J=>v=Δ ((at_+runN cB (p.drop at_):Nat):Int)/\Ext w J:=by
 obtain⟨L,M,B,a,bs,r⟩:=h;refine aA func184 ?_;rw[aT je.p 1 a F];refine⟨λv aa=>Ext w aa/\∃i:Nat,v=Δ (i:Int)/\i<=p.length/\i+runN cB (p.drop i)=at_+runN cB (p.drop at_),λv _=>p.length-(bT v).toNat,⟨Ext.refl _,at_,F,B,F⟩,?_⟩;rintro _ aa ⟨q,i,rfl,hi,he⟩;refine aV (λv ab=>Ext w ab/\∃c:Bool,v= .bool c/\(c=true↔ ∃b,p[i]?=σ b/\cB b=true)) ?_ ?_
 .rintro _ ab ⟨s,c,rfl,x⟩;rw[cd];refine⟨λC=>?_,λaf=>?_⟩
  .obtain⟨b,e,E⟩:=x.1 C;have G:=(x4.1 e).1;rw[aM,wrap_i64 Ω Ω];exact⟨⟨s,i+1,F,G,by rw[<-he,Ch e E]⟩,by simp only[bT];omega⟩
  .have H:=Ci (f:=cB) (p:=p) (i:=i) λb a=>by
    cases V:cB b with
    |false=>rfl
    |true=>rw[x.2 ⟨b,a,V⟩]at af;cases af
   exact⟨by rw[<-he,H,Nat.add_zero],s⟩
 .intro aB y;have z:=a.ext q;rw[aT je.p 0 z F,aX cM.u (r.ext q).ls,aP,am];refine⟨λN=>?_,λO=>y _ _ ⟨q,false,F,⟨λh=>(by cases h),λ⟨b,a,_⟩=>by have:=(x4.1 a).1;omega⟩⟩⟩;have I:i<p.length:=Ω
  have e:=x6 I;rw[aT je.p 0 z F,be cM.u cI.i Ψ (r.ext q).ls e];refine Cf.mono ?_;rintro _ P _ ⟨rfl,K⟩;exact y _ _ ⟨q.trans K,_,F,⟨λh=>⟨_,e,h⟩,λ⟨b,a,h⟩=>by rw[e]at a;cases a;exact h⟩⟩
inductive LP where
 |word (from_ to:Nat)
 |none
 |text (at_:Nat)
def gE(p:Λ)(at_:Nat):Nat:=at_+runN cB (p.drop at_)
def j3(p:Λ)(a:Nat):Nat:=a+runN bQ (p.drop a)
open Classical in
noncomputable def qo(p:Λ)(at_:Nat):LP:=
 if j3 p (gE p at_)<p.length/\(∀c,p[j3 p (gE p at_)]?=σ c->cB c=false)then .text (j3 p (gE p at_))else if gE p at_=j3 p (gE p at_)then .none else .word (gE p at_) (j3 p (gE p at_))
def rJ(w:x3)(g:Nat)(e:x1)(p:Λ)(at_:Nat)(v:x1)(J:x3):Prop:=
 match qo p at_ with
 | .word a b=>v= .tuple #[bW ((p.take b).drop a),Δ (a:Int),Δ 0]/\ai (λr=>r=g) w J/\nn J g e p b (-1)
 | .none=>∃n:Nat,v= .tuple #[bW [],Δ (n:Int),Δ 2]/\Ext w J
 | .text b=>v= .tuple #[bW [],Δ (b:Int),Δ 11]/\ai (λr=>r=g) w J/\nn J g e p at_ (b:Int)
def iM{aZ:Nat->Prop}{a b c:x3}(h:ai S a b)(k:ai aZ b c)(p:∀r,r<a.heap.size->aZ r->S r):ai S a c:=
 ⟨X3 h.size k.size,λr o e V f=>k.a6 r o (h.a6 r o e V f) V λhu=>f (p r (j9.1 e).1 hu)⟩
def cc{g p:Nat}{k:n9}{q:p8}(h:ay k e w g v l)(s:ah w p q cs)(y:e≠q)(x:leads v r):r≠p:=by
 obtain⟨rfl,_⟩:=bR h x;obtain⟨_,⟨rfl,_⟩|⟨_,_,_,f,_⟩⟩:=h
 .obtain⟨a,n,c,h,_⟩:=x;cases h
 .rintro rfl;unfold ah at s f;rw[s]at f;injection f with h1;injection h1 with A z;exact y z.symm
def LQ{s:p8}{e f:n9}{b i:Nat}(p:x7.underlying s=σ (.slice t))(hi:aS x7 t 1 b z)(h:aK .u8 w v l)(q:i<=j)(r:j<=l.length)(x:∀a,aK .u8 w a ((l.take j).drop i)->K a):ad x7 (U5 s v (σ (.int e (i:Int))) (σ (.int f (j:Int))) ν) w K:=by
 refine ug p hi h (o2 i _ F) (o3 j _ F) q r λa a7=>x a (aK.of (n:=j-i) ?_);have y:((ints .u8 l).drop (i*1)).take ((j-i)*1)=ints .u8 ((l.take j).drop i):=by
  rw[U7,U7,ints,ints,List.map_drop,List.map_take,List.drop_take]
 rw[y]at a7;exact a7
def LR{g at_:Nat}{G:x1}{p:Λ}(h:nn w g G p at_ (-1)):an x7 wK [Γ g] w (rJ w g G p at_):=by
 obtain⟨Q,R,ao,e,bs,H⟩:=id h;refine aA func110 ?_;rw[dh tO.u,Y0,a8,aT je.p 2 e F,cO,am];refine⟨λh=>Ω,λ_=>?_⟩;refine(LO h).mono ?_;rintro _ ab _ ⟨rfl,ap⟩;obtain⟨a,S⟩:∃a,a=at_+runN cB (p.drop at_):=⟨_,F⟩;rw[<-S];have aq:a<=p.length:=by have:=LN cB (p.drop at_);rw[List.length_drop]at this;omega
 refine⟨λv I=>Ext ab I/\∃i:Nat,v=Δ (i:Int)/\a<=i/\i<=p.length/\i+runN bQ (p.drop i)=a+runN bQ (p.drop a),λv _=>p.length-(bT v).toNat,⟨Ext.refl _,a,F,o4 _,aq,F⟩,?_⟩;rintro _ I ⟨U,i,rfl,au,hi,he⟩;have J:=ap.trans U;have W:=e.ext J;have X:=H.ext J;refine aV (λv z=>Ext I z/\∃c:Bool,v= .bool c/\(c=true↔ ∃b,p[i]?=σ b/\bQ b=true)) ?_ ?_
 rotate_left
 .intro aB s;rw[aT je.p 0 W F,aX cM.u X.ls,aP,am];refine⟨λav=>?_,λaw=>s _ _ ⟨Ext.refl _,false,F,⟨λh=>(by cases h),λ⟨b,e,_⟩=>by have:=(x4.1 e).1;omega⟩⟩⟩;have A:i<p.length:=Ω
  have q:=x6 A;rw[aT je.p 0 W F,be cM.u cI.i Ψ X.ls q];refine LL.mono ?_;rintro _ z _ ⟨rfl,B⟩;exact s _ _ ⟨B,_,F,⟨λh=>⟨_,q,h⟩,λ⟨b,e,h⟩=>by rw[q]at e;cases e;exact h⟩⟩
 rintro _ z ⟨B,c,rfl,x⟩;have K:=J.trans B;have Y:=e.ext K;have Z:=H.ext K;rw[cd];refine⟨λL=>?_,λaf=>?_⟩
 .obtain⟨b,q,ax⟩:=x.1 L;have ay:=(x4.1 q).1;rw[aM,wrap_i64 Ω Ω];exact⟨⟨U.trans B,i+1,F,Ω,ay,by rw[<-he,Ch q ax]⟩,by simp only[bT];omega⟩
 have aF:=Ci (f:=bQ) (p:=p) (i:=i) λb e=>by
  cases V:bQ b with
  |false=>rfl
  |true=>rw[x.2 ⟨b,e,V⟩]at af;cases af
 have az:i=a+runN bQ (p.drop a):=Ω
 refine aV (λv M=>Ext z M/\∃c:Bool,v= .bool c/\(c=true↔i<p.length/\∀c,p[i]?=σ c->cB c=false)) ?_ ?_
 rotate_left
 .intro aB s;rw[aT je.p 0 Y F,aX cM.u Z.ls,aP,am];refine⟨λav=>?_,λaw=>s _ _ ⟨Ext.refl _,false,F,⟨λh=>(by cases h),λh=>Ω⟩⟩⟩;have A:i<p.length:=Ω
  have q:=x6 A;rw[aT je.p 0 Y F,be cM.u cI.i Ψ Z.ls q];refine Cf.mono ?_;rintro _ M _ ⟨rfl,N⟩;rw[bM];refine s _ _ ⟨N,_,F,⟨λh=>⟨A,λc x=>?_⟩,λh=>by rw[h.2 _ q];rfl⟩⟩;rw[q]at x;cases x;cases V:cB p[i]with
  |false=>rfl
  |true=>rw[V]at h;cases h
 rintro _ M ⟨N,aG,rfl,aa⟩;have y:=K.trans N;have C:=e.ext y;have E:=H.ext y;have ad:∀r,leads G r->r≠g:=λr aC=>cc E C Φ aC;have O:qo p at_=open Classical in if i<p.length/\(∀c,p[i]?=σ c->cB c=false)then .text i else if a=i then .none else .word a i:=by
  unfold qo;rw[show gE p at_=a from S.symm,show j3 p a=i from az.symm]
 rw[cd];refine⟨λL=>?_,λae=>?_⟩
 .rw[bZ,aW je.p F];refine bp (g:=g) (o:=2) aj.i F rfl C Ξ λaH ag aI aD=>?_;unfold rJ;rw[O,if_pos (aa.1 L)];exact⟨F,(y.ac _).trans ag,Q,R,ao,aD,bs,bw E ag ad⟩
 .have ah:¬(i<p.length/\∀c,p[i]?=σ c->cB c=false):=λh=>by rw[aa.2 h]at ae;cases ae
  rw[bf,am];refine⟨λaJ=>?_,λaK=>?_⟩
  .intro aL P _ _;rw[aT je.p 0 (C.ext P) F,aX cM.u (E.ext P).ls];unfold rJ;rw[O,if_neg ah,if_pos Ω];exact⟨p.length,F,y.trans P⟩
  .rw[bZ,aW je.p F];refine bp (g:=g) (o:=1) aj.i F rfl C Ξ λaN ai aO ak=>?_;have al:=bw E ai ad;rw[aT je.p 0 ak F];refine LQ cM.u cI.i al.ls au hi λaQ aE=>?_;rw[xd cM.u cI.u cT.u aE];unfold rJ;rw[O,if_neg ah,if_neg Ω];exact⟨F,(y.ac _).trans ai,Q,R,hi,ak,bs,al⟩
abbrev bU:ak:=λ_=>False
abbrev fo(n:Nat):ak:=λr=>n<=r
def Cj{a b:Λ}{bl bv:x1}(e:aK .i64 w bl a)(s:aK .i64 w bv b):
  an x7 Jw [bl,bv] w λv J=>v= .bool (decide (a=b))/\Ext w J:=by
 refine aA func173 ?_;rw[aX ao.u e,aX ao.u s];simp only[bA,am];refine⟨λp=>⟨?_,Ext.refl _⟩,λz=>?_⟩
 .rw[decide_eq_false];rintro rfl;exact p F
 .have z:a.length=b.length:=Ω
  rw[aX ao.u e];refine bV.range a.length (λi _ aa=>Ext w aa/\a.take i=b.take i) e.le ⟨Ext.refl _,F⟩ ?_ ?_
  .rintro i t4 aa k A ⟨U,q⟩ hk;simp only[aP,am,ey];refine⟨λ_ ab B _ _=>?_,λh=>Ω⟩;have U:=U.trans B;obtain⟨x,r⟩:=aI A;obtain⟨y,f⟩:=aI (l:=b) (i:=i) Ω;rw[be ao.u aj.i Ψ (e.ext U) r,be ao.u aj.i Ψ (s.ext U) f];simp only[bA,am,aM];refine⟨λp=>⟨?_,U⟩,λC=>hk _ _ ⟨U,w2 q r f Ω⟩⟩;rw[decide_eq_false];rintro rfl;rw[r]at f;cases f;exact p F
  .rintro _ aa k ⟨U,q⟩;simp only[aP,am];refine⟨λh=>Ω,λ_=>⟨?_,U⟩⟩;rw[decide_eq_true];rwa [o9,z,o9]at q
def kG(rest:List (Λ))(i:Nat):List (Λ):=(Z4 i).flatMap λ(v:Nat)=>rest.map λt=>(v:Int)::t
def LS(rest:List (Λ))(i:Nat):kG rest (i+1)=kG rest i++rest.map λt=>(i:Int)::t:=by
 simp[kG,List.range_succ]
def Ck(rest:List (Λ))(i:Nat):(kG rest i).length=i*rest.length:=by
 simp only[kG,List.length_flatMap,r9];rw[List.map_const',S0,List.sum_replicate_nat]
def rK(l:Λ):Prop:=l.length<=90/\(∀x∈l,1<=x/\x<=32)/\aR l<=1073741824
def cb.p(h:cb l):rK l:=⟨by have:=h.1;omega,h.2,(prod_bound h).2⟩
def rK.tail{s:Λ}(h:rK (k::s)):rK s:=by
 have h1:=h.2.1 k (.head _);have a:=(n2 s λx U=>h.2.1 x (.tail _ U)).1;have e:k*aR s<=1073741824:=h.2.2;have f:=Int.mul_le_mul_of_nonneg_right h1.1 (show 0<=aR s by omega);refine⟨?_,λx U=>h.2.1 x (.tail _ U),Ω⟩;have:=h.1;rw[b9]at this;omega
theorem Cl:∀(s:Λ){sv:x1}{w:x3},aK .i64 w sv s->rK s->
  an x7 A0 [sv] w λv J=>Ext w J/\bG (fo w.heap.size) bU J [v] (bn s)
 |[],sv,w,h,V=>by
  refine aA func83 ?_;rw[aX ao.u h];simp only[bf,List.length_nil,Int.natCast_zero,decide_true,bX];refine lO (α:=Λ) (cs:=[.slice ν 0 0]) (A:=bU) db.u ao.i Φ F iH λv J U f _=>⟨U,au.mono f (λr _ h=>?_) λ_ _ h=>h⟩;exact h.elim False.elim id
 |k::s,sv,w,h,V=>by
  have al:1<=aR (k::s)/\aR (k::s)<=1073741824:=⟨(n2 _ V.2.1).1,V.2.2⟩;have q:=V.tail;have hk:=V.2.1 k (.head _);have O:=jC q.2.1;have ap:1<=aR s/\aR s<=1073741824:=⟨(n2 _ q.2.1).1,q.2.2⟩;obtain⟨kn,rfl⟩:∃kn:Nat,k=kn:=⟨k.toNat,Ω⟩;have aq:kn*(bn s).length<=1073741824:=by
   have e:((kn*(bn s).length:Nat):Int)=aR ((kn:Int)::s):=by
    rw[Int.natCast_mul,O,aR,Int.toNat_of_nonneg Ω]
   omega
  refine aA func83 ?_;rw[aX ao.u h];simp only[bf,am];refine⟨λP=>by simp at P;omega,λ_=>?_⟩;refine Lp F ao.u aj.i h Ξ λQ a7=>?_;refine(Cl s a7 q).mono ?_;rintro av ab _ ⟨E,z⟩;have aw:=n0 z;refine bV.range kn (λi out aa=>Ext ab aa/\bG (fo ab.heap.size) bU aa [out] (kG (bn s) i)) Ω ⟨Ext.refl _,iH⟩ ?_ ?_
  .rintro i out S W L ⟨p,f⟩ X;have Y:=bE z p;rw[gf (y:=0) (i:=0) F ao.u aj.i Ψ (h.ext (E.trans p)) (by rfl)];simp only[aP,am];refine⟨λ_=>?_,λh=>Ω⟩;rw[jh db.u Y];refine bV.range (bn s).length (λj out aa=>Ext ab aa/\bG (fo ab.heap.size) bU aa [out] (kG (bn s) i++((bn s).take j).map λt=>(i:Int)::t)) Ω ⟨p,by simpa using f⟩ ?_ ?_
   .rintro j out B Z ac ⟨C,f⟩ ad;simp only[aP,am];refine⟨λ_=>?_,λh=>Ω⟩;obtain⟨x,G⟩:=aI ac;have ax:x.length<=100:=by
     have:=w5 G;have:=q.1;omega
    refine il F rfl db.u ao.i Ψ (bE z C) G λu hu=>?_;refine eE ao.u aj.i F λa ga ay az H ae=>?_;refine kA ao.u aj.i F ae (c3 (bE hu H)) Θ Θ λb aB aC aD I af=>?_;have aE:=H.size;have M:=H.then af (by rintro r z rfl;omega);have aF:=M.size;refine lO (α:=Λ) (a:=(i:Int)::x) (R:=bU) db.u ao.i Φ (rB (pc I (R:=bU))) (au.mono (pc I) (λr _ h=>by subst h;show B.heap.size<=r;omega) λ_ _ h=>h) λc aG K _ ag=>?_;have N:=M.trans K;have aH:=K.size;refine pb db.u ao.i F (bE (n0 f) N) ag (bE (au.mono (pc I) (λr _ h=>by subst h;show B.heap.size<=r;omega) λ_ _ h=>h) K) (λr _ h a7=>?_) ?_ ?_ λQ aJ ah ai=>?_
    .rcases a7 with a7|a7
     .have:=h.2;have:B.heap.size<=r:=a7;omega
     .exact a7
    .have ak:(kG (bn s) i++((bn s).take j).map λt=>(i:Int)::t).length+1<=kn*(bn s).length:=by
      simp only[r8,Ck,r9,j6];have:(i+1)*(bn s).length<=kn*(bn s).length:=V1 _ L;rw[U8]at this;omega
     omega
    .have ak:(kG (bn s) i++((bn s).take j).map λt=>(i:Int)::t).length+1<=kn*(bn s).length:=by
      simp only[r8,Ck,r9,j6];have:(i+1)*(bn s).length<=kn*(bn s).length:=V1 _ L;rw[U8]at this;omega
     omega
    .simp only[aM];have aL:=C.size;refine ad _ _ ⟨(C.trans N).then ai (λr z h=>?_),?_⟩
     .have:=h.1;have:ab.heap.size<=r:=this;omega
     .have e:kG (bn s) i++((bn s).take (j+1)).map (λt=>(i:Int)::t)=(kG (bn s) i++((bn s).take j).map λt=>(i:Int)::t)++[(i:Int)::x]:=by
       rw[u9,G];simp
      rw[e];refine au.mono ah (λr _ h=>?_) λ_ _ h=>h;show ab.heap.size<=r;rcases h with h|h|h
      .exact h.1
      .have:B.heap.size<=r:=h;omega
      .omega
   .rintro out B Z ⟨C,f⟩;simp only[aP,am,aM];refine⟨λh=>Ω,λ_=>X _ _ ⟨C,?_⟩⟩;rw[LS];simpa using f
  .rintro out S W ⟨p,f⟩;rw[gf (y:=0) (i:=0) F ao.u aj.i Ψ (h.ext (E.trans p)) (by rfl)];simp only[aP,am];refine⟨λh=>Ω,λ_=>⟨E.trans p,?_⟩⟩;have aN:=E.size;have e:bn ((kn:Int)::s)=kG (bn s) kn:=by simp[bn,kG]
   rw[e];exact au.mono f (λr _ h=>by have:ab.heap.size<=r:=h;show w.heap.size<=r;omega) λ_ _ h=>h
def ul(s:Λ)(h:aK .i64 w sv s)(V:cb s):an x7 A0 [sv] w λv J=>Ext w J/\bG (fo w.heap.size) bU J [v] (bn s):=Cl s h V.p
def rL(l:List (Λ))(t:Λ):Int:=match l.findIdx? (·=t)with
 |some i=>i
 |none=>-1
def LU{s t:Λ}{aN:x1}(h:aK .i64 w sv s)(V:cb s)(z:aK .i64 w aN t):
  an x7 ID [sv,aN] w λv J=>v=Δ (rL (bn s) t)/\Ext w J:=by
 have C:=jC V.2;have E:=prod_bound V;refine aA func85 ?_;refine(ul s h V).mono ?_;rintro cR aa _ ⟨p,r⟩;rw[jh db.u r];refine bV.range (bn s).length (λi _ ab=>Ext aa ab/\∀j,j<i->(bn s)[j]? ≠σ t) Ω ⟨Ext.refl _,λj a=>Ω⟩ ?_ ?_
 .rintro i _ ab k hi ⟨e,f⟩ hk;simp only[aP,am];refine⟨λ_=>?_,λh=>Ω⟩;obtain⟨x,q⟩:=aI hi;refine il F rfl db.u ao.i Ψ (bE r e) q λu hu=>?_;refine(Cj (c3 hu) (z.ext (p.trans e))).mono ?_;rintro _ G _ ⟨rfl,y⟩;simp only[am,aM];refine⟨λhe=>⟨?_,(p.trans e).trans y⟩,λA=>hk _ _ ⟨e.trans y,λj a=>?_⟩⟩
  .subst he;have:(bn s).findIdx? (·=x)=σ i:=by
    rw[List.findIdx?_eq_some_iff_getElem];refine⟨hi,by simpa using(x4.1 q).2,λj a=>?_⟩;have:=f j a;rw[x6 Ω]at this;simpa using this
   unfold rL;rw[this]
  .by_cases B:j=i
   .subst B;rw[q];intro h;exact A (by simpa using h)
   .exact f j Ω
 .rintro _ ab k ⟨e,f⟩;simp only[aP,am];refine⟨λh=>Ω,λ_=>⟨?_,p.trans e⟩⟩;have:(bn s).findIdx? (·=t)=ν:=by
   rw[List.findIdx?_eq_none_iff];intro x U;obtain⟨j,a,rfl⟩:=List.mem_iff_getElem.1 U;have:=f j a;rw[x6 a]at this;simpa using this
  unfold rL;rw[this]
def LV:∀(x:Nat),0<x->∃k m,x=2 ^ k*(2*m+1):=by
 intro x;induction x using Nat.strongRecOn with
 |_ x a=>
  intro h;by_cases e:x % 2=1
  .exact⟨0,x / 2,Ω⟩
  .obtain⟨k,m,hk⟩:=a (x / 2) Ω Ω;refine⟨k+1,m,?_⟩;rw[Nat.pow_succ,Nat.mul_assoc,Nat.mul_comm 2,<-Nat.mul_assoc,<-hk];omega
def xh{k m i:Nat}:(2 ^ k*(2*m+1)).testBit i=(decide (i=k)||decide (k<i)&&m.testBit (i-k-1)):=by
 rw[Nat.testBit_two_pow_mul];by_cases h:k<=i
 .obtain⟨d,rfl⟩:=Nat.exists_eq_add_of_le h;cases d with
  |zero=>simp
  |succ d=>
   have e:(2*m+1).testBit (d+1)=m.testBit d:=by rw[Nat.testBit_succ];congr 1;omega
   simp[e,show k+(d+1)-k=d+1 by omega]
 .simp[h,show i≠k by omega,show¬k<i by omega]
def LW{k m:Nat}(U:2 ^ k*(2*m+1)<2 ^ 64):(2 ^ k*(2*m+1)) &&& (2 ^ 64-2 ^ k*(2*m+1))=2 ^ k:=by
 have:=Nat.two_pow_pos k;have hk:k<64:=by
  rcases Nat.lt_or_ge k 64 with h|h
  .exact h
  .have:2 ^ 64<=2 ^ k:=S7 Ω h;have:2 ^ k*1<=2 ^ k*(2*m+1):=Nat.mul_le_mul_left _ Ω;omega
 have e:2 ^ k*(2*m+1)=(2 ^ k*(2*m)+(2 ^ k-1))+1:=by rw[Nat.mul_add];omega
 apply Nat.eq_of_testBit_eq;intro i;rw[Nat.testBit_and,xh]
 conv=>lhs;rhs;rw[e]
 rw[Nat.testBit_two_pow_sub_succ Ω,Nat.testBit_two_pow_mul_add _ Ω,Nat.testBit_two_pow];by_cases h1:i=k
 .subst h1;simp[hk]
 .by_cases a:k<i
  .have f:(2*m).testBit (i-k)=m.testBit (i-k-1):=by
    obtain⟨d,p⟩:∃d,i-k=d+1:=⟨i-k-1,Ω⟩;rw[p,Nat.testBit_succ];congr 1;omega
   simp[h1,a,show¬i<k by omega,f,show k≠i by omega];intro h;simp[h]
  .simp[h1,a,show k≠i by omega]
def k8(a c:Nat):Nat:=(BitVec.ofNat 64 a &&& ~~~BitVec.ofNat 64 c).toNat
def Cm(a c i:Nat):(k8 a c).testBit i=(decide (i<64)&&(a.testBit i&& !c.testBit i)):=by
 unfold k8;rw[BitVec.testBit_toNat,BitVec.getLsbD_and,BitVec.getLsbD_not,BitVec.getLsbD_ofNat,BitVec.getLsbD_ofNat];by_cases h:i<64<;>simp[h]
def LX(a c:Nat):k8 a c<2 ^ 64:=BitVec.isLt _
def LY(h:∀i,n<=i->a.testBit i=false):a<2 ^ n:=Nat.lt_pow_two_of_testBit a h
def Cn{i:Nat}(h:a<2 ^ n)(hi:n<=i):a.testBit i=false:=Nat.testBit_lt_two_pow (Q7 h (S7 Ω hi))
def fS(b n:Nat):List Nat:=(Z4 n).filter λi=>b.testBit i
def Co(b n:Nat):(fS b n).Pairwise (·< ·):=List.Pairwise.filter _ List.pairwise_lt_range
def xi{b i:Nat}:i∈fS b n↔i<n/\b.testBit i=true:=by simp[fS]
def pj:Option Nat->Int
 |some i=>(i:Int)
 |none=>-1
def k9(b n:Nat)(v:Int):Int:=pj ((Z4 n).find? (λi:Nat=>decide (v<(i:Int))&&b.testBit i))
theorem Cp:∀{l:List Nat}{k x:Nat},l.Pairwise (·< ·)->l[k]?=σ x->l.filter (λi=>decide (x<i))=l.drop (k+1)
 |y::l,0,x,h,hk=>by
  simp at hk;subst hk;rw[List.pairwise_cons]at h;simp only[List.drop_succ_cons,List.drop_zero];rw[List.filter_cons_of_neg Ξ,List.filter_eq_self.2 λa e=>by simpa using h.1 a e]
 |y::l,k+1,x,h,hk=>by
  simp only[List.getElem?_cons_succ]at hk;rw[List.pairwise_cons]at h;have:y<x:=h.1 x (x5 hk);rw[List.filter_cons_of_neg Θ,List.drop_succ_cons];exact Cp h.2 hk
def Cq(b n:Nat)(v:Int):k9 b n v=pj (((fS b n).filter (λi:Nat=>decide (v<i))).head?):=by
 unfold k9 fS;rw[<-List.head?_filter,List.filter_filter]
def LZ(b n:Nat):k9 b n (-1)=pj ((fS b n)[0]?):=by
 rw[Cq,List.filter_eq_self.2 (λa _=>Θ),List.head?_eq_getElem?]
def Cr{b k x:Nat}(h:(fS b n)[k]?=σ x):k9 b n x=pj ((fS b n)[k+1]?):=by
 have e:(λi:Nat=>decide ((x:Int)<i))=λi=>decide (x<i):=by funext i;simp
 rw[Cq,e,Cp (Co b n) h,List.head?_eq_getElem?,List.getElem?_drop]
def L0{b:Nat}{v:Int}(h:(n:Int)-1<=v):k9 b n v= -1:=by
 unfold k9;rw[List.find?_eq_none.2 λi hi=>by simp at hi ⊢;omega];rfl
def L1{b k m s:Nat}(y:n<=64)(f:b<2 ^ n)(e:∀i,r.testBit i=(decide (s<=i)&&b.testBit i))(hk:r=2 ^ k*(2*m+1)){v:Int}(ae:v+1=s):k9 b n v=k:=by
 have p:r.testBit k=true:=by rw[hk,xh];simp
 have q:∀i,i<k->r.testBit i=false:=λi hi=>by rw[hk,xh];simp[show i≠k by omega,show¬k<i by omega]
 have a:=p;rw[e]at a;simp at a;have w:k<n:=by
  rcases Nat.lt_or_ge k n with h|h
  .exact h
  .rw[Cn f h]at a;cases a.2
 unfold k9;have:(Z4 n).find? (λi:Nat=>decide (v<(i:Int))&&b.testBit i)=σ k:=by
  rw[List.find?_range_eq_some];refine⟨by simp[a.2];omega,by simpa using w,λj x=>?_⟩;have:=q j x;rw[e]at this;simp only[Bool.not_eq_true',Bool.and_eq_false_iff,decide_eq_false_iff_not]at this ⊢;rcases this with h|h
  .exact .inl Ω
  .exact .inr h
 rw[this];rfl
def L2{b s:Nat}(a:∀i,r.testBit i=(decide (s<=i)&&b.testBit i))(hk:r=0){v:Int}(ae:v+1=s):k9 b n v= -1:=by
 unfold k9;rw[List.find?_eq_none.2]
 .rfl
 .intro i hi;have:=a i;rw[hk,Nat.zero_testBit]at this;simp at hi this ⊢;intro h;exact this Ω
section
variable{P:W9}{w:x3}{t:p8}{cx cy:Bool}{a b:Nat}{K:x1->Prop}
def n7(a:Nat):T5 64 (a:Int)=BitVec.ofNat 64 a:=BitVec.ofInt_natCast _ _
def Cs(x:BitVec 64):T1.wrap (x.toNat:Int)=(x.toNat:Int):=by
 have:=x.isLt;rw[wrap_u64 Ω Ω]
def u64_and(f:a<2 ^ 64)(h:b<2 ^ 64):ad P (aO .and t cx cy (.int .u64 a) (.int .u64 b)) w K=K (.int .u64 ((a &&& b:Nat):Int)):=ad.of λJ _=>by
 have e:(T5 64 (a:Int) &&& T5 64 (b:Int)).toNat=a &&& b:=by
  rw[n7,n7,BitVec.toNat_and,BitVec.toNat_ofNat,BitVec.toNat_ofNat,Nat.mod_eq_of_lt f,Nat.mod_eq_of_lt h]
 have hw:T1.wrap ((a &&& b:Nat):Int)=((a &&& b:Nat):Int):=by rw[<-e];exact Cs _
 have p:(T5 T1.bits (a:Int) &&& T5 T1.bits (b:Int)).toNat=a &&& b:=e;simp only[aO,eqGuard,binOp,Op.intBits,p,hw];rfl
def Ct:ad P (aO .andNot t cx cy (.int .u64 a) (.int .u64 b)) w K=K (.int .u64 (k8 a b:Int)):=ad.of λJ _=>by
 have e:(T5 64 (a:Int) &&& ~~~T5 64 (b:Int)).toNat=k8 a b:=by rw[n7,n7];rfl
 have hw:T1.wrap (k8 a b:Int)=(k8 a b:Int):=Cs _;have f:(T5 T1.bits (a:Int) &&& ~~~T5 T1.bits (b:Int)).toNat=k8 a b:=e;simp only[aO,eqGuard,binOp,Op.intBits,f,hw];rfl
def mu{k:n9}(f:n<64):ad P (aO .shr t cx cy (.int .u64 (a:Int)) (.int k (n:Int))) w K=K (.int .u64 ((a / 2 ^ n:Nat):Int)):=ad.of λJ _=>by
 have e:(a:Int).fdiv (2 ^ min n T1.bits)=((a / 2 ^ n:Nat):Int):=by
  have:min n T1.bits=n:=Nat.min_eq_left (by show n<=64;omega);rw[this,Int.fdiv_eq_ediv_of_nonneg _ (by exact Int.le_of_lt (Int.pow_pos Ω))];simp
 simp only[aO,eqGuard,binOp,Op.shift,u7,e];simp[show¬(n:Int)<0 by omega]
def xj{k:n9}(a:n<64):ad P (aO .shl t cx cy (.int .u64 1) (.int k (n:Int))) w K=K (.int .u64 ((2 ^ n:Nat):Int)):=by
 rw[Br Ω];have e:min ((n:Int).toNat) T1.bits=n:=Nat.min_eq_left (by show n<=64;omega);have f:2 ^ n<2 ^ 64:=Nat.pow_lt_pow_right Ω a;rw[e,Int.one_mul,show((2:Int) ^ n)=((2 ^ n:Nat):Int) by simp];generalize 2 ^ n=q at f ⊢;rw[wrap_u64 Ω Ω]
end
def um:Λ:=[0,1,56,2,57,49,28,3,61,58,42,50,38,29,17,4,62,47,59,36,45,43,51,22,53,39,33,30,24,18,12,5,63,55,48,27,60,41,37,16,46,35,44,21,52,32,23,11,54,26,40,15,34,20,31,10,25,14,19,9,13,8,7,6]
def Laid(w:x3):Prop:=w.rangeAt 0 0 (ints .u8 um)
def Laid.ext(h:Laid w)(U:Ext w J):Laid J:=o1 U h
def L3:∀k:Nat,k<64->um[(2 ^ k*285870213051353865 % 2 ^ 64) / 2 ^ 58]?=σ (k:Int):=Φ
def L4{x k m:Nat}(f:Laid w)(U:x=2 ^ k*(2*m+1))(p:x<2 ^ 64):
  an x7 Jz [.int .u64 (x:Int)] w λv J=>v=Δ (k:Int)/\Ext w J:=by
 have:=Nat.two_pow_pos k;have A:2 ^ k<=x:=by
  have:2 ^ k*1<=2 ^ k*(2*m+1):=Nat.mul_le_mul_left _ Ω;omega
 have hk:k<64:=by
  rcases Nat.lt_or_ge k 64 with h|h
  .exact h
  .have:2 ^ 64<=2 ^ k:=S7 Ω h;omega
 refine aA func176 ?_;simp only[bf,am];refine⟨λh=>Ω,λ_=>?_⟩;rw[ng];have q:T1.wrap (0-(x:Int))=((2 ^ 64-x:Nat):Int):=by
  simp only[n9.wrap,n9.bits,n9.signed];simp;omega
 rw[q,u64_and p Ω,U,LW Ω];simp only[jf];have r:T1.wrap (((2 ^ k:Nat):Int)*285870213051353865)=((2 ^ k*285870213051353865 % 2 ^ 64:Nat):Int):=by
  have e:((2 ^ k:Nat):Int)*285870213051353865=((2 ^ k*285870213051353865:Nat):Int):=Ξ
  rw[e];simp only[n9.wrap,n9.bits,n9.signed];simp
 have s:(58:Int)=((58:Nat):Int):=rfl;rw[r,s,mu Ω];have a:=L3 k hk;have y:=(x4.1 a).1;rw[tS wX.u cI.i y,ax Ψ (by rw[U7];exact f _ _ (lL a)),fm cI.u aj.u,wrap_i64 Ω Ω];exact⟨F,Ext.refl _⟩
def kH(b n:Nat):x1:=.agg #[.int .u64 (b:Int),Δ (n:Int)]
def np(b n:Nat):Prop:=n<=32/\b<2 ^ n
def Cu(s i:Nat):(2 ^ s-1).testBit i=decide (i<s):=Nat.testBit_two_pow_sub_one s i
def Cv{b:Nat}{v:Int}:an x7 Jy [kH b n,Δ v] w λr J=>r= .bool (decide (0<=v/\v<n))/\Ext w J:=by
 refine aA func175 ?_;refine bh λg aa f a e=>?_;simp only[cw,cO,am];refine⟨λh=>?_,λh=>⟨?_,a⟩⟩
 .rw[aL b5.p 1 e F];simp only[aP];exact⟨by simp[h],a⟩
 .rw[decide_eq_false];omega
def xk{b:Nat}:an x7 IL [kH b n] w λr J=>r=Δ n/\Ext w J:=by
 refine aA func93 ?_;refine bh λg aa f a e=>?_;rw[aL b5.p 1 e F];exact⟨F,a⟩
def L5{n:Int}:an x7 IJ [Δ n] w λr J=>Ext w J/\r=(if 1<=n/\n<=32 then .tuple #[kH (2 ^ n.toNat-1) n.toNat,Δ 0]else .tuple #[kH 0 0,Δ 1]):=by
 refine aA func91 ?_;refine bu b5.i λg aa A f q=>?_;refine aV (λv ab=>v= .bool (decide (¬(1<=n/\n<=32)))/\aa=ab) ?_ ?_
 .rintro _ _ ⟨rfl,rfl⟩;simp only[am];refine⟨λh=>?_,λh=>?_⟩
  .rw[cJ (cs:=#[.int .u64 0,Δ 0]) Ψ];refine b7 (vs:=[.int .u64 0,Δ 0]) b5.i F rfl (by intro u hu;simp at hu;rcases hu with rfl|rfl<;>rfl) q λx a y e=>?_;rw[fM b5.p b5.i F e.range,if_neg h];exact⟨f.then a (by rintro r z rfl;omega),F⟩
  .have h:1<=n/\n<=32:=Y3.1 h;obtain⟨m,rfl⟩:∃m:Nat,n=m:=⟨n.toNat,Ω⟩;rw[xj Ω];have:=Nat.two_pow_pos m;have C:2 ^ m<=2 ^ 32:=S7 Ω Ω;simp only[dI];rw[wrap_u64 Ω Ω,show(((2 ^ m:Nat):Int)-1)=((2 ^ m-1:Nat):Int) by omega];rw[cJ (cs:=#[.int .u64 ((2 ^ m-1:Nat):Int),Δ m]) Ψ];refine b7 (vs:=[.int .u64 ((2 ^ m-1:Nat):Int),Δ m]) b5.i F rfl (by intro u hu;simp at hu;rcases hu with rfl|rfl<;>rfl) q λx a y e=>?_;rw[fM b5.p b5.i F e.range,if_pos h];exact⟨f.then a (by rintro r z rfl;omega),F⟩
 .intro aB s;simp only[aP,bL,am];refine⟨λh=>s _ _ ⟨?_,F⟩,λh=>s _ _ ⟨?_,F⟩⟩
  .rw[decide_eq_true];omega
  .congr 1;simp;omega
def Cw{b:Nat}{v:Int}(z:np b n)(A:Laid w)(ae: -1<=v):an x7 IP [kH b n,Δ v] w λr J=>r=Δ (k9 b n v)/\Ext w J:=by
 obtain⟨H,e⟩:=z;have f:b<2 ^ 64:=Q7 e (S7 Ω Ω);refine aA func97 ?_;refine bh λg aa I a q=>?_;rw[aL b5.p 1 q F];simp only[dI,cO,am];rw[wrap_i64 Ω Ω];refine⟨λh=>⟨by rw[L0 h],a⟩,λK=>?_⟩;rw[aL b5.p 0 q F];refine aV (λu ab=>aa=ab/\∃r s:Nat,u= .int .u64 (r:Int)/\r<2 ^ 64/\v+1=s/\∀i,r.testBit i=(decide (s<=i)&&b.testBit i)) ?_ ?_
 .rintro _ _ ⟨rfl,r,s,rfl,B,V,x⟩;simp only[bf,am];refine⟨λC=>⟨by rw[L2 x Ω V],a⟩,λC=>?_⟩;obtain⟨k,m,hk⟩:=LV r Ω;refine(L4 (A.ext a) hk B).mono ?_;rintro _ L _ ⟨rfl,E⟩;exact⟨by rw[L1 Ω e x hk V],a.trans E⟩
 .intro aB y;refine⟨λh=>?_,λh=>?_⟩
  .obtain⟨s,rfl⟩:∃s:Nat,v=s:=⟨v.toNat,Ω⟩;have:0<2 ^ (s+1):=Nat.two_pow_pos _;have N:2 ^ (s+1)<=2 ^ 32:=S7 Ω Ω;simp only[aM];rw[wrap_i64 Ω Ω,show((s:Int)+1)=((s+1:Nat):Int) by omega,xj Ω];simp only[dI];rw[wrap_u64 Ω Ω,show(((2 ^ (s+1):Nat):Int)-1)=((2 ^ (s+1)-1:Nat):Int) by omega,Ct];refine y _ _ ⟨F,_,s+1,F,LX _ _,Ω,λi=>?_⟩;rw[Cm,Cu];by_cases G:i<64
   .by_cases hi:s+1<=i
    .simp[G,hi,show¬i<s+1 by omega]
    .simp[hi,show i<s+1 by omega]
   .rw[Cn f Ω];simp
  .exact y _ _ ⟨F,b,0,F,f,Ω,λi=>Ξ⟩
def L6{b:Nat}(e:np b n)(f:Laid w):an x7 IN [kH b n] w λr J=>r=Δ (k9 b n (-1))/\Ext w J:=by
 refine aA func96 ?_;refine bh λg aa s a h=>?_;rw[bN b5.p b5.i F h.range];refine(Cw e (f.ext a) Ω).mono ?_;rintro _ ab _ ⟨rfl,q⟩;exact⟨F,a.trans q⟩
def L7{b:Nat}{v:Int}(I:np b n):an x7 IM [kH b n,Δ v] w λr J=>r=kH (if 0<=v/\v<n then k8 b (2 ^ v.toNat)else b) n/\Ext w J:=by
 refine aA func94 ?_;refine bh λg aa S y z=>?_;refine bu b5.i λK ab U A B=>?_;have:=y.size;have:=z.lt;refine da (λe=>∃f,ah e g b5 [.int .u64 ((f:Nat):Int),Δ (n:Int)]/\ah e K b5 [.int .u64 0,Δ 0]/\Ext w e/\f=(if 0<=v/\v<n then k8 b (2 ^ v.toNat)else b)) ?_ ?_
 .rintro e ⟨f,L,M,N,rfl⟩;rw[bN b5.p b5.i F L.range];refine b7 (vs:=[_,_]) b5.i F rfl (by intro u hu;simp at hu;rcases hu with rfl|rfl<;>rfl) M λW O X P=>?_;rw[fM b5.p b5.i F P.range];exact⟨F,N.then O (by rintro r Q rfl;omega)⟩
 .intro aB C;have q:=z.ext A;rw[bN b5.p b5.i F q.range];refine Cv.mono ?_;rintro _ Y _ ⟨rfl,a⟩;have E:=(y.trans A).trans a;simp only[am,ey];refine⟨λh Z x _ _=>?_,λh=>C _ ⟨b,q.ext a,B.ext a,E,by rw[if_neg h]⟩⟩;have G:=(q.ext a).ext x;rw[aL b5.p 0 G F];obtain⟨s,rfl⟩:∃s:Nat,v=s:=⟨v.toNat,Ω⟩;have:=I.1;rw[xj Ω,Ct,aW b5.p F];refine bp fK.i F rfl G (by simp[kH,x1.cells]) λae H af R=>?_;refine C _ ⟨_,R,((B.ext a).ext x).ac H Ω,(E.trans x).then H (by rintro r Q rfl;omega),?_⟩;rw[if_pos h,u7]
def qp(v:Int):Nat:=if v<0 then 0 else 40-v.toNat
def xl(x:Nat):qp x=40-x:=by unfold qp;rw[if_neg Ω];omega
def n8{b g:Nat}(a:np b n):
  p1 x7 jW [Γ g] (fS b n).length (λk vs _=>∃v:Nat,(fS b n)[k]?=σ v/\vs=[Δ (v:Int)])
   (λw=>ah w g b5 [.int .u64 (b:Int),Δ (n:Int)]/\Laid w):=by
 refine⟨jW.enters,λl aB O w q _ C ⟨r,s⟩ E=>?_⟩;have P:=a.1;refine ry func95 ?_;rw[bN b5.p b5.i F r.range];refine(L6 a s).free.mono ?_;rintro _ aa ⟨G,rfl,U⟩;refine⟨λv ab=>∃k,k<=(fS b n).length/\v=Δ (pj (fS b n)[k]?)/\aB k ab/\ah ab g b5 [.int .u64 (b:Int),Δ (n:Int)]/\Laid ab,
  λv _=>qp (bT v),⟨0,X8 _,by rw[LZ],q 0 _ _ U G.b E,r.ext U,s.ext U⟩,?_⟩
 rintro _ ab ⟨k,hk,rfl,z,H,I⟩;cases ae:(fS b n)[k]? with
 |none=>
  have:k=(fS b n).length:=by
   have:=List.getElem?_eq_none_iff.1 ae;omega
  subst this;simp only[pj,cO,am];exact⟨λh=>Ω,λ_=>.inl z⟩
 |some x=>
  have e:=(x4.1 ae).1;have Q:=(xi.1 (x5 ae)).1;simp only[pj,cO,am];refine⟨λ_=>?_,λh=>Ω⟩;refine⟨F,(C k _ ab e ⟨H,I⟩ ⟨x,ae,F⟩ z).mono ?_⟩;rintro _ R (⟨rfl,⟨A,B⟩,J⟩|⟨rfl,K⟩)
  .simp only[bM,X2,a8];rw[bN b5.p b5.i F A.range];refine(Cw a B Ω).free.mono ?_;rintro _ S ⟨L,rfl,f⟩;refine⟨⟨k+1,e,congrArg (U3 .i64) (Cr ae),q _ _ _ f L.b J.1,A.ext f,B.ext f⟩,?_⟩;rw[Cr ae];cases M:(fS b n)[k+1]? with
   |none=>show 0<qp x;rw[xl];omega
   |some y=>
    have V:x<y:=by
     have h1:=(x4.1 ae).2;have N:=(x4.1 M).2;rw[<-h1,<-N];exact V3.1 (Co b n) k (k+1) _ _ Ω
    show qp y<qp x;rw[xl,xl];omega
  .simp only[bM,V8,bX];exact .inr ⟨k,e,K⟩
def oa{b:Nat}:an x7 Ib [kH b n] w λr J=>Ext w J/\∃g,r= .func (.func jW) #[] #[Γ g]/\w.heap.size<=g/\ah J g b5 [.int .u64 (b:Int),Δ (n:Int)]:=by
 refine aA func46 ?_;refine bh λg aa f a e=>?_;rw[jB];exact⟨a,g,F,Ω,e⟩
abbrev dL(s:Λ):Prop:=∀x∈s,1<=x/\x<=32
def dL.tail{s:Λ}(h:dL (k::s)):dL s:=λx U=>h x (.tail _ U)
def nq{s:Λ}(h:dL s):1<=aR s:=(n2 s h).1
theorem qq:∀(s t:Λ)(m:Int),cn s t m=(cn s t 0).map λn=>n+m*aR s
 |[],[],m=>by simp[cn,aR]
 |k::s,v::t,m=>by
  unfold cn;split
  .rw[qq s t (m*k+v),qq s t (0*k+v)];simp only[Option.map_map,aR];congr 1;funext n;simp only[Function.comp];rw[Int.add_mul,Int.add_mul,<-Int.mul_assoc];simp;omega
  .rfl
 |[],_::_,_=>rfl
 |_::_,[],_=>rfl
theorem xm{L j:Nat}{rest:List (Λ)}(e:rest.length=L):∀{kn v:Nat},v<kn->∀{x:Λ},rest[j]?=σ x->
  ((Z4 kn).flatMap λ(v:Nat)=>rest.map λt=>(v:Int)::t)[v*L+j]?=σ ((v:Int)::x)
 |0,v,h,_,_=>Ω
 |kn+1,v,h,x,U=>by
  have f:=(x4.1 U).1;have a:((Z4 kn).flatMap λ(v:Nat)=>rest.map λt=>(v:Int)::t).length=kn*L:=by
   simp only[List.length_flatMap,r9,e];rw[List.map_const',S0,List.sum_replicate_nat]
  rw[List.range_succ,List.flatMap_append];by_cases ae:v<kn
  .have:(v+1)*L<=kn*L:=V1 _ ae;rw[U8]at this;rw[X0 (by rw[a];omega)];exact xm e ae U
  .have ae:v=kn:=Ω
   subst ae;rw[X1 (by rw[a];omega),a,show v*L+j-v*L=j by omega];simp[U]
theorem kI:∀{s:Λ},dL s->∀{i:Nat}{t:Λ},(bn s)[i]?=σ t->cn s t 0=σ (i:Int)
 |[],_,i,t,h=>by
  cases i with
  |zero=>simp[bn]at h;subst h;rfl
  |succ i=>simp[bn]at h
 |k::s,V,i,t,h=>by
  have:=V k (.head _);have a:=jC V.tail;have:=nq V.tail;obtain⟨kn,rfl⟩:∃kn:Nat,k=kn:=⟨k.toNat,Ω⟩;have hi:=(x4.1 h).1;rw[jC V,aR,Int.toNat_mul Ω Ω,<-a,u7]at hi;have f:0<(bn s).length:=Ω
  have ae:i / (bn s).length<kn:=Nat.div_lt_of_lt_mul (by rw[Nat.mul_comm];exact hi);have p:i % (bn s).length<(bn s).length:=Nat.mod_lt _ f;obtain⟨x,U⟩:∃x,(bn s)[i % (bn s).length]?=σ x:=⟨_,x6 p⟩;have e:=xm F ae U;rw[Nat.mul_comm,Nat.div_add_mod]at e;have a7:((Z4 ((kn:Int).toNat)).flatMap λ(v:Nat)=>(bn s).map λt=>(v:Int)::t)[i]?=σ t:=h;rw[u7,e]at a7;cases a7;unfold cn;rw[if_pos ⟨Int.natCast_nonneg _,Int.ofNat_lt.2 ae⟩,qq,kI V.tail U];simp only[Y1,Y7,Int.zero_mul,Int.zero_add];have q:aR s=((bn s).length:Int):=by rw[a];omega
  rw[q,<-Int.natCast_mul,<-Int.natCast_add];congr 1;rw[Nat.mul_comm,Nat.add_comm,Nat.div_add_mod]
theorem lS:∀{s:Λ},dL s->∀{t:Λ}{n:Int},cn s t 0=σ n->(bn s)[n.toNat]?=σ t
 |[],_,[],n,h=>by simp[cn]at h;subst h;rfl
 |k::s,V,v::t,n,h=>by
  have:=V k (.head _);have p:=jC V.tail;have:=nq V.tail;obtain⟨kn,rfl⟩:∃kn:Nat,k=kn:=⟨k.toNat,Ω⟩;unfold cn at h;split at h
  .rename_i ae;rw[qq]at h;cases f:cn s t 0 with
   |none=>rw[f]at h;cases h
   |some q=>
    rw[f]at h;simp only[Y1,Y7,Int.zero_mul,Int.zero_add]at h;have r:=pd V.tail f;simp only[Int.zero_mul,Int.zero_add,Int.one_mul]at r;obtain⟨a,rfl⟩:∃a:Nat,v=a:=⟨v.toNat,Ω⟩;have w:=xm (kn:=kn) (v:=a) F Ω (lS V.tail f);have e:n.toNat=a*(bn s).length+q.toNat:=by
     rw[<-h,p];have:((a*(aR s).toNat:Nat):Int)=(a:Int)*aR s:=by rw[Int.natCast_mul,Int.toNat_of_nonneg Ω]
     omega
    rw[e];show((Z4 ((kn:Int).toNat)).flatMap λ(v:Nat)=>(bn s).map λt=>(v:Int)::t)[_]?=_;rw[u7];exact w
  .cases h
 |[],_,_::_,_,h=>by cases h
 |_::_,_,[],_,h=>by cases h
theorem Cx:∀(s:Λ),dL s->∀(n c:Int),dk s (n+c*aR s)=dk s n
 |[],_,_,_=>rfl
 |k::s,V,n,c=>by
  have:=nq V.tail;simp only[dk,aR];rw[<-Int.mul_assoc,Cx s V.tail,Int.add_mul_ediv_right _ _ Ω,Int.add_mul_emod_self_right]
theorem uo:∀{s:Λ},dL s->∀{n:Int},0<=n->n<aR s->cn s (dk s n) 0=σ n
 |[],_,n,a,h1=>by simp[aR]at h1;simp[dk,cn];omega
 |k::s,V,n,a,h1=>by
  have hk:=V k (.head _);have p:=nq V.tail;simp only[dk,aR]at h1 ⊢;have f:=Int.ediv_lt_of_lt_mul Ω h1;have h:0<=n / aR s:=Int.ediv_nonneg a Ω;have hm:n / aR s % k=n / aR s:=Int.emod_eq_of_lt h f;rw[hm];unfold cn;rw[if_pos ⟨h,f⟩,qq];have e:dk s n=dk s (n % aR s):=by
   have:=Cx s V.tail (n % aR s) (n / aR s);rw[<-this];congr 1;have:=Int.emod_add_mul_ediv n (aR s);rw[Int.mul_comm (n / aR s)];omega
  rw[e,uo V.tail (Int.emod_nonneg _ Ω) (Int.emod_lt_of_pos _ Ω)];simp only[Y1,Y7,Int.zero_mul,Int.zero_add];have:=Int.emod_add_mul_ediv n (aR s);rw[Int.mul_comm (n / aR s)];omega
def rM{s:Λ}(V:dL s){i:Nat}(h:(i:Int)<aR s):(bn s)[i]?=σ (dk s i):=by
 have:=lS V (uo V Ω h);simpa using this
def bo(s cs t:Λ):Int:=match cn s t 0 with
 |some n=>cs.getD n.toNat 0
 |none=>0
def upto{α:Type}(l:List α)(d:α)(i:Nat):List α:=l.take i++o8 (l.length-i) d
def rN{α:Type}(l:List α)(d:α)(i:Nat):(upto l d i).length=l.length:=by simp[upto];omega
def rO{α:Type}(l:List α)(d:α):upto l d 0=o8 l.length d:=by simp[upto]
def rP{α:Type}(l:List α)(d:α):upto l d l.length=l:=by simp[upto]
def rQ{α:Type}{l:List α}{d x:α}{i:Nat}(h:l[i]?=σ x):(upto l d i).set i x=upto l d (i+1):=by
 have:=(x4.1 h).1;unfold upto;rw[S2 _ _ Θ,u9,h];have e:i-(l.take i).length=0:=Θ
 obtain⟨m,hm⟩:∃m,l.length-i=m+1:=⟨l.length-i-1,Ω⟩;rw[e,hm,show l.length-(i+1)=m by omega];simp[List.replicate_succ]
def rR{α:Type}{l:List α}{i:Nat}{x:α}(h:l[i]?=σ x):l.set i x=l:=by
 apply Y9;intro j;rw[X4];split
 .rename_i a;subst a;rw[if_pos (x4.1 h).1,h]
 .rfl
def xn:Λ->Int
 |[]=>0
 |x::l=>l.foldl min x
def Cy(P:Int->Prop)(m:Int):Prop:=P m/\∀x,P x->m<=x
def dv(s t:Λ):Prop:=∃n,cn s t 0=σ n
def L8(k v:Int)(s t:Λ):cn (k::s) (v::t) 0=if 0<=v/\v<k then(cn s t 0).map (λn=>n+(0*k+v)*aR s)else ν:=by
 conv=>lhs;unfold cn
 rw[qq]
def Cz{v:Int}{s t:Λ}:dv (k::s) (v::t)↔(0<=v/\v<k)/\dv s t:=by
 unfold dv;rw[L8];constructor
 .rintro⟨n,h⟩;split at h
  .rename_i ae;cases a:cn s t 0 with
   |none=>rw[a]at h;cases h
   |some q=>exact⟨ae,q,F⟩
  .cases h
 .rintro⟨ae,q,a⟩;rw[if_pos ae,a];exact⟨_,F⟩
def CA{t:Λ}:dv [] t↔t=[]:=by
 cases t with
 |nil=>exact⟨λ_=>rfl,λ_=>⟨0,F⟩⟩
 |cons v t=>
  constructor
  .rintro⟨_,h⟩;cases h
  .intro h;cases h
def uq{s t:Λ}(h:dv s t):s.length=t.length:=by
 obtain⟨n,h⟩:=h;rcases Nat.decEq s.length t.length with a|a
 .rw[w4 s t 0 a]at h;cases h
 .exact a
def CB{s t:Λ}(V:dL s){n:Int}(h:cn s t 0=σ n):dk s n=t:=by
 have f:=pd V h;have h1:=lS V h;simp only[Int.zero_mul,Int.zero_add,Int.one_mul]at f;have a:=rM V (i:=n.toNat) Ω;rw[h1]at a;have e:((n.toNat:Nat):Int)=n:=Ω
 rw[e]at a;exact(Z3 a).symm
def ur{s cs:Λ}(V:dL s)(a:cs.length=(aR s).toNat):cs=(Z4 (aR s).toNat).map λ(q:Nat)=>bo s cs (dk s q):=by
 apply List.ext_getElem
 .simp[a]
 .intro i h1 e;rw[List.getElem_map,List.getElem_range];have:=nq V;have hi:(i:Int)<aR s:=Ω
  unfold bo;rw[uo V Ω hi];simp only[u7];rw[u4,x6 h1];rfl
def xo{s:Λ}(V:dL s){q:Nat}(a:q<(aR s).toNat):dv s (dk s q):=⟨_,uo V Ω (by have:=nq V;omega)⟩
def L9{s cs a:Λ}(V:dL s)(e:cs.length=(aR s).toNat)(f:a.length=(aR s).toNat)(h:∀t,dv s t->bo s cs t=bo s a t):cs=a:=by
 rw[ur V e,ur V f];apply List.map_congr_left;intro q p;exact h _ (xo V (by simpa using p))
def Ma(h:l≠[]):Cy (λc=>c∈l) (xn l):=by
 obtain⟨x,r,rfl⟩:∃v r,l=v::r:=by cases l with
  |nil=>exact absurd F h
  |cons v r=>exact⟨v,r,F⟩
 clear h;show Cy (λc=>c∈x::r) (r.foldl min x);induction r generalizing x with
 |nil=>exact⟨.head _,λy f=>by simp at f;simp[f]⟩
 |cons y r p=>
  rw[S8];obtain⟨h1,e⟩:=p (min x y);refine⟨?_,λz a=>?_⟩
  .rcases V5.1 h1 with h1|h1
   .rw[h1];rcases Int.le_total x y with h|h
    .rw[Int.min_eq_left h];exact .head _
    .rw[Int.min_eq_right h];exact .tail _ (.head _)
   .exact .tail _ (.tail _ h1)
  .rcases V5.1 a with rfl|a
   .have:=e _ (.head _);omega
   .rcases V5.1 a with rfl|a
    .have:=e _ (.head _);omega
    .exact e _ (.tail _ a)
def qs(m:Λ)(i j:Nat):Prop:=∀(p q:Nat)(x y:Int),p<q->q<=i->q≠j->m[p]?=σ x->m[q]?=σ y->x<=y
def rS(m:Λ)(i:Nat):Prop:=∀(p q:Nat)(x y:Int),p<q->q<i->m[p]?=σ x->m[q]?=σ y->x<=y
def Mb{m:Λ}{i:Nat}(h:rS m i):qs m i i:=λp q x y h1 f r a e=>h p q x y h1 Ω a e
def Mc{m:Λ}{i:Nat}(h:qs m i 0):rS m (i+1):=λp q x y h1 f a e=>h p q x y h1 Ω Ω a e
def Md{m:Λ}{i:Nat}{a b:Int}(h:qs m i j)(B:0<j)(r:m[j-1]?=σ a)(w:m[j]?=σ b)(z:a<=b):rS m (i+1):=by
 intro p q x y h1 C e f;by_cases s:q=j
 .subst s;rw[w]at f;cases f;by_cases A:p=q-1
  .subst A;rw[r]at e;cases e;exact z
  .have:=h p (q-1) x a Ω Ω Ω e r;omega
 .exact h p q x y h1 Ω s e f
def Me{m:Λ}{i:Nat}{a b:Int}(h:qs m i j)(H:0<j)(hi:j<=i)(z:m[j-1]?=σ a)(A:m[j]?=σ b)(I:b<a):qs ((m.set j a).set (j-1) b) i (j-1):=by
 intro p q x y h1 w B e f;have C:=(x4.1 A).1;have E:∀(r:Nat),((m.set j a).set (j-1) b)[r]?=if r=j-1 then σ b else if r=j then σ a else m[r]?:=λr=>by
  by_cases h:r=j-1
  .subst h;rw[b8 Θ,if_pos rfl]
  .rw[Y6 (Ne.symm h),if_neg h];by_cases a7:r=j
   .subst a7;rw[b8 C,if_pos rfl]
   .rw[Y6 (Ne.symm a7),if_neg a7]
 rw[E]at e f;rw[if_neg B]at f;by_cases s:q=j
 .rw[if_pos s]at f;cases f;split at e
  .cases e;omega
  .split at e
   .omega
   .exact h p (j-1) x a Ω Ω Ω e z
 .rw[if_neg s]at f;split at e
  .cases e;have:=h j q b y;by_cases F:j<q
   .exact this F w s A f
   .omega
  .split at e
   .rename_i G;subst G;cases e;exact h (p-1) q a y Ω w s z f
   .exact h p q x y h1 w s e f
def swap_perm{m:Λ}{i:Nat}{a b:Int}(q:i<j)(h:m[i]?=σ a)(f:m[j]?=σ b):((m.set j a).set i b).Perm m:=by
 induction m generalizing i j with
 |nil=>simp at h
 |cons x m p=>
  cases j with
  |zero=>omega
  |succ j=>
   cases i with
   |zero=>
    simp at h f ⊢;subst h;obtain⟨r,f⟩:=x4.1 f;rw[show m=m.take j++m[j]::m.drop (j+1) by simp];rw[S2 _ _ Θ];have e:j-(m.take j).length=0:=Θ
    rw[e,f];simp only[List.set_cons_zero];refine(List.Perm.cons b (List.perm_middle)).trans ?_;refine(List.Perm.swap x b _).trans ?_;exact List.Perm.cons x List.perm_middle.symm
   |succ i=>
    simp at h f ⊢;exact p Ω h f
def Mf{m:Λ}(h:rS m m.length):m.Pairwise (·<= ·):=by
 rw[V3];intro i j hi a e;exact h i j _ _ e a (x6 hi) (x6 a)
def Good(o:Λ)(n:Nat):Prop:=o.length=n/\∀(i:Nat)(p:Int),o[i]?=σ p->(0<=p/\p<n)/\∀j,j<i->o[j]? ≠σ p
def Good.inj{o:Λ}{i:Nat}{p:Int}(h:Good o n)(hi:o[i]?=σ p)(a:o[j]?=σ p):i=j:=by
 rcases Nat.lt_trichotomy i j with h1|h1|h1
 .exact absurd hi ((h.2 j p a).2 i h1)
 .exact h1
 .exact absurd a ((h.2 i p hi).2 j h1)
def CC(m:Λ):Prop:=∀i:Nat,i<m.length->m[i]?=σ (i:Int)
def CD{o m:Λ}(h:Good o n)(a:m.Perm o)(V:m.Pairwise (·<= ·)):CC m:=by
 have s:o.Nodup:=V3.2 λi j hi w B he=>by
  have:=h.inj (i:=i) (j:=j) (p:=o[j]) (by rw[x6 hi,he]) (x6 w);omega
 have y:=a.nodup_iff.2 s;have C:m.length=n:=by rw[a.length_eq,h.1]
 have q:∀x∈m,0<=x/\x<(n:Int):=λx U=>by
  obtain⟨i,hi,he⟩:=List.getElem_of_mem (a.mem_iff.1 U);exact(h.2 i x (by rw[x6 hi,he])).1
 have r:∀(i:Nat)(hi:i+1<m.length),m[i]<m[i+1]:=λi hi=>by
  have h1:=V3.1 V i (i+1) Ω hi Ω;have e:=V3.1 y i (i+1) Ω hi Ω;omega
 have z:∀(i:Nat)(hi:i<m.length),(i:Int)<=m[i]:=by
  intro i;induction i with
  |zero=>intro hi;exact(q _ (S3 hi)).1
  |succ i f=>
   intro hi;have h1:=f Ω;have e:=r i hi;omega
 have A:∀(d i:Nat)(hi:i<m.length),i+d+1=m.length->m[i]<=(i:Int):=by
  intro d;induction d with
  |zero=>
   intro i hi he;have:=(q _ (S3 hi)).2;omega
  |succ d f=>
   intro i hi he;have h1:=f (i+1) Ω Ω;have e:=r i Ω;omega
 intro i hi;rw[x6 hi];have h1:=z i hi;have e:=A (m.length-i-1) i hi Ω;congr 1;omega
def Mg{o m:Λ}(h:CC m)(e:m.Perm o):Good o m.length:=by
 have s:m.Nodup:=V3.2 λi j hi a x he=>by
  have h1:=h i hi;have f:=h j a;rw[x6 hi]at h1;rw[x6 a]at f;have h1:=Z3 h1;have f:=Z3 f;omega
 have w:=e.nodup_iff.1 s;refine⟨e.length_eq.symm,λi p hi=>⟨?_,λj a q=>?_⟩⟩
 .obtain⟨k,hk,he⟩:=List.getElem_of_mem (e.mem_iff.2 (x5 hi));have h1:=h k hk;rw[x6 hk,he]at h1;cases h1;omega
 .have r:=(x4.1 hi).1;have:=V3.1 w j i Ω r a;rw[x6 r]at hi;rw[x6 (show j<o.length by omega)]at q;exact this ((Z3 q).trans (Z3 hi).symm)
def Good.CE{o:Λ}{p:Nat}(h:Good o n)(f:p<n):∃j:Nat,o[j]?=σ (p:Int):=by
 let le:Int->Int->Bool:=λa b=>decide (a<=b);have h1:(o.mergeSort le).Perm o:=List.mergeSort_perm o le;have e:(o.mergeSort le).Pairwise (·<= ·):=by
  refine(List.pairwise_mergeSort (λa b c h1 e=>?_) (λa b=>?_) o).imp λh=>by simpa[le]using h
  .simp[le]at*;omega
  .simp[le];omega
 have q:=CD h h1 e p (by rw[h1.length_eq,h.1];exact f);obtain⟨j,r,he⟩:=List.getElem_of_mem (h1.mem_iff.1 (x5 q));exact⟨j,by rw[x6 r,he]⟩
def ob(o x:Λ):Λ:=(Z4 o.length).map λ(p:Nat)=>x.getD (o.idxOf (p:Int)) 0
def CF(o x:Λ):(ob o x).length=o.length:=by simp[ob]
def CG{o x:Λ}{p:Int}(h:Good o n)(U:x.length=n)(a:o[j]?=σ p):(ob o x)[p.toNat]?=x[j]?:=by
 have:=(h.2 j p a).1;have:=(x4.1 a).1;have hm:=x5 a;have e:=List.idxOf_lt_length_of_mem hm;have f:=h.inj (by rw[x6 e,List.getElem_idxOf e]) a;have q:((p.toNat:Nat):Int)=p:=Ω
 have:=h.1;unfold ob;rw[x8,List.getElem?_range Ω];simp only[Y1,q,f];rw[u4,x6 (show j<x.length by omega)];rfl
def CH{o x y:Λ}(h:Good o n)(U:x.length=n)(r:y.length=n)(f:∀(j:Nat)(p:Int),o[j]?=σ p->y[p.toNat]?=x[j]?):y=ob o x:=by
 refine Y9 λp=>?_;have:=h.1;by_cases q:p<n
 .obtain⟨j,a⟩:=h.CE q;have h1:=f j p a;have e:=CG h U a;rw[u7]at h1 e;rw[h1,e]
 .rw[Z7 Ω,Z7 (by rw[CF];omega)]
theorem pk:∀{s t:Λ},dv s t↔s.length=t.length/\∀(i:Nat)(a v:Int),s[i]?=σ a->t[i]?=σ v->0<=v/\v<a
 |[],t=>by
  rw[CA];exact⟨λh=>⟨by rw[h],λi a v h _=>by simp at h⟩,λh=>b6 h.1.symm⟩
 |k::s,[]=>⟨λh=>absurd (uq h) Ξ,λh=>absurd h.1 Ξ⟩
 |k::s,v::t=>by
  rw[Cz,pk];refine⟨λ⟨h1,f,p⟩=>⟨by simp[f],λi a u e hu=>?_⟩,λ⟨h1,f⟩=>⟨f 0 k v F rfl,by simpa using h1,λi a u e hu=>f (i+1) a u (by simpa using e) (by simpa using hu)⟩⟩;cases i with
  |zero=>simp at e hu;subst e;subst hu;exact h1
  |succ i=>exact p i a u (by simpa using e) (by simpa using hu)
def eV(s o:Λ):Λ:=o.map λp=>s.getD p.toNat 0
def ut(s o:Λ):(eV s o).length=o.length:=by simp[eV]
def CI{s o:Λ}{p:Int}(h:Good o n)(V:s.length=n)(a:o[j]?=σ p):(eV s o)[j]?=s[p.toNat]?:=by
 have:=(h.2 j p a).1;unfold eV;rw[x8,a,Y1,u4,x6 (show p.toNat<s.length by omega)];rfl
def Mh{s o:Λ}(h:Good o n)(V:s.length=n){x:Int}(U:x∈eV s o):x∈s:=by
 obtain⟨p,a,rfl⟩:=c7.1 U;obtain⟨j,e,he⟩:=List.getElem_of_mem a;have:=(h.2 j p (by rw[x6 e,he])).1;rw[u4,x6 (show p.toNat<s.length by omega)];exact S3 _
def cb.Mi{s o:Λ}(a:cb s)(h:Good o n)(V:s.length=n):cb (eV s o):=
 ⟨by rw[ut,h.1,<-V];exact a.1,λx U=>a.2 x (Mh h V U)⟩
def Mj{s o x:Λ}(h:Good o n)(V:s.length=n)(U:dv (eV s o) x):dv s (ob o x):=by
 obtain⟨h1,w⟩:=pk.1 U;rw[ut,h.1]at h1;refine pk.2 ⟨by rw[CF,h.1,V],λp a v e ae=>?_⟩;have y:p<n:=by have:=(x4.1 e).1;omega
 obtain⟨j,f⟩:=h.CE y;have q:=CI h V f;have r:=CG h h1.symm f;rw[u7]at q r;exact w j a v (by rw[q,e]) (by rw[<-r,ae])
def pm(s cs o:Λ):Λ:=(Z4 (aR (eV s o)).toNat).map λ(q:Nat)=>bo s cs (ob o (dk (eV s o) q))
def CJ(s cs o:Λ):(pm s cs o).length=(aR (eV s o)).toNat:=by simp[pm]
def xp{f:Int->Bool}{x:Int}:runN f (x::l)=if f x=true then runN f l+1 else 0:=by
 unfold runN;rw[List.takeWhile_cons];by_cases h:f x=true
 .rw[if_pos h,if_pos h,b9]
 .rw[if_neg h,if_neg h];rfl
theorem xq(f:Int->Bool):∀l:Λ,l.dropWhile f=l.drop (runN f l)
 |[]=>rfl
 |x::l=>by
  rw[List.dropWhile_cons,xp];by_cases h:f x=true
  .rw[if_pos h,if_pos h,xq f l];rfl
  .rw[if_neg h,if_neg h];rfl
theorem CK(f:Int->Bool):∀l:Λ,l.takeWhile f=l.take (runN f l)
 |[]=>rfl
 |x::l=>by
  rw[List.takeWhile_cons,xp];by_cases h:f x=true
  .rw[if_pos h,if_pos h,List.take_succ_cons,CK f l]
  .rw[if_neg h,if_neg h];rfl
theorem CL{f:Int->Bool}:∀{l:Λ}{b:Int}{q:Λ},l.dropWhile f=b::q->f b=false
 |x::l,b,q,h=>by
  rw[List.dropWhile_cons]at h;by_cases U:f x=true
  .rw[if_pos U]at h;exact CL h
  .rw[if_neg U]at h;have:=(List.cons.inj h).1;subst this;cases af:f x
   .rfl
   .exact absurd af U
def xr{p:Λ}{b:Int}{q:Λ}(h:p.drop a=b::q):p[a]?=σ b:=by
 have:=List.getElem?_drop (xs:=p) (i:=a) (j:=0);rw[h]at this;simpa using this.symm
def Mk(p:Λ)(at_:Nat):match qo p at_ with
  | .word a b=>lex (p.drop at_)=(((p.take b).drop a)::(lex (p.drop b)).1,(lex (p.drop b)).2)
  | .none=>lex (p.drop at_)=([],true)
  | .text _=>lex (p.drop at_)=([],false):=by
 have h:(p.drop at_).dropWhile cB=p.drop (gE p at_):=by rw[xq,List.drop_drop];rfl
 have s:(p.drop (gE p at_)).dropWhile bQ=p.drop (j3 p (gE p at_)):=by rw[xq,List.drop_drop];rfl
 have y:(p.drop (gE p at_)).takeWhile bQ=(p.take (j3 p (gE p at_))).drop (gE p at_):=by
  rw[CK,List.drop_take];congr 1;unfold j3;omega
 have f:runN bQ (p.drop (gE p at_))=j3 p (gE p at_)-gE p at_:=by unfold j3;omega
 have J:gE p at_<=j3 p (gE p at_):=by unfold j3;omega
 unfold qo;generalize gE p at_=a at*;generalize j3 p a=b at*;by_cases h1:b<p.length/\(∀c,p[b]?=σ c->cB c=false)
 .rw[if_pos h1];simp only;rw[lQ,h];cases e:p.drop a with
  |nil=>
   have:=List.drop_eq_nil_iff.1 e;omega
  |cons x q=>
   simp only;rw[e]at s y f;by_cases U:bQ x=true
   .rw[if_pos U,s];cases w:p.drop b with
    |nil=>have:=List.drop_eq_nil_iff.1 w;omega
    |cons c r=>
     simp only;rw[h1.2 c (xr w)];rfl
   .rw[if_neg U]
 .rw[if_neg h1];by_cases z:a=b
  .rw[if_pos z];simp only;subst z;rw[lQ,h];cases e:p.drop a with
   |nil=>rfl
   |cons x q=>
    exfalso;have A:=xr e;have F:=(x4.1 A).1;rw[e]at f;rw[e]at h;have G:=CL h;refine h1 ⟨F,λc B=>?_⟩;rw[A]at B;cases B;exact G
  .rw[if_neg z];simp only;rw[lQ (p.drop at_),h];cases e:p.drop a with
   |nil=>
    rw[e]at f;have:runN bQ []=0:=rfl;omega
   |cons x q=>
    simp only;rw[e]at s y f;have U:bQ x=true:=by
     rw[xp]at f;by_cases U:bQ x=true
     .exact U
     .rw[if_neg U]at f;omega
    rw[if_pos U,s,y];cases w:p.drop b with
    |nil=>simp only;rw[lQ []];rfl
    |cons c r=>
     simp only;have C:=xr w;have H:=(x4.1 C).1;have I:cB c=true:=by
      cases V:cB c with
      |true=>rfl
      |false=>exact absurd ⟨H,λd E=>by rw[C]at E;cases E;exact V⟩ h1
     rw[if_pos I]
def iN(w:x3)(g:Nat)(R:Nat->Prop)(toks:List (Λ))(e:Bool):Prop:=∃a p at_,nn w g a p at_ (-1)/\(∀r,leads a r->R r)/\lex (p.drop at_)=(toks,e)
def iN.ac{g:Nat}{e:Bool}(h:iN w g R toks e)(U:ai S w J)(q:¬S g)(s:∀r,R r->¬S r):iN J g R toks e:=by
 obtain⟨x,p,a,⟨h1,y,z,A,bs,B⟩,f,C⟩:=h;exact⟨x,p,a,⟨h1,y,z,A.ac U q,bs,bw B U λr E=>s r (f r E)⟩,f,C⟩
def iN.words{g:Nat}{r:Bool}(h:iN w g R toks r):toks.length<=100000/\∀t∈toks,Bytes t/\t≠[]/\t.length<=100000:=by
 obtain⟨y,p,a,⟨z,A,B,_⟩,_,f⟩:=h;have C:(p.drop a).length<=100000:=by rw[List.length_drop];omega
 have e:=ql _ (p.drop a) (o4 _);rw[f]at e;refine⟨by show toks.length<=_;have e:toks.length<=_:=e;omega,λt s=>?_⟩;have q:=ud _ (p.drop a) (o4 _) t (by rw[f];exact s);refine⟨λb x=>?_,q.1,Ω⟩;have:=of_decide_eq_true (q.2.1 b x);omega
def Ml(w:x3)(g:Nat)(R:Nat->Prop)(toks:List (Λ))(a:Bool)(v:x1)(J:x3):Prop:=ai (λr=>r=g) w J/\match toks with
 |t::l=>iN J g R l a/\∃n:Int,v= .tuple #[bW t,Δ n,Δ 0]
 |[]=>∃n:Int,v= .tuple #[bW [],Δ n,Δ (if a then 2 else 11)]
def rT{g:Nat}{A:Bool}(h:iN w g R toks A):an x7 wK [Γ g] w (Ml w g R toks A):=by
 obtain⟨B,p,a,h1,C,r⟩:=h;refine(LR h1).mono ?_;intro v J _ hw;have e:=Mk p a;unfold rJ at hw;cases s:qo p a with
 |word x y=>
  rw[s]at hw e;simp only at hw e;rw[r]at e;obtain⟨rfl,z,V⟩:=hw;obtain⟨f,q⟩:=Q9.inj e;subst f q;exact⟨z,⟨B,p,y,V,C,F⟩,_,F⟩
 |none=>
  rw[s]at hw e;simp only at hw e;rw[r]at e;obtain⟨f,q⟩:=Q9.inj e;subst f q;obtain⟨n,rfl,U⟩:=hw;exact⟨U.ac _,_,F⟩
 |text b=>
  rw[s]at hw e;simp only at hw e;rw[r]at e;obtain⟨f,q⟩:=Q9.inj e;subst f q;obtain⟨rfl,z,_⟩:=hw;exact⟨z,_,F⟩
def lT(w:Λ):x1:=match gD w with
 |some n=>.tuple #[Δ n,Δ 0]
 |none=>.tuple #[Δ 0,Δ 4]
def CM{i:Nat}{b:Int}(hi:l[i]?=σ b):(l.take (i+1)).all gC=((l.take i).all gC&&gC b):=by
 rw[u9,hi,List.all_append];simp
def CN{i:Nat}{b:Int}(hi:l[i]?=σ b):(l.take (i+1)).foldl e8 0=e8 ((l.take i).foldl e8 0) b:=by
 rw[u9,hi,R3];rfl
def CO(a:l≠[])(h:l.all gC=true):lR l=σ (l.foldl e8 0):=by
 unfold lR;cases l with
 |nil=>exact absurd F a
 |cons x l=>simp only[h,if_true]
def CP{i:Nat}{b:Int}(hi:l[i]?=σ b)(a:gC b=false):lR l=ν:=by
 unfold lR;cases l with
 |nil=>simp at hi
 |cons x l=>
  simp only;rw[if_neg];intro h;have:=List.all_eq_true.1 h b (x5 hi);rw[a]at this;cases this
def qt(w l:Λ)(s:Int):Prop:=(s=1\/s= -1)/\gD w=(lR l).map λn=>s*n
def CQ:qt (45::l) l (-1):=⟨.inr F,by simp only[gD];congr 1;funext n;omega⟩
def CR{w:Λ}(h:∀b,w[0]?=σ b->b≠45):qt w w 1:=⟨.inl F,by
 have e:gD w=lR w:=by
  unfold gD;cases w with
  |nil=>rfl
  |cons x l=>
   have:=h x F;split
   .rename_i fI he;exact absurd (List.cons.inj he).1 this
   .rfl
 rw[e];cases lR w with
 |none=>rfl
 |some n=>simp⟩
def uu{w:Λ}{s:Int}(h:qt w l s)(a:lR l=ν):lT w= .tuple #[Δ 0,Δ 4]:=by
 unfold lT;rw[h.2,a];rfl
def CS{w:Λ}{s n:Int}(h:qt w l s)(a:lR l=σ n):lT w= .tuple #[Δ (s*n),Δ 0]:=by
 unfold lT;rw[h.2,a];rfl
def Mm(C:Bytes l)(M:l.length<=100000):an x7 JD [bW l] w λv J=>v=lT l/\Ext w J:=by
 refine aA func180 ?_;rw[Lz];refine iC (λS U aa=>Ext w aa/\∃(m:Λ)(s:Int),S=bW m/\U=Δ s/\Bytes m/\m.length<=100000/\qt l m s) ?_ ?_
 .rintro _ _ aa ⟨I,m,s,rfl,rfl,K,ah,E⟩;rw[xc K (λb a=>by cases a),am];refine⟨λe=>⟨by rw[uu E (by rw[e];rfl)],I⟩,λe=>?_⟩;refine xe cT.u cM.u cI.u K Ω λbv ab N O _=>?_;rw[aX cM.u O];refine tq.range m.length (λi _ _ c G=>Ext ab G/\c=Δ ((m.take i).foldl e8 0)/\(m.take i).all gC=true) Ω ⟨Ext.refl _,F,F⟩ ?_ ?_
  .rintro i V t3 _ G W hi ⟨f,rfl,p⟩ X;obtain⟨b,z⟩:=aI (l:=m) hi;have:=K b (x5 z);refine bB Ω ?_;refine LA (λ_ _ c H=>Ext ab H/\c=Δ ((m.take (i+1)).foldl e8 0)/\(m.take (i+1)).all gC=true) ?_ ?_
   .rintro aj ak c H Y;rw[aM];exact X _ _ _ _ Y
   intro aB q;rw[be cM.u cI.i Ψ (O.ext f) z];refine aV (λv H=>G=H/\v= .bool (!gC b)) ?_ ?_
   rotate_left
   .intro Z A;rw[aP,am];refine⟨λh=>A _ _ ⟨F,by unfold gC;rw[decide_eq_false Ω];rfl⟩,λh=>?_⟩;rw[bL];refine A _ _ ⟨F,?_⟩;unfold gC;congr 1;by_cases P:57<b
    .rw[decide_eq_true P,decide_eq_false Ω];rfl
    .rw[decide_eq_false P,decide_eq_true Ω];rfl
   rintro _ _ ⟨rfl,rfl⟩;cases L:gC b with
   |false=>
    rw[V8,bX];exact⟨by rw[uu E (CP z L)],(I.trans N).trans f⟩
   |true=>
    rw[X2,a8];have:=of_decide_eq_true L;have B:=ue p ⟨Int.le_refl _,Φ⟩;rw[CN z,CM z,p,L]at q;generalize (m.take i).foldl e8 0=n at*;have B:=B;rw[dI,wrap_u8 Ω Ω,fm cI.u av.u,wrap_i64 Ω Ω,dI,wrap_i64 Ω Ω,tQ Φ,Int.tdiv_eq_ediv_of_nonneg Ω];rw[wrap_i64 Ω Ω,bL,am];refine⟨λac=>q _ _ _ _ ⟨f,?_,F⟩,λac=>?_⟩
    .congr 1;unfold e8 aw;omega
    .rw[jf,wrap_i64 Ω Ω,aM,wrap_i64 Ω Ω];refine q _ _ _ _ ⟨f,?_,F⟩;congr 1;unfold e8 aw;omega
  .rintro V t3 _ G W ⟨f,rfl,p⟩;rw[o9]at p ⊢;refine ca Ω ?_;have B:=ue p ⟨Int.le_refl _,Φ⟩;have B:0<=m.foldl e8 0/\m.foldl e8 0<=4611686018427387904:=B;rw[jf];have hw:W5.wrap (s*m.foldl e8 0)=s*m.foldl e8 0:=by
    rcases E.1 with rfl|rfl<;>exact wrap_i64 Ω Ω
   rw[hw];exact⟨by rw[CS E (CO e p)],(I.trans N).trans f⟩
 .intro aB q;refine aV (λv ab=>w=ab/\∃c:Bool,v= .bool c/\(c=true↔l[0]?=σ 45)) ?_ ?_
  .rintro _ _ ⟨rfl,c,rfl,Q⟩;rw[cd];refine⟨λad=>?_,λaf=>?_⟩
   .intro ao ae _ _;have R:=Q.1 ad;cases l with
    |nil=>simp at R
    |cons x r=>
     have ag:x=45:=by simpa using R
     subst ag;rw[B5 (y:=1) (i:=1) F cT.u Ξ];exact q _ _ _ ⟨ae,r,-1,F,F,λb a=>C b (.tail _ a),by simp at M;omega,CQ⟩
   .refine q _ _ _ ⟨Ext.refl _,l,1,F,F,C,M,CR λb a he=>?_⟩;subst he;rw[Q.2 a]at af;cases af
  .intro Z A;rw[LF C (λb a=>by cases a),am];refine⟨λe=>?_,λe=>A _ _ ⟨F,false,F,⟨λh=>(by cases h),λh=>by rw[Y3.1 e]at h;simp at h⟩⟩⟩;cases l with
   |nil=>exact absurd F e
   |cons x r=>
    rw[rG (y:=0) (b:=x) F cT.u C F,bf];exact A _ _ ⟨F,_,F,Ξ⟩
def rU{s s':aG}{w:Λ}(h:dK s=σ (w,s')):s.toks=w::s'.toks/\s'={s with toks:=s'.toks}:=by
 unfold dK at h;cases a:s.toks with
 |nil=>rw[a]at h;cases h
 |cons x l=>
  rw[a]at h;simp only[Y7,T6]at h;obtain⟨rfl,rfl⟩:=h;exact⟨F,F⟩
def jj{n:Int}{s s':aG}(h:bi lo hi s=σ (n,s')):(lo<=n/\n<=hi)/\(∃w,s.toks=w::s'.toks/\gD w=σ n)/\s'={s with toks:=s'.toks}:=by
 unfold bi at h;cases hw:dK s with
 |none=>rw[hw]at h;cases h
 |some q=>
  obtain⟨w,s1⟩:=q;rw[hw]at h;simp only at h;obtain⟨h1,e⟩:=rU hw;cases a:gD w with
  |none=>rw[a]at h;cases h
  |some m=>
   rw[a]at h;simp only at h;split at h
   .rename_i f;simp only[Y7,T6]at h;obtain⟨rfl,rfl⟩:=h;exact⟨f,⟨w,h1,a⟩,e⟩
   .cases h
def jF(k:Nat)(s s':aG):Prop:=s.toks.length=s'.toks.length+k/\s'={s with toks:=s'.toks}
def jF.refl(s:aG):jF 0 s s:=⟨F,F⟩
def jF.trans{b:Nat}{r s t:aG}(h:jF a r s)(k:jF b s t):jF (a+b) r t:=⟨by have:=h.1;have:=k.1;omega,by rw[k.2,h.2]⟩
def dj{n:Int}{s s':aG}(h:bi lo hi s=σ (n,s')):jF 1 s s':=by
 obtain⟨_,⟨w,h1,_⟩,a⟩:=jj h;exact⟨by rw[h1];simp,a⟩
def jF.eqs{k:Nat}{s s':aG}(h:jF k s s'):s'.told=s.told/\s'.big=s.big/\s'.shared=s.shared:=by rw[h.2];exact⟨F,F,F⟩
theorem j7{α:Type}{f:List α->aG->Option (α×aG)}(I:List α->aG->Prop)(af:∀acc s a s',I acc s->f acc s=σ (a,s')->I (acc++[a]) s'):
  ∀(n:Nat)(acc:List α)(s:aG)(l:List α)(s':aG),I acc s->cP f n acc s=σ (l,s')->I l s'/\l.length=acc.length+n
 |0,acc,s,l,s',e,h=>by
  simp only[cP,Y7,T6]at h;obtain⟨rfl,rfl⟩:=h;exact⟨e,Ω⟩
 |n+1,acc,s,l,s',e,h=>by
  simp only[cP]at h;cases p:f acc s with
  |none=>rw[p]at h;cases h
  |some q=>
   obtain⟨a,s1⟩:=q;rw[p]at h;have:=j7 I af n _ _ _ _ (af _ _ _ _ e p) h;exact⟨this.1,by rw[this.2];simp;omega⟩
def uv{n:Int}{k:Nat}{s s':aG}(h:eU n k s=σ (l,s')):jF l.length s s'/\l.length=k/\l.Nodup/\∀v∈l,0<=v/\v<n:=by
 have:=j7 (λacc t=>jF acc.length s t/\acc.Nodup/\∀v∈acc,0<=v/\v<n) (λacc t a bt ⟨h1,p,r⟩ h=>by
  cases e:bi 0 (n-1) t with
  |none=>rw[e]at h;cases h
  |some q=>
   obtain⟨v,z⟩:=q;rw[e]at h;simp only at h;split at h
   .cases h
   .rename_i w;simp only[Y7,T6]at h;obtain⟨rfl,rfl⟩:=h;have A:=(jj e).1;refine⟨by rw[r8];exact h1.trans (dj e),List.nodup_append.2 ⟨p,Ξ,λx U y f he=>?_⟩,λx U=>?_⟩
    .rw[j5]at f;subst f;subst he;exact w U
    .rcases p9.1 U with U|U
     .exact r x U
     .rw[j5.1 U];omega) k [] s l s' ⟨jF.refl s,List.nodup_nil,λv ae=>by cases ae⟩ h
 exact⟨this.1.1,by simpa using this.2,this.1.2.1,this.1.2.2⟩
theorem xt:∀{e acc:Λ}{s s':aG}{t:Λ},kE e acc s=σ (t,s')->∃u,t=acc++u/\dv e u/\jF u.length s s'
 |[],acc,s,s',t,h=>by
  simp only[kE,Y7,T6]at h;obtain⟨rfl,rfl⟩:=h;exact⟨[],Ξ,CA.2 F,jF.refl s⟩
 |k::e,acc,s,s',t,h=>by
  simp only[kE]at h;cases a:bi 0 (k-1) s with
  |none=>rw[a]at h;cases h
  |some q=>
   obtain⟨v,s1⟩:=q;rw[a]at h;obtain⟨u,rfl,hu,f⟩:=xt h;have:=(jj a).1;exact⟨v::u,Ξ,Cz.2 ⟨Ω,hu⟩,by rw[b9,Nat.add_comm];exact(dj a).trans f⟩
def oc(sizes:Λ)(l:List (Λ×Int)):Prop:=(l.map (·.1)).Nodup/\∀p∈l,dv sizes p.1/\0<=p.2
def pn{acc:List (Λ×Int)}{s s':aG}{a:Λ×Int}(h:ez sizes acc s=σ (a,s')):a.1∉acc.map (·.1)/\dv sizes a.1/\0<=a.2/\jF (a.1.length+1) s s':=by
 unfold ez at h;cases f:kE sizes [] s with
 |none=>rw[f]at h;cases h
 |some q=>
  obtain⟨t,s1⟩:=q;rw[f]at h;simp only at h;obtain⟨u,hu,ae,p⟩:=xt f;rw[List.nil_append]at hu;subst hu;cases e:bi 0 aw s1 with
  |none=>rw[e]at h;cases h
  |some q=>
   obtain⟨c,w⟩:=q;rw[e]at h;simp only at h;split at h
   .cases h
   .rename_i r;simp only[Y7,T6]at h;obtain⟨rfl,rfl⟩:=h;exact⟨r,ae,(jj e).1.1,p.trans (dj e)⟩
structure CT(s s':aG):Prop where
 toks:s'.toks.length<s.toks.length
 big:s.big=true->s'.big=true
def Mn{s s':aG}{l:List (Λ×Int)}(C:∀q∈s.shared,oc q.1 q.2/\q.2.length<=N)(M:s.toks.length<=N)(h:dz sizes s=σ (l,s')):
  oc sizes l/\l.length<=N/\s'.shared=s.shared/\CT s s':=by
 unfold dz at h;cases r:bi (-aw) aw s with
 |none=>rw[r]at h;cases h
 |some q=>
  obtain⟨n,s1⟩:=q;rw[r]at h;simp only at h;have h1:=dj r;obtain⟨O,E,w⟩:=h1.eqs;split at h
  .cases V:s1.shared[(-n-1).toNat]? with
   |none=>rw[V]at h;cases h
   |some q=>
    obtain⟨z,fI⟩:=q;rw[V]at h;simp only at h;split at h
    .rename_i H;simp only[Y7,T6]at h;obtain⟨rfl,rfl⟩:=h;subst H;have hm:=x5 V;rw[w]at hm;exact⟨(C _ hm).1,(C _ hm).2,w,by have:=h1.1;omega,λf=>by rw[E];exact f⟩
    .cases h
  .have:=j7 (λacc t=>oc sizes acc/\t.shared=s.shared/\t.toks.length+acc.length<=s1.toks.length/\(s.big=true->t.big=true)) (λacc t a bt ⟨g1,A,I,B⟩ g=>by
    obtain⟨J,K,L,F⟩:=pn g;obtain⟨f1,f2,f3⟩:=F.eqs;refine⟨⟨?_,λp e=>?_⟩,by rw[f3,A],by have:=F.1;simp only[r8,T7];omega,λf=>by rw[f2];exact B f⟩
    .rw[Z9];exact List.nodup_append.2 ⟨g1.1,Ξ,λx U y G he=>by
      simp only[T3,List.map_nil,j5]at G;subst G;subst he;exact J U⟩
    .rcases p9.1 e with e|e
     .exact g1.2 p e
     .rw[j5.1 e];exact⟨K,L⟩) n.toNat [] (bc (decide (16384<min (s1.told+n) aw)) {s1 with told:=min (s1.told+n) aw}) l s' ⟨⟨Ξ,λp e=>by cases e⟩,w,by simp[bc],λf=>by simp[bc,E,f]⟩ h
   obtain⟨⟨g1,A,I,B⟩,_⟩:=this;have:=h1.1;exact⟨g1,Ω,A,⟨Ω,B⟩⟩
structure uw(all:Λ)(N:Nat)(f:cj):Prop where
 scope:f.scope.Nodup/\∀v∈f.scope,0<=v/\v<all.length
 sizes:f.sizes=f.scope.map λv=>all.getD v.toNat 0
 other:0<=f.other
 lines:oc f.sizes f.lines
 len:f.lines.length<=N
def Mo{all:Λ}{s s':aG}{f:cj}(C:∀q∈s.shared,oc q.1 q.2/\q.2.length<=N)(W:s.toks.length<=N)(h:dd all s=σ (f,s')):
  uw all N f/\(∀q∈s'.shared,oc q.1 q.2/\q.2.length<=N)/\CT s s'/\(s'.big=false->f.scope.length<=6/\dn f.sizes=false):=by
 unfold dd at h;cases E:bi (-aw) aw s with
 |none=>rw[E]at h;cases h
 |some q=>
 obtain⟨a,s1⟩:=q;rw[E]at h;simp only at h;have t0:=dj E;obtain⟨X,O,P⟩:=t0.eqs;cases h1:eU all.length a.natAbs s1 with
 |none=>rw[h1]at h;cases h
 |some q=>
 obtain⟨sc,x⟩:=q;rw[h1]at h;simp only at h;obtain⟨G,Y,Q,R⟩:=uv h1;obtain⟨Z,S,T⟩:=G.eqs;generalize U:sc.map (λv=>all.getD v.toNat 0)=sizes at h;cases z:bi 0 aw (bc (decide (6<a.natAbs)||dn sizes) x)with
 |none=>rw[z]at h;cases h
 |some q=>
 obtain⟨other,r⟩:=q;rw[z]at h;simp only at h;have H:=dj z;obtain⟨aa,A,y⟩:=H.eqs;have y:r.shared=s.shared:=by rw[y];show x.shared=_;rw[T,P]
 have ab:r.toks.length<s.toks.length:=by
  have:=t0.1;have:=G.1;have B:=H.1;have:(bc (decide (6<a.natAbs)||dn sizes) x).toks.length=x.toks.length:=rfl;omega
 cases B:dz sizes r with
 |none=>rw[B]at h;cases h
 |some q=>
 obtain⟨lines,p⟩:=q;rw[B]at h;simp only[Y7,T6]at h;obtain⟨rfl,rfl⟩:=h;obtain⟨g1,I,J,K⟩:=Mn (by rw[y];exact C) Ω B;have V:=K.big;have gt:=K.toks;have L:r.big=true->∀F:aG,F=(if a<0 then{p with shared:=p.shared++[(sizes,lines)]}else p)->F.big=true:=λw F he=>by
  rw[he];split<;>exact V w
 have A:r.big=(s.big||(decide (6<a.natAbs)||dn sizes)):=by
  rw[A];show(x.big||_)=_;rw[S,O]
 refine⟨⟨⟨Q,R⟩,U.symm,(jj z).1.1,g1,I⟩,λq e=>?_,⟨?_,λw=>L (by rw[A,w];rfl) _ rfl⟩,λw=>?_⟩
 .split at e
  .rcases p9.1 e with e|e
   .rw[show p.shared=s.shared by rw[J,y]]at e;exact C q e
   .rw[j5.1 e];exact⟨g1,I⟩
  .rw[show p.shared=s.shared by rw[J,y]]at e;exact C q e
 .have:(if a<0 then{p with shared:=p.shared++[(sizes,lines)]}else p).toks=p.toks:=by split<;>rfl
  rw[this];omega
 .have M:r.big=false:=by
   cases e:r.big with
   |false=>rfl
   |true=>rw[L e _ rfl]at w;cases w
  rw[A,R5,R5,decide_eq_false_iff_not]at M;show sc.length<=6/\_;exact⟨Ω,M.2.2⟩
structure e9(N:Nat)(f:b3):Prop where
 name:f.name.length<=64
 k:1<=f.k/\f.k<=2147483648
 sizes:1<=f.sizes.length/\f.sizes.length<=64/\∀z∈f.sizes,1<=z/\z<=32
 mv:f.funs.length<=256
 funs:∀x∈f.funs,uw f.sizes N x/\x.scope.length<=6/\dn x.sizes=false
def rV{b:Bool}{s:aG}(h:(bc b s).big=false):s.big=false/\b=false:=by
 have h:(s.big||b)=false:=h;exact R5.1 h
def Mp{a b:aG}(h:a.big=true->b.big=true)(e:b.big=false):a.big=false:=by
 cases f:a.big with
 |false=>rfl
 |true=>rw[h f]at e;cases e
def CU{s s':aG}{f:b3}(V:s.shared=[])(h:iI s=σ (f,s'))(e:s'.big=false):e9 s.toks.length f/\f.name∈s.toks:=by
 unfold iI at h;cases J:dK s with
 |none=>rw[J]at h;cases h
 |some q=>
 obtain⟨name,s0⟩:=q;rw[J]at h;simp only at h;obtain⟨aa,ab⟩:=rU J;cases h1:bi 1 aw (bc (decide (64<name.length)) s0)with
 |none=>rw[h1]at h;cases h
 |some q=>
 obtain⟨n,s1⟩:=q;rw[h1]at h;simp only at h;have r:=dj h1;cases K:bi 1 aw (bc (decide (64<n)) s1)with
 |none=>rw[K]at h;cases h
 |some q=>
 obtain⟨most,Y⟩:=q;rw[K]at h;simp only at h;have L:=dj K;cases M:bi 0 aw Y with
 |none=>rw[M]at h;cases h
 |some q=>
 obtain⟨E,F⟩:=q;rw[M]at h;simp only at h;have t3:=dj M;cases G:bi 1 aw (bc (decide (256<E)) F)with
 |none=>rw[G]at h;cases h
 |some q=>
 obtain⟨k,A⟩:=q;rw[G]at h;simp only at h;have t4:=dj G;cases N:cP (fQ most) n.toNat [] (bc (decide (2147483648<k)) A)with
 |none=>rw[N]at h;cases h
 |some q=>
 obtain⟨sizes,H⟩:=q;rw[N]at h;simp only at h;cases O:cP (λ_ s=>dd sizes s) E.toNat [] H with
 |none=>rw[O]at h;cases h
 |some q=>
 obtain⟨funs,Z⟩:=q;rw[O]at h;simp only[Y7,T6]at h;obtain⟨rfl,rfl⟩:=h;have ac:=j7 (λ(acc:Λ)t=>t.shared=[]/\t.toks.length<=s.toks.length/\(t.big=false->A.big=false/\k<=2147483648/\∀z∈acc,1<=z/\z<=32)) (λacc t a bt ⟨g1,S,P⟩ g=>by
  unfold fQ at g;cases w:bi 1 most t with
  |none=>rw[w]at g;cases g
  |some q=>
   obtain⟨z,r⟩:=q;rw[w]at g;simp only[Y7,T6]at g;obtain⟨rfl,rfl⟩:=g;have T:=dj w;obtain⟨aB,ad,ae⟩:=T.eqs;have:=(jj w).1;refine⟨by show r.shared=[];rw[ae,g1],by show r.toks.length<=_;have:=T.1;omega,λe=>?_⟩;obtain⟨p,B⟩:=rV e;rw[ad]at p;obtain⟨Q,R,af⟩:=P p;refine⟨Q,R,λy C=>?_⟩;rcases p9.1 C with C|C
   .exact af y C
   .rw[j5.1 C];have:=of_decide_eq_false B;omega) n.toNat [] (bc (decide (2147483648<k)) A) sizes H ⟨by
     show A.shared=[];rw[t4.eqs.2.2];show F.shared=[];rw[t3.eqs.2.2,L.eqs.2.2];show s1.shared=[];rw[r.eqs.2.2];show s0.shared=[];rw[ab];exact V,by
     show A.toks.length<=_;have ag:=r.1;have ah:=L.1;have:=t3.1;have a4:=t4.1;have p:(bc (decide (64<name.length)) s0).toks=s0.toks:=rfl;have B:(bc (decide (64<n)) s1).toks=s1.toks:=rfl;have I:(bc (decide (256<E)) F).toks=F.toks:=rfl;rw[p]at ag;rw[B]at ah;rw[I]at a4;rw[aa,b9];omega,λe=>by
     obtain⟨p,B⟩:=rV e;have:=of_decide_eq_false B;exact⟨p,Ω,λz ai=>by cases ai⟩⟩ N
 obtain⟨⟨aj,ak,al⟩,am⟩:=ac;have an:=j7 (λ(acc:List cj)t=>(∀q∈t.shared,oc q.1 q.2/\q.2.length<=s.toks.length)/\t.toks.length<=s.toks.length/\(t.big=false->H.big=false/\∀x∈acc,uw sizes s.toks.length x/\x.scope.length<=6/\dn x.sizes=false)) (λacc t a bt ⟨g1,S,P⟩ g=>by
  obtain⟨ao,ap,W,aq⟩:=Mo g1 S g;refine⟨ap,by have:=W.toks;omega,λe=>?_⟩;obtain⟨Q,R⟩:=P (Mp W.big e);refine⟨Q,λx U=>?_⟩;rcases p9.1 U with U|U
  .exact R x U
  .rw[j5.1 U];exact⟨ao,aq e⟩) E.toNat [] H funs Z ⟨(by rw[aj];intro q w;cases w),ak,λe=>⟨e,λx U=>by cases U⟩⟩ O
 obtain⟨⟨_,_,d3⟩,d4⟩:=an;obtain⟨au,d5⟩:=d3 e;obtain⟨I,av,ax⟩:=al au;rw[t4.eqs.2.1]at I;obtain⟨X,ay⟩:=rV I;rw[t3.eqs.2.1,L.eqs.2.1]at X;obtain⟨p,az⟩:=rV X;rw[r.eqs.2.1]at p;obtain⟨_,aA⟩:=rV p;have:=of_decide_eq_false ay;have:=of_decide_eq_false az;have:=of_decide_eq_false aA;have:=(jj h1).1;have hk:=(jj G).1;simp only[List.length_nil,W0]at am d4;exact⟨⟨by show name.length<=64;omega,⟨hk.1,av⟩,⟨by show 1<=sizes.length;omega,by show sizes.length<=64;omega,ax⟩,by show funs.length<=256;omega,d5⟩,by rw[aa];exact .head _⟩
def la(x:cj)(k:Int)(t:Λ):Int:=min (match x.lines.find? (λp=>decide (p.1=t))with
 |some p=>p.2
 |none=>x.other) k
def bx(l:Λ):Λ:=((Z4 64).map λ(v:Nat)=>(v:Int)).filter λv=>decide (v∈l)
def b2(sizes scope:Λ):Λ:=scope.map λv=>sizes.getD v.toNat 0
def qu(scope a t:Λ):Λ:=scope.map λv=>t.getD (a.idxOf v) 0
abbrev cK:Type:=Λ×Λ
def jk(sizes:Λ)(k:Int)(x:cj):cK:=(bx x.scope,(bn (b2 sizes (bx x.scope))).map λt=>la x k (qu x.scope (bx x.scope) t))
def ej(k:Int)(a b:Λ):Λ:=List.zipWith (λx y=>min (x+y) k) a b
def jG(k:Int)(acc:List cK)(g:cK):List cK:=if g.1∈acc.map (·.1)then acc.map λh=>if h.1=g.1 then(h.1,ej k h.2 g.2)else h else acc++[g]
def kJ:Λ->Int
 |[]=>0
 |x::l=>x*64 ^ l.length+kJ l
def de(l:Λ):Int:=l.length*64 ^ 6+kJ l
def iO(g:cK):List cK->List cK
 |[]=>[g]
 |h::l=>if de h.1<de g.1 then h::iO g l else g::h::l
def fp(g:cK):Bool:=g.2.any λc=>decide (0<c)
def fq(f:b3):List cK:=(f.funs.map (jk f.sizes f.k)).foldl (jG f.k) []
def fs(f:b3):List cK:=((fq f).filter fp).foldl (λl g=>iO g l) []
structure aH where
 k:Int
 sizes:Λ
 zero:Int
 unary:List (Λ)
 funs:List cK
deriving DecidableEq
def c4(f:b3):aH:=(fs f).foldl (λn g=>match g.1 with
 |[]=>{n with zero:=g.2.getD 0 0}
 |[v]=>{n with unary:=n.unary.set v.toNat g.2}
 |_=>{n with funs:=n.funs++[g]}) ⟨f.k,f.sizes,0,f.sizes.map λz=>o8 z.toNat 0,[]⟩
abbrev lU:Type:=Rd (Λ)×Rd (List (Λ×Int))
def bH(g gs:Nat)(A:ak):ak:=λr=>r=g\/r=gs\/A r
def jl(gs:Nat)(e big a f told:Int)(sv:x1):List x1:=[Γ gs,Δ e,Δ big,Δ a,Δ f,Δ told,sv]
def cQ(g gs:Nat)(A:ak)(B:ak):ak:=λr=>¬bH g gs A r/\B r
def mw(w:x3)(g gs:Nat)(A:ak)(B:ak):Prop:=g≠gs/\¬A g/\¬A gs/\(∀r,bH g gs A r->r<w.heap.size)/\∀r,B r->r<w.heap.size
def ed(w:x3)(g gs:Nat)(A:ak)(B:ak)(s:aG)(a:Bool):Prop:=mw w g gs A B/\iN w gs (cQ g gs A B) s.toks a/\(0<=s.told/\s.told<=aw/\s.shared.length+s.toks.length<=100000)/\
 ∃big e f told sv,ah w g cA (jl gs 0 big e f told sv)/\((s.big=true↔big≠0)/\(s.big=false->told=s.told))/\bG A (cQ g gs A B) w [sv] (show List lU from s.shared)
def fa(w:x3)(g gs:Nat)(A:ak)(B:ak):Prop:=mw w g gs A B/\∃(e big a f told:Int)(sv:x1)(l:List lU),ah w g cA (jl gs e big a f told sv)/\(e≠0/\l.length<=100000)/\bG A (cQ g gs A B) w [sv] l
def mw.ac{g:Nat}{A:ak}{B:ak}(h:mw w g gs A B)(U:ai S w J):mw J g gs A B:=by
 obtain⟨h1,e,f,p,q⟩:=h;exact⟨h1,e,f,λr a=>Q7 (p r a) U.size,λr a=>Q7 (q r a) U.size⟩
def CV{g:Nat}{A:ak}{B:ak}(a:∀r,A r->¬S r)(e:∀r,cQ g gs A B r->¬S r):∀r,A r\/cQ g gs A B r->¬S r:=λr h=>h.elim (a r) (e r)
def ed.ac{g:Nat}{A:ak}{B:ak}{s:aG}{e:Bool}(h:ed w g gs A B s e)(U:ai S w J)(a:∀r,bH g gs A r->¬S r)(f:∀r,cQ g gs A B r->¬S r):ed J g gs A B s e:=by
 obtain⟨h1,p,q,big,x,y,told,sv,z,C,E⟩:=h;exact⟨h1.ac U,p.ac U (a gs (.inr (.inl rfl))) f,q,big,x,y,told,sv,z.ac U (a g (.inl rfl)),C,au.ac E U λr _ h=>CV (λr F=>a r (.inr (.inr F))) f r h⟩
def fa.ac{g:Nat}{A:ak}{B:ak}(h:fa w g gs A B)(U:ai S w J)(a:∀r,bH g gs A r->¬S r)(f:∀r,cQ g gs A B r->¬S r):fa J g gs A B:=by
 obtain⟨h1,e,big,p,q,told,sv,l,s,x,y⟩:=h;exact⟨h1.ac U,e,big,p,q,told,sv,l,s.ac U (a g (.inl F)),x,au.ac y U λr _ h=>CV (λr z=>a r (.inr (.inr z))) f r h⟩
def ed.ext{g:Nat}{A:ak}{B:ak}{s:aG}{a:Bool}(h:ed w g gs A B s a)(U:Ext w J):ed J g gs A B s a:=h.ac (U.ac λ_=>False) (λ_ _ h=>h) (λ_ _ h=>h)
def fa.ext{g:Nat}{A:ak}{B:ak}(h:fa w g gs A B)(U:Ext w J):fa J g gs A B:=h.ac (U.ac λ_=>False) (λ_ _ h=>h) (λ_ _ h=>h)
def gh(w:x3)(g gs:Nat)(A:ak)(B:ak)(a:Bool)(s':Option aG)(J:x3):Prop:=ai (bH g gs A) w J/\match s' with
 |some s'=>ed J g gs A B s' a
 |none=>fa J g gs A B
def xu{g:Nat}{e big a f told:Int}(h:ah w g cA (jl gs e big a f told sv)):an x7 mm [Γ g] w λv J=>v= .bool (decide (e=0))/\Ext w J:=by
 refine aA func108 ?_;rw[bZ,aW cA.p F,aW e6.p F,ax Ψ (h.cell F),bf];exact⟨F,Ext.refl _⟩
def qv{g:Nat}{A:ak}{B:ak}{s:aG}{a:Bool}(h:ed w g gs A B s a):an x7 mm [Γ g] w λv J=>v= .bool true/\Ext w J:=by
 obtain⟨_,_,_,big,f,p,told,sv,e,_⟩:=h;exact(xu e).mono λ_ _ _ h=>h
def po{g:Nat}{A:ak}{B:ak}(h:fa w g gs A B):an x7 mm [Γ g] w λv J=>v= .bool false/\Ext w J:=by
 obtain⟨_,e,big,p,q,told,sv,l,a,f,_⟩:=h;refine(xu a).mono ?_;rintro _ aa _ ⟨rfl,U⟩;exact⟨by rw[decide_eq_false f.1],U⟩
def ux{g:Nat}{A B:ak}(h:A r\/cQ g gs A B r)(a:¬A g):r≠g:=by
 rintro rfl;rcases h with h|h
 .exact a h
 .exact h.1 (.inl F)
def uy{g:Nat}{A:ak}{B:ak}{big s told e:Int}{l:List lU}(V:mw w g gs A B)(x:ah w g cA (jl gs 0 big y s told sv))(z:bG A (cQ g gs A B) w [sv] l)(he:e≠0)(C:l.length<=100000):
  an x7 oU [Γ g,Δ e,Δ at_] w λ_ J=>ai (λr=>r=g) w J/\fa J g gs A B:=by
 refine aA func111 ?_;rw[bZ,aW cA.p F,aW e6.p F,ax Ψ (x.cell F),bf,am];refine⟨λ_=>?_,λh=>absurd F h⟩;rw[bZ,aW cA.p F,aW e6.p F];refine bp (g:=g) (o:=1) k2.i F rfl x (by simp[jl]) λaa E I a=>?_;have a:=a;rw[bZ,aW cA.p F,aW e6.p F];refine bp (g:=g) (o:=3) aj.i F rfl a (by simp[jl]) λab G K f=>?_;have f:=f;have q:=E.trans G;exact⟨q,V.ac q,e,big,at_,s,told,sv,l,f,⟨he,C⟩,au.ac z q λr _ h H=>ux h V.2.1 H⟩
def uz{g:Nat}{A:ak}{B:ak}{s:aG}{a:Bool}{e:Int}(h:ed w g gs A B s a)(he:e≠0):an x7 oU [Γ g,Δ e,Δ at_] w λ_ J=>ai (λr=>r=g) w J/\fa J g gs A B:=by
 obtain⟨V,_,f,big,x,y,told,sv,p,_,q⟩:=h;exact uy V p q he (by have:=f.2.2;show s.shared.length<=_;omega)
def Mq{g:Nat}{A:ak}{B:ak}{e:Int}(h:fa w g gs A B):an x7 oU [Γ g,Δ e,Δ at_] w λ_ J=>Ext w J:=by
 obtain⟨_,f,big,q,r,told,sv,l,h1,a,_⟩:=h;refine aA func111 ?_;rw[bZ,aW cA.p F,aW e6.p F,ax Ψ (h1.cell F),bf,am];exact⟨λh=>absurd h a.1,λ_=>Ext.refl _⟩
def uA{g:Nat}{A:ak}{B:ak}{s:aG}{z b:Bool}(h:ed w g gs A B s z):an x7 rr [Γ g,.bool b,Δ at_] w λ_ J=>ai (λr=>r=g) w J/\ed J g gs A B (bc b s) z:=by
 obtain⟨V,C,E,big,G,K,told,sv,e,H,I⟩:=id h;refine aA func106 ?_;refine aV (λv aa=>w=aa/\v= .bool (b&&decide (big=0))) ?_ ?_
 rotate_left
 .intro aB q;cases b with
  |false=>rw[a8];exact q _ _ ⟨F,F⟩
  |true=>
   rw[bX,bZ,aW cA.p F,aW e6.p F,ax Ψ (e.cell F),bf,am];refine⟨λa=>?_,λa=>q _ _ ⟨F,by rw[decide_eq_false a];rfl⟩⟩;rw[bZ,aW cA.p F,aW e6.p F,ax Ψ (e.cell F),bf];exact q _ _ ⟨F,by rw[decide_eq_true a];rfl⟩
 rintro _ _ ⟨rfl,rfl⟩;rw[cd];refine⟨λL=>?_,λaf=>?_⟩
 .obtain⟨rfl,a⟩:=Bool.and_eq_true_iff.1 L;rw[bZ,aW cA.p F,aW e6.p F];refine bp (g:=g) (o:=2) k2.i F rfl e (by simp[jl]) λaa M Q x=>?_;have x:=x;rw[bZ,aW cA.p F,aW e6.p F];refine bp (g:=g) (o:=4) aj.i F rfl x (by simp[jl]) λab N R y=>?_;have y:=y;have f:=M.trans N;exact⟨f,V.ac f,C.ac f (λhe=>V.1 he.symm) (λr O he=>O.1 (.inl he)),E,5,G,at_,told,sv,y,⟨⟨λ_=>Ω,λ_=>by simp[bc]⟩,λh=>by simp[bc]at h⟩,au.ac I f λr _ h P=>ux h V.2.1 P⟩
 .refine⟨ai.refl _ _,V,C,E,big,G,K,told,sv,e,⟨?_,λh=>H.2 (by
   have h:(s.big||b)=false:=h;exact(R5.1 h).1)⟩,I⟩
  show(s.big||b)=true↔big≠0;cases b with
  |false=>rw[Bool.or_false];exact H.1
  |true=>
   have a:=of_decide_eq_false (by simpa using af);simp[a]
def CW{g:Nat}{A:ak}{B:ak}{b:Bool}(h:fa w g gs A B):an x7 rr [Γ g,.bool b,Δ at_] w λ_ J=>Ext w J:=by
 obtain⟨_,q,big,r,s,told,sv,l,h1,e,_⟩:=h;refine aA func106 ?_;refine aV (λv aa=>w=aa/\v= .bool false) ?_ ?_
 .rintro _ _ ⟨rfl,rfl⟩;rw[a8];exact Ext.refl _
 intro aB a;cases b with
 |false=>rw[a8];exact a _ _ ⟨F,F⟩
 |true=>
  rw[bX,bZ,aW cA.p F,aW e6.p F,ax Ψ (h1.cell F),bf,am];refine⟨λf=>?_,λf=>a _ _ ⟨F,F⟩⟩;rw[bZ,aW cA.p F,aW e6.p F,ax Ψ (h1.cell F),bf];exact a _ _ ⟨F,by rw[decide_eq_false e.1]⟩
def ed.scan{g:Nat}{A:ak}{B:ak}{s:aG}{a:Bool}{l:List (Λ)}(h:ed w g gs A B s a)(e:ai (λr=>r=gs) w J)(V:iN J gs (cQ g gs A B) l a)(E:l.length<=s.toks.length):ed J g gs A B {s with toks:=l} a:=by
 obtain⟨h1,_,f,big,q,x,told,sv,y,z,C⟩:=h;refine⟨h1.ac e,V,⟨f.1,f.2.1,by have:=f.2.2;show s.shared.length+l.length<=100000;omega⟩,big,q,x,told,sv,y.ac e h1.1,z,au.ac C e λr _ h p=>?_⟩;have p:r=gs:=p;subst p;rcases h with h|h
 .exact h1.2.2.1 h
 .exact h.1 (.inr (.inl F))
def CX{g:Nat}{A:ak}{B:ak}{s:aG}{z:Bool}(h:ed w g gs A B s z):an x7 A2 [Γ g] w λv J=>gh w g gs A B z ((dK s).map (·.2)) J/\∃(t:Λ)(n:Int),v= .tuple #[bW t,Δ n]/\Bytes t/\t.length<=100000/\∀q,dK s=σ q->t=q.1:=by
 refine aA func105 ?_;refine(qv h).mono ?_;rintro _ aa _ ⟨rfl,L⟩;rw[bM,X2,a8];have h1:=h.ext L;obtain⟨_,M,_,big,P,Q,told,sv,C,_⟩:=id h1;have R:=M.words.2;rw[aT cA.p 0 C F];refine(rT M).mono ?_;rintro v ab _ ⟨x,ae⟩;have N:ai (bH g gs A) w ab:=(L.ac _).trans (x.mono λr _ h=>.inr (.inl h));cases f:s.toks with
 |cons t l=>
  rw[f]at ae;obtain⟨S,n,rfl⟩:=ae;have U:=h1.scan x S (by rw[f];simp);have E:dK s=σ (t,{s with toks:=l}):=by unfold dK;rw[f]
  have O:=R t (by rw[f];exact .head _);rw[fN,fO,fP];refine aV (λv G=>ab=G/\v=Δ 0) ?_ ?_
  .rintro _ _ ⟨rfl,rfl⟩;refine da (λy=>ab=y) ?_ ?_
   .rintro _ rfl;rw[E];exact⟨⟨N,U⟩,t,n,F,O.1,O.2.2,λq H=>by cases H;rfl⟩
   .intro aB a;rw[bA,am];exact⟨λh=>absurd F h,λ_=>a _ F⟩
  .intro aB a;rw[bf,am];exact⟨λh=>Ω,λ_=>a _ _ ⟨F,F⟩⟩
 |nil=>
  rw[f]at ae;obtain⟨n,rfl⟩:=ae;have E:dK s=ν:=by unfold dK;rw[f]
  obtain⟨I,_,V,big,P,Q,told,sv,C,ag,W⟩:=id h1;have X:=C.ac x I.1;have Y:=au.ac W x λr _ h K=>by
   have K:r=gs:=K;subst K;rcases h with h|h
   .exact I.2.2.1 h
   .exact h.1 (.inr (.inl F))
  rw[fN,fO,fP];refine aV (λv G=>ab=G/\∃e:Int,v=Δ e/\e≠0) ?_ ?_
  .rintro _ _ ⟨rfl,e,rfl,he⟩;refine da (λy=>ai (λr=>r=g) ab y/\fa y g gs A B) ?_ ?_
   .rintro y ⟨Z,ad⟩;rw[E];exact⟨⟨N.trans (Z.mono λr _ h=>.inl h),ad⟩,[],n,F,λb af=>(by cases af),Ξ,λq H=>by cases H⟩
   .intro aB a;rw[bA,am];refine⟨λ_=>?_,λh=>absurd he h⟩;exact(uy (I.ac x) X Y he (by have:=V.2.2;show s.shared.length<=_;omega)).mono λ_ J _ h=>a _ h
  .intro aB a;rw[bf,am];cases z with
   |true=>exact⟨λ_=>a _ _ ⟨F,4,F,Ω⟩,λh=>absurd F h⟩
   |false=>exact⟨λh=>by simp at h,λ_=>a _ _ ⟨F,11,F,Ω⟩⟩
def Mr{g:Nat}{A:ak}{B:ak}(h:fa w g gs A B):an x7 A2 [Γ g] w λv J=>Ext w J/\v= .tuple #[bW [],Δ 0]:=by
 refine aA func105 ?_;refine(po h).mono ?_;rintro _ aa _ ⟨rfl,a⟩;rw[bM,V8,bX];exact⟨a,F⟩
def xv{g:Nat}{A:ak}{B:ak}{s:aG}{z:Bool}(h:ed w g gs A B s z):an x7 oT [Γ g,Δ lo,Δ hi] w λv J=>gh w g gs A B z ((bi lo hi s).map (·.2)) J/\∃n at_:Int,v= .tuple #[Δ n,Δ at_]/\(∀q,bi lo hi s=σ q->n=q.1)/\(bi lo hi s=ν->n=0):=by
 refine aA func107 ?_;refine(CX h).mono ?_;rintro _ aa _ ⟨⟨C,f⟩,t,n,rfl,I,K,hw⟩;rw[bq,br];cases p:dK s with
 |none=>
  have a:bi lo hi s=ν:=by unfold bi;rw[p]
  rw[p]at f;have f:=f;refine(po f).mono ?_;rintro _ ab _ ⟨rfl,x⟩;rw[bM,V8,bX,a];exact⟨⟨C.trans (x.ac _),f.ext x⟩,0,n,F,λq h=>(by cases h),λ_=>rfl⟩
 |some q=>
  obtain⟨bt,s1⟩:=q;have:=hw _ p;subst this;rw[p]at f;have f:=f;refine(qv f).mono ?_;rintro _ ab _ ⟨rfl,x⟩;rw[bM,X2,a8];refine(Mm I K).mono ?_;rintro _ L _ ⟨rfl,E⟩;have G:=(f.ext x).ext E;have H:=(C.trans (x.ac _)).trans (E.ac _);obtain⟨m,e,ae,hm⟩:∃m e:Int,lT t= .tuple #[Δ m,Δ e]/\((gD t=σ m/\e=0)\/(gD t=ν/\e=4)):=by
   unfold lT;cases P:gD t with
   |none=>exact⟨0,4,F,.inr ⟨F,F⟩⟩
   |some m=>exact⟨m,0,F,.inl ⟨F,F⟩⟩
  rw[ae,bq,br];refine aV (λv M=>L=M/\v= .bool (bi lo hi s).isNone) ?_ ?_
  .rintro _ _ ⟨rfl,rfl⟩;cases a:bi lo hi s with
   |none=>
    rw[Option.isNone_none,bX];refine(uz G Ω).mono ?_;rintro _ Q _ ⟨N,O⟩;exact⟨⟨H.trans (N.mono λr _ h=>.inl h),O⟩,0,n,F,λq h=>(by cases h),λ_=>rfl⟩
   |some q=>
    rw[Y0,a8];unfold bi at a;rw[p]at a;simp only at a;rcases hm with⟨hm,_⟩|⟨hm,_⟩
    .rw[hm]at a;simp only at a;split at a
     .cases a;exact⟨⟨H,G⟩,m,n,F,λq h=>(by cases h;rfl),λh=>(by cases h)⟩
     .cases a
    .rw[hm]at a;cases a
  .intro aB y;have a:bi lo hi s=match gD t with
     |none=>ν
     |some n=>if lo<=n/\n<=hi then σ (n,s1)else ν:=by
    unfold bi;rw[p];simp only;cases gD t<;>rfl
   rw[bA,am];rcases hm with⟨hm,rfl⟩|⟨hm,rfl⟩
   .rw[hm]at a;simp only at a;refine⟨λh=>absurd F h,λ_=>?_⟩;rw[aP,am];refine⟨λh=>y _ _ ⟨F,by rw[a,if_neg Ω];rfl⟩,λh=>?_⟩;rw[bL];refine y _ _ ⟨F,?_⟩;rw[a];by_cases aC:hi<m
    .rw[decide_eq_true aC,if_neg Ω];rfl
    .rw[decide_eq_false aC,if_pos Ω];rfl
   .rw[hm]at a;exact⟨λ_=>y _ _ ⟨F,by rw[a];rfl⟩,λh=>absurd (by omega:(4:Int)≠0) h⟩
def Ms{g:Nat}{A:ak}{B:ak}(h:fa w g gs A B):an x7 oT [Γ g,Δ lo,Δ hi] w λv J=>Ext w J/\v= .tuple #[Δ 0,Δ 0]:=by
 refine aA func107 ?_;refine(Mr h).mono ?_;rintro _ aa _ ⟨a,rfl⟩;rw[bq,br];refine(po (h.ext a)).mono ?_;rintro _ ab _ ⟨rfl,e⟩;rw[bM,V8,bX];exact⟨a.trans e,F⟩
def Mt{x:Int}(h:aK .i64 w sv l):an x7 Kx [sv,Δ x] w λv J=>Ext w J/\∃r:Int,v=Δ r/\(0<=r↔x∈l):=by
 refine aA func271 ?_;rw[aX az.u h];refine bV.range l.length (λi _ aa=>Ext w aa/\x∉l.take i) h.le ⟨Ext.refl _,Ξ⟩ ?_ ?_
 .rintro i _ aa k hi ⟨a,e⟩ hk;refine bB Ω ?_;obtain⟨y,f⟩:=aI (l:=l) hi;rw[be az.u av.i Ψ (h.ext a) f,bf,am];refine⟨λhe=>⟨a,i,F,⟨λ_=>he▸x5 f,λ_=>Ω⟩⟩,λhe=>?_⟩;rw[aM];refine hk _ _ ⟨a,λhm=>?_⟩;rw[u9,f]at hm;rcases p9.1 hm with hm|hm
  .exact e hm
  .simp at hm;exact he hm
 .rintro _ aa k ⟨a,e⟩;rw[o9]at e;rw[aP,am];exact⟨λh=>Ω,λ_=>⟨a,-1,F,⟨λh=>Ω,λh=>absurd h e⟩⟩⟩
def Mu{x:Int}(h:aK .i64 w sv l):an x7 Kb [sv,Δ x] w λv J=>v= .bool (decide (x∈l))/\Ext w J:=by
 refine aA func232 ?_;refine(Mt h).mono ?_;rintro _ aa _ ⟨U,r,rfl,a⟩;rw[cO];exact⟨by congr 1;rw[U6,decide_eq_true_eq,decide_eq_true_eq];exact a,U⟩
theorem uB:∀{l:Λ},(∀z∈l,1<=z)->∀i,aR ((l.take i).map λk=>min k 4097)<=aR (l.map λk=>min k 4097)/\1<=aR ((l.take i).map λk=>min k 4097)
 |[],_,i=>by simp[aR]
 |z::l,h,0=>by
  have a:=uB (λx U=>h x (.tail _ U)) l.length;rw[o9]at a;have e:=h z (.head _);simp only[List.take_zero,List.map_nil,T3,aR];have:=Int.mul_le_mul_of_nonneg_left a.2 (show 0<=min z 4097 by omega);omega
 |z::l,h,i+1=>by
  have a:=uB (λx U=>h x (.tail _ U)) i;have e:=h z (.head _);simp only[List.take_succ_cons,T3,aR];have h1:=Int.mul_le_mul_of_nonneg_left a.1 (show 0<=min z 4097 by omega);have:=Int.mul_le_mul_of_nonneg_left a.2 (show 0<=min z 4097 by omega);exact⟨h1,Ω⟩
def CY(l:Λ)(x:Int):aR (l++[x])=aR l*x:=by
 induction l with
 |nil=>simp[aR]
 |cons a l e=>rw[List.cons_append,aR,e,aR,Int.mul_assoc]
def CZ(h:aK .i64 w sv l)(h1:∀z∈l,1<=z):an x7 JE [sv] w λv J=>v= .bool (dn l)/\Ext w J:=by
 refine aA func182 ?_;rw[aX az.u h];refine mg.range l.length (λi _ n aa=>Ext w aa/\n=Δ (aR ((l.take i).map λk=>min k 4097))/\aR ((l.take i).map λk=>min k 4097)<=4096) h.le ⟨Ext.refl _,by simp[aR],by simp[aR]⟩ ?_ ?_
 .rintro i _ _ aa q hi ⟨a,rfl,f⟩ r;refine bB Ω ?_;obtain⟨z,p⟩:=aI (l:=l) hi;have:=h1 z (x5 p);have:=uB h1 i;have:=uB h1 (i+1);have e:aR ((l.take (i+1)).map λk=>min k 4097)=aR ((l.take i).map λk=>min k 4097)*min z 4097:=by
   rw[u9,p,j4,Z9,T3,List.map_nil,CY]
  rw[be az.u av.i Ψ (h.ext a) p,nh,jf,<-e];have B:aR ((l.take (i+1)).map λk=>min k 4097)<=4096*4097:=by
   rw[e];have:=Int.mul_le_mul_of_nonneg_right f (show 0<=min z 4097 by omega);have:=Int.mul_le_mul_of_nonneg_left (show min z 4097<=4097 by omega) (show(0:Int)<=4096 by omega);omega
  rw[wrap_i64 Ω Ω,bL,am];refine⟨λs=>⟨?_,a⟩,λs=>?_⟩
  .unfold dn;rw[decide_eq_true];omega
  .rw[aM];exact r _ _ _ ⟨a,F,Ω⟩
 .rintro _ _ aa q ⟨a,rfl,f⟩;rw[o9]at f;rw[aP,am];refine⟨λh=>Ω,λ_=>⟨?_,a⟩⟩;unfold dn;rw[decide_eq_false];omega
def lV(n:Int)(acc:Λ)(s:aG):Option (Int×aG):=match bi 0 (n-1) s with
 |none=>ν
 |some (v,s)=>if v∈acc then ν else σ (v,s)
def qw{α:Type}{f:List α->aG->Option (α×aG)}{acc:List α}{s:aG}(h:f acc s=ν):cP f (n+1) acc s=ν:=by
 simp only[cP,h]
def uC{α:Type}{f:List α->aG->Option (α×aG)}{acc:List α}{s s':aG}{a:α}(h:f acc s=σ (a,s')):cP f (n+1) acc s=cP f n (acc++[a]) s':=by
 simp only[cP,h]
def ed.rW{g:Nat}{A:ak}{B:ak}{s:aG}{a:Bool}(h:ed w g gs A B s a):(∀r,bH g gs A r->r<w.heap.size)/\(∀r,B r->r<w.heap.size):=⟨h.1.2.2.2.1,h.1.2.2.2.2⟩
def Mv{g k:Nat}{A B:ak}{s:aG}{I:Bool}{m:Int}(h:ed w g gs A B s I)(hk:k<=4611686018427387904)(hm:0<=m/\m<=1000000):
  an x7 Bb [Γ g,Δ (k:Int),Δ m] w λv J=>gh w g gs A B I ((eU m k s).map (·.2)) J/\
   ∃gr l,ay .i64 av J gr v l/\(∀r,leads v r->w.heap.size<=r)/\l.length<=100001/\∀q,eU m k s=σ q->l=q.1:=by
 obtain⟨ad,aC⟩:=h.rW;have aD:=h.2.1.words.1;refine aA func181 ?_;refine⟨λout R aa=>∃i:Nat,R=Δ (i:Int)/\i<=k/\ai (bH g gs A) w aa/\∃gr l,ay .i64 av aa gr out l/\w.heap.size<=gr/\l.length<=100001/\
  ((∃st,ed aa g gs A B st I/\cP (lV m) (k-i) l st=eU m k s/\l.length+st.toks.length<=100000)\/(fa aa g gs A B/\eU m k s=ν)),λ_ R _=>k-(bT R).toNat,
  ⟨0,F,X8 _,ai.refl _ _,w.heap.size,[],ay.nil _ _ _ _,o4 _,Ξ,.inl ⟨s,h,F,by simpa using aD⟩⟩,?_⟩
 rintro out _ aa ⟨i,rfl,aE,ae,gr,l,af,bd,be,ag⟩;have:=ae.size;have S:∀r,leads out r->w.heap.size<=r:=λr z=>by have:=bR af z;omega
 refine aV (λv ab=>Ext aa ab/\((v= .bool true/\i<k/\∃st,ed ab g gs A B st I/\cP (lV m) (k-i) l st=eU m k s/\l.length+st.toks.length<=100000)\/
  (v= .bool false/\((∃st,ed ab g gs A B st I/\eU m k s=σ (l,st))\/(fa ab g gs A B/\eU m k s=ν))))) ?_ ?_
 rotate_left
 .intro aB M;rw[aP,am];refine⟨λbf=>?_,λbg=>?_⟩
  .rcases ag with⟨st,C,x,U⟩|⟨G,V⟩
   .refine (qv C).mono ?_;rintro _ ab _ ⟨rfl,E⟩;exact M _ _ ⟨E,.inl ⟨F,Ω,st,C.ext E,x,U⟩⟩
   .refine (po G).mono ?_;rintro _ ab _ ⟨rfl,E⟩;exact M _ _ ⟨E,.inr ⟨F,.inr ⟨G.ext E,V⟩⟩⟩
  .have aF:k-i=0:=Ω
   rcases ag with⟨st,C,x,U⟩|aH
   .rw[aF]at x;exact M _ _ ⟨Ext.refl _,.inr ⟨F,.inl ⟨st,C,x.symm⟩⟩⟩
   .exact M _ _ ⟨Ext.refl _,.inr ⟨F,.inr aH⟩⟩
 rintro _ ab ⟨E,aI⟩;have W:ai (bH g gs A) w ab:=ae.trans (E.ac _);have N:=af.ext E;rcases aI with⟨rfl,aE,st,C,x,U⟩|⟨rfl,aJ⟩
 rotate_left
 .rw[a8];rcases aJ with⟨st,C,K⟩|⟨G,K⟩
  .rw[K];exact⟨⟨W,C⟩,gr,l,N,S,Ω,λq f=>by cases f;rfl⟩
  .rw[K];exact⟨⟨W,G⟩,gr,l,N,S,Ω,λq f=>by cases f⟩
 rw[bX,dI,wrap_i64 Ω Ω];have aK:k-i=(k-(i+1))+1:=Ω
 rw[aK]at x;refine(xv C).mono ?_;rintro _ ah _ ⟨⟨O,P⟩,n,at_,rfl,aL,bh⟩;rw[bq,br];have aj:∀r,leads out r->¬bH g gs A r:=λr z aN=>by have:=ad r aN;have:=S r z;omega
 have bj:∀r,g=r->bH g gs A r:=λr h=>.inl h.symm;refine da (λe=>ai (bH g gs A) ab e/\((∃y,ed e g gs A B y I/\cP (lV m) (k-(i+1)) (l++[n]) y=eU m k s/\l.length+1+y.toks.length<=100000)\/(fa e g gs A B/\eU m k s=ν))/\l.length+1<=100001) ?_ ?_
 .rintro e ⟨al,aO,ao⟩;have aQ:=bw N al aj;have ap:=W.trans al;have:=ap.size;refine eE az.u av.i F λa ga aq bl H aR=>?_;refine kA az.u av.i F (aQ.ext H) aR.ls Θ Θ λaS aT aU bm aW X=>?_;have:=H.size;rw[aM,wrap_i64 Ω Ω];have aX:ai (bH g gs A) w aU:=iM (ap.trans (H.ac _)) X λr z he=>by have he:r=gr:=he;omega
  have au:∀r,bH g gs A r->¬(λr=>r=gr) r:=λr z he=>by have:=ad r z;have he:r=gr:=he;omega
  have aw:∀r,cQ g gs A B r->¬(λr=>r=gr) r:=λr z he=>by have:=aC r z.2;have he:r=gr:=he;omega
  refine⟨⟨i+1,F,Ω,aX,aT,l++[n],aW,Ω,Θ,?_⟩,by simp only[bT];omega⟩;rcases aO with⟨y,Q,aY,bo⟩|⟨aZ,V⟩
  .exact .inl ⟨y,(Q.ext H).ac X au aw,aY,Θ⟩
  .exact .inr ⟨(aZ.ext H).ac X au aw,V⟩
 .intro bp Y;cases f:bi 0 (m-1) st with
  |none=>
   rw[f]at P;have G:=P;have L:lV m l st=ν:=by unfold lV;rw[f]
   have K:eU m k s=ν:=by rw[<-x];exact qw L
   refine aV (λv e=>Ext ah e/\v= .bool false) ?_ ?_
   rotate_left
   .intro a1 Z;refine(po G).mono ?_;rintro _ e _ ⟨rfl,p⟩;rw[a8];exact Z _ _ ⟨p,F⟩
   rintro _ e ⟨p,rfl⟩;rw[a8];exact Y _ ⟨O.trans (p.ac _),.inr ⟨G.ext p,K⟩,Ω⟩
  |some q=>
   obtain⟨aS,y⟩:=q;have a2:=aL _ f;subst a2;rw[f]at P;have ax:=P;have a6:=dj f;have ao:l.length+1+y.toks.length<=100000:=by have:=a6.1;omega
   refine aV (λv e=>Ext ah e/\v= .bool (decide (n∈l))) ?_ ?_
   rotate_left
   .intro a1 Z;refine(qv ax).mono ?_;rintro _ e _ ⟨rfl,p⟩;rw[bX];refine(Mu ((bw N O aj).ext p).ls).mono ?_;rintro _ aq _ ⟨rfl,H⟩;exact Z _ _ ⟨p.trans H,F⟩
   rintro _ e ⟨p,rfl⟩;have Q:=ax.ext p;rw[am];refine⟨λa7=>?_,λba=>?_⟩
   .have L:lV m l st=ν:=by unfold lV;rw[f];simp only;rw[if_pos a7]
    refine(uz Q Ω).mono ?_;rintro _ aq _ ⟨bb,bc⟩;exact Y _ ⟨(O.trans (p.ac _)).trans (bb.mono λr _ h=>.inl h),.inr ⟨bc,by rw[<-x];exact qw L⟩,Ω⟩
   .have L:lV m l st=σ (n,y):=by unfold lV;rw[f];simp only;rw[if_neg ba]
    exact Y _ ⟨O.trans (p.ac _),.inl ⟨y,Q,by rw[<-x];exact(uC L).symm,ao⟩,Ω⟩
def Mw{s t:Λ}(V:dL s):rL (bn s) t=match cn s t 0 with
  |some n=>n
  |none=>-1:=by
 unfold rL;cases af:(bn s).findIdx? (λx=>decide (x=t))with
 |none=>
  cases hi:cn s t 0 with
  |none=>rfl
  |some n=>
   have:=lS V hi;rw[List.findIdx?_eq_none_iff]at af;have:=af t (x5 this);simp at this
 |some i=>
  rw[List.findIdx?_eq_some_iff_getElem]at af;obtain⟨hi,h1,_⟩:=af;have h1:(bn s)[i]=t:=by simpa using h1
  have:=kI V (i:=i) (t:=t) (by rw[x6 hi,h1]);rw[this]
def nr{a b:Int}(e:0<=a/\a<=4294967296)(f:0<=b/\b<=4294967296):an x7 H3 [Δ a,Δ b,Δ k] w λv J=>v=Δ (min (a+b) k)/\Ext w J:=by
 refine aA func32 ?_;simp only[aM,bL,am];rw[wrap_i64 Ω Ω];exact⟨λh=>⟨by rw[Int.min_eq_right Ω],Ext.refl _⟩,λh=>⟨by rw[Int.min_eq_left Ω],Ext.refl _⟩⟩
def pp(a b k:Int):x1:=if ct a k/\ct b k then .tuple #[Δ (min (a+b) k),Δ 0]else .tuple #[Δ 0,Δ 3]
def xw{a b:Int}:an x7 AZ [Δ a,Δ b,Δ k] w λv J=>v=pp a b k/\Ext w J:=by
 refine aA func72 ?_;refine aV (λv aa=>Ext w aa/\v= .bool (decide (¬(ct a k/\ct b k)))) ?_ ?_
 .rintro _ aa ⟨U,rfl⟩;simp only[am,aM,nh];refine⟨λh=>⟨by unfold pp;rw[if_neg h],U⟩,λh=>?_⟩;have h:=Y3.1 h;obtain⟨⟨h1,r⟩,s,x⟩:=id h;have:=h1.2;rw[wrap_i64 Ω Ω];exact⟨by unfold pp;rw[if_pos h],U⟩
 .intro aB e;refine k7.mono ?_;rintro _ ab _ ⟨rfl,f⟩;simp only[bM,cd];refine⟨λh=>e _ _ ⟨f,?_⟩,λh=>?_⟩
  .have:¬ct a k:=by simpa using h
   rw[decide_eq_true];exact λh=>this h.1
  .have p:ct a k:=by simpa using h
   refine k7.mono ?_;rintro _ y _ ⟨rfl,q⟩;simp only[bM];exact e _ _ ⟨f.trans q,by simp[p]⟩
def Mx(h:aK .i64 w sv l)(f:l≠[]):
  an x7 KE [sv] w λv J=>v=Δ (xn l)/\Ext w J:=by
 obtain⟨x,l,rfl⟩:∃x r,l=x::r:=by cases l with
  |nil=>exact absurd F f
  |cons x r=>exact⟨x,r,F⟩
 have p:=h.le;refine aA func289 ?_;refine da (λaa=>w=aa) ?_ ?_
 .rintro _ rfl;rw[gf (y:=0) (i:=0) F az.u av.i Ψ h (by rfl)];refine⟨λm i ab=>Ext w ab/\∃k:Nat,i=Δ (k+1:Nat)/\k<=l.length/\m=Δ ((l.take k).foldl min x),λ_ i _=>l.length+1-(bT i).toNat,⟨Ext.refl _,0,F,X8 _,F⟩,?_⟩;rintro _ _ ab ⟨a,k,rfl,hk,rfl⟩;rw[aX az.u (h.ext a)];simp only[b9,aP,am]at p ⊢;refine⟨λs=>?_,λz=>⟨?_,a⟩⟩
  .obtain⟨y,e⟩:=aI (l:=l) (i:=k) Ω;rw[be az.u av.i Ψ (h.ext a) (show(x::l)[k+1]?=σ y from e),nh];simp only[aM];rw[wrap_i64 Ω Ω];refine⟨⟨a,k+1,by congr 1,Ω,?_⟩,?_⟩
   .rw[u9,e,R3];rfl
   .simp only[bT];omega
  .have:k=l.length:=Ω
   subst this;rw[o9];rfl
 .intro aB q;rw[aX az.u h];simp only[aP,am];exact⟨λh=>by simp at h;omega,λ_=>q _ F⟩
def C0{g:Nat}{cs:Λ}(h:di w g a sv al k cs):an x7 wT [Γ g] w λv J=>v=Δ k/\Ext w J:=by
 obtain⟨⟨bb,gs,e,hm,f⟩,_⟩:=h;refine aA func255 ?_;rw[dh e7.u];simp only[Y0,a8];rw[aT cX.p 1 e F];exact⟨F,Ext.refl _⟩
def od{g e:Nat}{cs:Λ}(h:di w g e sv al k cs):
  an x7 IZ [Γ g] w λv J=>Ext w J/\∃a,w.heap.size<=a/\ay .i64 av J a v cs:=by
 obtain⟨⟨bb,gs,f,hm,q⟩,⟨_,_,r⟩,V,s⟩:=h;refine aA func122 ?_;rw[dh e7.u];simp only[Y0,a8];rw[aT cX.p 2 f F];exact w6 q.ls Ω
def qx{g e:Nat}{cs:Λ}(h:di w g e sv al k cs):
  an x7 JX [Γ g] w λv J=>v= .agg #[sv]/\Ext w J:=by
 obtain⟨⟨bb,gs,f,hm,z⟩,_⟩:=h;have q:=hm.ls.cells;refine aA func210 ?_;refine bu bD.i λA aa B a s=>?_;rw[dh e7.u];simp only[Y0,a8];rw[bZ,aW cX.p F,bN (cs:=[sv]) bD.p bD.i F (pe (f.ext a) (by
  intro j v ae
  match j,ae with
  |0,ae=>exact ae))]
 refine b7 (vs:=[sv]) bD.i F rfl (by intro u hu;simp at hu;subst hu;exact q.2) s λC x E y=>?_;rw[fM bD.p bD.i F y.range];exact⟨F,a.then x (by rintro r G rfl;omega)⟩
def C1(h:aK .i64 w sv al)(r:al.length<=1000):an x7 Bl [.agg #[sv]] w λv J=>Ext w J/\∃a,w.heap.size<=a/\ay .i64 aj J a v al:=by
 refine aA func254 ?_;refine bh λg aa s e f=>?_;rw[aL bD.p 0 f F];refine(lP (h.ext e) Ω).mono ?_;rintro v ab _ ⟨q,a,x,hm⟩;have:=e.size;exact⟨e.trans q,a,Ω,hm⟩
def C2(h:aK .i64 w sv al):an x7 KB [.agg #[sv]] w λv J=>v=Δ al.length/\Ext w J:=by
 refine aA func278 ?_;refine bh λg aa f a e=>?_;rw[aL bD.p 0 e F,aX ao.u (h.ext a)];exact⟨F,a⟩
def jm(al:Λ)(i:Int):Int:=if 0<=i then al.getD i.toNat 0 else 0
def rX{i:Int}(h:aK .i64 w sv al):an x7 KC [.agg #[sv],Δ i] w λv J=>v=Δ (jm al i)/\Ext w J:=by
 refine aA func279 ?_;refine bh λg aa s a e=>?_;refine aV (λv ab=>v= .bool (decide (i<0\/(al.length:Int)<=i))/\aa=ab) ?_ ?_
 .rintro _ _ ⟨rfl,rfl⟩;simp only[am];refine⟨λh=>⟨?_,a⟩,λr=>?_⟩
  .unfold jm;split
   .rw[u4,Z7 Ω];rfl
   .rfl
  .rw[aL bD.p 0 e F];obtain⟨n,rfl⟩:∃n:Nat,i=n:=⟨i.toNat,Ω⟩;have f:n<al.length:=Ω
   rw[be ao.u aj.i Ψ (h.ext a) (x6 f)];refine⟨?_,a⟩;unfold jm;rw[if_pos Ω,u4,u7,x6 f];rfl
 .intro aB q;simp only[aP,am];refine⟨λh=>q _ _ ⟨by rw[decide_eq_true];omega,F⟩,λr=>?_⟩;rw[aL bD.p 0 e F,aX ao.u (h.ext a)];simp only[cO];exact q _ _ ⟨by congr 1;simp;omega,F⟩
def xx{g B0:Nat}(V:cb al):
  p1 x7 m9 [Γ g] (aR al).toNat (λk vs w=>∃aN gt,vs=[Δ (k:Int),aN]/\B0<=gt/\ay .i64 aj w gt aN (dk al k))
   (λw=>ah w g bD [sv]/\aK .i64 w sv al/\B0<=w.heap.size):=by
 refine⟨m9.enters,λl aB O w r _ z ⟨s,x,A⟩ B=>?_⟩;have:=prod_bound V;refine ry func99 ?_;rw[bN bD.p bD.i F s.range];refine(qj x V).free.mono ?_;rintro _ aa ⟨C,rfl,U⟩;refine cq.range (aR al).toNat (λi ab=>aB i ab/\ah ab g bD [sv]/\aK .i64 ab sv al/\B0<=ab.heap.size) Ω ⟨r 0 _ _ U C.b B,s.ext U,x.ext U,X3 A U.size⟩ ?_ ?_
 .rintro i ab k hi ⟨e,f,q,y⟩ hk;simp only[aP,am];refine⟨λ_=>?_,λh=>Ω⟩;rw[bN bD.p bD.i F f.range];refine(Lb q V Ω Ω).free.mono ?_;rintro _ E ⟨G,a,aN,gt,rfl,H,I⟩;rw[bq,br];refine⟨F,(z i _ E hi ⟨f.ext a,q.ext a,X3 y a.size⟩ ⟨aN,gt,F,X3 y H,I⟩ (r _ _ _ a G.b e)).mono ?_⟩;rintro _ Q (⟨rfl,⟨J,K,L⟩,M⟩|⟨rfl,N⟩)
  .simp only[bM,X2,a8,aM];exact hk _ ⟨M.1,J,K,L⟩
  .simp only[bM,V8,bX];exact .inr ⟨i,hi,N⟩
 .rintro ab k ⟨e,f,q,_⟩;simp only[aP,am];exact⟨λh=>Ω,λ_=>.inl e⟩
def xy:an x7 If [.agg #[sv]] w λr J=>Ext w J/\∃g,r= .func (.func m9) #[] #[Γ g]/\w.heap.size<=g/\ah J g bD [sv]:=by
 refine aA func50 ?_;refine bh λg aa f a e=>?_;rw[jB];exact⟨a,g,F,Ω,e⟩
end Go.Proofs.YtikkpokkcdocoabGreatDoor
namespace Go.Vc
open Go Go.RowKit
set_option maxRecDepth 100000
section
variable{P:W9}{w:x3}
def aF.cv{α:Type}{s:Sem α}{K:α->x3->Prop}(h:aF P s w λv J=>cL w J->K v J):aF P s w K:=by
 obtain⟨v,J,h1,a,e⟩:=h;exact⟨v,J,h1,a,e a⟩
structure Keys(P:W9)(k:p8)(G:x1->Prop):Prop where
 check:∀(w:x3)(em:Bool){v:x1},G v->(Instr.checkKey em 10000 k v).run P w= .ok () w
 find:∀(w:x3){x:x1},G x->∀es:List MapEntry,(∀e∈es,G e.key)->
  ((Instr.findKey k x es).run P w= .ok ν w/\∀e∈es,e.key≠x)\/∃j e,(Instr.findKey k x es).run P w= .ok (σ (j,e.val)) w/\es[j]?=σ e/\e.key=x
 stays:∀(w:x3){v:x1},G v->(Instr.keyThatStays v v).run P w= .ok v w
def Keys.law{k:p8}(K:WideMaps.KeyLaw P k):Keys P k λv=>∃l,keyOf P k v=σ l:=
 ⟨λw a _ ⟨_,h⟩=>K.check w a h,λw _ ⟨_,h⟩ e f=>K.find w h e f,λw _ ⟨_,h⟩=>K.stays w h⟩
def Keys.int{k:p8}{a:n9}(hk:P.underlying k=σ (.int a)):Keys P k λv=>∃n,v= .int a n:=by
 have key:∀n,MapKept.IsKey (.int a) (.int a n):=λn=>rfl;refine⟨λw p v ⟨n,h⟩=>?_,λw x ⟨n,h⟩ q r=>?_,λw v ⟨n,h⟩=>?_⟩
 .subst h;exact MapKept.run_checkKey hk (key n) p 9999
 .subst h;rcases MapKept.findNow_spec (key n) q 0 (λe he=>by obtain⟨m,h⟩:=r e he;rw[h];exact key m)with⟨h1,f⟩|⟨j,e,h1,f,s⟩
  .exact .inl ⟨MapKept.run_findKey hk h1,f⟩
  .exact .inr ⟨j,e,by have:=MapKept.run_findKey (P:=P) (w:=w) hk h1;simpa using this,f,s⟩
 .subst h;exact MapKept.run_keyThatStays (key n)
def gR(e:MapEntry):x1×x1:=(e.key,e.val)
def c5(w:x3)(m:Nat)(d:List (x1×x1)):Prop:=∃a e,w.heap[m]?=σ (.map a e)/\MapKept.Stamped a e/\a.toList.map gR=d
def c5.ext{m:Nat}{d:List (x1×x1)}(h:c5 w m d)(U:Ext w J):c5 J m d:=by
 obtain⟨a,c,h1,e⟩:=h;exact⟨a,c,U.a6 m _ h1 F,e⟩
def c5.ac{m:Nat}{d:List (x1×x1)}(h:c5 w m d)(U:ai S w J)(a:¬S m):c5 J m d:=by
 obtain⟨e,c,h1,f⟩:=h;exact⟨e,c,U.a6 m _ h1 F a,f⟩
def c5.lt{m:Nat}{d:List (x1×x1)}(h:c5 w m d):m<w.heap.size:=by
 obtain⟨a,c,h1,e⟩:=h;exact(j9.1 h1).1
def c5.nodup{m:Nat}{d:List (x1×x1)}(h:c5 w m d):(d.map (·.1)).Nodup:=by
 obtain⟨e,c,_,⟨_,_,a⟩,rfl⟩:=h;rw[S6];exact a
def lW{α:Type}{l:List α}(h:l.Nodup){i:Nat}{x:α}(hi:l[i]?=σ x)(q:l[j]?=σ x):i=j:=by
 have a:=x4.1 hi;have e:=x4.1 q;have p:=V3.1 h;rcases Nat.lt_trichotomy i j with f|rfl|f
 .exact absurd (a.2.trans e.2.symm) (p i j a.1 e.1 f)
 .rfl
 .exact absurd (e.2.trans a.2.symm) (p j i e.1 a.1 f)
theorem oe{α β:Type}(f:α->β):∀(l:List α)(i:Nat),(l.map f).eraseIdx i=(l.eraseIdx i).map f
 |[],_=>Ξ
 |_::_,0=>rfl
 |x::l,i+1=>by simp[oe f l i]
def c5.uniq{m:Nat}{d:List (x1×x1)}(h:c5 w m d){i:Nat}{p q:x1×x1}(hi:d[i]?=σ p)(a:d[j]?=σ q)(he:p.1=q.1):i=j:=by
 have e:=h.nodup;have h1:(d.map (·.1))[i]?=σ p.1:=by rw[x8,hi];rfl
 have f:(d.map (·.1))[j]?=σ p.1:=by rw[x8,a,he];rfl
 exact lW e h1 f
def uD{m:Nat}{s:Array MapEntry}{c:Nat}(h:w.heap[m]?=σ (.map s c))(a:Array MapEntry)(e:Nat):
  ai (λr=>r=m) w {w with heap:=w.heap.setIfInBounds m (.map a e)}/\cL w {w with heap:=w.heap.setIfInBounds m (.map a e)}/\({w with heap:=w.heap.setIfInBounds m (.map a e)}:x3).heap[m]?=σ (.map a e):=by
 have V:=MapKept.heap_set (o':=.map a e) h;refine⟨⟨Ξ,λr o f p x=>?_⟩,⟨F,.lD,F,Ξ,λr o f p=>?_⟩,V.1⟩
 .show (w.heap.setIfInBounds m _)[r]?=σ o;rw[V.2 r x];exact f
 .show (w.heap.setIfInBounds m _)[r]?=σ o;by_cases q:r=m
  .subst q;rw[h]at f;cases f;cases p
  .rw[V.2 r q];exact f
def uE{K:x1->x3->Prop}(h:∀m J,m=w.heap.size->Ext w J->c5 J m []->K (.map (σ m)) J):aF P (Instr.makeMap t ν) w K:=by
 refine .of (run_makeMap t w) (p4 w _) (h _ _ F (p3 w _) ⟨#[],0,?_,MapKept.stamped_empty 0,F⟩);exact heap_alloc_new w _
variable{k e:p8}{G:x1->Prop}
def rY{c:Bool}{m:Nat}{d:List (x1×x1)}{x:x1}(s:P.underlying t=σ (.map k e))(hk:Keys P k G)(hm:c5 w m d)(y:∀p∈d,G p.1)(U:G x)(a:d[j]?=σ (x,v)):
  ad P (Instr.lookup t (.map (σ m)) x c) w K=K (if c then .tuple #[v,.bool true]else v):=ad.of λJ z=>by
 obtain⟨f,A,q,B,rfl⟩:=hm.ext z;have C:∀e∈f.toList,G e.key:=λe he=>y (gR e) (c7.2 ⟨e,he,rfl⟩);rcases hk.find J U f.toList C with⟨_,h⟩|⟨i,r,h1,h,E⟩
 .rw[x8]at a;obtain⟨F,H,I⟩:=X7.1 a;exact absurd (congrArg Prod.fst I) (h F (x5 H))
 .have ae:r.val=v:=by
   have hi:(f.toList.map gR)[i]?=σ (gR r):=by rw[x8,h];rfl
   have L:c5 J m (f.toList.map gR):=⟨f,A,q,B,rfl⟩;have:=L.uniq hi a E;subst this;rw[hi]at a;exact congrArg Prod.snd (Z3 a)
  simp only[Instr.lookup,W7,run_underlying s,V6,MapKept.run_getObj_map q,U2,hk.check J _ U,h1,ae]
def uF{c:Bool}{m:Nat}{d:List (x1×x1)}{x:x1}(r:P.underlying t=σ (.map k e))(hk:Keys P k G)(a:∃s b,aS P e s b z)(hm:c5 w m d)(y:∀p∈d,G p.1)(U:G x)(A:∀p∈d,p.1≠x):
  ad P (Instr.lookup t (.map (σ m)) x c) w K=K (if c then .tuple #[z,.bool false]else z):=ad.of λJ B=>by
 obtain⟨f,I,C,L,rfl⟩:=hm.ext B;have E:∀e∈f.toList,G e.key:=λe he=>y (gR e) (c7.2 ⟨e,he,rfl⟩);have F:(zeroValue e).run P J= .ok z J:=by
  obtain⟨s,b,i,hi,_,_,a⟩:=a;simp[zeroValue,typeInfo,hi,a]
 rcases hk.find J U f.toList E with⟨h1,h⟩|⟨i,q,h1,h,H⟩
 .simp only[Instr.lookup,W7,run_underlying r,V6,MapKept.run_getObj_map C,U2,hk.check J _ U,h1,F]
 .exact absurd H (A (gR q) (c7.2 ⟨q,x5 h,rfl⟩))
def My{a:Array MapEntry}{e:MapEntry}{f:MapEntry->MapEntry}(h:a[j]?=σ e):(a.modify j f).toList.map gR=(a.toList.map gR).set j (gR (f e)):=by
 refine Y9 λi=>?_;simp only[x8,R6,Array.getElem?_modify,X4,r9,Array.length_toList];by_cases p:j=i
 .subst p;have:=(j9.1 h);simp[this.1,this.2]
 .simp[p]
def rZ{m:Nat}{d:List (x1×x1)}{x:x1}{K:Unit->x3->Prop}(A:P.underlying t=σ (.map k e))(hk:Keys P k G)(hm:c5 w m d)(H:∀p∈d,G p.1)(U:G x)(h1:∀j v0 J,d[j]?=σ (x,v0)->c5 J m (d.set j (x,v))->ai (λr=>r=m) w J->K () J)(I:∀J,(∀p∈d,p.1≠x)->c5 J m (d++[(x,v)])->ai (λr=>r=m) w J->K () J):aF P (Instr.mapUpdate t (.map (σ m)) x v) w K:=by
 obtain⟨f,h,a,B,rfl⟩:=hm;have L:∀e∈f.toList,G e.key:=λe he=>H (gR e) (c7.2 ⟨e,he,rfl⟩);rcases hk.find w U f.toList L with⟨af,C⟩|⟨i,E,af,hi,he⟩
 .obtain⟨q,s,y⟩:=uD a (f.push {key:=x,val:=v,born:=h}) (h+1);refine .of ?_ s (I _ (λp M=>?_) ⟨_,_,y,MapKept.stamped_push B C,by simp[gR]⟩ q)
  .simp only[Instr.mapUpdate,W7,run_underlying A,V6,MapKept.run_getObj_map a,hk.check w _ U,af,MapKept.run_setObj_map _ a]
  .obtain⟨N,O,rfl⟩:=c7.1 M;exact C N O
 .have z:f[i]?=σ E:=by simpa using hi
  obtain⟨q,s,y⟩:=uD a (f.modify i λe=>{e with key:=x,val:=v}) h;refine .of ?_ s (h1 i E.val _ (by rw[x8,hi];simp[gR,he]) ⟨_,_,y,MapKept.stamped_modify B _ _ (λ_ _=>rfl) (λQ _ F=>by rw[z]at F;cases F;exact he.symm),My z⟩ q);simp only[Instr.mapUpdate,W7,run_underlying A,V6,MapKept.run_getObj_map a,hk.check w _ U,af,z,Y1,V2,he,hk.stays w U,MapKept.run_setObj_map _ a]
def Mz{B C:p8}{m:Nat}{d:List (x1×x1)}{x:x1}{K:x1->x3->Prop}(y:P.underlying t=σ (.map k e))(hk:Keys P k G)(hm:c5 w m d)(E:∀p∈d,G p.1)(U:G x)(h1:∀j v0 J,d[j]?=σ (x,v0)->c5 J m (d.eraseIdx j)->ai (λr=>r=m) w J->K (.tuple #[]) J)(F:∀J,(∀p∈d,p.1≠x)->c5 J m d->ai (λr=>r=m) w J->K (.tuple #[]) J):aF P (Z6.delete_ #[t,B] C #[.map (σ m),x]) w K:=by
 obtain⟨f,z,a,A,rfl⟩:=hm;have H:∀e∈f.toList,G e.key:=λe he=>E (gR e) (c7.2 ⟨e,he,rfl⟩);rcases hk.find w U f.toList H with⟨af,I⟩|⟨i,L,af,hi,he⟩
 .obtain⟨h,q,s⟩:=uD a f z;refine .of ?_ q (F _ (λp M=>?_) ⟨_,_,s,A,rfl⟩ h)
  .simp only[Z6.delete_,List.getElem?_toArray,List.getElem?_cons_zero,List.getElem?_cons_succ,W7,run_underlying y,V6,MapKept.run_getObj_map a,hk.check w _ U,af,MapKept.run_setObj_map _ a,U2]
  .obtain⟨N,O,rfl⟩:=c7.1 M;exact I N O
 .obtain⟨h,q,s⟩:=uD a (f.eraseIdxIfInBounds i) z;refine .of ?_ q (h1 i L.val _ (by rw[x8,hi];simp[gR,he]) ⟨_,_,s,MapKept.stamped_erase A _,by rw[oe];simp⟩ h);simp only[Z6.delete_,List.getElem?_toArray,List.getElem?_cons_zero,List.getElem?_cons_succ,W7,run_underlying y,V6,MapKept.run_getObj_map a,hk.check w _ U,af,MapKept.run_setObj_map _ a,U2]
def MA{a:p8}{m:Nat}{d:List (x1×x1)}(f:P.underlying t=σ (.map k e))(hm:c5 w m d):ad P (U1 #[t] a #[.map (σ m)]) w K=K (Δ d.length):=ad.of λJ h=>by
 obtain⟨q,r,p,s,rfl⟩:=hm.ext h;simp[U1,run_underlying f,MapKept.run_getObj_map p,goInt]
def iP(w:x3)(q m:Nat)(d left:List (x1×x1))(r:Option (x1×x1)):Prop:=∃a f seen ik,w.heap[m]?=σ (.map a f)/\MapKept.Stamped a f/\a.toList.map gR=d/\
 w.heap[q]?=σ (.mapIter (σ m) f seen ik)/\f<=ik/\(leftOf a seen).toList.map gR=left/\∀p,r=σ p->ik=f/\∃h,a.toList.find? (λe=>e.born == seen.back?.getD 0)=σ h/\seen.back? =σ h.born/\gR h=p
def iP.map{m:Nat}{d left:List (x1×x1)}{e:Option (x1×x1)}(h:iP w a m d left e):c5 w m d:=by
 obtain⟨f,c,_,_,h1,p,q,_⟩:=h;exact⟨f,c,h1,p,q⟩
def iP.a6{m:Nat}{d left:List (x1×x1)}{e:Option (x1×x1)}(h:iP w a m d left e)(U:ai S w J)(hm:¬S m)(hi:e5 w J):iP J a m d left e:=by
 obtain⟨f,c,s,ik,h1,p,q,r,x⟩:=h;exact⟨f,c,s,ik,U.a6 m _ h1 F hm,p,q,hi a _ r F,x⟩
def iP.ext{m:Nat}{d left:List (x1×x1)}{e:Option (x1×x1)}(h:iP w a m d left e)(U:Ext w J)(hi:e5 w J):iP J a m d left e:=
 h.a6 (U.ac λ_=>False) (λh=>h) hi
def MB(a:Array MapEntry):leftOf a #[]=a:=by
 unfold leftOf;exact Array.filter_eq_self.2 λx U=>Ξ
def C3{m:Nat}{d:List (x1×x1)}{K:x1->x3->Prop}(s:P.underlying t=σ (.map k e))(hm:c5 w m d)(h:∀a J,a=w.heap.size->Ext w J->e5 w J->iP J a m d d ν->K (Γ a) J):aF P (Instr.range t (.map (σ m))) w K:=by
 obtain⟨q,f,r,x,rfl⟩:=hm;refine .of (run_range_map w t k e m q f s r) (p4 w _) (h _ _ F (p3 w _) (p4 w _).lE ⟨q,f,#[],f,(p3 w _).a6 m _ r F,x,F,heap_alloc_new w _,o4 _,by rw[MB],λp y=>by cases y⟩)
theorem C4:∀(l:List MapEntry)(j:Nat)(a:MapEntry),(l.map (·.born)).Nodup->l[j]?=σ a->l.filter (λx=>!(x.born == a.born))=l.eraseIdx j
 |[],j,a,_,h=>by simp at h
 |x::l,0,a,f,h=>by
  simp at h;subst h;have e:=List.nodup_cons.1 (by simpa using f:(x.born::l.map (·.born)).Nodup);simp only[List.filter_cons,beq_self_eq_true,X2,Bool.false_eq_true,if_false,List.eraseIdx_cons_zero];refine List.filter_eq_self.2 λy p=>?_;have:y.born≠x.born:=λhe=>e.1 (he▸c7.2 ⟨y,p,F⟩);simpa using this
 |x::l,j+1,a,f,h=>by
  simp at h;have e:=List.nodup_cons.1 (by simpa using f:(x.born::l.map (·.born)).Nodup);have U:x.born≠a.born:=λhe=>e.1 (he▸c7.2 ⟨a,x5 h,F⟩);have q:=C4 l j a e.2 h;simp only[List.filter_cons,List.eraseIdx_cons_succ,q];simp[U]
def C5{free:fH}{m:Nat}{d left:List (x1×x1)}{Q:Option (x1×x1)}{K:x1->x3->Prop}(h:iP w a m d left Q)(af:free.1=false->free.2<=a)(R:left=[]->K (.tuple #[.bool false]) w)(h1:∀j p J,left[j]?=σ p->Ext w J->cG a w J->iP J a m d (left.eraseIdx j) (σ p)->K (.tuple #[.bool true,p.1,p.2]) J):tc P free (Instr.next (Γ a) false 0) w K:=by
 obtain⟨s,q,seen,ik,z,B,rfl,hi,S,rfl,_⟩:=h;have G:∀x∈s.toList,x.born<q:=B.1;have H:=B.2.1;have I:∀x∈(leftOf s seen).toList,x.born<q:=λx U=>G x (mem_left U).1;have T:∀(aa:x3)(o':Obj),aa.heap=w.heap->(setObj a o').run P aa= .ok () {aa with heap:=aa.heap.setIfInBounds a o'}:=λaa o' he=>by
  simp only[setObj,Sem.run];rw[he,hi]
 unfold tc;simp only[Instr.next,getObj,W7,Sem.run,hi,z,V6,next_test_false seen s q ik G S,Bool.false_eq_true,if_false];have W:Array.filter (λe=>!seen.contains e.born) s=leftOf s seen:=rfl;rw[W];have X:((leftOf s seen).toList.map (·.born)).Nodup:=by
  unfold leftOf;rw[Array.toList_filter];exact(List.Sublist.map _ List.filter_sublist).nodup H
 have Y:∀A:MapEntry,leftOf s (seen.push A.born)=(leftOf s seen).filter λx=>!(x.born == A.born):=λA=>by
  unfold leftOf;rw[Array.filter_filter];congr 1;funext x;rw[contains_push];cases seen.contains x.born<;>cases x.born == A.born<;>rfl
 generalize Z:leftOf s seen=L at*;have ab:L.filter (λx=>decide (x.born<q))=L:=Array.filter_eq_self.2 (λx U=>by simpa using I x (by simpa using U));have ac:L.filter (λx=>decide (x.born≥q))= #[]:=by
  rw[Array.filter_eq_empty_iff];intro x U;have:=I x (by simpa using U);simp;omega
 simp only[ab,ac,Array.append_empty];by_cases M:L.size=0
 .have ad:=Array.eq_empty_of_size_eq_zero M;subst ad;refine⟨.tuple #[.bool false],w,?_,λ_=>cG.refl _ _,R rfl⟩;simp[choose,Sem.run,Question.forced]
 .have ae:L.isEmpty=false:=by simp[Array.isEmpty,M]
  simp only[ae,Bool.false_eq_true,if_false,Array.empty_append,Array.size_map];have ag:∃(j:Nat)(n:Nat),j<L.size/\w.drawn<=n/\(choose (Question.mapNext L.size)).run P w= .ok j {w with drawn:=n}:=by
   by_cases af:L.size<=1
   .exact⟨0,w.drawn,Ω,o4 _,by simp[choose,Sem.run,Question.forced,af]⟩
   .exact⟨_,w.drawn+1,Nat.mod_lt _ Ω,Nat.le_succ _,by
     simp only[choose,Sem.run,Question.forced,decide_eq_true_eq,af,if_false,Question.cut];rfl⟩
  obtain⟨j,n,C,N,ah⟩:=ag;have O:L.toList[j]?=σ L[j]:=by simp[C]
  have ai:=(mem_left (by rw[Z];exact Array.mem_toList_iff.2 (Array.getElem_mem C))).1;refine⟨.tuple #[.bool true,L[j].key,L[j].val],{w with drawn:=n,heap:=w.heap.setIfInBounds a (.mapIter (σ m) q (seen.push L[j].born) q)},?_,?_,?_⟩
  .have V:=T {w with drawn:=n} (.mapIter (σ m) q (seen.push L[j].born) q) rfl;simp only[ah,Array.getElem?_map,Array.getElem?_eq_getElem C,Y1,W7,V,V6,U2]
  .intro aj;have:=af aj;refine⟨rfl,⟨rfl,N⟩,rfl,Ξ,λr o f E=>?_,λr o ak f F=>?_⟩
   .show (w.heap.setIfInBounds a _)[r]?=σ o;by_cases y:r=a
    .subst y;rw[hi]at f;cases f;cases E
    .rw[(MapKept.heap_set hi).2 r y];exact f
   .show (w.heap.setIfInBounds a _)[r]?=σ o;rw[(MapKept.heap_set hi).2 r Ω];exact f
  .refine h1 j (gR L[j]) _ (by rw[x8,O];rfl) ⟨Ξ,λr o f F=>?_⟩ ⟨rfl,⟨rfl,N⟩,rfl,Ξ,λr o f E=>?_,λr o ak f F=>?_⟩ ⟨s,q,seen.push L[j].born,q,?_,B,rfl,?_,o4 _,?_,λp al=>⟨rfl,L[j],?_,Ξ,Z3 al⟩⟩
   .show (w.heap.setIfInBounds a _)[r]?=σ o;by_cases y:r=a
    .subst y;rw[hi]at f;cases f;cases F
    .rw[(MapKept.heap_set hi).2 r y];exact f
   .show (w.heap.setIfInBounds a _)[r]?=σ o;by_cases y:r=a
    .subst y;rw[hi]at f;cases f;cases E
    .rw[(MapKept.heap_set hi).2 r y];exact f
   .show (w.heap.setIfInBounds a _)[r]?=σ o;rw[(MapKept.heap_set hi).2 r Ω];exact f
   .show (w.heap.setIfInBounds a _)[m]?=_;rw[(MapKept.heap_set hi).2 m (λhe=>by subst he;rw[hi]at z;cases z)];exact z
   .exact (MapKept.heap_set hi).1
   .rw[Y,Array.toList_filter,C4 _ _ _ X O,oe]
   .simp only[Array.back?_push,V2];exact find_born _ _ H ai
def C6{m:Nat}{d left:List (x1×x1)}{p:x1×x1}{K:x1->x3->Prop}(h:iP w a m d left (σ p))(f:K (.tuple #[p.1,p.2]) w):aF P (Instr.entry (Γ a)) w K:=by
 obtain⟨s,x,seen,ik,q,y,rfl,hi,z,rfl,r⟩:=h;obtain⟨rfl,A,h1,e,rfl⟩:=r p F;refine .of ?_ (cL.refl _) f;rw[e]at h1;simp only[Instr.entry,getObj,W7,Sem.run,hi,q,V6,e,bne_self_eq_false,Bool.false_eq_true,if_false,<-Array.find?_toList];simp only[V2]at h1;rw[h1];rfl
end
end Go.Vc
namespace Go.Proofs.YtikkpokkcdocoabGreatDoor
open Go Go.Vc Go.RowKit Go.Proofs Go.Proofs.Tryz
set_option maxRecDepth 100000
def ee(a:Λ):x1:=.agg (ints .i8 a).toArray
def ns(a:Λ):Prop:=a.length=6/\∀x∈a,0<=x/\x<32
def MC{a b:Λ}(h:ee a=ee b):a=b:=by
 unfold ee at h;have h:ints .i8 a=ints .i8 b:=congrArg Array.toList (x1.agg.inj h);have e:∀l:Λ,(ints .i8 l).map valOf=l:=λl=>by
  unfold ints;rw[S6];exact List.map_id l
 rw[<-e a,<-e b,h]
def C7(a:Λ):(ee a).cells.toList=ints .i8 a:=by simp[ee,x1.cells]
def MD:WideMaps.ArrKey x7 cF gd 6:=⟨cF.u,Ψ,Ψ,Ψ⟩
def keys:Keys x7 cF λv=>∃l,keyOf x7 cF v=σ l:=Keys.law MD.law
def xz{q:Λ}(h:ns q):∃l,keyOf x7 cF (ee q)=σ l:=by
 obtain⟨w,p⟩:=h
 match q,w with
 |[a,b,c,d,e,f],_=>
  have y:=p a Ξ;have z:=p b Ξ;have A:=p c Ξ;have rd:=p d Ξ;have B:=p e Ξ;have lD:=p f Ξ;have wf:∀x:Int,0<=x/\x<32->(Lit.int .i8 x).wf=true:=λx U=>by
   simp only[Lit.wf,V9,decide_eq_true_eq];have H:n9.i8.min= -128:=Φ
   have I:n9.i8.max=127:=Φ
   omega
  have r:decide (0<x7.types.size)=true:=Ψ
  have r:=of_decide_eq_true r;obtain⟨n,C⟩:∃n,x7.types.size=n+1:=⟨x7.types.size-1,Ω⟩;have one:∀x:Int,0<=x/\x<32->x7.keyLits (n+1) gd [.int .i8 x]=σ [.int .i8 x]:=λx U=>by
   unfold W9.keyLits;rw[gd.u];simp[wf x U]
  unfold keyOf;rw[cF.u];simp only;have E:x7.keyType cF=true:=Ψ
  have F:x7.cellsOf gd=1:=Ψ
  have s:x7.cellsOf cF=6:=Ψ
  have af:(ee [a,b,c,d,e,f]).formed x7 cF=true:=by
   unfold ee x1.formed;rw[cF.u,s];rfl
  rw[E,af,C7,C];simp only[Bool.and_self,if_true];unfold W9.keyLits;rw[cF.u];simp only[s,F,ints];have G:Z4 6=[0,1,2,3,4,5]:=Φ
  simp[G,one a y,one b z,one c A,one d rd,one e B,one f lD]
def pad(t:Λ):Λ:=t++o8 (6-t.length) 0
def ME{t:Λ}(e:t.length<=6)(a:∀x∈t,0<=x/\x<32):ns (pad t):=
 ⟨by simp[pad];omega,λx U=>by
  rcases p9.1 U with h|h
  .exact a x h
  .have:=(List.mem_replicate.1 h).2;omega⟩
def MF{a b:Λ}(e:a.length=b.length)(h:pad a=pad b):a=b:=by
 unfold pad at h;exact(List.append_inj h e).1
def C8{t:Λ}:(pad t).take t.length=t:=by simp[pad]
def pq{b o:Nat}{a:Λ}(e:a.length=6)(h:w.rangeAt b o (ints .i8 a)):ad x7 (u5 cF (.pointer (σ ⟨b,o,ν⟩))) w K=K (ee a):=
 Bw cF.u F cF.i (by simp[e]) h
def MG{b o:Nat}{a:Λ}(e:a.length=6)(h:w.rangeAt b o (ints .i8 a)):ad x7 (do loadVar cF (<-asAddr (.pointer (σ ⟨b,o,ν⟩)))) w K=K (ee a):=ad.of λJ U=>by
 have:=run_loadVar_mid J b o cF (ints .i8 a) (.array 6 gd) (o1 U h) cF.u F (by rw[cF.i.size];simp[e]);simp only[asAddr,W7,U2,Q0.andThen_ok,this];rfl
def r0{g:Nat}{a:Λ}{K:Unit->x3->Prop}(e:a.length=6)(f:cs.length=6)(p:ah w g cF cs)(h:∀J,ai (λr=>r=g) w J->J.heap.size=w.heap.size->ah J g cF (ints .i8 a)->K () J):aF x7 (l9 cF (Γ g) (ee a)) w K:=
 b7 (vs:=ints .i8 a) cF.i (by simp[e]) f (λv ae=>by obtain⟨x,_,rfl⟩:=c7.1 ae;rfl) p h
def uG:List x1:=[.int .i8 0,.int .i8 0,.int .i8 0,.int .i8 0,.int .i8 0,.int .i8 0]
def MH{x:Int}:an x7 tK [Δ x] w λv J=>v= .bool (decide (¬jD x))/\Ext w J:=by
 refine aA func234 ?_;simp only[cw,aP,bL,am];refine⟨λh=>⟨?_,Ext.refl _⟩,λh=>⟨?_,Ext.refl _⟩⟩
 .rw[decide_eq_true];intro a;have:=a.1;omega
 .congr 1;have:(32<x)=(¬jD x):=propext ⟨λe a=>by have:=a.2;omega,λe=>by
   by_cases f:32<x
   .exact f
   .exact absurd ⟨Ω,Ω⟩ e⟩
  simp only[this]
def MI(h:aK .i64 w sv l):
  an x7 wM [sv,.func (.func tK) #[] #[]] w λv J=>Ext w J/\∃n:Int,v=Δ n/\((0<=n)=¬∀x∈l,jD x):=by
 have z:=h.le;refine aA func133 ?_;rw[aX ao.u h];refine⟨λ_ t aa=>Ext w aa/\∃i:Nat,t=Δ i/\i<=l.length/\∀x∈l.take i,jD x,λ_ t _=>l.length-(bT t).toNat,⟨Ext.refl _,0,F,X8 _,Ξ⟩,?_⟩;rintro _ _ aa ⟨U,i,rfl,hi,e⟩;simp only[aP,am];refine⟨λA=>?_,λB=>⟨U,-1,F,?_⟩⟩
 .obtain⟨x,f⟩:=aI (l:=l) (i:=i) Ω;rw[be ao.u aj.i Ψ (h.ext U) f];show an x7 tK [Δ x] aa _;refine MH.mono ?_;rintro _ ab _ ⟨rfl,p⟩;simp only[am,aM];refine⟨λq=>⟨U.trans p,i,F,?_⟩,λr=>?_⟩
  .exact propext ⟨λ_ s=>q (s x (x5 f)),λ_=>Ω⟩
  .rw[wrap_i64 Ω Ω];refine⟨⟨U.trans p,i+1,F,Ω,λy a=>?_⟩,?_⟩
   .rw[u9,f]at a;rcases p9.1 a with a|a
    .exact e y a
    .simp at a;subst a;exact Y3.1 r
   .simp only[bT];omega
 .have:i=l.length:=Ω
  rw[this,o9]at e;exact propext ⟨λh=>Ω,λh=>absurd e h⟩
def C9(h:aK .i64 w sv l):
  an x7 wQ [sv,.func (.func tK) #[] #[]] w λv J=>v= .bool (decide (¬∀x∈l,jD x))/\Ext w J:=by
 refine aA func235 ?_;refine(MI h).mono ?_;rintro _ aa _ ⟨U,n,rfl,a⟩;simp only[cO];exact⟨by congr 1;simp only[a],U⟩
abbrev Told:=List (Λ×Int)
def lb(p:Λ×Int):x1×x1:=(ee (pad p.1),Δ p.2)
def eM(w:x3)(g m:Nat)(al:Λ)(k o:Int)(D:Told):Prop:=
 (∃sv gs,ah w g fL [sv,Δ k,Δ o,.map (σ m)]/\ay .i64 aj w gs sv al)/\c5 w m (D.map lb)/\cb al/\ct o k/\∀p∈D,dv al p.1/\ct p.2 k/\p.2≠o
def eM.ext{g m:Nat}{o:Int}{D:Told}(h:eM w g m al k o D)(U:Ext w J):eM J g m al k o D:=by
 obtain⟨⟨sv,gs,h1,a⟩,e,f⟩:=h;exact⟨⟨sv,gs,h1.ext U,a.ext U⟩,e.ext U,f⟩
def xA{t:Λ}(V:cb al)(h:dv al t):t.length=al.length/\∀x∈t,0<=x/\x<32:=by
 obtain⟨h1,f⟩:=pk.1 h;refine⟨h1.symm,λx U=>?_⟩;obtain⟨i,hi,rfl⟩:=List.getElem_of_mem U;obtain⟨a,e⟩:=aI (l:=al) (i:=i) Ω;have:=f i a _ e (x6 hi);have:=(V.2 a (x5 e)).2;omega
def r1{t:Λ}(V:cb al)(h:dv al t):ns (pad t):=by
 obtain⟨h1,a⟩:=xA V h;exact ME (by rw[h1];exact V.1) a
def eM.qy{g m:Nat}{o:Int}{D:Told}(h:eM w g m al k o D):∀p∈D.map lb,∃l,keyOf x7 cF p.1=σ l:=λp a=>by
 obtain⟨q,e,rfl⟩:=c7.1 a;exact xz (r1 h.2.2.1 (h.2.2.2.2 q e).1)
def Da{s t:Λ}(V:dv al s)(a:dv al t)(h:ee (pad s)=ee (pad t)):s=t:=
 MF ((uq V).symm.trans (uq a)) (MC h)
def eM.nodup{g m:Nat}{o:Int}{D:Told}(h:eM w g m al k o D):(D.map (·.1)).Nodup:=by
 have e:=h.2.1.nodup;rw[S6]at e;refine List.Pairwise.of_map (S:=λa b=>a≠b) (λt=>ee (pad t)) (λa b h he=>h (by rw[he])) ?_;rw[S6];exact e
def MJ(w:x3)(l:Λ)(k o:Int)(v:x1)(J:x3):Prop:=
 Ext w J/\(¬cb l->v= .tuple #[.pointer ν,Δ 1])/\(cb l->¬ct o k->v= .tuple #[.pointer ν,Δ 3])/\
  (cb l->ct o k->∃g m,v= .tuple #[Γ g,Δ 0]/\w.heap.size<=g/\w.heap.size<=m/\eM J g m l k o [])
def Db{o:Int}(h:aK .i64 w sv l):an x7 p7 [sv,Δ k,Δ o] w (MJ w l k o):=by
 refine aA func187 ?_;refine aV (λv aa=>Ext w aa/\∃c,v= .bool c/\(c=true↔¬cb l)) ?_ ?_
 .rintro _ aa ⟨e,c,rfl,f⟩;rw[cd];refine⟨λx=>⟨e,λ_=>rfl,λh=>absurd h (f.1 x),λh=>absurd h (f.1 x)⟩,λaf=>?_⟩;have V:=Classical.byContradiction λh=>by have:=f.2 h;rw[af]at this;cases this
  have G:=V.1;refine k7.mono ?_;rintro _ ab _ ⟨rfl,a⟩;by_cases hi:ct o k
  rotate_left
  .simp only[hi,decide_false,bM,V8,bX];exact⟨e.trans a,λh=>absurd V h,λ_ _=>rfl,λ_ h=>absurd h hi⟩
  simp only[hi,decide_true,bM,X2,a8];refine(lP ((h.ext e).ext a) Ω).mono ?_;rintro aN H _ ⟨y,A,I,hm⟩;have J:=hm.ls.cells;refine uE λm K L q B=>?_;rw[cJ (cs:=#[aN,Δ k,Δ o,.map (σ m)]) (by obtain⟨_,_,_,_,_,rfl,_⟩:=hm.ls;kernel_rfl)];refine bh λg M N r C=>?_;have s1:=e.size;have O:=a.size;have P:=y.size;have Q:=q.size;exact⟨((((e.trans a).trans y).trans q).trans r),λh=>absurd V h,λ_ h=>absurd hi h,λ_ _=>⟨g,m,F,Ω,Ω,⟨aN,A,C,(hm.ext q).ext r⟩,B.ext r,V,hi,λp E=>by cases E⟩⟩
 .intro aB z;rw[aX ao.u h];simp only[bL,am];refine⟨λR=>z _ _ ⟨Ext.refl _,true,F,λ_ V=>by have:=V.1;omega,λ_=>rfl⟩,λS=>?_⟩;refine(C9 h).mono ?_;rintro _ ab _ ⟨rfl,a⟩;refine z _ _ ⟨a,_,F,?_⟩;rw[decide_eq_true_eq];exact⟨λs V=>s V.2,λs V=>s ⟨Ω,V⟩⟩
def kK(t:Λ)(i:Nat):Λ:=t.take i++o8 (6-i) 0
def MK{t:Λ}{i:Nat}(hi:i<=t.length)(a:t.length<=6):(kK t i).length=6:=by simp[kK];omega
def ML{t:Λ}{i:Nat}{x:Int}(U:t[i]?=σ x)(e:t.length<=6):(kK t i).set i x=kK t (i+1):=by
 have hi:=(x4.1 U).1;unfold kK;have a:(t.take i).length=i:=by rw[j6];omega
 rw[S2 _ _ Ω,a,U9,u9,U];have:6-i=(6-(i+1))+1:=Ω
 rw[this,List.replicate_succ];simp
def MM(t:Λ):kK t t.length=pad t:=by simp[kK,pad]
def Dc(w:x3)(al t:Λ)(v:x1)(J:x3):Prop:=Ext w J/\∃a e,v= .tuple #[ee a,Δ e]/\a.length=6/\(dv al t->a=pad t/\e=0)/\(¬dv al t->e=3)
def MN{g m:Nat}{t:Λ}{o:Int}{D:Told}{aN:x1}(h:eM w g m al k o D)(G:aK .i64 w aN t):an x7 Kc [Γ g,aN] w (Dc w al t):=by
 obtain⟨⟨sv,gs,H,hm⟩,_,V,_⟩:=h;have:=V.1;refine aA func236 ?_;refine bu cF.i λA aa aJ R B=>?_;refine bu cF.i λap ab aL I J=>?_;have s:=R.trans I;have:=R.size;have:=I.size;have:=B.lt;have:=J.lt;have:=H.lt;have B:=B.ext I;have ag:=H.ext s;rw[dh eT.u];simp only[Y0,a8];have K:∀{f:x3}{C:Λ}{e:Int},Ext w f->ah f ap cF (ints .i8 C)->ah f A cF uG->C.length=6->(dv al t->C=pad t/\e=0)->(¬dv al t->e=3)->
   ad x7 (u5 cF (Γ ap)) f λai=>aF x7 (l9 cF (Γ A) ai) f λ(_:Unit)L=>ad x7 (do loadVar cF (<-asAddr (Γ A))) L λak=>Dc w al t (.tuple #[ak,Δ e]) L:=by
  intro f C e q r y E ae M;rw[pq E r.range];refine r0 E F y λL aq aU au=>?_;rw[MG E au.range];exact⟨q.put aq Ω,C,e,F,E,ae,M⟩
 rw[aX ao.u (G.ext s),aT fL.p 0 ag F,aX ao.u (hm.ls.ext s)];simp only[bA,am];have S:ints .i8 (kK t 0)=uG:=by simp[kK,uG,ints]
 refine⟨λav=>K s (by rw[S];exact J) B (by simp[kK]) (λae=>absurd (by rw[uq ae]) av) (λ_=>rfl),λW=>?_⟩;have W:t.length=al.length:=Ω
 rw[aX ao.u (G.ext s)];refine bV.range t.length (λi _ f=>Ext w f/\ah f ap cF (ints .i8 (kK t i))/\ah f A cF uG/\∀(j:Nat)(a x:Int),j<i->al[j]?=σ a->t[j]?=σ x->0<=x/\x<a) Ω
  ⟨s,by rw[S];exact J,B,λj a x aw=>Ω⟩ ?_ ?_
 .rintro i _ f ax hi ⟨q,r,y,N⟩ ay;simp only[aP,am];refine⟨λ_=>?_,λh=>Ω⟩;obtain⟨x,U⟩:=aI (l:=t) hi;obtain⟨a,z⟩:=aI (l:=al) (i:=i) Ω;have:=V.2 a (x5 z);rw[be ao.u aj.i Ψ (G.ext q) U];have X:=MK (t:=t) (i:=i) Ω Ω;refine aV (λv az=>f=az/\v= .bool (decide (¬(0<=x/\x<a)))) ?_ ?_
  .rintro _ _ ⟨rfl,rfl⟩;simp only[am];refine⟨λaD=>K q r y X (λae=>absurd ((pk.1 ae).2 i a x z U) aD) (λ_=>rfl),λO=>?_⟩;have O:=Y3.1 O;rw[fm aj.u gd.u,KV Ω Ω,tS cF.u gd.i Ω];refine bp gd.i F rfl r (by simp[X];omega) λaY Y aZ Z=>?_;simp only[aM];refine ay _ _ ⟨q.put Y Ω,?_,y.ac Y (by show¬(A=ap);omega),λj a' aE aw P Q=>?_⟩
   .have e:(ints .i8 (kK t i)).set (0+i*1) (.int .i8 x)=ints .i8 (kK t (i+1)):=by
     rw[<-ML U Ω];simp[ints,T0]
    rw[e]at Z;exact Z
   .by_cases aG:j=i
    .subst aG;rw[z]at P;rw[U]at Q;cases P;cases Q;exact O
    .exact N j a' aE Ω P Q
  .intro aB af;simp only[aP,am];refine⟨λa1=>af _ _ ⟨F,by rw[decide_eq_true];omega⟩,λa2=>?_⟩;rw[aT fL.p 0 (H.ext q) F,be ao.u aj.i Ψ (hm.ls.ext q) z,cO];refine af _ _ ⟨F,?_⟩;congr 1;exact decide_eq_decide.2 ⟨λh aC=>Ω,λh=>Ω⟩
 .rintro _ f ax ⟨q,r,y,N⟩;simp only[aP,am];refine⟨λh=>Ω,λ_=>?_⟩;rw[MM]at r;exact K q r y (by simp[pad];omega) (λ_=>⟨F,F⟩) (λM=>absurd (pk.2 ⟨W.symm,λj a x z U=>N j a x (x4.1 U).1 z U⟩) M)
def jH(D:Told)(o:Int)(t:Λ):Int:=match D.find? (λp=>decide (p.1=t))with
 |some p=>p.2
 |none=>o
def Dd{D:Told}(e:(D.map (·.1)).Nodup){p q:Λ×Int}(f:p∈D)(r:q∈D)(h:p.1=q.1):p=q:=by
 obtain⟨i,hi⟩:=W3.1 f;obtain⟨j,a⟩:=W3.1 r;have h1:(D.map (·.1))[i]?=σ p.1:=by rw[x8,hi];rfl
 have s:(D.map (·.1))[j]?=σ p.1:=by rw[x8,a,h];rfl
 have:=lW e h1 s;subst this;rw[hi]at a;exact Z3 a
def r2{D:Told}{o:Int}{t:Λ}(a:(D.map (·.1)).Nodup)(h:(t,c)∈D):jH D o t=c:=by
 unfold jH;cases af:D.find? (λp=>decide (p.1=t))with
 |none=>
  have:=List.find?_eq_none.1 af _ h;simp at this
 |some p=>
  have h1:=List.find?_some af;have h1:p.1=t:=by simpa using h1
  have:=Dd a (List.mem_of_find?_eq_some af) h h1;rw[this]
def r3{D:Told}{o:Int}{t:Λ}(h:∀p∈D,p.1≠t):jH D o t=o:=by
 unfold jH;cases af:D.find? (λp=>decide (p.1=t))with
 |none=>rfl
 |some p=>
  have h1:=List.find?_some af;have h1:p.1=t:=by simpa using h1
  exact absurd h1 (h p (List.mem_of_find?_eq_some af))
def my(D:Told)(t:Λ)(c o:Int)(D':Told):Prop:=(∀p,p∈D'↔(c≠o/\p=(t,c))\/(p∈D/\p.1≠t))/\D'.length<=D.length+1
def my.cost{D D':Told}{t:Λ}{o:Int}(h:my D t c o D')(w:(D.map (·.1)).Nodup)(f:(D'.map (·.1)).Nodup)(s:Λ):jH D' o s=if s=t then c else jH D o s:=by
 by_cases V:s=t
 .subst V;rw[if_pos F];by_cases q:c=o
  .subst q;exact r3 λp a he=>by
    rcases(h.1 p).1 a with e|e
    .exact e.1 F
    .exact e.2 he
  .exact r2 f ((h.1 _).2 (.inl ⟨q,F⟩))
 .rw[if_neg V];by_cases he:∃p∈D,p.1=s
  .obtain⟨p,a,rfl⟩:=he;rw[r2 w a];exact r2 f ((h.1 _).2 (.inr ⟨a,V⟩))
  .have r:∀p∈D,p.1≠s:=λp a h=>he ⟨p,a,h⟩;rw[r3 r];exact r3 λp a e=>by
    rcases(h.1 p).1 a with⟨_,rfl⟩|⟨x,_⟩
    .exact V e.symm
    .exact r p x e
def MO{D:Told}{t:Λ}{o v0:Int}(q:(D.map (·.1)).Nodup)(f:D[j]?=σ (t,v0))(r:c≠o):my D t c o (D.set j (t,c)):=by
 have h:=(x4.1 f).1;refine⟨λp=>⟨λa=>?_,λa=>?_⟩,Ξ⟩
 .obtain⟨i,hi⟩:=W3.1 a;by_cases e:j=i
  .subst e;rw[b8 h]at hi;exact .inl ⟨r,(Z3 hi).symm⟩
  .rw[Y6 e]at hi;refine .inr ⟨x5 hi,λhe=>e ?_⟩;exact lW q (by rw[x8,f];rfl) (by rw[x8,hi,Y1,he])
 .rcases a with⟨_,rfl⟩|⟨a,s⟩
  .exact x5 (b8 h)
  .obtain⟨i,hi⟩:=W3.1 a;have e:j≠i:=λhe=>by subst he;rw[f]at hi;cases hi;exact s F
   exact x5 (by rw[Y6 e];exact hi)
def De{D:Told}{t:Λ}{o:Int}(a:∀p∈D,p.1≠t)(e:c≠o):my D t c o (D++[(t,c)]):=by
 refine⟨λp=>?_,Ξ⟩;rw[p9,j5];exact⟨λh=>h.elim (λh=>.inr ⟨h,a p h⟩) (λh=>.inl ⟨e,h⟩),λh=>h.elim (λh=>.inr h.2) (λh=>.inl h.1)⟩
def MP{D:Told}{t:Λ}{o v0:Int}(f:(D.map (·.1)).Nodup)(e:D[j]?=σ (t,v0)):my D t o o (D.eraseIdx j):=by
 refine⟨λp=>⟨λa=>?_,λa=>?_⟩,by have:=List.length_eraseIdx_le D j;omega⟩
 .refine .inr ?_;obtain⟨i,q,hi⟩:=List.mem_eraseIdx_iff_getElem?.1 a;refine⟨x5 hi,λhe=>q ?_⟩;exact lW f (by rw[x8,hi,Y1,he]) (by rw[x8,e];rfl)
 .rcases a with⟨h,_⟩|⟨a,r⟩
  .exact absurd F h
  .obtain⟨i,hi⟩:=W3.1 a;exact List.mem_eraseIdx_iff_getElem?.2 ⟨i,λhe=>by subst he;rw[e]at hi;cases hi;exact r F,hi⟩
def MQ{D:Told}{t:Λ}{o:Int}(a:∀p∈D,p.1≠t):my D t o o D:=
 ⟨λp=>⟨λh=>.inr ⟨h,a p h⟩,λh=>h.elim (λh=>absurd F h.1) (λh=>h.1)⟩,Ω⟩
def Df{g m:Nat}{t:Λ}{o:Int}{D:Told}(h:eM w g m al k o D)(f:dv al t)(a:(D.map lb)[j]?=σ (ee (pad t),v)):∃c,D[j]?=σ (t,c)/\v=Δ c:=by
 rw[x8]at a;obtain⟨p,e,he⟩:=X7.1 a;have h1:=Da (h.2.2.2.2 p (x5 e)).1 f (congrArg Prod.fst he);exact⟨p.2,by rw[e,<-h1],(congrArg Prod.snd he).symm⟩
def Dg{g m:Nat}{t:Λ}{o:Int}{D:Told}(h:eM w g m al k o D)(a:∀p∈D.map lb,p.1≠ee (pad t)):∀p∈D,p.1≠t:=λp e he=>a (lb p) (c7.2 ⟨p,e,F⟩) (by rw[lb,he])
def MR(w:x3)(g m:Nat)(al t:Λ)(k o c:Int)(D:Told)(v:x1)(J:x3):Prop:=
 (¬(dv al t/\ct c k)->v=Δ 3/\Ext w J)/\(dv al t/\ct c k->v=Δ 0/\ai (λr=>r=m) w J/\∃D',my D t c o D'/\eM J g m al k o D')
def Dh{g m:Nat}{t:Λ}{o:Int}{D:Told}{aN:x1}(h:eM w g m al k o D)(ad:aK .i64 w aN t):an x7 JJ [Γ g,aN,Δ c] w (MR w g m al t k o c D):=by
 refine aA func188 ?_;refine(MN h ad).mono ?_;rintro _ aa _ ⟨R,aF,e,rfl,K,af,ag⟩;rw[bq,br];refine bu cF.i λap ab aG S U=>?_;refine r0 K F U λW ah aH X=>?_;have:=R.size;have:=S.size;have:=U.lt;have G:=(R.trans S).put ah Ω;refine aV (λv L=>v=Δ 0/\(dv al t/\ct c k)/\ai (λr=>r=m) w L/\∃D',my D t c o D'/\eM L g m al k o D') ?_ ?_
 .rintro _ L ⟨_,h1,C⟩;exact⟨λh=>absurd h1 h,λ_=>⟨F,C⟩⟩
 intro aB aj;simp only[bA,am];by_cases ae:dv al t
 rotate_left
 .have he:=ag ae;subst he;exact⟨λ_=>⟨λ_=>⟨F,G⟩,λh=>absurd h.1 ae⟩,λh=>by simp at h⟩
 obtain⟨rfl,rfl⟩:=af ae;refine⟨λh=>absurd F h,λ_=>?_⟩;have x:=h.ext G;obtain⟨⟨sv,gs,y,hm⟩,H,V,ak,ao⟩:=id x;rw[aT fL.p 1 y F];refine k7.mono ?_;rintro _ aq _ ⟨rfl,z⟩;have au:=G.trans z;by_cases hi:ct c k
 rotate_left
 .simp only[hi,decide_false,bM,V8,bX];exact⟨λ_=>⟨F,au⟩,λh=>absurd h.2 hi⟩
 simp only[hi,decide_true,bM,X2,a8];rw[aT fL.p 2 (y.ext z) F];simp only[bf,am,ey];have Y:=xz (r1 V ae);have av:∀{D':Told},my D t c o D'->∀p∈D',dv al p.1/\ct p.2 k/\p.2≠o:=λhu p aw=>by
  rcases(hu.1 p).1 aw with⟨B,rfl⟩|⟨h1,_⟩
  .exact⟨ae,hi,B⟩
  .exact ao p h1
 have I:∀{E A:x3}{D':Told},Ext aq E->ai (λr=>r=m) E A->c5 A m (D'.map lb)->my D t c o D'->aB (Δ 0) A:=by
  intro E A D' f q ax hu;have ay:g≠m:=λhe=>by
   obtain⟨az,aD,aC,_⟩:=H;have y:W.heap[g]?=_:=y;rw[he,aC]at y;cases y
  have aE:∀r,leads sv r->r≠m:=λr Z he=>by
   subst he;obtain⟨az,aD,aC,_⟩:=H;obtain⟨_,⟨rfl,_⟩|⟨cap,cs,rfl,J,_⟩⟩:=hm
   .obtain⟨a,n,c,h1,_⟩:=Z;cases h1
   .obtain⟨a,n,c,h1,C⟩:=Z;cases h1;have J:W.heap[gs]?=_:=J;have C:gs=r:=C;rw[C,aC]at J;cases J
  have M:=z.trans f;exact aj _ _ ⟨F,⟨ae,hi⟩,((G.trans M).ac _).trans q,D',hu,⟨sv,gs,(y.ext M).ac q ay,bw (hm.ext M) q aE⟩,ax,V,ak,av hu⟩
 refine⟨λB E f _ _=>?_,λB E f _ _=>?_⟩
 .rw[aT fL.p 3 ((y.ext z).ext f) F,pq K ((X.ext z).ext f).range];subst B;refine Mz j0.u keys ((H.ext z).ext f) x.qy Y (λj v0 A N s q=>?_) (λA O s q=>?_)
  .obtain⟨ik,P,_⟩:=Df x ae N;rw[oe]at s;exact I f q s (MP x.nodup P)
  .exact I f q s (MQ (Dg x O))
 .rw[aT fL.p 3 ((y.ext z).ext f) F,pq K ((X.ext z).ext f).range];refine rZ j0.u keys ((H.ext z).ext f) x.qy Y (λj v0 A N s q=>?_) (λA O s q=>?_)
  .obtain⟨ik,P,_⟩:=Df x ae N;have Q:(D.map lb).set j (ee (pad t),Δ c)=(D.set j (t,c)).map lb:=by rw[T0];rfl
   rw[Q]at s;exact I f q s (MO x.nodup P B)
  .have Q:D.map lb++[(ee (pad t),Δ c)]=(D++[(t,c)]).map lb:=by rw[Z9];rfl
   rw[Q]at s;exact I f q s (De (Dg x O) B)
def MS{g m:Nat}{t:Λ}{o:Int}{D:Told}{b:Bool}(h:eM w g m al k o D)(ae:dv al t)(h1:∀c,(t,c)∈D->K (if b then .tuple #[Δ c,.bool true]else Δ c))(r:(∀p∈D,p.1≠t)->K (if b then .tuple #[Δ 0,.bool false]else Δ 0)):
  ad x7 (Instr.lookup j0 (.map (σ m)) (ee (pad t)) b) w K:=by
 have e:=xz (r1 h.2.2.1 ae);by_cases he:∃p∈D,p.1=t
 .obtain⟨p,a,rfl⟩:=he;obtain⟨j,s⟩:=W3.1 a;rw[rY j0.u keys h.2.1 h.qy e (by rw[x8,s];rfl)];exact h1 p.2 a
 .have f:∀p∈D,p.1≠t:=λp a h=>he ⟨p,a,h⟩;rw[uF j0.u keys ⟨_,_,av.i⟩ h.2.1 h.qy e (λq x hk=>by
   obtain⟨p,a,rfl⟩:=c7.1 x;exact f p a (Da (h.2.2.2.2 p a).1 ae hk))]
  exact r f
def MT{g m:Nat}{o:Int}{D:Told}(h:eM w g m al k o D):an x7 Kf [Γ g] w λv J=>v=Δ D.length/\Ext w J:=by
 obtain⟨⟨sv,gs,a,hm⟩,e,_⟩:=h;refine aA func241 ?_;rw[dh eT.u];simp only[Y0,a8];rw[aT fL.p 3 a F,MA j0.u e];exact⟨Ξ,Ext.refl _⟩
def MU{g m:Nat}{o:Int}{D:Told}(h:eM w g m al k o D):an x7 KK [Γ g] w λv J=>v=Δ k/\Ext w J:=by
 obtain⟨⟨sv,gs,a,hm⟩,_⟩:=h;refine aA func297 ?_;rw[dh eT.u];simp only[Y0,a8];rw[aT fL.p 1 a F];exact⟨F,Ext.refl _⟩
def xB{g m:Nat}{o:Int}{D:Told}(h:eM w g m al k o D):an x7 Kg [Γ g] w λv J=>Ext w J/\∃a,w.heap.size<=a/\ay .i64 aj J a v al:=by
 obtain⟨⟨sv,gs,e,hm⟩,_,V,_⟩:=h;have:=V.1;refine aA func242 ?_;rw[dh eT.u];simp only[Y0,a8];rw[aT fL.p 0 e F];exact lP hm.ls Ω
def MV{g m:Nat}{o:Int}{D:Told}(h:eM w g m al k o D):an x7 KL [Γ g] w λv J=>v=Δ al.length/\Ext w J:=by
 refine aA func298 ?_;refine(xB h).mono ?_;rintro v aa _ ⟨U,a,_,hm⟩;rw[aX ao.u hm.ls];exact⟨F,U⟩
end Go.Proofs.YtikkpokkcdocoabGreatDoor
namespace Go.Vc
open Go Go.RowKit
set_option maxRecDepth 100000
def leadsTo(v:x1)(r:Nat):Prop:=∃a n c,v= .slice (σ a) n c/\a.block=r
def eW(h:leadsTo (.slice ν 0 0) r):False:=by
 obtain⟨a,n,c,h,_⟩:=h;cases h
section
variable{α:Type}{f:α->List x1}{k:Nat}
theorem jn:∀{L:List α},(∀a∈L,(f a).length=k)->(L.flatMap f).length=L.length*k
 |[],_=>Ξ
 |a::L,h=>by
  rw[V0,r8,h a (.head _),jn λb e=>h b (.tail _ e),b9,U8];omega
theorem qz:∀{L:List α}(i:Nat),(∀a∈L,(f a).length=k)->(L.flatMap f).take (i*k)=(L.take i).flatMap f
 |[],i,_=>Ξ
 |a::L,0,_=>Ξ
 |a::L,i+1,h=>by
  have e:=h a (.head _);rw[V0,List.take_succ_cons,V0,<-qz i λb p=>h b (.tail _ p),U8,Nat.one_mul,Nat.add_comm,List.take_append,e];congr 1
  .exact Z2 Ω
  .congr 1;omega
theorem uH:∀{L:List α}(i:Nat),(∀a∈L,(f a).length=k)->(L.flatMap f).drop (i*k)=(L.drop i).flatMap f
 |[],i,_=>Ξ
 |a::L,0,_=>Ξ
 |a::L,i+1,h=>by
  have e:=h a (.head _);rw[V0,List.drop_succ_cons,<-uH i λb p=>h b (.tail _ p),U8,Nat.one_mul,Nat.add_comm,List.drop_append,e];rw[List.drop_of_length_le Ω,List.nil_append];congr 1;omega
def qA{L:List α}{i:Nat}{a:α}(h:∀a∈L,(f a).length=k)(hi:L[i]?=σ a)(e:(f a)[j]?=σ v):(L.flatMap f)[i*k+j]?=σ v:=by
 have q:=(x4.1 e).1;rw[<-List.getElem?_drop,uH i h];have p:=x4.1 hi;rw[X5 p.1,p.2,V0,X0 q];exact e
def xC{L:List α}{i:Nat}{a:α}(h:∀a∈L,(f a).length=k)(e:(f a).length=k)(hi:i<L.length):over (L.flatMap f) (i*k) (f a)=(L.set i a).flatMap f:=by
 have:=jn h;have p:(i+1)*k<=L.length*k:=V1 _ hi;rw[U8,Nat.one_mul]at p;rw[nZ Ω,e,qz i h,show i*k+k=(i+1)*k by rw[U8,Nat.one_mul],uH (i+1) h,List.set_eq_take_append_cons_drop,if_pos hi,List.flatMap_append,V0,X6]
def uI{vs:List x1}{o m:Nat}(h1:o+vs.length<=m)(a:m<=cs.length):(over cs o vs).take m=over (cs.take m) o vs:=by
 rw[nZ Ω,nZ (by rw[j6];omega),X6,X6,List.take_append,List.take_append,List.take_take,List.take_take,List.drop_take,j6];rw[show min m o=o by omega,show min o m=o by omega,show min o cs.length=o by omega,Z2 (l:=vs) Ω];congr 3;omega
def bm(f:α->List x1)(k:Nat)(e:p8)(w:x3)(g:Nat)(v:x1)(L:List α):Prop:=b1 w g e k v L.length (L.flatMap f)/\∀a∈L,(f a).length=k
variable{P:W9}{w:x3}{e:p8}{g:Nat}{v:x1}{L:List α}
def bm.nil(f:α->List x1)(k:Nat)(e:p8)(w:x3)(g:Nat):bm f k e w g (.slice ν 0 0) []:=⟨b1.nil w g e k,λa h=>by cases h⟩
def bm.leads(h:bm f k e w g v L)(p:leadsTo v r):r=g/\g<w.heap.size:=by
 obtain⟨_,⟨rfl,_⟩|⟨cap,cs,rfl,q,_⟩⟩:=h.1
 .exact (eW p).elim
 .obtain⟨a,n,c,h1,s⟩:=p;cases h1;exact⟨s.symm,q.lt⟩
def bm.ac(h:bm f k e w g v L)(U:ai S w J)(a:∀r,leadsTo v r->¬S r):bm f k e J g v L:=
 ⟨⟨h.1.1,h.1.2.imp id λ⟨cap,cs,h1,p,q⟩=>⟨cap,cs,h1,p.ac U (a g ⟨_,_,_,h1,F⟩),q⟩⟩,h.2⟩
def bm.ext(h:bm f k e w g v L)(U:Ext w J):bm f k e J g v L:=h.ac (U.ac λ_=>False) λ_ _ h=>h
def bm.sl(h:bm f k e w g v L):cf w k v L.length (L.flatMap f):=h.1.sl
def bm.le(h:bm f k e w g v L):L.length<=9223372036854775807:=by
 have:=cf.le h.sl;simpa[maxLen]using this
def et{a:p8}(p:P.underlying t=σ (.slice e))(h:bm f k e w g v L):ad P (U1 #[t] a #[v]) w K=K (Δ L.length):=by
 obtain⟨_,_,_,_,_,rfl,_⟩:=h.sl;exact ii p
def dp{q:n9}{b:Nat}{i:Nat}(a:y=(i:Int))(p:P.underlying t=σ (.slice e))(hi:aS P e k b z)(h:bm f k e w g v L)(r:i<L.length):
  ad P (c9 t v (.int q y)) w K=K (.pointer (σ ⟨g,i*k,ν⟩)):=by
 subst a;obtain⟨_,⟨rfl,s⟩|⟨cap,cs,rfl,x,A⟩⟩:=h.1
 .omega
 .rw[fe p hi r (λ_=>rfl),W0]
def bm.range{i:Nat}{a:α}(h:bm f k e w g v L)(hi:L[i]?=σ a):w.rangeAt g (i*k) (f a):=λj u hu=>by
 have h1:=qA h.2 hi hu;have:=(x4.1 hi).1;obtain⟨_,⟨rfl,x⟩|⟨cap,cs,rfl,q,_,_,y,r⟩⟩:=h.1
 .omega
 .have p:=(x4.1 h1).1;rw[jn h.2]at p;rw[<-r,Y2 p]at h1;exact q.cell h1
def Di{b:Nat}{i:Nat}{a:α}{K:Unit->x3->Prop}(hi:aS P t k b z)(h:bm f k e w g v L)(p:(f a).length=k)(h1:∀u∈f a,u.oneCell'=true)(x:i<L.length)(B:∀J,ai (λr=>leadsTo v r) w J->J.heap.size=w.heap.size->bm f k e J g v (L.set i a)->K () J):aF P (l9 t (.pointer (σ ⟨g,i*k,ν⟩)) (.agg (f a).toArray)) w K:=by
 have:=jn h.2;have C:(i+1)*k<=L.length*k:=V1 _ x;rw[U8,Nat.one_mul]at C;obtain⟨⟨O,⟨rfl,Q⟩|⟨cap,cs,rfl,E,y,F,A,G⟩⟩,q⟩:=h
 .omega
 .have H:L.length*k<=cs.length:=by rw[A];exact V1 _ y
  refine w1 hi p h1 E Ω λJ I V M=>B J (I.mono λr _ he=>⟨_,_,_,rfl,he.symm⟩) V ⟨⟨?_,.inr ⟨cap,_,Ξ,M,by simpa using y,F,by rw[mp,A],?_⟩⟩,λb s=>?_⟩
  .rw[jn λb s=>by
    rcases V4 s with h|rfl
    .exact q b h
    .exact p]
  .rw[Z0,<-xC q p x,<-G,uI (by rw[p];omega) H]
  .rcases V4 s with h|rfl
   .exact q b h
   .exact p
def qB{b:Nat}{u:x1}{i:Nat}{a a':α}{K:Unit->x3->Prop}(hi:aS P t 1 b z)(hu:u.cells= #[u])(h1:u.oneCell'=true)(h:bm f k e w g v L)(s:L[i]?=σ a)(af:f a'=(f a).set j u)(W:j<k)(I:∀J,ai (λr=>leadsTo v r) w J->J.heap.size=w.heap.size->bm f k e J g v (L.set i a')->K () J):aF P (l9 t (.pointer (σ ⟨g,i*k+j,ν⟩)) u) w K:=by
 have A:=(x4.1 s).1;have X:=jn h.2;have M:(i+1)*k<=L.length*k:=V1 _ A;rw[U8,Nat.one_mul]at M;have N:(f a).length=k:=h.2 a (x5 s);have q:(f a').length=k:=by rw[af,Z0];exact N
 have O:(L.flatMap f).set (i*k+j) u=(L.set i a').flatMap f:=by
  rw[<-xC h.2 q A];refine Y9 λp=>?_;rw[nY _ _ _ Ω,X4,q];by_cases B:i*k<=p/\p<i*k+k
  .rw[if_pos B,af,X4];by_cases C:i*k+j=p
   .rw[if_pos C,if_pos Ω,if_pos Ω,if_pos Ω]
   .rw[if_neg C,if_neg Ω];obtain⟨y,E⟩:∃y,(f a)[p-i*k]?=σ y:=⟨_,x6 Ω⟩;have:=qA h.2 s E;rw[show i*k+(p-i*k)=p by omega]at this;rw[this,E]
  .rw[if_neg B,if_neg Ω]
 obtain⟨⟨Y,⟨rfl,Z⟩|⟨cap,cs,rfl,Q,F,R,G,S⟩⟩,H⟩:=h
 .omega
 .have aa:L.length*k<=cs.length:=by rw[G];exact V1 _ F
  refine bp hi hu h1 Q Ω λJ T V U=>I J (T.mono λr _ he=>⟨_,_,_,rfl,he.symm⟩) V ⟨⟨?_,.inr ⟨cap,_,Ξ,U,by simpa using F,R,by rw[Z0,G],?_⟩⟩,λb x=>?_⟩
  .rw[jn λb x=>by
    rcases V4 x with h|rfl
    .exact H b h
    .exact q]
  .rw[Z0,<-O,<-S,List.take_set]
  .rcases V4 x with h|rfl
   .exact H b h
   .exact q
def jo{M:p8}{b:Nat}{x:x1}{a:α}{K:x1->x3->Prop}(A:P.underlying t=σ (.slice e))(hi:aS P e k b z)(G:z.cells.size=k)(h:bm f k e w g v L)(U:cf w k x 1 (f a))(h1:∀u∈f a,u.oneCell'=true)(B:(L.length+1)*b<=140737488355328)(H:L.length+1<=9223372036854775807)(I:∀p q J,bm f k e J q p (L++[a])->(∀r,leadsTo p r->leadsTo v r\/w.heap.size<=r)->ai (λr=>leadsTo v r) w J->K p J):aF P (Z5 #[t,t] M #[v,x]) w K:=by
 have N:(f a).length=k:=by have:=U.1;omega
 have C:∀p q J,b1 J q e k p (L.length+1) (L.flatMap f++f a)->bm f k e J q p (L++[a]):=λp q J hm=>⟨by simpa using hm,λb B=>by
  rcases p9.1 B with a7|a7
  .exact h.2 b a7
  .rw[j5.1 a7];exact N⟩
 rcases h.1.2 with⟨ae,O⟩|⟨cap,cs,ae,Q,_⟩
 .have hm:b1 w w.heap.size e k v L.length (L.flatMap f):=⟨h.1.1,.inl ⟨ae,O⟩⟩;subst ae;refine o7 A A hi G hm U h1 (by simpa using B) (by simpa[maxLen]using H) λp q J E s F=>I p q J (C _ _ _ s) (λr y=>.inr ?_) (F.mono λr y h=>Ω);have:=((C _ _ _ s).leads y).1;omega
 .refine o7 A A hi G h.1 U h1 (by simpa using B) (by simpa[maxLen]using H) λp q J E s F=>I p q J (C _ _ _ s) (λr y=>?_) (F.mono λr y h=>⟨_,_,_,ae,h.symm⟩);have:=((C _ _ _ s).leads y).1;rcases E with E|E
  .exact .inl ⟨_,_,_,ae,by show g=r;omega⟩
  .exact .inr Ω
def MW{q:p8}{b:Nat}{x:x1}{a:α}{K:x1->x3->Prop}(s:P.underlying t=σ (.slice e))(hi:aS P e k b z)(y:z.cells.size=k)(h:bm f k e w g v L)(U:cf w k x 1 (f a))(h1:∀a,∀u∈f a,u.oneCell'=true)(A:(L.length+1)*b<=140737488355328)(B:L.length+1<=9223372036854775807)(C:∀p E J,bm f k e J E p (L++[a])->(∀r,leadsTo p r->leadsTo v r\/w.heap.size<=r)->ai (λr=>leadsTo v r) w J->K p J):aF P (Z5 #[t,t] q #[v,x]) w K:=jo s hi y h U (h1 a) A B C
def im{b:Nat}{a:α}{x:x1}{K:x1->x3->Prop}(q:P.underlying t=σ (.slice e))(hi:aS P e k b z)(B:k<=100000)(U:x.cells=(f a).toArray)(p:(f a).length=k)(r:∀v g J,g=w.heap.size->Ext w J->bm f k e J g v [a]->K v J):aF P (Y5 t 1 #[(0,x)]) w K:=
 lK q hi Ω (cs:=x.cells) (BI Ξ (by rw[U];simpa using p)) λg J s y h=>by
  have h:ah J g e (f a):=by rw[U]at h;simpa using h
  exact r _ g J s y ⟨by simpa using b1.full (n:=1) h Ω (by simp[maxLen]),λc A=>by rw[j5.1 A];exact p⟩
end
end Go.Vc
namespace Go.Proofs.YtikkpokkcdocoabGreatDoor
open Go Go.Vc Go.RowKit Go.Proofs Go.Proofs.Tryz
set_option maxRecDepth 100000
theorem xD{α:Type}:∀{l:List α}{j:Nat}{x:α},l[j]?=σ x->(x::l.eraseIdx j).Perm l
 |[],j,x,h=>by simp at h
 |a::l,0,x,h=>by simp at h;subst h;exact List.Perm.refl _
 |a::l,j+1,x,h=>by
  simp at h;rw[List.eraseIdx_cons_succ];exact(List.Perm.swap a x _).trans ((xD h).cons a)
def Dj{α:Type}{l:List α}(h:j<l.length):(l.eraseIdx j).length+1=l.length:=by
 rw[List.length_eraseIdx,if_pos h];omega
def qC(w:x3)(a:Nat):Nat:=match w.heap[a]? with
 |some (.mapIter (σ m) _ seen _)=>(match w.heap[m]? with
  |some (.map e _)=>(leftOf e seen).size
  |_=>0)
 |_=>0
def uJ{m:Nat}{d left:List (x1×x1)}{e:Option (x1×x1)}(h:iP w a m d left e):qC w a=left.length:=by
 obtain⟨p,q,seen,ik,h1,_,_,f,_,rfl,_⟩:=h;unfold qC;rw[f];simp only;rw[h1];simp
def MX{w0:x3}{m:Nat}{d d0 left:List (x1×x1)}{e:Option (x1×x1)}(h:iP w a m d left e)(hm:c5 w0 m d0)(h1:Ext w0 w)(p:Ext w0 J)(hi:e5 w J):iP J a m d left e:=by
 obtain⟨q,c,s,ik,r,x,y,z,A⟩:=h;obtain⟨B,C,f1,_⟩:=hm;have g1:=h1.a6 m _ f1 F;have f:=p.a6 m _ f1 F;rw[r]at g1;rw[<-g1]at f;exact⟨q,c,s,ik,f,x,y,hi a _ z F,A⟩
abbrev pr(w:x3)(g:Nat)(v:x1)(L:List (Λ)):Prop:=bm (ints .i8) 6 cF w g v L
def Dk{k:n9}:∀u∈ints k l,u.oneCell'=true:=λu hu=>by
 obtain⟨x,_,rfl⟩:=c7.1 hu;rfl
def keysIter{dl m:Nat}{d:List (x1×x1)}{e:List (Λ)}{w0:x3}(Q:ah w0 dl j0 [.map (σ m)])(hm:c5 w0 m d)(R:d.map (·.1)=e.map ee)(S:∀a∈e,a.length=6):
  p0 x7 true nc [Γ dl] ([]:List (Λ)) (λh=>h.Perm e) (λh vs a7 _=>∃a∈e,h.length<e.length/\vs=[ee a]/\a7=h++[a]) (λw=>Ext w0 w):=by
 refine⟨nc.enters,λl aB aG w r _ V U W=>?_⟩;refine ry func295 ?_;rw[ax Ψ ((Q.ext U).cell F)];refine aF.cv (C3 j0.u (hm.ext U) λB aa X s aH Y Z=>?_);refine⟨λab=>∃h f left C,aB h ab/\Ext w0 ab/\w.heap.size<=ab.heap.size/\iP ab B m d left C/\left.map (·.1)=f.map ee/\(h++f).Perm e,λab=>qC ab B,
  ⟨[],e,d,ν,r _ _ _ s Z.b W,U.trans s,s.size,Y,R,List.Perm.refl _⟩,?_⟩
 rintro ab ⟨h,f,left,C,E,ac,aI,G,x,q⟩;have ad:left.length=f.length:=by have:=congrArg R2 x;simpa using this
 refine C5 G (λh=>by cases h) (λae=>?_) (λj p aJ H I af J=>?_)
 .rw[j2 (v:=.bool false) F,a8];subst ae;have:f=[]:=b6 (by rw[<-ad];rfl);subst this;rw[Y8]at q;exact .inl ⟨h,q,E⟩
 .rw[j2 (v:=.bool true) F,bX];refine C6 J ?_;obtain⟨a,y,ag⟩:∃a,f[j]?=σ a/\p.1=ee a:=by
   have h1:(left.map (·.1))[j]?=σ p.1:=by rw[x8,H];rfl
   rw[x,x8]at h1;obtain⟨a,K,ai⟩:=X7.1 h1;exact⟨a,K,ai.symm⟩
  have L:=q.mem_iff.1 (p9.2 (.inr (x5 y)));have M:=S a L;rw[j2 (v:=p.1) F,ag];refine aF.cv (bu cF.i λaK aL aM aj ak al=>?_);refine aF.cv (r0 M F ak λam an aN ao ap=>?_);rw[pq M ao.range];have z:=aj.put an Ω;have N:=al.trans ap;have O:=(ac.trans I).trans z;have aq:=r _ _ _ I (by rw[<-X];exact af) E;have au:=r _ _ _ z N.b aq;have av:=J.ext z N.lE;have aw:h.length<e.length:=by
   have h1:=q.length_eq;have K:=(x4.1 y).1;rw[r8]at h1;omega
  refine⟨F,(V h (h++[a]) _ am O ⟨a,L,aw,F,F⟩ au).mono ?_⟩;rintro _ ay (⟨rfl,P,az,aA⟩|⟨rfl,aC⟩)
  .simp only[bM,X2,a8];have A:=MX av hm O P (aA F).lE;have aD:w.heap.size<=ay.heap.size:=by
    obtain⟨_,_,_,_,_,_,_,aE,_⟩:=A;have:=(j9.1 aE).1;omega
   refine⟨⟨h++[a],f.eraseIdx j,left.eraseIdx j,σ p,az,P,aD,A,?_,?_⟩,?_⟩
   .rw[<-oe,x,oe]
   .refine List.Perm.trans ?_ q;rw[X6];exact List.Perm.append_left h (xD y)
   .rw[uJ A,uJ G];have:=Dj (x4.1 H).1;omega
  .simp only[bM,V8,bX];exact .inr ⟨h,aC⟩
def MY{m:Nat}:an x7 Ks [.map (σ m)] w λr J=>Ext w J/\∃g,r= .func (.func nc) #[] #[Γ g]/\w.heap.size<=g/\ah J g j0 [.map (σ m)]:=by
 refine aA func262 ?_;refine bh λg aa f a e=>?_;rw[jB];exact⟨a,g,F,Ω,e⟩
def MZ{dl m:Nat}{d:List (x1×x1)}{s:List (Λ)}(X:ah w dl j0 [.map (σ m)])(hm:c5 w m d)(Y:d.map (·.1)=s.map ee)(G:∀p∈s,p.length=6)(aE:s.length<=1000000):
  an x7 KN [.slice ν 0 0,.func (.func nc) #[] #[Γ dl]] w λv J=>Ext w J/\∃g L,(∀r,leadsTo v r->w.heap.size<=r)/\L.Perm s/\pr J g v L:=by
 refine iG func306 ?_;refine bh λgs aa aG H x=>?_;have x:=x;have:=x.lt;refine k0.old ⟨List (Λ),true,_,_,_,_,_,_,λh J=>ai (λr=>w.heap.size<=r) w J/\∃v g,ah J gs k4 [v]/\(∀r,leadsTo v r->w.heap.size<=r/\r≠gs)/\pr J g v h,λ_ _ _=>False,F,keysIter X hm Y G,?_,λ_ _ U h=>h.trans U,
  λ_ _ _ U h=>⟨h.1.trans (U.ac _),by obtain⟨v,g,h1,Z,ad⟩:=h.2;exact⟨v,g,h1.ext U,Z,ad.ext U⟩⟩,λ_ _ _ _ _ h=>h,H,⟨H.ac _,_,0,x,λr h=>(eW h).elim,bm.nil _ _ _ _ _⟩,?_,?_,λ_ _ h=>h.elim,λ_ _ _ h=>h.elim⟩
 .rintro h _ a7 J ⟨p,_,_,rfl,_⟩;rfl
 .rintro a h a7 ab af ⟨p,ag,aI,aj,rfl⟩ ⟨I,v,g,A,cR,ae⟩;cases aj;have B:=G p ag;have aJ:h.length<=1000000:=Ω
  refine aF.cv (bu cF.i λaK aL aM ak K al=>?_);refine aF.cv (r0 B F K λaN am aO ao ap=>?_);intro aP M _ aq;have:=K.lt;have au:=ak.put am Ω;have q:=au.trans M;rw[ax Ψ ((A.ext q).cell F),pq B (ao.ext M).range];refine aF.cv (im (f:=ints .i8) (a:=p) k4.u cF.i Ω (by simp[ee,x1.cells]) (by simp[B]) λa ga aR aS y av aw=>?_);have N:=av.sl;rw[V0,List.flatMap_nil,Y8]at N;refine aF.cv (MW k4.u cF.i F ((ae.ext q).ext y) N (λa=>Dk) Ω Ω λO ay P C az z aA=>?_);have:=I.size;have:=q.size;have:=y.size;have:=A.lt;have Q:∀r,leadsTo O r->w.heap.size<=r/\r≠gs:=λr e=>by
   rcases az r e with h|h
   .exact cR r h
   .omega
  have E:ah P gs k4 [v]:=((A.ext q).ext y).ac z (λh=>(cR gs h).2 F);refine aF.cv (bp k4.i (by obtain⟨_,_,_,_,_,rfl,_⟩:=C.sl;rfl) (by obtain⟨_,_,_,_,_,rfl,_⟩:=C.sl;rfl) E Ξ λR S aX aB aC=>?_);have V:ai (λr=>w.heap.size<=r) ab R:=(((q.trans y).ac _).trans (z.mono λr _ h=>(cR r h).1)).trans (S.mono λr _ h=>by show w.heap.size<=r;omega);refine⟨af.then V (λr e h=>by have h:=h;omega),⟨I.trans V,O,ay,aB,Q,C.ac S λr e h=>(Q r e).2 h⟩,λ_=>?_⟩;exact((((al.lE.trans ap.lE).trans aq).trans aw.lE).trans aA.lE).trans aC.lE
 .rintro h P aD ⟨z,v,g,E,cR,ae⟩;rw[ax Ψ (E.cell F)];intro R W _;exact⟨(z.ext λr e h=>by have:w.heap.size<=r:=h;omega).trans W,g,h,λr e=>(cR r e).1,aD,ae.ext W⟩
def M0{dl m:Nat}{d:List (x1×x1)}{a:List (Λ)}(e:ah w dl j0 [.map (σ m)])(hm:c5 w m d)(f:d.map (·.1)=a.map ee)(p:∀q∈a,q.length=6)(s:a.length<=1000000):
  an x7 KH [.func (.func nc) #[] #[Γ dl]] w λv J=>Ext w J/\∃g L,(∀r,leadsTo v r->w.heap.size<=r)/\L.Perm a/\pr J g v L:=by
 refine aA func293 ?_;exact(MZ e hm f p s).mono λ_ _ _ h=>h
def gS:Λ->Int
 |[]=>0
 |x::l=>x*32 ^ l.length+gS l
def xE(n:Nat):(0:Int)<32 ^ n:=Int.pow_pos Ω
theorem uK:∀(l:Λ),(∀x∈l,0<=x/\x<32)->0<=gS l/\gS l<32 ^ l.length
 |[],_=>by simp[gS]
 |x::l,h=>by
  have:=uK l λy a=>h y (.tail _ a);have U:=h x (.head _);have:=xE l.length;simp only[gS,b9];have e:(32:Int) ^ (l.length+1)=32*32 ^ l.length:=by rw[Int.pow_succ,Int.mul_comm]
  have h1:x*32 ^ l.length<=31*32 ^ l.length:=Int.mul_le_mul_of_nonneg_right Ω Ω;have q:0<=x*32 ^ l.length:=Int.mul_nonneg U.1 Ω;rw[e];omega
def j8:Λ->Λ->Int
 |x::a,y::b=>if x<y then-1 else if y<x then 1 else j8 a b
 |_,_=>0
theorem Dl:∀(a b:Λ),a.length=b.length->(∀x∈a,0<=x/\x<32)->(∀x∈b,0<=x/\x<32)->(j8 a b<0↔gS a<gS b)/\(gS a=gS b->a=b)
 |[],[],_,_,_=>by simp[j8]
 |[],_::_,h,_,_=>by simp at h
 |_::_,[],h,_,_=>by simp at h
 |x::a,y::b,h,w,A=>by
  have p:a.length=b.length:=by simpa using h
  have q:∀x∈a,0<=x/\x<32:=λz e=>w z (.tail _ e);have r:∀x∈b,0<=x/\x<32:=λz e=>A z (.tail _ e);have s:=Dl a b p q r;have B:=uK a q;have E:=uK b r;have F:=xE b.length;simp only[j8,gS];rw[p]at B ⊢;have step:∀u v:Int,u<v->u*32 ^ b.length+32 ^ b.length<=v*32 ^ b.length:=λu v G=>by
   have:=Int.mul_le_mul_of_nonneg_right (show u+1<=v by omega) (show(0:Int)<=32 ^ b.length by omega);rw[Int.add_mul,Int.one_mul]at this;exact this
  by_cases h1:x<y
  .rw[if_pos h1];have:=step x y h1;exact⟨⟨λ_=>Ω,λ_=>Ω⟩,λh=>Ω⟩
  .rw[if_neg h1];by_cases f:y<x
   .rw[if_pos f];have:=step y x f;exact⟨⟨λh=>Ω,λh=>Ω⟩,λh=>Ω⟩
   .rw[if_neg f];have C:x=y:=Ω
    subst C;exact⟨s.1.trans ⟨λh=>Ω,λh=>Ω⟩,λh=>by rw[s.2 Ω]⟩
theorem xF:∀{a b:Λ}{i:Nat},(∀(j:Nat)(x y:Int),j<i->a[j]?=σ x->b[j]?=σ y->x=y)->i<=a.length->i<=b.length->j8 a b=j8 (a.drop i) (b.drop i)
 |_,_,0,_,_,_=>Ξ
 |[],_,i+1,_,h,_=>by simp at h
 |_::_,[],i+1,_,_,h=>by simp at h
 |x::a,y::b,i+1,he,h1,e=>by
  have f:=he 0 x y Ω F rfl;subst f;simp only[j8,Int.lt_irrefl,if_false,List.drop_succ_cons];exact xF (λj u v p hu ae=>he (j+1) u v Ω hu ae) (by simpa using h1) (by simpa using e)
def Dm{x:Int}:an x7 KM [.int .i8 x] w λv J=>v= .bool false/\Ext w J:=by
 refine aA func305 ?_;simp only[bA];exact⟨Ξ,Ext.refl _⟩
def M1{x:Int}:an x7 KG [.int .i8 x,.int .i8 y] w λv J=>v=Δ (if x<y then-1 else if y<x then 1 else 0)/\Ext w J:=by
 refine aA func292 ?_;refine Dm.mono ?_;rintro _ aa _ ⟨rfl,a⟩;refine Dm.mono ?_;rintro _ ab _ ⟨rfl,e⟩;simp only[a8,aP,bL,am];exact⟨λh=>⟨by rw[if_pos h],a.trans e⟩,λh=>⟨λf=>⟨by rw[if_neg h,if_pos f],a.trans e⟩,λf=>⟨by rw[if_neg h,if_neg f],a.trans e⟩⟩⟩
def M2{bl bv:x1}{a b:Λ}(q:aK .i8 w bl a)(s:aK .i8 w bv b)(R:a.length=b.length):an x7 Kq [bl,bv] w λv J=>v=Δ (j8 a b)/\Ext w J:=by
 refine aA func260 ?_;have:=q.le;rw[aX mo.u q];refine bV.range a.length (λi _ aa=>Ext w aa/\∀(j:Nat)(x y:Int),j<i->a[j]?=σ x->b[j]?=σ y->x=y) Ω ⟨Ext.refl _,λj x y H=>Ω⟩ ?_ ?_
 .rintro i _ aa I hi ⟨e,r⟩ K;simp only[aP,am];refine⟨λ_=>?_,λh=>Ω⟩;obtain⟨x,U⟩:=aI (l:=a) hi;obtain⟨y,z⟩:=aI (l:=b) (i:=i) Ω;rw[be mo.u gd.i Ψ (q.ext e) U,aX mo.u (s.ext e)];simp only[cO,am];refine⟨λh=>Ω,λ_=>?_⟩;rw[be mo.u gd.i Ψ (s.ext e) z];refine M1.mono ?_;rintro _ ab _ ⟨rfl,C⟩;have f:j8 a b=j8 (a.drop i) (b.drop i):=xF r Ω Ω;have L:a.drop i=x::a.drop (i+1):=by rw[X5 hi,(x4.1 U).2]
  have M:b.drop i=y::b.drop (i+1):=by rw[X5 Ω,(x4.1 z).2]
  rw[L,M]at f;simp only[j8]at f;simp only[bA,am,aM];refine⟨λE=>⟨?_,e.trans C⟩,λN=>K _ _ ⟨e.trans C,λj O P H A B=>?_⟩⟩
  .rw[f];by_cases h1:x<y
   .rw[if_pos h1,if_pos h1]
   .by_cases p:y<x
    .rw[if_neg h1,if_pos p,if_neg h1,if_pos p]
    .rw[if_neg h1,if_neg p]at E;exact absurd F E
  .by_cases Q:j=i
   .subst Q;rw[U]at A;rw[z]at B;cases A;cases B;have G:=Y3.1 N;by_cases h1:x<y
    .rw[if_pos h1]at G;omega
    .by_cases p:y<x
     .rw[if_neg h1,if_pos p]at G;omega
     .omega
   .exact r j O P Ω A B
 .rintro _ aa I ⟨e,r⟩;simp only[aP,show decide ((a.length:Int)<(a.length:Int))=false from decide_eq_false Ω,a8];rw[aX mo.u (q.ext e),aX mo.u (s.ext e)];simp only[aP,am];refine⟨λh=>Ω,λ_=>⟨?_,e⟩⟩;have f:j8 a b=j8 (a.drop a.length) (b.drop a.length):=xF r Ω Ω;rw[f,List.drop_length];cases b.drop a.length<;>rfl
def M3{a b:Λ}(q:ns a)(r:ns b):an x7 Bm [ee a,ee b] w λv J=>Ext w J/\v=Δ (j8 a b):=by
 have C:∀{c:Λ},ns c->(ints .i8 c).length=6:=λh=>by simp[h.1]
 refine aA func259 ?_;refine bh λg1 aa E z e=>?_;refine bh λG ab H s f=>?_;rw[C7]at e f;intro x p _ _;have e:=(e.ext s).ext p;have f:=f.ext p;rw[tU cF.u gd.i (l:=0) (h:=6) (m:=6) kx ky ff Ω Ω Ω,tU cF.u gd.i (l:=0) (h:=6) (m:=6) kx ky ff Ω Ω Ω];rw[if_neg Ω,if_neg Ω];have ls:∀{g:Nat}{c:Λ},ns c->ah x g cF (ints .i8 c)->aK .i8 x (.slice (σ ⟨g,0+0*1,ν⟩) (6-0) (6-0)) c:=λ{g c}y A=>by
  unfold aK;refine⟨Ξ,g,0,_,6,by rw[y.1],by rw[y.1];omega,by simp[maxLen],λ_=>rfl,A.range⟩
 refine(M2 (ls q e) (ls r f) (by rw[q.1,r.1])).mono ?_;rintro _ I _ ⟨rfl,B⟩;exact⟨((z.trans s).trans p).trans B,F⟩
end Go.Proofs.YtikkpokkcdocoabGreatDoor
namespace Go.Vc
open Go Go.RowKit Go.Shelf Go.Proofs Go.Sort
def grown_of(U:Ext w J)(a:cL w J):∃q os,J=grow (w.drewN q) os:=by
 refine⟨J.drawn-w.drawn,J.heap.extract w.heap.size J.heap.size,?_⟩;have hk:∀k,k<w.heap.size->J.heap[k]?=w.heap[k]?:=λk hk=>by
  have e:=Array.getElem?_eq_getElem hk;rw[e];cases V:fF w.heap[k]with
  |true=>exact U.a6 k _ e V
  |false=>exact a.a6 k _ e V
 have aC:J.heap=w.heap++J.heap.extract w.heap.size J.heap.size:=by
  apply Array.ext_getElem?;intro k;rw[Array.getElem?_append];by_cases h:k<w.heap.size
  .rw[if_pos h,hk k h]
  .rw[if_neg h,Array.getElem?_extract];have:=U.size;by_cases f:k<J.heap.size
   .rw[if_pos Ω];congr 1;omega
   .rw[if_neg Ω,Array.getElem?_eq_none Ω]
 have h1:=a.os;have f:=a.tape.1;have p:=a.output;have r:w.drawn+(J.drawn-w.drawn)=J.drawn:=by have:=a.tape.2;omega
 cases J;simp only[grow,x3.drewN]at*;subst h1 f p;rw[<-aC,r]
section
variable{α:Type}[Inhabited α]
def Dn(enc:α->List x1)(k:Nat)(hk:∀x,(enc x).length=k)(d:Array α):(flatK enc k d).toList=d.toList.flatMap enc:=by
 apply Y9;intro t;by_cases h:t<d.size*k
 .have f:0<k:=by
   rcases Q8 k with e|e
   .rw[e]at h;simp at h
   .exact e
  have p:=(Nat.div_lt_iff_lt_mul f).2 h;have q:=Nat.mod_lt t f;have r:(flatK enc k d).toList[t]?=σ ((enc d[t / k]!)[t % k]!):=by
   rw[R6,Array.getElem?_eq_getElem (by simpa using h)];have:=get_flatK enc k d t h;rw[getElem!_pos _ t (by simpa using h)]at this;rw[this]
  have s:d.toList[t / k]?=σ d[t / k]!:=by
   rw[R6,Array.getElem?_eq_getElem p,getElem!_pos d _ p]
  have ae:(enc d[t / k]!)[t % k]?=σ ((enc d[t / k]!)[t % k]!):=by
   generalize d[t / k]! =z;rw[x6 (by rw[hk];exact q),getElem!_pos (enc z) _ (by rw[hk];exact q)]
  have:=qA (λa _=>hk a) s ae;rw[r,<-this];congr 1;rw[Nat.mul_comm];exact Nat.div_add_mod t k
 .rw[Z7 (by simpa using h),Z7];rw[jn λa _=>hk a];simpa using h
def Do(enc:α->List x1)(k:Nat)(hk:∀x,(enc x).length=k){g m:Nat}{d:Array α}{os:Array Obj}(h:ah w g e cs)(z:d.size*k<=cs.length):
  ah (sortWorldK enc k w g 0 m d os) g e (d.toList.flatMap enc++cs.drop (d.size*k))/\∀r,r<w.heap.size->r≠g->(sortWorldK enc k w g 0 m d os).heap[r]?=w.heap[r]?:=by
 have s:=h.lt;have q:∀r,r<w.heap.size->(sortWorldK enc k w g 0 m d os).heap[r]?=(w.heap.modify g (onCells (putCells id 0 (flatK enc k d))))[r]?:=λr p=>by
  show((w.heap.modify g (onCells (putCells id 0 (flatK enc k d))))++os)[r]?=_;rw[Array.getElem?_append_left (by simpa using p)]
 refine⟨?_,λr p y=>?_⟩
 .unfold ah at h ⊢;rw[q g s,Array.getElem?_modify,if_pos F,h];show σ (Obj.cells (putCells id 0 (flatK enc k d) cs.toArray) e (0,0))=_;refine congrArg σ (congrArg (λc=>Obj.cells c e (0,0)) ?_);apply Array.ext';apply Y9;intro t;show _=(d.toList.flatMap enc++cs.drop (d.size*k))[t]?;rw[List.getElem?_append,jn λa _=>hk a,R6];unfold putCells;rw[Array.getElem?_mapIdx,List.getElem?_toArray];have V:d.toList.length=d.size:=rfl;by_cases f:t<d.size*k
  .rw[if_pos (by rw[V];exact f),x6 Ω,<-Dn enc k hk,R6,Array.getElem?_eq_getElem (by simpa using f)];simp only[Y1,id];rw[if_pos (by simpa using f),Nat.sub_zero,getElem!_pos _ t (by simpa using f)]
  .rw[if_neg (by rw[V];exact f),List.getElem?_drop,V,show d.size*k+(t-d.size*k)=t by omega];cases A:cs[t]? with
   |none=>rfl
   |some x=>
    simp only[Y1];rw[if_neg Θ]
 .rw[q r p,Array.getElem?_modify,if_neg (Ne.symm y)]
end
def xG{P:W9}{H:Ren}(X:SlLaysF0.n6 P H){α:Type}{f:α->List x1}{k:Nat}{G:α->Prop}{num:α->Int}{C:α->α->Int}{E:Q4}{cap:Array x1}(aD:∀w,(isAgg (H.t 24)).run P w= .ok true w)(aE:∀w,(Go.sizeOf (H.t 24)).run P w= .ok k w)(h1:∀a,G a->∀u∈f a,u.oneCell'=true)(hk:∀a,G a->(f a).length=k)(aF:∀a b,G a->G b->(C a b<0↔num a<num b))(aj:Enters P E){w:x3}{g:Nat}{v:x1}{L:List α}(h:bm f k e w g v L)(I:∀a∈L,G a)(ak:L.length<65536)(aG:∀Y a b,ai (λr=>r=g) w Y->G a->G b->an P E ([.agg (f a).toArray,.agg (f b).toArray]++cap.toList) Y λu aH=>Ext Y aH/\u=Δ (C a b)):
  an P (H.f 6) [v,.func (.func E) #[] cap] w λ_ J=>ai (λr=>leadsTo v r) w J/\∃M,M.Perm L/\(∀(p q:Nat)(x y:α),p<q->M[p]?=σ x->M[q]?=σ y->num x<=num y)/\bm f k e J g v M:=by
 have al:=λargs w=>X.f6.enters rfl args w;obtain⟨⟨aZ,ae⟩,a1⟩:=id h;have am:∀p c,v= .slice p 0 c->L=[]->an P (H.f 6) [v,.func (.func E) #[] cap] w λ_ J=>ai (λr=>leadsTo v r) w J/\∃M,M.Perm L/\(∀(p q:Nat)(x y:α),p<q->M[p]?=σ x->M[q]?=σ y->num x<=num y)/\bm f k e J g v M:=λp c K ak=>by
  refine .code al ?_;rw[K];refine(AnyF.slices_SortFunc_none X p c _ w).mono ?_;rintro a2 J ⟨rfl,rfl⟩;refine⟨_,rfl,cL.refl _,ai.refl _ _,L,.refl _,λp q x y _ U=>by rw[ak]at U;simp at U,by rw[<-K];exact h⟩
 rcases ae with⟨rfl,aI⟩|⟨c,cs,rfl,B,ao,hm,Z,aJ⟩
 .exact am _ _ rfl (b6 aI)
 cases aa:L with
 |nil=>subst aa;exact am _ _ rfl rfl
 |cons a0 a6=>
 rw[<-aa];let β:={a:α // G a};have:Inhabited β:=⟨⟨a0,I a0 (by rw[aa];exact .head _)⟩⟩;let enc:β->List x1:=λx=>f x.1;let d:Array β:=(L.attach.map λx=>(⟨x.1,I x.1 x.2⟩:β)).toArray;have ap:d.toList.map Subtype.val=L:=by
  show(L.attach.map λx=>(⟨x.1,I x.1 x.2⟩:β)).map Subtype.val=L;rw[S6];exact List.attach_map_subtype_val L
 have Q:d.size=L.length:=by simp[d]
 have F:∀x:β,(enc x).length=k:=λx=>hk x.1 x.2;have aK:d.toList.flatMap enc=L.flatMap f:=by
  have N:=congrArg (λl=>l.flatMap f) ap;rw[<-N];exact(List.flatMap_map Subtype.val f d.toList).symm
 have R:d.size*k<=cs.length:=by rw[Q,Z];exact V1 k ao
 have aL:HoldsK enc k w g 0 d:=by
  intro j S;rw[size_flatK]at S;have aq:j<cs.length:=Ω
  have ab:(flatK enc k d)[j]! =cs[j]:=by
   have N:(flatK enc k d).toList[j]?=σ cs[j]:=by
    rw[Dn enc k F,aK,<-aJ,Y2 (by rw[<-Q];exact S),x6 aq]
   rw[R6]at N;rw[getElem!_pos _ j (by simpa using S)];rw[Array.getElem?_eq_getElem (by simpa using S)]at N;exact Z3 N
  refine⟨?_,?_⟩
  .show w.cell? ⟨g,0+j,ν⟩=σ ((flatK enc k d)[j]!);rw[ab];exact B.cell (by rw[W0];exact x6 aq)
  .unfold x3.frozen?;unfold ah at B;rw[B];simp
 have T:∀x y:β,ltOf (λx y:β=>C x.1 y.1) x y=decide (num x.1<num y.1):=λx y=>by
  unfold ltOf;exact decide_eq_decide.2 (aF x.1 y.1 x.2 y.2)
 have aM:SWO (ltOf λx y:β=>C x.1 y.1):=
  ⟨λx=>by rw[T];simp,λx y z p q=>by rw[T]at*;simp at*;omega,λx y z p q=>by rw[T]at*;simp at*;omega⟩
 have au:∀m (d2:Array β) os,d2.size=d.size->ai (λr=>r=g) w (sortWorldK enc k w g 0 m d2 os)/\cL w (sortWorldK enc k w g 0 m d2 os):=λm d2 os V=>by
  obtain⟨a7,av⟩:=Do enc k F B (by rw[V];exact R);have aw:w.heap.size<=(sortWorldK enc k w g 0 m d2 os).heap.size:=by
   show w.heap.size<=((w.heap.modify g _)++os).size;simp
  refine⟨⟨aw,λr o A _ ac=>?_⟩,rfl,⟨rfl,Nat.le_add_right _ _⟩,rfl,aw,λr o A V=>?_⟩
  .rw[av r (j9.1 A).1 ac];exact A
  .have ac:r≠g:=λhe=>by subst he;unfold ah at B;rw[B]at A;cases A;cases V
   rw[av r (j9.1 A).1 ac];exact A
 have aN:CmpLays P E cap enc k (λx y:β=>C x.1 y.1) g 0 d.size w:=λm os aO V x y=>by
  have U:=(aG _ x.1 y.1 (au m aO os V).1 x.2 y.2).calls aj;have O:([x1.agg (f x.1).toArray,.agg (f y.1).toArray]++cap.toList).toArray= #[.agg (enc x).toArray,.agg (enc y).toArray]++cap:=by
   apply Array.ext';simp[enc]
  rw[O]at U;refine U.mono ?_;rintro _ J ⟨_,rfl,aP,aQ,rfl⟩;exact⟨rfl,grown_of aQ aP⟩
 have ax:=AnyQ.slices_SortFunc X k aD aE enc F (λx=>h1 x.1 x.2) (λx y:β=>C x.1 y.1) aM E cap g 0 c d w (λargs w=>aj args w) aN aL B.lt (by rw[Q];omega);rw[Q]at ax;refine .code al (ax.mono ?_);rintro _ J ⟨rfl,s,n,os,⟨aR,_,K⟩,aS,rfl⟩;have ad:=aR;obtain⟨aT,aU⟩:=au n s os ad;obtain⟨aV,_⟩:=Do enc k F B (by rw[ad];exact R);have W:(s.toList.map Subtype.val).Perm L:=by
  have ab:(s.extract 0 L.length).toList=s.toList:=by rw[show L.length=s.size by omega,Array.extract_size]
  have aW:(d.extract 0 L.length).toList=d.toList:=by rw[show L.length=d.size by omega,Array.extract_size]
  rw[ab,aW]at K;rw[<-ap];exact K.map _
 have ay:=W.length_eq;refine⟨_,rfl,aU,aT.mono λr _ A=>⟨_,_,_,rfl,A.symm⟩,s.toList.map Subtype.val,W,λp q x y aX U az=>?_,⟨?_,.inr ⟨c,_,by rw[ay],aV,by rw[ay];exact ao,hm,?_,?_⟩⟩,λa O=>hk a (I a (W.mem_iff.1 O))⟩
 .rw[x8,X7]at U az;obtain⟨a8,aA,rfl⟩:=U;obtain⟨ba,aB,rfl⟩:=az;rw[R6]at aA aB;have aC:=(j9.1 aA);have af:=(j9.1 aB);have:=aS p q (X8 _) aX (by have:=af.1;omega);rw[getElem!_pos s p aC.1,getElem!_pos s q af.1,aC.2,af.2,T]at this;simpa using this
 .rw[jn λa O=>hk a (I a (W.mem_iff.1 O))]
 .have ag:(s.toList.flatMap enc).length=s.size*k:=by rw[jn λa _=>F a];rfl
  rw[r8,ag,List.length_drop,ad,Z];rw[Z]at R;exact Nat.add_sub_cancel' R
 .have ag:(s.toList.flatMap enc).length=s.size*k:=by rw[jn λa _=>F a];rfl
  have aY:(List.map Subtype.val s.toList).length*k=(s.toList.flatMap enc).length:=by rw[ag,r9];rfl
  rw[aY,List.take_left,List.flatMap_map]
end Go.Vc
namespace Go.Proofs
open Go.Shelf
def Tryz.xH:Go.Shelf.Ren:=⟨λ|6=>294|15=>81|14=>307|28=>171|29=>172|20=>322|21=>323|22=>324|23=>325|24=>326|25=>327|26=>328|27=>329|46=>337|47=>228|48=>229|49=>338|50=>339|57=>342|n=>n,λ|22=>360|24=>336|25=>359|3=>3|39=>144|0=>0|53=>258|55=>93|4=>4|46=>251|45=>250|50=>255|5=>5|9=>9|66=>323|70=>327|76=>366|77=>367|n=>n,λ|n=>n⟩
def Tryz.M4:Go.Proofs.SlLaysF0.n6 Tryz.prog Tryz.xH:={
 mixed:=Ψ,
 f6:=⟨Tryz.f294.name,Φ,Tryz.func294.trans (congrArg σ Ψ)⟩,
 f14:=⟨Tryz.f307.name,Φ,Tryz.func307.trans (congrArg σ Ψ)⟩,
 f15:=Tryz.func81.trans (congrArg σ Ψ),
 f20:=⟨Tryz.f322.name,Φ,Tryz.func322.trans (congrArg σ Ψ)⟩,
 f21:=⟨Tryz.f323.name,Φ,Tryz.func323.trans (congrArg σ Ψ)⟩,
 f22:=⟨Tryz.f324.name,Φ,Tryz.func324.trans (congrArg σ Ψ)⟩,
 f23:=⟨Tryz.f325.name,Φ,Tryz.func325.trans (congrArg σ Ψ)⟩,
 f24:=⟨Tryz.f326.name,Φ,Tryz.func326.trans (congrArg σ Ψ)⟩,
 f25:=⟨Tryz.f327.name,Φ,Tryz.func327.trans (congrArg σ Ψ)⟩,
 f26:=⟨Tryz.f328.name,Φ,Tryz.func328.trans (congrArg σ Ψ)⟩,
 f27:=⟨Tryz.f329.name,Φ,Tryz.func329.trans (congrArg σ Ψ)⟩,
 f28:=Tryz.func171.trans (congrArg σ Ψ),
 f29:=Tryz.func172.trans (congrArg σ Ψ),
 f46:=⟨Tryz.f337.name,Φ,Tryz.func337.trans (congrArg σ Ψ)⟩,
 f47:=Tryz.func228.trans (congrArg σ Ψ),
 f48:=Tryz.func229.trans (congrArg σ Ψ),
 f49:=⟨Tryz.f338.name,Φ,Tryz.func338.trans (congrArg σ Ψ)⟩,
 f50:=⟨Tryz.f339.name,Φ,Tryz.func339.trans (congrArg σ Ψ)⟩,
 f57:=⟨Tryz.f342.name,Φ,Tryz.func342.trans (congrArg σ Ψ)⟩,
 t0:=Tryz.underlying0,
 a0:=Tryz.isAgg0,
 z0:=Tryz.sizeOf0,
 v0:=Tryz.zeroValue0,
 t3:=Tryz.underlying3,
 a3:=Tryz.isAgg3,
 z3:=Tryz.sizeOf3,
 v3:=Tryz.zeroValue3,
 t4:=Tryz.underlying4,
 a4:=Tryz.isAgg4,
 z4:=Tryz.sizeOf4,
 v4:=Tryz.zeroValue4,
 t5:=Tryz.underlying5,
 a5:=Tryz.isAgg5,
 z5:=Tryz.sizeOf5,
 v5:=Tryz.zeroValue5,
 t9:=Tryz.underlying9,
 a9:=Tryz.isAgg9,
 z9:=Tryz.sizeOf9,
 v9:=Tryz.zeroValue9,
 t22:=Tryz.underlying360,
 a22:=Tryz.isAgg360,
 z22:=Tryz.sizeOf360,
 v22:=Tryz.zeroValue360,
 t25:=Tryz.underlying359,
 a25:=Tryz.isAgg359,
 z25:=Tryz.sizeOf359,
 v25:=Tryz.zeroValue359,
 t39:=Tryz.underlying144,
 a39:=Tryz.isAgg144,
 z39:=Tryz.sizeOf144,
 v39:=Tryz.zeroValue144,
 t45:=Tryz.underlying250,
 a45:=Tryz.isAgg250,
 z45:=Tryz.sizeOf250,
 v45:=Tryz.zeroValue250,
 t46:=Tryz.underlying251,
 a46:=Tryz.isAgg251,
 z46:=Tryz.sizeOf251,
 v46:=Tryz.zeroValue251,
 t50:=Tryz.underlying255,
 a50:=Tryz.isAgg255,
 z50:=Tryz.sizeOf255,
 v50:=Tryz.zeroValue255,
 t53:=Tryz.underlying258,
 a53:=Tryz.isAgg258,
 z53:=Tryz.sizeOf258,
 v53:=Tryz.zeroValue258,
 t55:=Tryz.underlying93,
 a55:=Tryz.isAgg93,
 z55:=Tryz.sizeOf93,
 v55:=Tryz.zeroValue93,
 t66:=Tryz.underlying323,
 a66:=Tryz.isAgg323,
 z66:=Tryz.sizeOf323,
 v66:=Tryz.zeroValue323,
 t70:=Tryz.underlying327,
 a70:=Tryz.isAgg327,
 z70:=Tryz.sizeOf327,
 v70:=Tryz.zeroValue327,
 t76:=Tryz.underlying366,
 a76:=Tryz.isAgg366,
 z76:=Tryz.sizeOf366,
 v76:=Tryz.zeroValue366,
 t77:=Tryz.underlying367,
 a77:=Tryz.isAgg367,
 z77:=Tryz.sizeOf367,
 v77:=Tryz.zeroValue367}
def Tryz.xI:Go.Shelf.Ren:=⟨λ|6=>201|15=>81|14=>253|28=>171|29=>172|20=>281|21=>282|22=>283|23=>284|24=>285|25=>286|26=>287|27=>288|46=>300|47=>228|48=>229|49=>301|50=>302|57=>321|n=>n,λ|22=>280|24=>285|25=>293|3=>3|39=>144|0=>0|53=>258|55=>93|4=>4|46=>251|45=>250|50=>255|5=>5|9=>9|66=>323|70=>327|76=>366|77=>367|n=>n,λ|n=>n⟩
def Tryz.M5:Go.Proofs.SlLaysF0.n6 Tryz.prog Tryz.xI:={
 mixed:=Ψ,
 f6:=⟨Tryz.f201.name,Φ,Tryz.func201.trans (congrArg σ Ψ)⟩,
 f14:=⟨Tryz.f253.name,Φ,Tryz.func253.trans (congrArg σ Ψ)⟩,
 f15:=Tryz.func81.trans (congrArg σ Ψ),
 f20:=⟨Tryz.f281.name,Φ,Tryz.func281.trans (congrArg σ Ψ)⟩,
 f21:=⟨Tryz.f282.name,Φ,Tryz.func282.trans (congrArg σ Ψ)⟩,
 f22:=⟨Tryz.f283.name,Φ,Tryz.func283.trans (congrArg σ Ψ)⟩,
 f23:=⟨Tryz.f284.name,Φ,Tryz.func284.trans (congrArg σ Ψ)⟩,
 f24:=⟨Tryz.f285.name,Φ,Tryz.func285.trans (congrArg σ Ψ)⟩,
 f25:=⟨Tryz.f286.name,Φ,Tryz.func286.trans (congrArg σ Ψ)⟩,
 f26:=⟨Tryz.f287.name,Φ,Tryz.func287.trans (congrArg σ Ψ)⟩,
 f27:=⟨Tryz.f288.name,Φ,Tryz.func288.trans (congrArg σ Ψ)⟩,
 f28:=Tryz.func171.trans (congrArg σ Ψ),
 f29:=Tryz.func172.trans (congrArg σ Ψ),
 f46:=⟨Tryz.f300.name,Φ,Tryz.func300.trans (congrArg σ Ψ)⟩,
 f47:=Tryz.func228.trans (congrArg σ Ψ),
 f48:=Tryz.func229.trans (congrArg σ Ψ),
 f49:=⟨Tryz.f301.name,Φ,Tryz.func301.trans (congrArg σ Ψ)⟩,
 f50:=⟨Tryz.f302.name,Φ,Tryz.func302.trans (congrArg σ Ψ)⟩,
 f57:=⟨Tryz.f321.name,Φ,Tryz.func321.trans (congrArg σ Ψ)⟩,
 t0:=Tryz.underlying0,
 a0:=Tryz.isAgg0,
 z0:=Tryz.sizeOf0,
 v0:=Tryz.zeroValue0,
 t3:=Tryz.underlying3,
 a3:=Tryz.isAgg3,
 z3:=Tryz.sizeOf3,
 v3:=Tryz.zeroValue3,
 t4:=Tryz.underlying4,
 a4:=Tryz.isAgg4,
 z4:=Tryz.sizeOf4,
 v4:=Tryz.zeroValue4,
 t5:=Tryz.underlying5,
 a5:=Tryz.isAgg5,
 z5:=Tryz.sizeOf5,
 v5:=Tryz.zeroValue5,
 t9:=Tryz.underlying9,
 a9:=Tryz.isAgg9,
 z9:=Tryz.sizeOf9,
 v9:=Tryz.zeroValue9,
 t22:=Tryz.underlying280,
 a22:=Tryz.isAgg280,
 z22:=Tryz.sizeOf280,
 v22:=Tryz.zeroValue280,
 t25:=Tryz.underlying293,
 a25:=Tryz.isAgg293,
 z25:=Tryz.sizeOf293,
 v25:=Tryz.zeroValue293,
 t39:=Tryz.underlying144,
 a39:=Tryz.isAgg144,
 z39:=Tryz.sizeOf144,
 v39:=Tryz.zeroValue144,
 t45:=Tryz.underlying250,
 a45:=Tryz.isAgg250,
 z45:=Tryz.sizeOf250,
 v45:=Tryz.zeroValue250,
 t46:=Tryz.underlying251,
 a46:=Tryz.isAgg251,
 z46:=Tryz.sizeOf251,
 v46:=Tryz.zeroValue251,
 t50:=Tryz.underlying255,
 a50:=Tryz.isAgg255,
 z50:=Tryz.sizeOf255,
 v50:=Tryz.zeroValue255,
 t53:=Tryz.underlying258,
 a53:=Tryz.isAgg258,
 z53:=Tryz.sizeOf258,
 v53:=Tryz.zeroValue258,
 t55:=Tryz.underlying93,
 a55:=Tryz.isAgg93,
 z55:=Tryz.sizeOf93,
 v55:=Tryz.zeroValue93,
 t66:=Tryz.underlying323,
 a66:=Tryz.isAgg323,
 z66:=Tryz.sizeOf323,
 v66:=Tryz.zeroValue323,
 t70:=Tryz.underlying327,
 a70:=Tryz.isAgg327,
 z70:=Tryz.sizeOf327,
 v70:=Tryz.zeroValue327,
 t76:=Tryz.underlying366,
 a76:=Tryz.isAgg366,
 z76:=Tryz.sizeOf366,
 v76:=Tryz.zeroValue366,
 t77:=Tryz.underlying367,
 a77:=Tryz.isAgg367,
 z77:=Tryz.sizeOf367,
 v77:=Tryz.zeroValue367}
def Tryz.xJ:Go.Shelf.Ren:=⟨λ|6=>26|15=>81|14=>80|28=>171|29=>172|20=>163|21=>164|22=>165|23=>166|24=>167|25=>168|26=>169|27=>170|46=>227|47=>228|48=>229|49=>230|50=>231|57=>270|n=>n,λ|22=>36|24=>43|25=>71|3=>3|39=>144|0=>0|53=>258|55=>93|4=>4|46=>251|45=>250|50=>255|5=>5|9=>9|66=>323|70=>327|76=>366|77=>367|n=>n,λ|n=>n⟩
def Tryz.M6:Go.Proofs.SlLaysF0.n6 Tryz.prog Tryz.xJ:={
 mixed:=Ψ,
 f6:=⟨Tryz.f26.name,Φ,Tryz.func26.trans (congrArg σ Ψ)⟩,
 f14:=⟨Tryz.f80.name,Φ,Tryz.func80.trans (congrArg σ Ψ)⟩,
 f15:=Tryz.func81.trans (congrArg σ Ψ),
 f20:=⟨Tryz.f163.name,Φ,Tryz.func163.trans (congrArg σ Ψ)⟩,
 f21:=⟨Tryz.f164.name,Φ,Tryz.func164.trans (congrArg σ Ψ)⟩,
 f22:=⟨Tryz.f165.name,Φ,Tryz.func165.trans (congrArg σ Ψ)⟩,
 f23:=⟨Tryz.f166.name,Φ,Tryz.func166.trans (congrArg σ Ψ)⟩,
 f24:=⟨Tryz.f167.name,Φ,Tryz.func167.trans (congrArg σ Ψ)⟩,
 f25:=⟨Tryz.f168.name,Φ,Tryz.func168.trans (congrArg σ Ψ)⟩,
 f26:=⟨Tryz.f169.name,Φ,Tryz.func169.trans (congrArg σ Ψ)⟩,
 f27:=⟨Tryz.f170.name,Φ,Tryz.func170.trans (congrArg σ Ψ)⟩,
 f28:=Tryz.func171.trans (congrArg σ Ψ),
 f29:=Tryz.func172.trans (congrArg σ Ψ),
 f46:=⟨Tryz.f227.name,Φ,Tryz.func227.trans (congrArg σ Ψ)⟩,
 f47:=Tryz.func228.trans (congrArg σ Ψ),
 f48:=Tryz.func229.trans (congrArg σ Ψ),
 f49:=⟨Tryz.f230.name,Φ,Tryz.func230.trans (congrArg σ Ψ)⟩,
 f50:=⟨Tryz.f231.name,Φ,Tryz.func231.trans (congrArg σ Ψ)⟩,
 f57:=⟨Tryz.f270.name,Φ,Tryz.func270.trans (congrArg σ Ψ)⟩,
 t0:=Tryz.underlying0,
 a0:=Tryz.isAgg0,
 z0:=Tryz.sizeOf0,
 v0:=Tryz.zeroValue0,
 t3:=Tryz.underlying3,
 a3:=Tryz.isAgg3,
 z3:=Tryz.sizeOf3,
 v3:=Tryz.zeroValue3,
 t4:=Tryz.underlying4,
 a4:=Tryz.isAgg4,
 z4:=Tryz.sizeOf4,
 v4:=Tryz.zeroValue4,
 t5:=Tryz.underlying5,
 a5:=Tryz.isAgg5,
 z5:=Tryz.sizeOf5,
 v5:=Tryz.zeroValue5,
 t9:=Tryz.underlying9,
 a9:=Tryz.isAgg9,
 z9:=Tryz.sizeOf9,
 v9:=Tryz.zeroValue9,
 t22:=Tryz.underlying36,
 a22:=Tryz.isAgg36,
 z22:=Tryz.sizeOf36,
 v22:=Tryz.zeroValue36,
 t25:=Tryz.underlying71,
 a25:=Tryz.isAgg71,
 z25:=Tryz.sizeOf71,
 v25:=Tryz.zeroValue71,
 t39:=Tryz.underlying144,
 a39:=Tryz.isAgg144,
 z39:=Tryz.sizeOf144,
 v39:=Tryz.zeroValue144,
 t45:=Tryz.underlying250,
 a45:=Tryz.isAgg250,
 z45:=Tryz.sizeOf250,
 v45:=Tryz.zeroValue250,
 t46:=Tryz.underlying251,
 a46:=Tryz.isAgg251,
 z46:=Tryz.sizeOf251,
 v46:=Tryz.zeroValue251,
 t50:=Tryz.underlying255,
 a50:=Tryz.isAgg255,
 z50:=Tryz.sizeOf255,
 v50:=Tryz.zeroValue255,
 t53:=Tryz.underlying258,
 a53:=Tryz.isAgg258,
 z53:=Tryz.sizeOf258,
 v53:=Tryz.zeroValue258,
 t55:=Tryz.underlying93,
 a55:=Tryz.isAgg93,
 z55:=Tryz.sizeOf93,
 v55:=Tryz.zeroValue93,
 t66:=Tryz.underlying323,
 a66:=Tryz.isAgg323,
 z66:=Tryz.sizeOf323,
 v66:=Tryz.zeroValue323,
 t70:=Tryz.underlying327,
 a70:=Tryz.isAgg327,
 z70:=Tryz.sizeOf327,
 v70:=Tryz.zeroValue327,
 t76:=Tryz.underlying366,
 a76:=Tryz.isAgg366,
 z76:=Tryz.sizeOf366,
 v76:=Tryz.zeroValue366,
 t77:=Tryz.underlying367,
 a77:=Tryz.isAgg367,
 z77:=Tryz.sizeOf367,
 v77:=Tryz.zeroValue367}
def Tryz.M7(w:x3):(isAgg (Tryz.xH.t 24)).run Tryz.prog w= .ok true w:=Tryz.isAgg336 w
def Tryz.M8(w:x3):(Go.sizeOf (Tryz.xH.t 24)).run Tryz.prog w= .ok 6 w:=Tryz.sizeOf336 w
def Tryz.M9:Tryz.prog.funcs[259]?=σ Tryz.f259:=Tryz.func259
def Tryz.Na(w:x3):(isAgg (Tryz.xI.t 24)).run Tryz.prog w= .ok true w:=Tryz.isAgg285 w
def Tryz.Nb(w:x3):(Go.sizeOf (Tryz.xI.t 24)).run Tryz.prog w= .ok 2 w:=Tryz.sizeOf285 w
def Tryz.Nc:Tryz.prog.funcs[202]?=σ Tryz.f202:=Tryz.func202
def Tryz.Nd(w:x3):(isAgg (Tryz.xJ.t 24)).run Tryz.prog w= .ok true w:=Tryz.isAgg43 w
def Tryz.Nf(w:x3):(Go.sizeOf (Tryz.xJ.t 24)).run Tryz.prog w= .ok 4 w:=Tryz.sizeOf43 w
def Tryz.Ng:Tryz.prog.funcs[27]?=σ Tryz.f27:=Tryz.func27
end Go.Proofs
namespace Go.Proofs.YtikkpokkcdocoabGreatDoor
open Go Go.Vc Go.RowKit Go.Proofs Go.Proofs.Tryz
set_option maxRecDepth 100000
def uL{α:Type}(f:α->Int)(L:List α)(a i:Nat):Prop:=∀(p q:Nat)(x y:α),a<=p->p<q->q<i->L[p]?=σ x->L[q]?=σ y->f x<=f y
def qD(L:List (Λ)):Prop:=∀a∈L,ns a
def qD.perm{L M:List (Λ)}(h:qD L)(a:M.Perm L):qD M:=λe hk=>h e (a.mem_iff.1 hk)
def Nh{g:Nat}{L:List (Λ)}{i:Nat}{a:Λ}(e:y=(i:Int))(h:pr w g v L)(hi:L[i]?=σ a):
  ad x7 (c9 k4 v (Δ y)) w (λp=>ad x7 (u5 cF p) w K)=K (ee a):=by
 have f:a.length=6:=by have:=h.2 a (x5 hi);simpa using this
 rw[dp e k4.u cF.i h (x4.1 hi).1,pq f (h.range hi)]
abbrev Dp:x1:=.func (.func Bm) #[] #[]
def uM{P:W9}{k:n9}{s:ByteArray}{i:Nat}(a:P.underlying t=σ .string)(hi:i<s.size):
  ad P (Instr.index t (.string s) (.int k (i:Int))) w K=K (.int .u8 (s[i].toNat:Int)):=ad.of λJ _=>by
 simp[Instr.index,asIntOf,run_underlying a,hi]
def ek(n:Nat):Nat:=if n=0 then 0 else Nat.log2 n+1
def Dq(h:n<256):ek n<=8:=by
 unfold ek;by_cases a:n=0
 .rw[if_pos a];omega
 .rw[if_neg a];have:Nat.log2 n<8:=(Nat.log2_lt a).2 Ω;omega
def Ni{g:Nat}{L:List (Λ)}(h:pr w g v L)(s:qD L)(z:L.length<65536):
  an x7 KI [v,Dp] w λ_ J=>ai (λr=>leadsTo v r) w J/\∃M,M.Perm L/\uL gS M 0 M.length/\pr J g v M:=by
 refine(xG M4 M7 M8 (λa _=>Dk) (λa e=>by simp[e.1]) (λa b e f=>(Dl a b (by rw[e.1,f.1]) e.2 f.2).1) (Enters.of x7 M9 F Ψ) h s z λG a b _ e f=>M3 e f).mono ?_;rintro _ J _ ⟨A,M,B,hu,hm⟩;exact⟨A,M,B,λp q x y _ C _ U E=>hu p q x y C U E,hm⟩
end Go.Proofs.YtikkpokkcdocoabGreatDoor
namespace Go.Vc
open Go Go.RowKit
set_option maxRecDepth 100000
def Keys.str{P:W9}{k:p8}(hk:P.underlying k=σ .string):Keys P k λv=>∃s,v= .string s:=by
 have key:∀s,MapKept.IsKey .string (.string s):=λs=>trivial;refine⟨λw f v ⟨n,h⟩=>?_,λw x ⟨n,h⟩ p q=>?_,λw v ⟨n,h⟩=>?_⟩
 .subst h;exact MapKept.run_checkKey hk (key n) f 9999
 .subst h;rcases MapKept.findNow_spec (key n) p 0 (λe he=>by obtain⟨m,h⟩:=q e he;rw[h];exact key m)with⟨h1,a⟩|⟨j,e,h1,a,r⟩
  .exact .inl ⟨MapKept.run_findKey hk h1,a⟩
  .exact .inr ⟨j,e,by have:=MapKept.run_findKey (P:=P) (w:=w) hk h1;simpa using this,a,r⟩
 .subst h;exact MapKept.run_keyThatStays (d:=.string) (key n)
section
variable{P:W9}{w:x3}
def mz{s:Sem x1}(h:∀K:x1->Prop,ad P s w K=K v):cD P s v w:=by
 have h1:ad P s w (λu=>u=v):=(h λu=>u=v).mpr F;obtain⟨u,hu,rfl⟩:=h1;exact hu
variable{k e:p8}{G:x1->Prop}
end
end Go.Vc
namespace Go.Proofs.YtikkpokkcdocoabGreatDoor
open Go Go.Vc Go.RowKit Go.Proofs Go.Proofs.Tryz
set_option maxRecDepth 100000
def gU:Nat->Nat->Λ
 |0,_=>[]
 |n+1,u=>gU n (u / 10)++[48+((u % 10:Nat):Int)]
theorem r4:∀(n u:Nat),(gU n u).length=n
 |0,_=>rfl
 |n+1,u=>by rw[gU,r8,r4 n];rfl
def Nj(n u:Nat):gU (n+2) u=gU n (u / 100)++[48+((u / 10 % 10:Nat):Int),48+((u % 10:Nat):Int)]:=by
 rw[gU,gU,X6];rw[show u / 10 / 10=u / 100 by omega];rfl
theorem Dr:∀(n u:Nat),10 ^ n<=u->u<10 ^ (n+1)->gU (n+1) u=gg u
 |0,u,h1,a=>by
  rw[pi,if_pos (by simpa using a)];simp[gU]
 |n+1,u,h1,a=>by
  have e:(10:Nat) ^ (n+1)=10*10 ^ n:=by rw[Nat.pow_succ,Nat.mul_comm]
  have f:(10:Nat) ^ (n+1+1)=10*10 ^ (n+1):=by rw[Nat.pow_succ,Nat.mul_comm]
  have h:1<=10 ^ n:=Nat.one_le_iff_ne_zero.2 Ξ;rw[pi,if_neg Ω,gU,Dr n (u / 10) Ω Ω]
def gF(a C:Λ)(e u:Nat):Prop:=e<=a.length/\C.length=a.length/\∃t,C.drop e=t/\a=gU e u++t
def gF.two{e:Λ}{u:Nat}(h:gF e C (a+2) u):gF e ((C.set (a+1) (48+((u % 10:Nat):Int))).set a (48+((u / 10 % 10:Nat):Int))) a (u / 100):=by
 obtain⟨h1,f,t,p,q⟩:=h;refine⟨Ω,by simp[f],_,F,?_⟩;rw[q,Nj,X6];congr 1;rw[List.drop_set,if_neg Ω,List.drop_set,if_neg Ω,<-p];have r:a<C.length:=Ω
 have s:a+1<C.length:=Ω
 rw[X5 r,X5 s,U9,Q3];rfl
def gF.one{a:Λ}{u:Nat}(h:gF a C 1 u):C.set 0 (48+((u % 10:Nat):Int))=a:=by
 obtain⟨h1,e,t,f,p⟩:=h;rw[p,gU,gU,List.nil_append,<-f];cases C with
 |nil=>simp at e;omega
 |cons c C=>simp
def gF.zero{a:Λ}{u:Nat}(h:gF a C 0 u):C=a:=by
 obtain⟨h1,p,t,e,f⟩:=h;rw[f,gU,List.nil_append,<-e,List.drop_zero]
def ld:ByteArray:=⟨#[48,48,48,49,48,50,48,51,48,52,48,53,48,54,48,55,48,56,48,57,49,48,49,49,49,50,49,51,49,52,49,53,49,54,49,55,49,56,49,57,50,48,50,49,50,50,50,51,50,52,50,53,50,54,50,55,50,56,50,57,51,48,51,49,51,50,51,51,51,52,51,53,51,54,51,55,51,56,51,57,52,48,52,49,52,50,52,51,52,52,52,53,52,54,52,55,52,56,52,57,53,48,53,49,53,50,53,51,53,52,53,53,53,54,53,55,53,56,53,57,54,48,54,49,54,50,54,51,54,52,54,53,54,54,54,55,54,56,54,57,55,48,55,49,55,50,55,51,55,52,55,53,55,54,55,55,55,56,55,57,56,48,56,49,56,50,56,51,56,52,56,53,56,54,56,55,56,56,56,57,57,48,57,49,57,50,57,51,57,52,57,53,57,54,57,55,57,56,57,57]⟩
def Ds:ld.size=200:=by decide+kernel
def Nk:∀q:Fin 100,ld.data.toList[2*q.val]?=σ (UInt8.ofNat (48+q.val / 10))/\ld.data.toList[2*q.val+1]?=σ (UInt8.ofNat (48+q.val % 10)):=by decide+kernel
def xK{q:Nat}(e:q<100):(∀h,(ld[2*q]'h).toNat=48+q / 10)/\∀h,(ld[2*q+1]'h).toNat=48+q % 10:=by
 obtain⟨h1,f⟩:=Nk ⟨q,e⟩;refine⟨λh=>?_,λh=>?_⟩
 .have a:=(x4.1 h1).2;have:ld[2*q]=UInt8.ofNat (48+q / 10):=a;rw[this,UInt8.toNat_ofNat'];omega
 .have a:=(x4.1 f).2;have:ld[2*q+1]=UInt8.ofNat (48+q % 10):=a;rw[this,UInt8.toNat_ofNat'];omega
def wrap_u32{x:Int}(h1:0<=x)(a:x<4294967296):n9.u32.wrap x=x:=by
 simp[n9.wrap,n9.bits,n9.signed];omega
def lf(w:x3)(g o:Nat)(a C e:Λ):Prop:=ah w g nW (ints .u8 (a++C++e))/\a.length=o
def xL{g o c i:Nat}{a:n9}(e:y=(i:Int))(hi:i<n):
  ad x7 (c9 cM (.slice (σ ⟨g,o,ν⟩) n c) (.int a y)) w K=K (.pointer (σ ⟨g,o+i,ν⟩)):=by
 subst e;rw[fe cM.u cI.i hi (λ_=>rfl),U7]
def xM{g o i:Nat}{x:Int}{a f:Λ}{K:Unit->x3->Prop}(h:lf w g o a C f)(hi:i<C.length)(q:∀J,ai (λr=>r=g) w J->lf J g o a (C.set i x) f->K () J):aF x7 (l9 cI (.pointer (σ ⟨g,o+i,ν⟩)) (.int .u8 x)) w K:=by
 obtain⟨h,rfl⟩:=h;refine bp (g:=g) (o:=a.length+i) cI.i F rfl h Θ λJ s V p=>q J s ⟨?_,F⟩;have e:(ints .u8 (a++C++f)).set (a.length+i) (.int .u8 x)=ints .u8 (a++C.set i x++f):=by
  unfold ints;rw[<-T0,X6,S2 _ _ Ω,Q3,List.set_append_left _ _ hi,X6]
 rw[e]at p;exact p
def ps{g o c q i:Nat}{f t:Int}{h p:Λ}{K:x3->Prop}(z:lf w g o h C p)(Y:C.length=n)(Z:n<=1000)(aa:a<=n)(h1:(a:Int)-y=((i+1:Nat):Int))(F:(a:Int)-f=(i:Int))(G:i+1<n)(H:t=((2*q:Nat):Int))(s:q<100)(I:∀J,ai (λr=>r=g) w J->lf J g o h ((C.set (i+1) (48+((q % 10:Nat):Int))).set i (48+((q / 10:Nat):Int))) p->K J):
  ey w λab=>
  ad x7 (aO .sub aj false true (Δ (a:Int)) (Δ y)) ab λL=>
  ad x7 (aO .sub aj false true (Δ (a:Int)) (Δ f)) ab λA=>
  ad x7 (aO .add qd false true (.int .u32 t) (.int .u32 1)) ab λM=>
  ad x7 (Instr.index cT (.string ld) M) ab λt50=>
  ad x7 (Instr.index cT (.string ld) (.int .u32 t)) ab λB=>
  ad x7 (c9 cM (.slice (σ ⟨g,o,ν⟩) n c) L) ab λt53=>
  aF x7 (l9 cI t53 t50) ab λ(_:Unit)e=>
   (Ext ab e\/cD x7 (Instr.index cT (.string ld) (.int .u32 t)) B e/\cD x7 (aO .sub aj false true (Δ (a:Int)) (Δ f)) A e/\True)/\
  ad x7 (c9 cM (.slice (σ ⟨g,o,ν⟩) n c) A) e λN=>
   aF x7 (l9 cI N B) e λ(_:Unit)x=>K x:=by
 subst H;intro ab E _ _;have O:ai (λr=>r=g) w ab:=E.ac _;have P:lf ab g o h C p:=⟨z.1.ext E,z.2⟩;rw[dI,wrap_i64 Ω Ω,dI,wrap_i64 Ω Ω,aM,wrap_u32 Ω Ω];rw[show((2*q:Nat):Int)+1=((2*q+1:Nat):Int) by omega];have V:=Ds;rw[uM cT.u (by rw[V];omega),uM cT.u (by rw[V];omega)];rw[(xK s).1,(xK s).2,xL h1 G];refine xM P Ω λe Q R=>⟨.inr ⟨mz λK=>?_,mz λK=>?_,trivial⟩,?_⟩
 .rw[uM cT.u (by rw[V];omega),(xK s).1]
 .rw[dI,wrap_i64 Ω Ω]
 .rw[xL F Ω];refine xM R Θ λx S U=>I x ((O.trans Q).trans S) ?_;have W:48+((q % 10:Nat):Int)=((48+q % 10:Nat):Int):=Ω
  have X:48+((q / 10:Nat):Int)=((48+q / 10:Nat):Int):=Ω
  rw[W,X];exact U
def gF.pair{e:Λ}{u q:Nat}(h:gF e C (a+2) u)(f:q=u % 100):gF e ((C.set (a+1) (48+((q % 10:Nat):Int))).set a (48+((q / 10:Nat):Int))) a (u / 100):=by
 have:=h.two;rw[show u % 10=q % 10 by omega,show u / 10 % 10=q / 10 by omega]at this;exact this
def pt{k:n9}{b:Nat}(e:b≠0):ad x7 (aO .rem t cx cy (.int k (a:Int)) (.int k (b:Int))) w K=K (.int k ((a % b:Nat):Int)):=by
 rw[tR Ω,Int.tmod_eq_emod_of_nonneg Ω,Int.natCast_emod]
def u32_quo{b:Nat}(e:b≠0)(f:a<4294967296):ad x7 (aO .quo t cx cy (.int .u32 (a:Int)) (.int .u32 (b:Int))) w K=K (.int .u32 ((a / b:Nat):Int)):=by
 have:=Nat.div_le_self a b;rw[tQ Ω,Int.tdiv_eq_ediv_of_nonneg Ω,<-Int.natCast_ediv];generalize a / b=m at this ⊢;rw[wrap_u32 Ω Ω]
def u64_quo{b:Nat}(e:b≠0)(f:a<18446744073709551616):ad x7 (aO .quo t cx cy (.int .u64 (a:Int)) (.int .u64 (b:Int))) w K=K (.int .u64 ((a / b:Nat):Int)):=by
 have:=Nat.div_le_self a b;rw[tQ Ω,Int.tdiv_eq_ediv_of_nonneg Ω,<-Int.natCast_ediv];generalize a / b=m at this ⊢;rw[wrap_u64 Ω Ω]
def pu{b:Nat}(f:a*b<4294967296):ad x7 (aO .mul t cx cy (.int .u32 (a:Int)) (.int .u32 (b:Int))) w K=K (.int .u32 ((a*b:Nat):Int)):=by
 have e:(a:Int)*(b:Int)=((a*b:Nat):Int):=Ξ
 rw[jf,e];generalize a*b=m at f ⊢;rw[wrap_u32 Ω Ω]
def gF.start{u:Nat}(h:C.length=N):gF (gU N u) C N u:=⟨by rw[r4];omega,by rw[r4,h],[],by rw[List.drop_eq_nil_iff];omega,Ξ⟩
def Nl{g o c u:Nat}{G H:Λ}(aj:lf w g o G C H)(ak:C.length=N)(ay:N<=19)(hu:u<10 ^ N):
  an x7 KQ [.slice (σ ⟨g,o,ν⟩) N c,.int .u64 (u:Int)] w λv J=>v= .tuple #[]/\ai (λr=>r=g) w J/\lf J g o G (gU N u) H:=by
 have x:=r4 N u;refine aA func310 ?_;rw[ii cM.u];refine⟨λal R aa=>∃eX e:Nat,al= .int .u64 (eX:Int)/\R=Δ (e:Int)/\eX<10 ^ e/\e<=N/\ai (λr=>r=g) w aa/\∃I,lf aa g o G I H/\gF (gU N u) I e eX,
  λ_ R _=>(bT R).toNat,⟨u,N,F,F,hu,o4 _,ai.refl _ _,C,aj,gF.start ak⟩,?_⟩
 rintro _ _ aa ⟨eX,e,rfl,rfl,K,z,S,I,U,af⟩;have ad:I.length=N:=by rw[af.2.1,x]
 have az:(10:Nat) ^ e<=10 ^ 19:=S7 Ω Ω;have ao:eX<18446744073709551616:=Ω
 have aC:(8:Int)=((8:Nat):Int):=rfl;rw[cO,am];refine⟨λap=>?_,λap=>?_⟩
 .obtain⟨m,rfl⟩:∃m,e=m+8:=⟨e-8,Ω⟩;have aD:eX % 100000000<100000000:=Nat.mod_lt _ Ω;rw[show U3 .u64 100000000=U3 .u64 ((100000000:Nat):Int)from F,pt Ω,fm fK.u qd.u,wrap_u32 Ω Ω,u64_quo Ω ao];rw[show U3 .u32 10000=U3 .u32 ((10000:Nat):Int)from F,show U3 .u32 100=U3 .u32 ((100:Nat):Int)from F,show U3 .u32 2=U3 .u32 ((2:Nat):Int)from F];rw[u32_quo Ω Ω,pt Ω,u32_quo Ω Ω,pu Ω,pt Ω,pu Ω,u32_quo Ω Ω,pu Ω,pt Ω,pu Ω];refine ps (i:=m+6) (q:=eX % 100000000 % 10000 % 100) U ad Ω z Ω Ω Ω Ω Ω λab A B=>?_;have h:=af.pair (q:=eX % 100000000 % 10000 % 100) Ω;have L:=h.2.1.trans x;refine ps (i:=m+4) (q:=eX % 100000000 % 10000 / 100) B L Ω z Ω Ω Ω Ω Ω λE s p=>?_;have f:=gF.pair (q:=eX % 100000000 % 10000 / 100) h Ω;have ae:=f.2.1.trans x;refine ps (i:=m+2) (q:=eX % 100000000 / 10000 % 100) p ae Ω z Ω Ω Ω Ω Ω λaq V P=>?_;have ag:=gF.pair (q:=eX % 100000000 / 10000 % 100) f Ω;have au:=ag.2.1.trans x;refine ps (i:=m) (q:=eX % 100000000 / 10000 / 100) P au Ω z Ω Ω Ω Ω Ω λaE av aw=>?_;have ah:=gF.pair (q:=eX % 100000000 / 10000 / 100) ag Ω;rw[dI,wrap_i64 Ω Ω];refine⟨⟨eX / 100000000,m,F,by congr 1;omega,?_,Ω,(((S.trans A).trans s).trans V).trans av,_,aw,?_⟩,by simp only[bT];omega⟩
  .rw[Nat.pow_add]at K;exact Nat.div_lt_of_lt_mul (by rw[Nat.mul_comm];exact K)
  .rw[show eX / 100 / 100 / 100 / 100=eX / 100000000 by omega]at ah;exact ah
 .have aF:e<8:=Ω
  have aG:(10:Nat) ^ e<=10 ^ 7:=S7 Ω Ω;rw[fm fK.u qd.u,wrap_u32 Ω Ω];refine iC (λa b ab=>∃fb m:Nat,a=Δ (m:Int)/\b= .int .u32 (fb:Int)/\fb<10 ^ m/\m<4/\m<=N/\ai (λr=>r=g) w ab/\∃Q,lf ab g o G Q H/\gF (gU N u) Q m fb) ?_ ?_
  rotate_left
  .intro aB M;rw[cO,am];refine⟨λW=>?_,λW=>M _ _ _ ⟨eX,e,F,F,K,Ω,z,S,I,U,af⟩⟩;obtain⟨m,rfl⟩:∃m,e=m+4:=⟨e-4,Ω⟩;rw[show U3 .u32 10000=U3 .u32 ((10000:Nat):Int)from F,show U3 .u32 100=U3 .u32 ((100:Nat):Int)from F,show U3 .u32 2=U3 .u32 ((2:Nat):Int)from F];rw[pt Ω,u32_quo Ω Ω,u32_quo Ω Ω,pu Ω,pt Ω,pu Ω];refine ps (i:=m+2) (q:=eX % 10000 % 100) U ad Ω z Ω Ω Ω Ω Ω λab A B=>?_;have h:=af.pair (q:=eX % 10000 % 100) Ω;have L:=h.2.1.trans x;refine ps (i:=m) (q:=eX % 10000 / 100) B L Ω z Ω Ω Ω Ω Ω λE s p=>?_;have f:=gF.pair (q:=eX % 10000 / 100) h Ω;rw[dI,wrap_i64 Ω Ω];refine M _ _ _ ⟨eX / 10000,m,by congr 1;omega,F,?_,Ω,Ω,(S.trans A).trans s,_,p,?_⟩
   .rw[Nat.pow_add]at K;exact Nat.div_lt_of_lt_mul (by rw[Nat.mul_comm];exact K)
   .rw[show eX / 100 / 100=eX / 10000 by omega]at f;exact f
  rintro _ _ ab ⟨fb,m,rfl,rfl,X,aH,Y,A,Q,B,h⟩;have L:=h.2.1.trans x;have aI:(10:Nat) ^ m<=10 ^ 3:=S7 Ω Ω;refine iC (λa b E=>∃O m:Nat,a=Δ (m:Int)/\b= .int .u32 (O:Int)/\O<10 ^ m/\m<2/\m<=N/\ai (λr=>r=g) w E/\∃Z,lf E g o G Z H/\gF (gU N u) Z m O) ?_ ?_
  rotate_left
  .intro aB M;rw[cO,am];refine⟨λW=>?_,λW=>M _ _ _ ⟨fb,m,F,F,X,Ω,Y,A,Q,B,h⟩⟩;obtain⟨m,rfl⟩:∃cm,m=cm+2:=⟨m-2,Ω⟩;rw[show U3 .u32 100=U3 .u32 ((100:Nat):Int)from F,show U3 .u32 2=U3 .u32 ((2:Nat):Int)from F];rw[pt Ω,pu Ω,u32_quo Ω Ω];refine ps (i:=m) (q:=fb % 100) B L Ω Y Ω Ω Ω Ω Ω λE s p=>?_;have f:=h.pair F;rw[dI,wrap_i64 Ω Ω];refine M _ _ _ ⟨fb / 100,m,by congr 1;omega,F,?_,Ω,Ω,A.trans s,_,p,f⟩;rw[Nat.pow_add]at X;exact Nat.div_lt_of_lt_mul (by rw[Nat.mul_comm];exact X)
  rintro _ _ E ⟨O,m,rfl,rfl,ac,aJ,Y,s,Z,p,f⟩;have ae:=f.2.1.trans x;rw[bL,am];refine⟨λax=>?_,λax=>?_⟩
  .obtain rfl:m=1:=Ω
   have ac:O<10:=by simpa using ac
   rw[aM,wrap_u32 Ω Ω,fm qd.u cI.u,wrap_u8 Ω Ω,xL (y:=0) (i:=0) F Ω];refine xM p Ω λaq V P=>?_;have:=f.one;rw[Nat.mod_eq_of_lt ac]at this;rw[this]at P;exact⟨F,s.trans V,P⟩
  .obtain rfl:m=0:=Ω
   rw[f.zero]at p;exact⟨F,s,p⟩
def r5:Λ:=[1,10,100,1000,10000,100000,1000000,10000000,100000000,1000000000,10000000000,100000000000,1000000000000,10000000000000,100000000000000,1000000000000000,10000000000000000,100000000000000000,1000000000000000000,10000000000000000000]
def fg(w:x3):Prop:=w.rangeAt 1 0 (ints .u64 r5)
def fg.ext(h:fg w)(U:Ext w J):fg J:=o1 U h
def Nn:∀k:Nat,k<20->r5[k]?=σ (((10 ^ k:Nat)):Int):=Φ
def Dt{s:Nat}(h:2 ^ s<=n):ek n=s+ek (n / 2 ^ s):=by
 have V:=Nat.two_pow_pos s;have h1:n / 2 ^ s≠0:=by have:=Nat.div_pos h V;omega
 have f:n≠0:=Ω
 unfold ek;rw[if_neg f,if_neg h1];have e:Nat.log2 n=Nat.log2 (n / 2 ^ s)+s:=by
  refine(Nat.log2_eq_iff f).2 ⟨?_,?_⟩
  .rw[Nat.pow_add];have:=V1 (2 ^ s) (Nat.log2_self_le h1);have:=Nat.div_mul_le_self n (2 ^ s);omega
  .have p:=Nat.lt_log2_self (n:=n / 2 ^ s);rw[show Nat.log2 (n / 2 ^ s)+s+1=(Nat.log2 (n / 2 ^ s)+1)+s by omega,Nat.pow_add];have:=V1 (2 ^ s) (show n / 2 ^ s+1<=2 ^ (Nat.log2 (n / 2 ^ s)+1) by omega);have q:=Nat.lt_div_mul_add V (a:=n);rw[U8]at this;omega
 omega
def r6:ByteArray:=⟨#[0,1,2,2,3,3,3,3,4,4,4,4,4,4,4,4,5,5,5,5,5,5,5,5,5,5,5,5,5,5,5,5,6,6,6,6,6,6,6,6,6,6,6,6,6,6,6,6,6,6,6,6,6,6,6,6,6,6,6,6,6,6,6,6,7,7,7,7,7,7,7,7,7,7,7,7,7,7,7,7,7,7,7,7,7,7,7,7,7,7,7,7,7,7,7,7,7,7,7,7,7,7,7,7,7,7,7,7,7,7,7,7,7,7,7,7,7,7,7,7,7,7,7,7,7,7,7,7,8,8,8,8,8,8,8,8,8,8,8,8,8,8,8,8,8,8,8,8,8,8,8,8,8,8,8,8,8,8,8,8,8,8,8,8,8,8,8,8,8,8,8,8,8,8,8,8,8,8,8,8,8,8,8,8,8,8,8,8,8,8,8,8,8,8,8,8,8,8,8,8,8,8,8,8,8,8,8,8,8,8,8,8,8,8,8,8,8,8,8,8,8,8,8,8,8,8,8,8,8,8,8,8,8,8,8,8,8,8,8,8,8,8,8,8,8,8,8,8,8,8,8,8,8,8,8,8]⟩
def No:r6.size=256:=by decide+kernel
def Np:∀q:Fin 256,r6.data.toList[q.val]?=σ (UInt8.ofNat (ek q.val)):=by decide+kernel
def Nq{q:Nat}(a:q<256):∀h,(r6[q]'h).toNat=ek q:=λh=>by
 have h1:=Np ⟨q,a⟩;have e:=(x4.1 h1).2;have:r6[q]=UInt8.ofNat (ek q):=e;have f:=Dq a;rw[this,UInt8.toNat_ofNat'];omega
def Nr(E:n<18446744073709551616):an x7 Jv [.int .u64 (n:Int)] w λv J=>v=Δ (ek n:Int)/\Ext w J:=by
 refine aA func172 ?_;have step:∀{s x m:Nat}{aB:x1->x1->x3->Prop}{y c:Int},s<64->x<18446744073709551616->m+ek x=ek n->m<=64->y=(2 ^ s:Nat)->c=(s:Int)->2 ^ s<=18446744073709551615->(∀a cm:Nat,a<2 ^ s\/(a=x / 2 ^ s/\cm=m+s)->a<=x->cm+ek a=ek n->cm<=m+s->aB (.int .u64 (a:Int)) (Δ (cm:Int)) w)->
   ad x7 (aO .geq fK false true (.int .u64 (x:Int)) (.int .u64 y)) w λt4=>
    Split t4 (ad x7 (aO .shr fK false true (.int .u64 (x:Int)) (.int .u64 c)) w λr=>ad x7 (aO .add aj false true (Δ (m:Int)) (Δ c)) w λz=>aB r z w) (aB (.int .u64 (x:Int)) (Δ (m:Int)) w):=by
  intro s x m aB y c V U hm G A B p e;subst A B;rw[cO,am];refine⟨λh=>?_,λh=>e x m (.inl Ω) (o4 _) hm Ω⟩;rw[mu V,aM,wrap_i64 Ω Ω];have:=Dt (n:=x) (s:=s) Ω;have:=e (x / 2 ^ s) (m+s) (.inr ⟨F,F⟩) (Nat.div_le_self _ _) Ω Ω;exact this
 refine iC (λx m aa=>w=aa/\∃a cm:Nat,x= .int .u64 (a:Int)/\m=Δ (cm:Int)/\a<4294967296/\cm+ek a=ek n/\cm<=32) ?_ ?_
 rotate_left
 .intro aB e;rw[cO,am];refine⟨λh=>?_,λh=>e _ _ _ ⟨F,n,0,F,F,Ω,Ω,Ω⟩⟩;rw[show U3 .u64 32=U3 .u64 ((32:Nat):Int)from F,mu Ω];have:=Dt (n:=n) (s:=32) Ω;exact e _ _ _ ⟨F,n / 2 ^ 32,32,F,F,Ω,Ω,Ω⟩
 rintro _ _ _ ⟨rfl,x,m,rfl,rfl,U,hm,q⟩;refine iC (λx m aa=>w=aa/\∃a cm:Nat,x= .int .u64 (a:Int)/\m=Δ (cm:Int)/\a<65536/\cm+ek a=ek n/\cm<=48) ?_ ?_
 rotate_left
 .intro aB e;refine step (s:=16) Ω Ω hm Ω Ω Ω Ω λa cm h1 p f C=>e _ _ _ ⟨F,a,cm,F,F,?_,f,Ω⟩;rcases h1 with h1|⟨h1,_⟩<;>omega
 rintro _ _ _ ⟨rfl,x,m,rfl,rfl,U,hm,q⟩;refine iC (λx m aa=>w=aa/\∃a cm:Nat,x= .int .u64 (a:Int)/\m=Δ (cm:Int)/\a<256/\cm+ek a=ek n/\cm<=56) ?_ ?_
 rotate_left
 .intro aB e;refine step (s:=8) Ω Ω hm Ω Ω Ω Ω λa cm h1 p f C=>e _ _ _ ⟨F,a,cm,F,F,?_,f,Ω⟩;rcases h1 with h1|⟨h1,_⟩<;>omega
 rintro _ _ _ ⟨rfl,x,m,rfl,rfl,U,hm,q⟩;have V:=No;have H:=Dq U;rw[fm fK.u cI.u,wrap_u8 Ω Ω];refine(uM (s:=r6) cT.u (by rw[V];omega)).mpr ?_;rw[Nq U,fm cI.u aj.u,wrap_i64 Ω Ω,aM,wrap_i64 Ω Ω];exact⟨by congr 1;omega,Ext.refl _⟩
def Du{k:n9}(f:n<64):ad x7 (aO .shr t cx cy (Δ (a:Int)) (.int k (n:Int))) w K=K (Δ ((a / 2 ^ n:Nat):Int)):=ad.of λJ _=>by
 have e:(a:Int).fdiv (2 ^ min n W5.bits)=((a / 2 ^ n:Nat):Int):=by
  have:min n W5.bits=n:=Nat.min_eq_left (by show n<=64;omega);rw[this,Int.fdiv_eq_ediv_of_nonneg _ (by exact Int.le_of_lt (Int.pow_pos Ω))];simp
 simp only[aO,eqGuard,binOp,Op.shift,u7,e];rfl
def Ns:∀L:Fin 64,7<=L.val->2 ^ L.val<=10 ^ (L.val*78913 / 262144+1)/\10 ^ (L.val*78913 / 262144)<=10*2 ^ (L.val-1)/\1<=L.val*78913 / 262144/\L.val*78913 / 262144<19:=by decide+kernel
def Nt{d:Nat}(z:fg w)(h1:100<=d)(G:d<9223372036854775808):an x7 KP [.int .u64 (d:Int)] w λv J=>Ext w J/\∃n:Nat,v=Δ ((n+1:Nat):Int)/\n<19/\10 ^ n<=d/\d<10 ^ (n+1):=by
 have p:d≠0:=Ω
 have q:ek d=Nat.log2 d+1:=by unfold ek;rw[if_neg p]
 have H:2 ^ (ek d-1)<=d:=by rw[q];exact Nat.log2_self_le p
 have:d<2 ^ ek d:=by rw[q];exact Nat.lt_log2_self
 have A:7<=ek d:=by
  by_cases h:7<=ek d
  .exact h
  .have:2 ^ ek d<=2 ^ 6:=S7 Ω Ω;omega
 have B:ek d<64:=by
  by_cases h:ek d<64
  .exact h
  .have:2 ^ 63<=2 ^ (ek d-1):=S7 Ω Ω;omega
 obtain⟨C,r,t3,t4⟩:=Ns ⟨ek d,B⟩ A;simp only at C r t3 t4;refine aA func309 ?_;refine(Nr Ω).mono ?_;rintro _ aa _ ⟨rfl,a⟩;generalize ek d=L at*;refine an.mono (K:=λv ab=>v=Δ ((L*78913 / 262144:Nat):Int)/\Ext aa ab) ?_ ?_
 .refine aA func330 ?_;rw[jf,wrap_i64 Ω Ω,show U3 .u64 18=U3 .u64 ((18:Nat):Int)from F,show(L:Int)*78913=((L*78913:Nat):Int) by omega,Du Ω];exact⟨F,Ext.refl _⟩
 rintro _ ab _ ⟨rfl,e⟩;generalize L*78913 / 262144=t at*;have E:=Nn t Ω;rw[tS (t:=tP) tP.u fK.i Ω,ax Ψ (by rw[U7];exact((z.ext a).ext e) _ _ (lL E)),cO];refine an.mono (K:=λv x=>v=Δ ((if 10 ^ t<=d then 1 else 0:Nat):Int)/\Ext ab x) ?_ ?_
 .refine aA func331 ?_;rw[am];refine⟨λh=>⟨by rw[if_pos Ω];rfl,Ext.refl _⟩,λh=>⟨by rw[if_neg Ω];rfl,Ext.refl _⟩⟩
 rintro _ x _ ⟨rfl,y⟩;rw[aM];by_cases f:10 ^ t<=d
 .rw[if_pos f,wrap_i64 Ω Ω];exact⟨(a.trans e).trans y,t,by congr 1,t4,f,Ω⟩
 .rw[if_neg f,wrap_i64 Ω Ω];obtain⟨s,rfl⟩:∃s,t=s+1:=⟨t-1,Ω⟩;rw[Nat.pow_succ]at r;exact⟨(a.trans e).trans y,s,by congr 1,Ω,Ω,Ω⟩
def Dv{k a:n9}{x:Int}{i:Nat}{s:ByteArray}(U:x=(i:Int))(e:y=(j:Int))(f:x7.underlying t=σ .string)(p:i<=j)(q:j<=s.size):
  ad x7 (U5 t (.string s) (σ (.int k x)) (σ (.int a y)) ν) w K=K (.string (s.extract i j)):=ad.of λJ _=>by
 subst U e;have r:=tT (P:=x7) J (sl:=false) (n:=s.size) (c:=s.size) (low:=σ (.int k (i:Int))) (high:=σ (.int a (j:Int))) (mx:=ν) (l:=i) (h:=j) (m:=s.size) ⟨k,F⟩ ⟨a,F⟩ ff p q (o4 _);simp[U5,Instr.slice,run_underlying f,r]
def Nu:∀q:Fin 100,ld.extract (2*q.val) (2*q.val+2)=strOfNums [48+((q.val / 10:Nat):Int),48+((q.val % 10:Nat):Int)]:=by decide+kernel
def Dw:ByteArray:=⟨#[48,49,50,51,52,53,54,55,56,57,97,98,99,100,101,102,103,104,105,106,107,108,109,110,111,112,113,114,115,116,117,118,119,120,121,122]⟩
def Nv:∀q:Fin 10,Dw.extract q.val (q.val+1)=strOfNums [48+(q.val:Int)]:=by decide+kernel
def Dx(h:n<10):gg n=[48+(n:Int)]:=by rw[pi,if_pos h,Nat.mod_eq_of_lt h];rfl
def Nw(h1:10<=n)(a:n<100):gg n=[48+((n / 10:Nat):Int),48+((n % 10:Nat):Int)]:=by
 rw[pi,if_neg Ω,Dx Ω];rfl
def Nx(a:n<100):an x7 KO [Δ (n:Int)] w λv J=>v=bW (gg n)/\Ext w J:=by
 refine aA func308 ?_;rw[aP,am];refine⟨λh=>?_,λh=>?_⟩
 .rw[aM,wrap_i64 Ω Ω];refine(Dv (s:=Dw) (i:=n) (j:=n+1) F Ω cT.u Ω (by show n+1<=36;omega)).mpr ?_;rw[Nv ⟨n,Ω⟩,Dx Ω];exact⟨F,Ext.refl _⟩
 .rw[jf,wrap_i64 Ω Ω,jf,wrap_i64 Ω Ω,aM,wrap_i64 Ω Ω];refine(Dv (s:=ld) (i:=2*n) (j:=2*n+2) Ω Ω cT.u Ω (by rw[Ds];omega)).mpr ?_;rw[Nu ⟨n,a⟩,Nw Ω a];exact⟨F,Ext.refl _⟩
def Ny{g:Nat}{e f:Λ}(a:lf w g 1 e C f)(h:C.length<=23):aK .u8 w (.slice (σ ⟨g,1,ν⟩) C.length 23) C:=by
 obtain⟨a,p⟩:=a;refine⟨Ξ,g,1,_,23,F,h,by simp[maxLen],λ_=>rfl,λj v ae=>?_⟩;have q:j<C.length:=by have:=(x4.1 ae).1;simpa using this
 refine a.cell ?_;rw[ints,Z9,Z9,X0 Θ,X1 Θ,r9,p,Q3];exact ae
def Dy{g m:Nat}(a:y=((m+2:Nat):Int))(hm:m<=22):
  ad x7 (U5 nW (Γ g) (σ (Δ 1)) (σ (Δ y)) ν) w K=K (.slice (σ ⟨g,1,ν⟩) (m+1) 23):=by
 subst a;have:=tU (w:=w) (b:=g) (o:=0) (low:=σ (Δ 1)) (high:=σ (Δ ((m+2:Nat):Int))) (mx:=ν) (l:=1) (h:=m+2) (m:=24) (K:=K) nW.u cI.i ⟨_,F⟩ ⟨_,F⟩ ff Ω Ω Ω;rw[this,if_neg Ω];rfl
def Nz(s:fg w)(x:n<9223372036854775808):an x7 KJ [Δ (n:Int),Δ 10] w λv J=>v=bW (gg n)/\Ext w J:=by
 refine aA func296 ?_;rw[bf];refine(am).mpr ⟨λ_=>?_,λh=>absurd F h⟩;refine aV (λv aa=>w=aa/\v= .bool (decide (n<100))) ?_ ?_
 rotate_left
 .intro aB a;rw[nf,am];refine⟨λ_=>?_,λh=>Ω⟩;rw[aP];exact a _ _ ⟨F,by congr 1;rw[U6,decide_eq_true_eq,decide_eq_true_eq];omega⟩
 rintro _ _ ⟨rfl,rfl⟩;rw[am];refine⟨λh=>?_,λh=>?_⟩
 .exact (Nx h).mono λ_ _ _ h=>h
 refine bu nW.i λg aa G f y=>?_;rw[fm av.u fK.u,wrap_u64 Ω Ω];refine aV (λv ab=>aa=ab/\v= .int .u64 (n:Int)) ?_ ?_
 rotate_left
 .intro aB a;rw[aP,am];exact⟨λh=>Ω,λ_=>a _ _ ⟨F,F⟩⟩
 rintro _ _ ⟨rfl,rfl⟩;refine(Nt (s.ext f) Ω x).mono ?_;rintro _ ab _ ⟨p,m,rfl,hm,z,q⟩;rw[aM,wrap_i64 Ω Ω];rw[Dy (m:=m) Ω Ω];have A:lf ab g 1 [0] (o8 (m+1) 0) (o8 (22-m) 0):=by
  refine⟨?_,F⟩;have e:[0]++o8 (m+1) (0:Int)++o8 (22-m) 0=o8 24 0:=by
   rw[show[(0:Int)]=o8 1 0 from F,List.replicate_append_replicate,List.replicate_append_replicate];congr 1;omega
  rw[e];exact y.ext p
 refine(Nl (N:=m+1) A Ξ Ω q).mono ?_;rintro _ H _ ⟨rfl,B,C⟩;refine ca Ω ?_;rw[aM,wrap_i64 Ω Ω];rw[Dy (m:=m) Ω Ω];have E:=r4 (m+1) n;have V:=Ny C Ω;rw[E]at V;rw[xd cM.u cI.u cT.u V,Dr m n z q];refine⟨F,(f.trans p).then B λr I he=>?_⟩;have he:r=g:=he;omega
def NA(a:fg w)(e:n<9223372036854775808):an x7 wP [Δ (n:Int)] w λv J=>v=bW (gg n)/\Ext w J:=by
 refine aA func233 ?_;refine an.mono (K:=λv J=>v=bW (gg n)/\Ext w J) ?_ (λ_ _ _ h=>h);refine aA func272 ?_;exact(Nz a e).mono λ_ _ _ h=>h
def fg.ac(h:fg w)(U:ai S w J)(a:¬S 1):fg J:=kw U a h
def dq(w:x3)(g gs:Nat)(A:ak)(B:ak)(a:Bool)(s:Option aG):Prop:=match s with
 |some s=>ed w g gs A B s a
 |none=>fa w g gs A B
def gh.of{g:Nat}{A:ak}{B:ak}{a:Bool}{s:Option aG}(h:gh w g gs A B a s J):ai (bH g gs A) w J/\dq J g gs A B a s:=h
def gh.mk{g:Nat}{A:ak}{B:ak}{a:Bool}{s:Option aG}(h:ai (bH g gs A) w J)(e:dq J g gs A B a s):gh w g gs A B a s J:=⟨h,e⟩
def dq.ac{g:Nat}{A:ak}{B:ak}{a:Bool}{s:Option aG}(h:dq w g gs A B a s)(U:ai S w J)(e:∀r,bH g gs A r->¬S r)(f:∀r,cQ g gs A B r->¬S r):dq J g gs A B a s:=by
 cases s with
 |none=>exact fa.ac h U e f
 |some s=>exact ed.ac h U e f
def dq.ext{g:Nat}{A:ak}{B:ak}{a:Bool}{s:Option aG}(h:dq w g gs A B a s)(U:Ext w J):dq J g gs A B a s:=h.ac (U.ac λ_=>False) (λ_ _ h=>h) λ_ _ h=>h
def dq.side{g:Nat}{A:ak}{B:ak}{a:Bool}{s:Option aG}(h:dq w g gs A B a s):mw w g gs A B:=by
 cases s with
 |none=>exact h.1
 |some s=>exact h.1
def bg(lo hi:Int)(s:Option aG):Option (Int×aG):=s.bind (bi lo hi)
def nt{g:Nat}{A:ak}{B:ak}{s:Option aG}{a:Bool}(h:dq w g gs A B a s):an x7 oT [Γ g,Δ lo,Δ hi] w λv J=>gh w g gs A B a ((bg lo hi s).map (·.2)) J/\∃n at_:Int,v= .tuple #[Δ n,Δ at_]/\(∀q,bg lo hi s=σ q->n=q.1)/\(bg lo hi s=ν->n=0):=by
 cases s with
 |none=>
  refine(Ms h).mono ?_;rintro _ aa _ ⟨U,rfl⟩;exact⟨⟨U.ac _,fa.ext h U⟩,0,0,F,λq h=>(by cases h),λ_=>rfl⟩
 |some s=>exact xv h
def qE{g:Nat}{A:ak}{B:ak}{s:Option aG}{a:Bool}(h:dq w g gs A B a s):an x7 mm [Γ g] w λv J=>v= .bool s.isSome/\Ext w J:=by
 cases s with
 |none=>exact po h
 |some s=>exact qv h
def NB{g:Nat}{A:ak}{B:ak}{s:Option aG}{a:Bool}{e:Int}(h:dq w g gs A B a s)(he:e≠0):an x7 oU [Γ g,Δ e,Δ at_] w λ_ J=>gh w g gs A B a ν J:=by
 cases s with
 |none=>
  refine(Mq h).mono ?_;rintro _ aa _ U;exact⟨U.ac _,fa.ext h U⟩
 |some s=>
  refine(uz h he).mono ?_;rintro _ aa _ ⟨f,p⟩;exact⟨f.mono λr _ h=>.inl h,p⟩
def r7{g:Nat}{A:ak}{B:ak}{s:Option aG}{a b:Bool}(h:dq w g gs A B a s):an x7 rr [Γ g,.bool b,Δ at_] w λ_ J=>gh w g gs A B a (s.map (bc b)) J:=by
 cases s with
 |none=>
  refine(CW h).mono ?_;rintro _ aa _ U;exact⟨U.ac _,fa.ext h U⟩
 |some s=>
  refine(uA h).mono ?_;rintro _ aa _ ⟨e,f⟩;exact⟨e.mono λr _ h=>.inl h,f⟩
def og{n:Int}{s:Option aG}{s':aG}(h:bg lo hi s=σ (n,s')):lo<=n/\n<=hi:=by
 cases s with
 |none=>cases h
 |some s=>exact(jj h).1
def gi(a acc:Λ)(s:Option aG):Option (Λ×aG):=s.bind (kE a acc)
def Dz{a acc:Λ}{s:Option aG}:gi (k::a) acc s=match bg 0 (k-1) s with
  |none=>ν
  |some (v,s)=>kE a (acc++[v]) s:=by
 cases s with
 |none=>rfl
 |some s=>
  show kE (k::a) acc s=_;rw[kE];show _=match bi 0 (k-1) s with|none=>ν|some (v,s)=>kE a (acc++[v]) s
  cases bi 0 (k-1) s<;>rfl
theorem DA:∀(t:Λ),(∀x∈t,0<=x/\x<=aw)->(eF t).length<=20*t.length
 |[],_=>by simp[eF]
 |x::t,h=>by
  have:=DA t λy a=>h y (.tail _ a);have U:=h x (.head _);have:=xg 19 x.toNat (by unfold aw at U;omega) Ω;have e:eF (x::t)=gg x.toNat++[32]++eF t:=by simp[eF]
  rw[e];simp only[r8,b9,List.length_nil];omega
def NC{g ap:Nat}{A B:ak}{s:Option aG}{R:Bool}{af:x1->x3->Prop}(h:dq w g gs A B R s)(ag:aK .i64 w sv sizes)(aJ:∀r,leads sv r->¬bH g gs A r/\r≠ap)(aP:∀z∈sizes,1<=z/\z<=aw)(bO:sizes.length<=100001)(aQ:fg w)(h1:cQ g gs A B 1)(al:ah w ap ei [.slice ν 0 0,Δ 0])(am:¬bH g gs A ap)(ao:¬B ap)(aq:∀t J aN gt,t.length=sizes.length->(∀x∈t,0<=x/\x<=aw)->ai (λr=>bH g gs A r\/r=ap) w J->ah J ap ei [aN,Δ 0]->ay .i64 av J gt aN t->w.heap.size<=gt->
   dq J g gs A B R ((gi sizes [] s).map (·.2))->(∀q,gi sizes [] s=σ q->t=q.1)->af (bW (eF t)) J):
  bV (.string ⟨#[]⟩) (Δ 0) w λkey S y aR=>
   ad x7 (aO .lss aj false false S (Δ (sizes.length:Int))) y λaS=>
   Split aS (ad x7 (c9 az sv S) y λaT=>
   ad x7 (u5 av aT) y λaU=>
   ad x7 (aO .sub av false true aU (Δ 1)) y λaV=>
   an x7 oT [Γ g,(Δ 0),aV] y λau E=>
   ad x7 (Y4 au 0) E λax=>
   ad x7 (Y4 au 1) E λbP=>
   ad x7 (u6 ei (Γ ap) 0) E λaX=>
   ad x7 (u5 az aX) E λaY=>
   aF x7 (Y5 az 1 #[(0,ax)]) E λaZ a1=>
   aF x7 (Z5 #[az,az] az #[aY,aZ]) a1 λa2 aA=>
   ad x7 (u6 ei (Γ ap) 0) aA λa6=>
   aF x7 (l9 az a6 a2) aA λ(_:Unit)a7=>
   an x7 wP [ax] a7 λa8 I=>
   ad x7 (aO .add cT false true a8 (.string ⟨#[32]⟩)) I λba=>
   ad x7 (aO .add cT false false key ba) I λbb=>
   ad x7 (aO .add aj false true S (Δ 1)) I λbc=>
   aR bb bc I) (af key y):=by
 have bQ:=al.lt;have bd:=h.side;obtain⟨bR,bS,bT,bf,bh⟩:=bd;refine bV.range sizes.length (λj key aa=>∃t aN gt s1,key=bW (eF t)/\t.length=j/\(∀x∈t,0<=x/\x<=aw)/\ai (λr=>bH g gs A r\/r=ap) w aa/\ah aa ap ei [aN,Δ 0]/\ay .i64 av aa gt aN t/\w.heap.size<=gt/\
  dq aa g gs A B R s1/\gi sizes [] s=gi (sizes.drop j) t s1) ag.le ⟨[],_,w.heap.size,s,F,F,λx U=>(by cases U),ai.refl _ _,al,ay.nil _ _ _ _,o4 _,h,F⟩ ?_ ?_
 rotate_left
 .rintro _ aa bi ⟨t,aN,gt,s1,rfl,K,G,C,L,M,V,N,he⟩;refine ca Ω ?_;rw[List.drop_length]at he;cases s1 with
  |none=>
   have he:=he;exact aq t aa aN gt K G C L M V (by rw[he];exact N) (λq e=>by rw[he]at e;cases e)
  |some s1=>
   have he:=he;exact aq t aa aN gt K G C L M V (by rw[he];exact N) (λq e=>by rw[he]at e;cases e;rfl)
 rintro j _ aa bi aB ⟨t,aN,gt,s1,rfl,K,G,C,L,M,V,N,he⟩ bj;obtain⟨z,W⟩:=aI (l:=sizes) aB;have bk:=aP z (x5 W);have bU:z<=4611686018427387904:=bk.2;have bl:=ji ag C λr f a n c ae bm=>by
  have:=aJ r ⟨a,n,c,ae,bm⟩;exact f.elim this.1 this.2
 have gT:∀r,bH g gs A r->r<w.heap.size:=bf;refine bB Ω ?_;rw[be az.u av.i Ψ bl W,dI,wrap_i64 Ω Ω];refine(nt N).mono ?_;rintro _ ab _ ⟨bn,n,at_,rfl,aC,bo⟩;obtain⟨O,bs⟩:=bn.of;have aD:0<=n/\n<=aw:=by
  cases e:bg 0 (z-1) s1 with
  |none=>rw[bo e];exact⟨Ω,by unfold aw;omega⟩
  |some q=>
   rw[aC q e];have:=og e;exact⟨this.1,by unfold aw;omega⟩
 rw[bq,br];have aE:=L.ac O am;have bt:=M.ac O λ_ bu=>by have:=gT _ bu;omega
 rw[aL ei.p 0 aE F];refine eE az.u av.i F λa ga bw bX H bx=>?_;refine kA az.u av.i F (bt.ext H) bx.ls Θ Θ λbz bA bC bY X P=>?_;have bZ:=C.size;have b0:=O.size;have z3:=H.size;have z4:=P.size;rw[aW ei.p F];have bD:=(aE.ext H).ac P (λhe=>by have he:=he;omega);refine bp (g:=ap) (o:=0) az.i X.ls.cells.1 X.ls.cells.2 bD Ξ λbE Y b1 Z=>?_;have Z:=Z;have bF:ai (λr=>bH g gs A r\/r=ap) w bw:=(C.trans (O.mono λr _ h=>.inl h)).trans (H.ac _);have bG:ai (λr=>bH g gs A r\/r=ap) w bC:=iM bF P λr f he=>by have he:r=gt:=he;omega
 have aH:ai (λr=>bH g gs A r\/r=ap) w bE:=bG.trans (Y.mono λr _ h=>.inr h);have bI:¬(λr=>bH g gs A r\/r=ap) 1:=λh=>h.elim h1.1 λh=>ao (h▸h1.2);obtain⟨m,rfl⟩:∃m:Nat,n=(m:Int):=⟨n.toNat,Ω⟩;unfold aw at aD;refine(NA (aQ.ac aH bI) Ω).mono ?_;rintro _ b2 _ ⟨rfl,Q⟩;have b3:=xg 19 m Ω Ω;have b4:=DA t G;rw[show(ByteArray.mk #[32])=strOfNums [32]from F,xb Θ,xb Θ,aM];refine bj _ _ ⟨t++[(m:Int)],bz,bA,(bg 0 (z-1) s1).map (·.2),?_,by simp[K],λx U=>?_,aH.trans (Q.ac _),Z.ext Q,(X.ac Y (λ_ he=>by have he:=he;omega)).ext Q,Ω,?_,?_⟩
 .rw[LK,u7]
 .rcases p9.1 U with U|U
  .exact G x U
  .rw[j5.1 U];exact aD
 .refine dq.ext ?_ Q;have bJ:=bs.ext H;have bK:∀r,bH g gs A r->¬(λr=>r=gt) r:=λr f he=>by have:=gT r f;have he:r=gt:=he;omega
  have bL:∀r,cQ g gs A B r->¬(λr=>r=gt) r:=λr f he=>by have:=bh r f.2;have he:r=gt:=he;omega
  have bM:∀r,bH g gs A r->¬(λr=>r=ap) r:=λr f he=>by have he:r=ap:=he;exact am (he▸f)
  have bN:∀r,cQ g gs A B r->¬(λr=>r=ap) r:=λr f he=>by have he:r=ap:=he;exact ao (he▸f.2)
  exact(bJ.ac P bK bL).ac Y bM bN
 .rw[he,X5 aB,show sizes[j]=z from(x4.1 W).2,Dz];cases e:bg 0 (z-1) s1 with
  |none=>rfl
  |some q=>
   rw[aC q e];rfl
def dU(s:aG):Prop:=s.big=false->s.told<=16384
def lg(n:Int)(s:aG):aG:=bc (decide (16384<min (s.told+n) aw)) {s with told:=min (s.told+n) aw}
def ND(n:Int)(s:aG):dU (lg n s):=λh=>by
 have h:(s.big||decide (16384<min (s.told+n) aw))=false:=h;have:=of_decide_eq_false (R5.1 h).2;show min (s.told+n) aw<=16384;omega
def NE{g:Nat}{A B:ak}{s:Option aG}{C:Bool}{n:Int}{K:x3->Prop}(h:dq w g gs A B C s)(P:∀t,s=σ t->0<=n/\n<=aw/\dU t)(L:∀J,ai (bH g gs A) w J->dq J g gs A B C (s.map (lg n))->K J):
  ad x7 (bP (Γ g)) w λQ=>
  ad x7 (u6 cA Q 2) w λR=>
  ad x7 (u5 av R) w λS=>
  ad x7 (aO .add av false false S (Δ n)) w λU=>
  ad x7 (Z6.min_ #[av,av] av #[U,(Δ 4611686018427387904)]) w λW=>
  ad x7 (bP (Γ g)) w λX=>
  ad x7 (u6 cA X 2) w λY=>
  aF x7 (l9 av Y W) w λ(_:Unit)x=>
  ad x7 (bP (Γ g)) x λt77=>
  ad x7 (u6 cA t77 2) x λZ=>
  ad x7 (u5 av Z) x λae=>
  ad x7 (aO .gtr av false true ae (Δ 16384)) x λaf=>
  an x7 rr [Γ g,af,Δ at_] x λ_ ag=>K ag:=by
 cases s with
 |none=>
  obtain⟨V,e,big,E,G,told,sv,l,y,z,H⟩:=id h;rw[aT cA.p 2 y F,aM,nh,bZ,aW cA.p F];refine bp (g:=g) (o:=5) av.i F rfl y (by simp[jl]) λaa a ah f=>?_;rw[aT cA.p 2 f F,bL];have M:fa aa g gs A B:=⟨V.ac a,e,big,E,G,_,sv,l,f,z,au.ac H a λr _ h I=>ux h V.2.1 I⟩;refine(CW M).mono ?_;rintro _ ab _ N;exact L _ ((a.mono λr _ h=>.inl h).trans (N.ac _)) (M.ext N)
 |some s=>
  obtain⟨ax,aj,hi⟩:=P s F;obtain⟨V,al,am,big,E,G,told,sv,y,z,H⟩:=id h;rw[aT cA.p 2 y F,aM,nh,bZ,aW cA.p F];refine bp (g:=g) (o:=5) av.i F rfl y (by simp[jl]) λaa a ah f=>?_;have f:=f;rw[aT cA.p 2 f F,bL];have key:s.big=false->min (W5.wrap (told+n)) 4611686018427387904=min (s.told+n) aw:=λq=>by
   rw[z.2 q];have:=hi q;unfold aw at aj ⊢;rw[wrap_i64 Ω Ω]
  have ao:ed aa g gs A B {s with told:=min (s.told+n) aw} C:=⟨V.ac a,al.ac a (λhe=>V.1 he.symm) (λr ap he=>ap.1 (.inl he)),⟨by show 0<=min _ _;unfold aw;omega,by show min _ _<=_;omega,am.2.2⟩,big,E,G,_,sv,f,⟨z.1,key⟩,au.ac H a λr _ h I=>ux h V.2.1 I⟩;refine(uA ao).mono ?_;rintro _ ab _ ⟨aq,O⟩;refine L _ ((a.trans aq).mono λr _ h=>.inl h) ?_;have e:bc (decide (16384<min (W5.wrap (told+n)) 4611686018427387904)) {s with told:=min (s.told+n) aw}=lg n s:=by
   cases q:s.big with
   |false=>rw[key q,<-q];rfl
   |true=>simp[lg,bc,q]
  rw[e]at O;exact O
def ka(sizes:Λ)(s:Option aG):Option (List (Λ×Int)×aG):=s.bind (dz sizes)
def mA(w:x3)(m:Nat)(acc:List (Λ×Int)):Prop:=c5 w m (acc.map λp=>(bW (eF p.1),Δ 1))
def lX(w:x3)(m:Nat):Prop:=∃d,c5 w m d/\∀p∈d,∃(k:ByteArray)(c:Int),p=(.string k,Δ c)
def mA.any{m:Nat}{acc:List (Λ×Int)}(h:mA w m acc):lX w m:=⟨_,h,λp a=>by
 obtain⟨q,_,rfl⟩:=c7.1 a;exact⟨_,_,F⟩⟩
def NF{m:Nat}{k:ByteArray}(h:lX w m)(f:∀c:Int,K (Δ c)):ad x7 (Instr.lookup ih (.map (σ m)) (.string k) false) w K:=by
 obtain⟨d,hm,q⟩:=h;have hk:=Keys.str cT.u;have r:∀p∈d,∃s,p.1=x1.string s:=λp a=>by obtain⟨s,c,rfl⟩:=q p a;exact⟨s,F⟩
 by_cases he:∃p∈d,p.1=x1.string k
 .obtain⟨p,a,e⟩:=he;obtain⟨j,x⟩:=W3.1 a;obtain⟨s,c,rfl⟩:=q p a;have e:x1.string s=x1.string k:=e;rw[e]at x;rw[rY ih.u hk hm r ⟨k,F⟩ x];exact f c
 .have y:∀p∈d,p.1≠x1.string k:=λp a h=>he ⟨p,a,h⟩;rw[uF ih.u hk ⟨_,_,aj.i⟩ hm r ⟨k,F⟩ y];exact f 0
def NG{m:Nat}{k:ByteArray}{K:Unit->x3->Prop}(h:lX w m)(x:∀J,ai (λr=>r=m) w J->lX J m->K () J):aF x7 (Instr.mapUpdate ih (.map (σ m)) (.string k) (Δ c)) w K:=by
 obtain⟨d,hm,e⟩:=h;have y:∀p∈d,∃s,p.1=x1.string s:=λp a=>by obtain⟨s,c,rfl⟩:=e p a;exact⟨s,F⟩
 refine rZ ih.u (Keys.str cT.u) hm y ⟨k,F⟩ (λj v0 J z f q=>x J q ⟨_,f,λp a=>?_⟩) (λJ A f q=>x J q ⟨_,f,λp a=>?_⟩)
 .rcases V4 a with a|rfl
  .exact e p a
  .exact⟨_,_,F⟩
 .rcases p9.1 a with a|a
  .exact e p a
  .rw[j5.1 a];exact⟨_,_,F⟩
def DB{a b:Λ}(e:∀x∈a,0<=x)(f:∀x∈b,0<=x)(h:bW (eF a)=bW (eF b)):a=b:=by
 have h:=x1.string.inj h;exact Cd e f (str_inj (Ce a) (Ce b) h)
def xN{acc:List (Λ×Int)}:∀p∈acc.map λp=>(bW (eF p.1),U3 .i64 1),∃s,p.1=x1.string s:=λp a=>by
 obtain⟨q,_,rfl⟩:=c7.1 a;exact⟨_,F⟩
def DC{m:Nat}{acc:List (Λ×Int)}{t:Λ}(h:mA w m acc)(f:∀p∈acc,∀x∈p.1,0<=x)(r:∀x∈t,0<=x):
  ad x7 (Instr.lookup ih (.map (σ m)) (bW (eF t)) false) w K=K (Δ (if t∈acc.map (·.1)then 1 else 0)):=by
 have hk:=Keys.str cT.u;by_cases he:t∈acc.map (·.1)
 .rw[if_pos he];obtain⟨p,a,rfl⟩:=c7.1 he;obtain⟨j,s⟩:=W3.1 a;rw[rY ih.u hk h xN ⟨_,F⟩ (by rw[x8,s];rfl)];simp
 .rw[if_neg he];rw[uF ih.u hk ⟨_,_,aj.i⟩ h xN ⟨_,F⟩ (λp a y=>?_)]
  .simp
  .obtain⟨q,e,rfl⟩:=c7.1 a;have:=DB (f q e) r y;exact he (c7.2 ⟨q,e,this⟩)
def NH{m:Nat}{acc:List (Λ×Int)}{t:Λ}{K:Unit->x3->Prop}(h:mA w m acc)(z:∀p∈acc,∀x∈p.1,0<=x)(A:∀x∈t,0<=x)(B:t∉acc.map (·.1))(C:∀J,ai (λr=>r=m) w J->mA J m (acc++[(t,c)])->K () J):aF x7 (Instr.mapUpdate ih (.map (σ m)) (bW (eF t)) (Δ 1)) w K:=by
 refine rZ ih.u (Keys.str cT.u) h xN ⟨_,F⟩ (λj v0 J e f s=>?_) (λJ _ f s=>C J s ?_)
 .rw[x8]at e;obtain⟨q,y,a⟩:=X7.1 e;have a:=congrArg Prod.fst a;have:=DB (z q (x5 y)) A a;exact absurd (c7.2 ⟨q,x5 y,this⟩) B
 .unfold mA;rw[Z9];exact f
def NI{m:Nat}{acc:List (Λ×Int)}{t:Λ}{ok:Prop}{K:Unit->x3->Prop}(e:lX w m)(A:ok->mA w m acc/\(∀p∈acc,∀x∈p.1,0<=x)/\(∀x∈t,0<=x)/\t∉acc.map (·.1))(f:∀J,ai (λr=>r=m) w J->lX J m->(ok->mA J m (acc++[(t,c)]))->K () J):
  ad x7 (Instr.lookup ih (.map (σ m)) (bW (eF t)) false) w λB=>
  ad x7 (aO .add aj false true B (Δ 1)) w λC=>
  aF x7 (Instr.mapUpdate ih (.map (σ m)) (bW (eF t)) C) w K:=by
 by_cases q:ok
 .obtain⟨h1,s,y,z⟩:=A q;rw[DC h1 s y,if_neg z,aM,wrap_i64 Ω Ω];exact NH h1 s y z λJ a V=>f J a V.any λ_=>V
 .refine NF e λik=>?_;rw[aM];exact NG e λJ a V=>f J a V λh=>absurd h q
def ft{α:Type}(f:List α->aG->Option (α×aG))(n:Nat)(acc:List α)(o:Option aG):Option (List α×aG):=o.bind (cP f n acc)
def lX.ac{m:Nat}(h:lX w m)(U:ai S w J)(a:¬S m):lX J m:=by
 obtain⟨d,h1,e⟩:=h;exact⟨d,h1.ac U a,e⟩
def dq.words{g:Nat}{A:ak}{B:ak}{a:Bool}{s:aG}(h:dq w g gs A B a (σ s)):s.toks.length<=100000:=by
 have h:=h;exact h.2.1.words.1
def DD{acc:List (Λ×Int)}{st:aG}{t:Λ}(p:∀q,gi sizes [] (σ st)=σ q->t=q.1)(a:∀q,bg 0 aw ((gi sizes [] (σ st)).map (·.2))=σ q->c=q.1):
  (bg 0 aw ((gi sizes [] (σ st)).map (·.2))=ν->ez sizes acc st=ν)/\∀q,bg 0 aw ((gi sizes [] (σ st)).map (·.2))=σ q->ez sizes acc st=if t∈acc.map (·.1)then ν else σ ((t,c),q.2):=by
 have e:gi sizes [] (σ st)=kE sizes [] st:=rfl;rw[e]at p a ⊢;unfold ez;cases h1:kE sizes [] st with
 |none=>exact⟨λ_=>rfl,λq f=>(by cases f)⟩
 |some q=>
  obtain⟨bt,s1⟩:=q;rw[h1]at p a;have:=p _ F;subst this;have r:bg 0 aw ((σ (t,s1)).map (·.2))=bi 0 aw s1:=rfl;rw[r]at a ⊢;simp only;cases s:bi 0 aw s1 with
  |none=>exact⟨λ_=>rfl,λq f=>(by cases f)⟩
  |some q=>
   obtain⟨w,x⟩:=q;rw[s]at a;have:=a _ F;subst this;exact⟨λh=>(by cases h),λq f=>(by cases f;rfl)⟩
def NJ{g:Nat}{A B:ak}{s:Option aG}{ab:Bool}{Q:x1->x3->Prop}(h:dq w g gs A B ab s)(b2:aK .i64 w sv sizes)(aZ:∀r,leads sv r->¬bH g gs A r/\r<w.heap.size)(b3:∀z∈sizes,1<=z/\z<=aw)(b4:sizes.length<=100001)(b5:fg w)(h1:cQ g gs A B 1)(b6:(N:Int)<=aw)(bw:∀v J l,gh w g gs A B ab ((ft (ez sizes) N [] s).map (·.2)) J->bG (fo w.heap.size) bU J [v] (show List (Λ×Int)from l)->(∀q,ft (ez sizes) N [] s=σ q->l=q.1)->Q v J):
  aF x7 (Instr.makeMap ih ν) w λa1 C=>
 bV (.slice ν 0 0) (Δ 0) C λout i I k=>
  cw (α:=x1->x3->Prop) (λ(b7:x1)(W:x3)=>
   Split b7 (aF x7 (Q6 ei true (.tuple #[])) W λx y=>
  ad x7 (U1 #[az] aj #[sv]) y λb8=>
  bV (.string ⟨#[]⟩) (Δ 0) y λkey a2 X b9=>
   ad x7 (aO .lss aj false false a2 b8) X λca=>
   Split ca (ad x7 (c9 az sv a2) X λcb=>
   ad x7 (u5 av cb) X λcc=>
   ad x7 (aO .sub av false true cc (Δ 1)) X λcd=>
   an x7 oT [Γ g,(Δ 0),cd] X λbx af=>
   ad x7 (Y4 bx 0) af λbz=>
   ad x7 (Y4 bx 1) af λdv=>
   ad x7 (u6 ei x 0) af λce=>
   ad x7 (u5 az ce) af λcf=>
   aF x7 (Y5 az 1 #[(0,bz)]) af λcg K=>
   aF x7 (Z5 #[az,az] az #[cf,cg]) K λch bA=>
   ad x7 (u6 ei x 0) bA λci=>
   aF x7 (l9 az ci ch) bA λ(_:Unit)cj=>
   an x7 wP [bz] cj λck aH=>
   ad x7 (aO .add cT false true ck (.string ⟨#[32]⟩)) aH λcl=>
   ad x7 (aO .add cT false false key cl) aH λcm=>
   ad x7 (aO .add aj false true a2 (Δ 1)) aH λcn=>
   b9 cm cn aH)
    (an x7 oT [Γ g,(Δ 0),(Δ 4611686018427387904)] X λbB aI=>
  ad x7 (Y4 bB 0) aI λcp=>
  ad x7 (Y4 bB 1) aI λcq=>
  ad x7 (u6 ei x 1) aI λcr=>
  aF x7 (l9 av cr cp) aI λ(_:Unit)ct=>
  cw (α:=x3->Prop) (λ(Y:x3)=>
   ad x7 (Instr.lookup ih a1 key false) Y λcu=>
   ad x7 (aO .add aj false true cu (Δ 1)) Y λcz=>
   aF x7 (Instr.mapUpdate ih a1 key cz) Y λ(_:Unit)ag=>
   ad x7 (u5 ei x) ag λcA=>
   aF x7 (Y5 jZ 1 #[(0,cA)]) ag λcB aA=>
   aF x7 (Z5 #[jZ,jZ] jZ #[out,cB]) aA λcC aJ=>
   ad x7 (aO .add av false true i (Δ 1)) aJ λcD=>
  k cC cD aJ) λbC=>
  cw (α:=x1->x3->Prop) (λ(cE:x1)(P:x3)=>
   Split cE (an x7 oU [Γ g,(Δ 4),cq] P λdw bD=>
    bC bD)
    (bC P)) λbF=>
  an x7 mm [Γ g] ct λcF al=>
  Split cF (ad x7 (Instr.lookup ih a1 key false) al λcG=>
  ad x7 (aO .gtr aj false true cG (Δ 0)) al λcH=>
  bF cH al)
   (bF (.bool false) al)))
    (Q out W)) λbI=>
  ad x7 (aO .lss av false false i (Δ (N:Int))) I λcI=>
  Split cI (an x7 mm [Γ g] I λcJ cK=>
  bI cJ cK)
   (bI (.bool false) I):=by
 obtain⟨dx,dy,dz,cL,aL⟩:=h.side;have gT:∀r,bH g gs A r->r<w.heap.size:=cL;unfold aw at b6;refine uE λE C dA a6 ba=>?_;have dC:=a6.size;have dD:=ba.lt;generalize G:ft (ez sizes) N [] s=bJ at bw;refine⟨λout bb I=>∃(i:Nat)(acc:List (Λ×Int))(so:Option aG),bb=Δ (i:Int)/\i<=N/\ai (bH g gs A) w I/\C.heap.size<=I.heap.size/\bG (fo C.heap.size) bU I [out] acc/\dq I g gs A B ab so/\
   bJ=ft (ez sizes) (N-i) acc so/\lX I E/\acc.length<=100001/\∀st,so=σ st->mA I E acc/\(∀p∈acc,∀x∈p.1,0<=x)/\acc.length+st.toks.length<=100000,
  λ_ bb _=>N-(bT bb).toNat,⟨0,[],s,F,X8 _,a6.ac _,o4 _,iH,h.ext a6,G.symm,⟨[],ba,λp O=>(by cases O)⟩,Ξ,λst cM=>⟨ba,λp O=>(by cases O),?_⟩⟩,?_⟩
 .subst cM;have:=h.words;simpa using this
 rintro out _ I ⟨i,acc,so,rfl,dE,bK,z9,bM,bc,aQ,cN,dF,bd⟩;refine aV (λv W=>Ext I W/\((v= .bool true/\i<N/\∃st,so=σ st)\/(v= .bool false/\(so=ν\/i=N)))) ?_ ?_
 rotate_left
 .intro aB be;rw[aP,am];refine⟨λcO=>?_,λdG=>be _ _ ⟨Ext.refl _,.inr ⟨F,.inr Ω⟩⟩⟩;refine(qE bc).mono ?_;rintro _ W _ ⟨rfl,S⟩;cases so with
  |none=>exact be _ _ ⟨S,.inr ⟨F,.inl F⟩⟩
  |some st=>exact be _ _ ⟨S,.inl ⟨F,Ω,st,F⟩⟩
 rintro _ W ⟨S,cP⟩;rcases cP with⟨rfl,cO,st,rfl⟩|⟨rfl,cR⟩
 rotate_left
 .rw[a8];have bO:bJ=so.map λst=>(acc,st):=by
   rcases cR with rfl|rfl
   .exact aQ
   .rw[U9]at aQ;rw[aQ];cases so<;>rfl
  refine bw out W acc (gh.mk (bK.trans (S.ac _)) ?_) (bE (au.mono bM (λr _ h=>by have h:C.heap.size<=r:=h;show w.heap.size<=r;omega) λ_ _ h=>h) S) (λq L=>?_)
  .rw[bO,Option.map_map];have e:U4 ((λx=>x.2)∘λst=>(acc,st)) so=so:=by cases so<;>rfl
   rw[e];exact bc.ext S
  .rw[bO]at L;cases so with
   |none=>cases L
   |some st=>cases L;rfl
 rw[bX];obtain⟨bd,bf,dH⟩:=bd st F;have dI:=S.size;refine bu ei.i λap y dJ bP bQ=>?_;have aC:=S.trans bP;have bh:ai (bH g gs A) w y:=bK.trans (aC.ac _);have bR:aK .i64 y sv sizes:=ji b2 bh λr f a n c ae cS=>(aZ r ⟨a,n,c,ae,cS⟩).1 f;rw[aX az.u bR];have aR:¬bH g gs A ap:=λG=>by have:=gT _ G;omega
 refine NC (s:=σ st) (bc.ext aC) bR (λr f=>⟨(aZ r f).1,by have:=(aZ r f).2;omega⟩) b3 b4 (b5.ac bh h1.1) h1 bQ aR (λcU=>by have:=aL _ cU;omega) λt X aN gt dK cV bS cW cX cY cZ c0=>?_;have dL:=bP.size;have z12:=bS.size;have dM:=bQ.lt;have bi:∀x∈t,0<=x:=λx U=>(cV x U).1;refine(nt cZ).mono ?_;rintro _ af _ ⟨bj,c,dN,rfl,c1,dO⟩;obtain⟨aS,c2⟩:=bj.of;have dP:=aS.size;rw[bq,br,aW ei.p F];refine bp (g:=ap) (o:=1) av.i F rfl (cW.ac aS aR) Ξ λK aT dQ bk=>?_;have bk:ah K ap ei [aN,Δ c]:=bk;have c3:ay .i64 av K gt aN t:=(cX.ac aS (λ_ G=>by have:=gT _ G;omega)).ac aT (λ_ he=>by have he:gt=ap:=he;omega);have bl:ai (λr=>bH g gs A r\/r=ap) y K:=(bS.trans (aS.mono λr _ h=>.inl h)).trans (aT.mono λr _ h=>.inr h);have Z:dq K g gs A B ab ((bg 0 aw ((gi sizes [] (σ st)).map (·.2))).map (·.2)):=c2.ac aT (λr f he=>by have he:r=ap:=he;exact aR (he▸f)) (λr f he=>by have:=aL r f.2;have he:r=ap:=he;omega);have bW:¬(λr=>bH g gs A r\/r=ap) E:=λh=>h.elim (λh=>by have:=gT _ h;omega) (λh=>Ω);have c4:lX K E:=(cN.ac (aC.ac (λ_=>False)) (λh=>h)).ac bl bW;have bY:mA K E acc:=(c5.ext bd aC).ac bl bW;obtain⟨bm,bn⟩:=DD (acc:=acc) c0 c1;refine da (λY=>ai (bH g gs A) K Y/\dq Y g gs A B ab ((ez sizes acc st).map (·.2))) ?_ ?_
 .rintro Y ⟨ao,c6⟩;have bo:¬bH g gs A E:=λh=>by have:=gT _ h;omega
  have dR:=aT.size;have dS:=ao.size;refine NI (acc:=acc) (t:=t) (c:=c) (ok:=∃q,ez sizes acc st=σ q) (c4.ac ao bo) (λ⟨q,L⟩=>⟨c5.ac bY ao bo,bf,bi,λV=>?_⟩) λag aD c7 c8=>?_
  .cases M:bg 0 aw ((gi sizes [] (σ st)).map (·.2))with
   |none=>rw[bm M]at L;cases L
   |some aq=>rw[bn aq M,if_pos V]at L;cases L
  have dT:=aD.size;have db:ah ag ap ei [aN,Δ c]:=(bk.ac ao aR).ac aD (λhe=>by have he:ap=E:=he;omega);have dc:ay .i64 av ag gt aN t:=(c3.ac ao (λ_ G=>by have:=gT _ G;omega)).ac aD (λ_ he=>by have he:gt=E:=he;omega);rw[bN ei.p ei.i F db.range];have bZ:bG (fo y.heap.size) bU ag [aN,Δ c] (t,c):=⟨[aN],[Δ c],fo y.heap.size,bU,F,λ_ h=>h,λ_ h=>h.elim,λ_ _ _ h=>h,au.mono (pc dc) (λr _ h=>by subst h;exact cY) (λ_ _ h=>h),F⟩;refine lO (α:=Λ×Int) (a:=(t,c)) (cs:=[aN,Δ c]) (A:=fo y.heap.size) (R:=bU) jZ.u ei.i Φ F bZ λu aA ax _ dd=>?_;have z22:=ax.size;have de:bG (λr=>fo C.heap.size r/\r<y.heap.size/\r≠ap) bU y [out] acc:=bE (au.mono (n0 bM) (λr _ h=>⟨h.1,by have:=h.2;omega,by have:=h.2;omega⟩) λ_ _ h=>h) aC;have b0:ai (λr=>bH g gs A r\/r=ap\/r=E) y aA:=(((bl.mono λr _ h=>h.elim .inl λh=>.inr (.inl h)).trans (ao.mono λr _ h=>.inl h)).trans (aD.mono λr _ h=>.inr (.inr h))).trans (ax.ac _);have df:=au.ac de b0 λr f h G=>by
   rcases h with h|h
   .have aU:C.heap.size<=r:=h.1;rcases G with G|G|G
    .have:=gT _ G;omega
    .exact h.2.2 G
    .omega
   .exact h
  refine pb (α:=Λ×Int) (a:=(t,c)) (A:=fo y.heap.size) jZ.u ei.i F df dd (bE bZ ax) (λr _ h a7=>?_) Ω Ω λdU aJ dg aE=>?_
  .rcases a7 with a7|a7
   .have:=h.2;have:y.heap.size<=r:=a7;omega
   .exact a7
  have dV:=aE.size;rw[aM,wrap_i64 Ω Ω];have dh:ai (bH g gs A) w aA:=iM bh b0 λr f h=>by
   rcases h with h|h|h
   .exact h
   .omega
   .omega
  have di:ai (bH g gs A) w aJ:=iM dh aE λr f h=>by have aU:C.heap.size<=r:=h.1;omega
  have dj:dq aA g gs A B ab ((ez sizes acc st).map (·.2)):=(c6.ac aD (λr f he=>by have he:r=E:=he;exact bo (he▸f)) (λr f he=>by have:=aL r f.2;have he:r=E:=he;omega)).ext ax;have dk:∀r,bH g gs A r->¬(fo C.heap.size r/\r<y.heap.size/\r≠ap):=λr f he=>by have:=gT _ f;have aU:C.heap.size<=r:=he.1;omega
  have dl:∀r,cQ g gs A B r->¬(fo C.heap.size r/\r<y.heap.size/\r≠ap):=λr f he=>by have:=aL r f.2;have aU:C.heap.size<=r:=he.1;omega
  have b1:¬(fo C.heap.size E/\E<y.heap.size/\E≠ap):=λhe=>by have aU:C.heap.size<=E:=he.1;omega
  refine⟨⟨i+1,acc++[(t,c)],(ez sizes acc st).map (·.2),F,Ω,di,Ω,?_,dj.ac aE dk dl,?_,(c7.ac (ax.ac (λ_=>False)) (λh=>h)).ac aE b1,Θ,λdm dn=>?_⟩,by simp only[bT];omega⟩
  .refine au.mono dg (λr _ h=>?_) λ_ _ h=>h;show C.heap.size<=r;rcases h with h|h|h
   .exact h.1
   .have h:y.heap.size<=r:=h;omega
   .omega
  .rw[aQ,show N-i=(N-(i+1))+1 by omega];cases H:ez sizes acc st with
   |none=>exact qw H
   |some q=>
    obtain⟨a,dm⟩:=q;have dp:a=(t,c):=by
     cases M:bg 0 aw ((gi sizes [] (σ st)).map (·.2))with
     |none=>rw[bm M]at H;cases H
     |some aq=>
      rw[bn aq M]at H;split at H
      .cases H
      .cases H;rfl
    subst dp;exact uC H
  .obtain⟨q,L,rfl⟩:=X7.1 dn;have dW:=(pn L).2.2.2.1;refine⟨c5.ac ((c5.ext (c8 ⟨q,L⟩) ax)) aE b1,λp O=>?_,by simp only[r8,T7];omega⟩;rcases p9.1 O with O|O
   .exact bf p O
   .rw[j5.1 O];exact bi
 .intro dX bs;cases M:bg 0 aw ((gi sizes [] (σ st)).map (·.2))with
  |none=>
   rw[M]at Z;have H:=bm M;refine aV (λv P=>Ext K P/\v= .bool false) ?_ ?_
   .rintro _ P ⟨aa,rfl⟩;rw[a8];exact bs _ ⟨aa.ac _,by rw[H];exact Z.ext aa⟩
   .intro dr bt;refine(qE Z).mono ?_;rintro _ al _ ⟨rfl,aY⟩;rw[show((ν:Option (Int×aG)).map (·.2)).isSome=false from F,a8];exact bt _ _ ⟨aY,F⟩
  |some aq=>
   rw[M]at Z;have H:=bn aq M;refine aV (λv P=>Ext K P/\v= .bool (decide (t∈acc.map (·.1)))) ?_ ?_
   .rintro _ P ⟨aa,rfl⟩;rw[am];refine⟨λV=>?_,λds=>?_⟩
    .refine (NB (Z.ext aa) Ω).mono ?_;rintro _ bD _ bj;obtain⟨dt,du⟩:=bj.of;exact bs _ ⟨(aa.ac _).trans dt,by rw[H,if_pos V];exact du⟩
    .exact bs _ ⟨aa.ac _,by rw[H,if_neg ds];exact Z.ext aa⟩
   .intro dr bt;refine(qE Z).mono ?_;rintro _ al _ ⟨rfl,aY⟩;rw[show((σ aq:Option (Int×aG)).map (·.2)).isSome=true from F,bX,DC (c5.ext bY aY) bf bi,bL];refine bt _ _ ⟨aY,?_⟩;congr 1;by_cases V:t∈acc.map (·.1)
    .rw[if_pos V,decide_eq_true V];rfl
    .rw[if_neg V,decide_eq_false V];rfl
def DE(sizes:Λ)(s:Option aG):ka sizes s=match bg (-aw) aw s with
 |none=>ν
 |some (n,s)=>
  if n<0 then match s.shared[(-n-1).toNat]? with
   |none=>ν
   |some (z,l)=>if z=sizes then σ (l,s)else ν
  else cP (ez sizes) n.toNat [] (lg n s):=by
 cases s with
 |none=>rfl
 |some s=>
  show dz sizes s=_;unfold dz;show _=match bi (-aw) aw s with
   |none=>ν
   |some (n,s)=>
    if n<0 then match s.shared[(-n-1).toNat]? with
     |none=>ν
     |some (z,l)=>if z=sizes then σ (l,s)else ν
    else cP (ez sizes) n.toNat [] (lg n s)
  cases bi (-aw) aw s<;>rfl
def DF{m:Bool}{S R:ak}{a:lU}(h:au.rep (α:=lU) m S R w cs a):∃u v,cs=[u,v]/\au.rep (α:=Λ) false bU R w [u] a.1/\au.rep (α:=List (Λ×Int)) false bU R w [v] a.2:=by
 obtain⟨c,d,f,p,rfl,_,_,_,h1,e⟩:=h;have h1:=h1;have e:=e;obtain⟨u,rfl⟩:=V7.1 (show c.length=1 from au.len h1);obtain⟨v,rfl⟩:=V7.1 (show d.length=1 from au.len e);exact⟨u,v,F,h1,e⟩
def NK{g:Nat}{A B:ak}{s:Option aG}{Q:Bool}(h:dq w g gs A B Q s)(hi:∀t,s=σ t->dU t)(av:aK .i64 w sv sizes)(L:∀r,leads sv r->¬bH g gs A r/\r<w.heap.size)(ay:∀z∈sizes,1<=z/\z<=aw)(az:sizes.length<=100001)(aC:fg w)(h1:cQ g gs A B 1):
  an x7 JF [Γ g,sv] w λv J=>gh w g gs A B Q ((ka sizes s).map (·.2)) J/\∃l,Seen (λr=>cQ g gs A B r\/w.heap.size<=r) J [v] (show List (Λ×Int)from l)/\∀q,ka sizes s=σ q->l=q.1:=by
 have aD:=h.side;obtain⟨bc,bd,be,aE,bf⟩:=id aD;have gT:∀r,bH g gs A r->r<w.heap.size:=aE;refine aA func183 ?_;refine(nt (lo:=-aw) (hi:=aw) h).mono ?_;rintro _ aa _ ⟨aF,n,at_,rfl,S,aH⟩;obtain⟨M,ag⟩:=aF.of;have bh:=M.size;have x:=DE sizes s;rw[bq,br];have ah:=ji av M λr E a n c ae U=>(L r ⟨a,n,c,ae,U⟩).1 E;have bi:∀r,leads sv r->¬bH g gs A r/\r<aa.heap.size:=λr E=>⟨(L r E).1,by have:=(L r E).2;omega⟩;have rest:∀ab,Ext aa ab->(∀q,bg (-aw) aw s=σ q->¬n<0)->∀N:Nat,n=(N:Int)->(N:Int)<=aw->∀C,ai (bH g gs A) ab C->dq C g gs A B Q (((bg (-aw) aw s).map (·.2)).map (lg n))->
   ∀v J l,gh C g gs A B Q ((ft (ez sizes) N [] (((bg (-aw) aw s).map (·.2)).map (lg n))).map (·.2)) J->bG (fo C.heap.size) bU J [v] (show List (Λ×Int)from l)->(∀q,ft (ez sizes) N [] (((bg (-aw) aw s).map (·.2)).map (lg n))=σ q->l=q.1)->
   gh w g gs A B Q ((ka sizes s).map (·.2)) J/\∃l,Seen (λr=>cQ g gs A B r\/w.heap.size<=r) J [v] (show List (Λ×Int)from l)/\∀q,ka sizes s=σ q->l=q.1:=by
  intro ab y O N V W C H X v J l aI aJ aL;obtain⟨aM,aN⟩:=aI.of;have aO:=y.size;have z3:=H.size;have e:ka sizes s=ft (ez sizes) N [] (((bg (-aw) aw s).map (·.2)).map (lg n)):=by
   rw[x];cases f:bg (-aw) aw s with
   |none=>rfl
   |some q=>
    obtain⟨aQ,s1⟩:=q;have:=S _ f;subst this;simp only;rw[if_neg (O _ f),V,u7];rfl
  rw[e];refine⟨gh.mk (((M.trans (y.ac _)).trans H).trans aM) aN,l,qh aJ λr _ h=>?_,aL⟩;rcases h with h|h
  .have h:=h;exact .inr Ω
  .exact h.elim
 refine aV (λv ab=>Ext aa ab/\v= .bool (decide (n<0/\(bg (-aw) aw s).isSome=true))) ?_ ?_
 rotate_left
 .intro aB R;refine(qE ag).mono ?_;rintro _ ab _ ⟨rfl,y⟩;cases f:bg (-aw) aw s with
  |none=>
   rw[show((ν:Option (Int×aG)).map (·.2)).isSome=false from F,a8];exact R _ _ ⟨y,by rw[decide_eq_false];rintro⟨_,h⟩;rw[f]at h;cases h⟩
  |some q=>
   rw[show((σ q:Option (Int×aG)).map (·.2)).isSome=true from F,bX,aP];exact R _ _ ⟨y,by congr 1;rw[U6,decide_eq_true_eq,decide_eq_true_eq,f];exact⟨λh=>⟨h,F⟩,λh=>h.1⟩⟩
 rintro _ ab ⟨y,rfl⟩;have I:=ag.ext y;have aO:=y.size;rw[am];refine⟨λO=>?_,λaR=>?_⟩
 rotate_left
 .have O:∀q,bg (-aw) aw s=σ q->¬n<0:=λq f h=>aR ⟨h,by rw[f];rfl⟩;obtain⟨N,V,W⟩:∃N:Nat,n=(N:Int)/\(N:Int)<=aw:=by
   cases f:bg (-aw) aw s with
   |none=>rw[aH f];exact⟨0,F,by unfold aw;omega⟩
   |some q=>
    have h1:=O q f;have aS:=og f;have aU:=S q f;exact⟨n.toNat,Ω,Ω⟩
  refine NE I (λt aX=>?_) λC H X=>?_
  .obtain⟨q,f,rfl⟩:=X7.1 aX;have aS:=og f;have aU:=S q f;refine⟨Ω,Ω,?_⟩;cases s with
   |none=>cases f
   |some s0=>
    have aj:=(dj f).eqs;have al:=hi s0 F;intro ao;rw[aj.1];rw[aj.2.1]at ao;exact al ao
  .have z3:=H.size;have aY:ai (bH g gs A) w C:=(M.trans (y.ac _)).trans H;subst V;refine NJ X ((ji (ah.ext y) H λr E a n c ae U=>(L r ⟨a,n,c,ae,U⟩).1 E)) (λr E=>⟨(L r E).1,by have:=(L r E).2;omega⟩) ay az (aC.ac aY h1.1) h1 W λv J l a b c=>?_;exact rest ab y O N F W C H X v J l a b c
 .obtain⟨aZ,a1⟩:=O;obtain⟨⟨aQ,s1⟩,f⟩:=Option.isSome_iff_exists.1 a1;have:=S _ f;subst this;have bj:=og f;rw[f]at x I;simp only at x;rw[if_pos aZ]at x;have I:=I;obtain⟨_,al,bk,big,bl,bm,told,bn,Y,bo,Z⟩:=id I;have bp:aw=4611686018427387904:=rfl;refine aV (λv C=>Ext ab C/\v= .bool (decide (ka sizes s=ν))) ?_ ?_
  .rintro _ C ⟨G,rfl⟩;rw[am];refine⟨λa2=>?_,λap=>?_⟩
   .refine (uz (I.ext G) Ω).mono ?_;rintro _ bs _ ⟨a6,a7⟩;rw[a2];refine⟨gh.mk (((M.trans (y.ac _)).trans (G.ac _)).trans (a6.mono λr _ h=>.inl h)) a7,[],iH,λq f=>by cases f⟩
   .cases P:s1.shared[(-n-1).toNat]? with
    |none=>rw[P]at x;exact absurd x ap
    |some q=>
     obtain⟨z,l⟩:=q;rw[P]at x;simp only at x;have ba:z=sizes:=by
      by_cases K:z=sizes
      .exact K
      .rw[if_neg K]at x;exact absurd x ap
     rw[if_pos ba]at x;rw[aT cA.p 3 (Y.ext G) F,ng,wrap_i64 Ω Ω,dI,wrap_i64 Ω Ω];refine lN (i:=(-n-1).toNat) Ω iE.u k3.i (bE Z G) P λb o cs ad af=>?_;obtain⟨u,v,rfl,hu,ae⟩:=DF af;rw[aW k3.p F,ax Ψ (ad 1 v F)];rw[x];refine⟨gh.mk ((M.trans (y.ac _)).trans (G.ac _)) (I.ext G),l,qh ae λr _ h=>?_,λq f=>by cases f;rfl⟩;rcases h with h|h
     .exact h.elim
     .exact .inl h
  .intro aB R;rw[ng,wrap_i64 Ω Ω,aT cA.p 3 Y F,jh iE.u Z,bL,am];refine⟨λaq=>R _ _ ⟨Ext.refl _,?_⟩,λau=>?_⟩
   .have aq:(s1.shared.length:Int)<0-n:=aq;rw[Z7 Ω]at x;rw[decide_eq_true x]
   .have au:¬(s1.shared.length:Int)<0-n:=au;have bb:(-n-1).toNat<s1.shared.length:=Ω
    obtain⟨⟨z,l⟩,P⟩:∃q,s1.shared[(-n-1).toNat]?=σ q:=⟨_,x6 bb⟩;rw[aT cA.p 3 Y F,ng,wrap_i64 Ω Ω,dI,wrap_i64 Ω Ω];refine lN (i:=(-n-1).toNat) Ω iE.u k3.i Z P λb o cs ad af=>?_;obtain⟨u,v,rfl,hu,ae⟩:=DF af;rw[aW k3.p F,ax Ψ (ad 0 u F)];refine(La (c3 hu) (ah.ext y)).mono ?_;rintro _ C _ ⟨rfl,G⟩;rw[bM];refine R _ _ ⟨G,?_⟩;rw[P]at x;simp only at x;by_cases K:z=sizes
    .rw[if_pos K]at x;rw[decide_eq_true K,decide_eq_false (by rw[x];simp)];rfl
    .rw[if_neg K]at x;rw[decide_eq_false K,decide_eq_true x];rfl
abbrev qF(n:Nat):ak:=λr=>r<n
def sa(n:Int)(k:Nat)(s:Option aG):Option (Λ×aG):=s.bind (eU n k)
def NL{g k:Nat}{A B:ak}{s:Option aG}{f:Bool}{m:Int}(h:dq w g gs A B f s)(hk:k<=4611686018427387904)(hm:0<=m/\m<=1000000):
  an x7 Bb [Γ g,Δ (k:Int),Δ m] w λv J=>gh w g gs A B f ((sa m k s).map (·.2)) J/\
   ∃gr l,ay .i64 av J gr v l/\(∀r,leads v r->w.heap.size<=r)/\l.length<=100001/\∀q,sa m k s=σ q->l=q.1:=by
 cases s with
 |some s=>exact Mv h hk hm
 |none=>
  have h:=h;refine aA func181 ?_;refine⟨λout x aa=>w=aa/\out= .slice ν 0 0/\x=Δ 0,λ_ _ _=>0,⟨F,F,F⟩,?_⟩;rintro _ _ _ ⟨rfl,rfl,rfl⟩;refine aV (λv ab=>Ext w ab/\v= .bool false) ?_ ?_
  .rintro _ ab ⟨e,rfl⟩;rw[a8];exact⟨gh.mk (e.ac _) (h.ext e),0,[],ay.nil _ _ _ _,λr y=>absurd y (λh=>by obtain⟨a,n,c,h,_⟩:=h;cases h),Ξ,λq z=>by cases z⟩
  .intro aB p;rw[aP,am];refine⟨λ_=>?_,λ_=>p _ _ ⟨Ext.refl _,F⟩⟩;refine(po h).mono ?_;rintro _ ab _ ⟨rfl,e⟩;exact p _ _ ⟨e,F⟩
def uN(z:Λ)(l:List (Λ×Int))(s:aG):aG:={s with shared:=s.shared++[(z,l)]}
def DG(w:x3)(g gs:Nat):Prop:=∃(e big a f told:Int)(sv:x1),ah w g cA (jl gs e big a f told sv)/\e≠0
def iQ(w:x3)(g gs:Nat)(A:ak)(B:ak)(a:Bool)(s:Option aG):Prop:=match s with
 |some s=>ed w g gs A B s a
 |none=>DG w g gs
def dq.q{g:Nat}{A:ak}{B:ak}{a:Bool}{s:Option aG}(h:dq w g gs A B a s):iQ w g gs A B a s:=by
 cases s with
 |some s=>exact h
 |none=>
  obtain⟨_,e,big,f,p,told,sv,l,r,x,_⟩:=h;exact⟨e,big,f,p,told,sv,r,x.1⟩
def iQ.ac{g:Nat}{A:ak}{B:ak}{a:Bool}{s:Option aG}(h:iQ w g gs A B a s)(U:ai S w J)(p:¬S g)(q:∀r,bH g gs A r->r<w.heap.size->¬S r)(x:∀r,cQ g gs A B r->¬S r):iQ J g gs A B a s:=by
 cases s with
 |some s=>
  have h:=h;exact ed.ac h U (λr f=>q r f (h.1.2.2.2.1 r f)) x
 |none=>
  obtain⟨e,big,y,z,told,sv,C,E⟩:=h;exact⟨e,big,y,z,told,sv,C.ac U p,E⟩
def iQ.ext{g:Nat}{A:ak}{B:ak}{a:Bool}{s:Option aG}(h:iQ w g gs A B a s)(U:Ext w J):iQ J g gs A B a s:=h.ac (U.ac λ_=>False) (λh=>h) (λ_ _ _ h=>h) (λ_ _ h=>h)
def DH{g:Nat}{A:ak}{B:ak}{s:Option aG}{a:Bool}(h:iQ w g gs A B a s):an x7 mm [Γ g] w λv J=>v= .bool s.isSome/\Ext w J:=by
 cases s with
 |none=>
  obtain⟨e,big,q,r,told,sv,f,p⟩:=h;refine(xu f).mono ?_;rintro _ aa _ ⟨rfl,U⟩;exact⟨by rw[decide_eq_false p];rfl,U⟩
 |some s=>exact qv h
def iN.a6{g:Nat}{R':Nat->Prop}{f:Bool}(h:iN w g R toks f)(U:ai S w J)(s:¬S g)(x:∀r,R r->¬S r)(y:∀r,R r->R' r):iN J g R' toks f:=by
 obtain⟨z,p,a,⟨h1,A,B,C,bs,E⟩,q,F⟩:=h;exact⟨z,p,a,⟨h1,A,B,C.ac U s,bs,bw E U λr e=>x r (q r e)⟩,λr e=>y r (q r e),F⟩
def nu{α:Type}[au α]{m:Bool}{S R:ak}{l:List α}(h:au.rep m S R w [v] l):∃a n c,v= .slice a n c:=by
 obtain⟨vs,e,F,f,he,V,hm⟩:=kC h;obtain⟨p,b,o,base,cap,rfl,_⟩:=V;exact⟨_,_,_,rfl⟩
def nv(w:x3)(g gs:Nat)(A:ak)(B:ak)(R:ak)(a:Bool)(s:Option aG):Prop:=match s with
 |some s=>mw w g gs A B/\iN w gs R s.toks a/\(0<=s.told/\s.told<=aw/\s.shared.length+s.toks.length<=100000)/\
  ∃big e f told sv,ah w g cA (jl gs 0 big e f told sv)/\((s.big=true↔big≠0)/\(s.big=false->told=s.told))/\bG A R w [sv] (show List lU from s.shared)
 |none=>DG w g gs
def nv.ac{g:Nat}{A R:ak}{B:ak}{x:Bool}{s:Option aG}(h:nv w g gs A B R x s)(U:ai S w J)(y:¬S g)(z:∀r,bH g gs A r->r<w.heap.size->¬S r)(C:∀r,R r->¬S r):nv J g gs A B R x s:=by
 cases s with
 |some s=>
  obtain⟨h1,E,F,big,a,f,told,sv,p,q,G⟩:=h;have H:=h1.2.2.2.1;exact⟨h1.ac U,E.ac U (z gs (.inr (.inl rfl)) (H _ (.inr (.inl rfl)))) C,F,big,a,f,told,sv,p.ac U y,q,au.ac G U λr I h=>h.elim (λh=>z r (.inr (.inr h)) I) (C r)⟩
 |none=>
  obtain⟨e,big,a,f,told,sv,p,q⟩:=h;exact⟨e,big,a,f,told,sv,p.ac U y,q⟩
def nv.out{g:Nat}{A R B e:ak}{f:Bool}{s:Option aG}(h:nv w g gs A B R f s)(q:∀r,R r->cQ g gs A e r)(x:∀r,e r->r<w.heap.size):iQ w g gs A e f s:=by
 cases s with
 |some s=>
  obtain⟨⟨y,z,C,E,Q⟩,⟨F,p,a,G,H,I⟩,J,big,K,L,told,sv,M,N,O⟩:=h;exact⟨⟨y,z,C,E,x⟩,⟨F,p,a,G,λr P=>q r (H r P),I⟩,J,big,K,L,told,sv,M,N,au.mono O (λ_ _ h=>h) λr _ h=>q r h⟩
 |none=>exact h
def dq.qr{g:Nat}{A R:ak}{B:ak}{z:Bool}{s:Option aG}(h:dq w g gs A B z s)(C:∀r,cQ g gs A B r->R r):nv w g gs A B R z s:=by
 cases s with
 |some s=>
  obtain⟨h1,⟨E,p,a,F,G,H⟩,I,big,f,q,told,sv,x,y,J⟩:=h;exact⟨h1,⟨E,p,a,F,λr K=>C r (G r K),H⟩,I,big,f,q,told,sv,x,y,au.mono J (λ_ _ h=>h) λr _ h=>C r h⟩
 |none=>
  obtain⟨_,e,big,f,q,told,sv,l,x,y,_⟩:=h;exact⟨e,big,f,q,told,sv,x,y.1⟩
def NM{g:Nat}{A B R:ak}{s:Option aG}{O:Bool}{aQ aA u:x1}{z:Λ}{l:List (Λ×Int)}{K:x3->Prop}(h:dq w g gs A B O s)(P:∀r,cQ g gs A B r->R r)(am:∀r,R r->cQ g gs A (qF w.heap.size) r)(an:∀t,s=σ t->t.shared.length+1+t.toks.length<=100000)(ao:ah w N ch [aQ,u,aA,v])(hu:au.rep (α:=Λ) false bU R w [u] z)(ae:au.rep (α:=List (Λ×Int)) false bU R w [v] l)(aB:∀J aU,ai (bH g gs A) w J->(∀r,aU r->A r\/w.heap.size<=r)->nv J g gs aU (qF w.heap.size) R O (s.map (uN z l))->K J):
  ad x7 (bP (Γ g)) w λQ=>
  ad x7 (u6 cA Q 3) w λS=>
  ad x7 (u5 iE S) w λap=>
  ad x7 (u6 ch (Γ N) 1) w λt76=>
  ad x7 (u5 az t76) w λt77=>
  ad x7 (u6 ch (Γ N) 3) w λaD=>
  ad x7 (u5 jZ aD) w λaE=>
  ad x7 (Instr.build k3 #[(0,t77),(1,aE)]) w λaH=>
  aF x7 (Y5 iE 1 #[(0,aH)]) w λaI G=>
   (Ext w G\/cD x7 (u5 iE S) ap G/\cD x7 (u6 cA Q 3) S G/\cD x7 (bP (Γ g)) Q G/\True)/\
   aF x7 (Z5 #[iE,iE] iE #[ap,aI]) G λaJ W=>
    ad x7 (bP (Γ g)) W λaK=>
    ad x7 (u6 cA aK 3) W λaM=>
    aF x7 (l9 iE aM aJ) W λ(_:Unit)aN=>K aN:=by
 obtain⟨aO,e,big,q,y,told,sv,I,C,L,a7,aP⟩:mw w g gs A B/\∃e big q y told sv,∃I:List lU,ah w g cA (jl gs e big q y told sv)/\bG A R w [sv] I/\I.length<=100000/\
   ∀J aU E,mw J g gs aU (qF w.heap.size)->ai (λr=>A r\/r=g) w J->ah J g cA (jl gs e big q y told E)->bG aU R J [E] (I++[((z,l):lU)])->nv J g gs aU (qF w.heap.size) R O (s.map (uN z l)):=by
  cases s with
  |none=>
   obtain⟨h1,e,big,q,y,told,sv,fI,X,M,Y⟩:=h;exact⟨h1,e,big,q,y,told,sv,fI,X,au.mono Y (λ_ _ h=>h) λr _ h=>P r h,M.2,λJ aU E V _ C L=>⟨e,big,q,y,told,E,C,M.1⟩⟩
  |some s=>
   obtain⟨h1,aR,aq,big,q,y,told,sv,X,M,Y⟩:=h;have an:=an s rfl;refine⟨h1,0,big,q,y,told,sv,s.shared,X,au.mono Y (λ_ _ h=>h) λr _ h=>P r h,(show s.shared.length<=100000 by omega),λJ aU E V aS C L=>⟨V,?_,⟨aq.1,aq.2.1,?_⟩,big,q,y,told,E,C,M,L⟩⟩
   .exact iN.a6 aR aS (λhe=>he.elim h1.2.2.1 λh=>h1.1 h.symm) (λr f he=>he.elim (λh=>f.1 (.inr (.inr h))) λh=>f.1 (.inl h)) P
   .show (s.shared++[(z,l)]).length+s.toks.length<=100000;simp;omega
 obtain⟨aV,Z,aX,av,a8⟩:=id aO;rw[aT cA.p 3 C rfl,aL ch.p 1 ao rfl,aL ch.p 3 ao rfl];rw[cJ (cs:=#[u,v]) (by obtain⟨_,_,_,rfl⟩:=nu hu;obtain⟨_,_,_,rfl⟩:=nu ae;kernel_rfl)];have aw:bG (λ_=>False) R w [u,v] ((z,l):lU):=⟨[u],[v],bU,bU,rfl,λ_ h=>h,λ_ h=>h,λ_ _ h _=>h,hu,ae⟩;refine lO (α:=lU) (a:=(z,l)) (R:=R) iE.u k3.i Φ rfl aw λx aa F _ U=>?_;have:=F.size;refine⟨.inl F,?_⟩;refine pb iE.u k3.i rfl (bE L F) U (bE aw F) (λr _ aY H=>?_) Ω Ω λaZ ab af ag=>?_
 .rcases H with H|H
  .exact H
  .exact (am r H).1 (.inr (.inr aY))
 have:=ag.size;have a1:=(C.ext F).ac ag Z;rw[bZ,aW cA.p rfl];refine bp (g:=g) (o:=6) iE.i (rB af) (gQ af) a1 (by simp[jl]) λaj ax bc al=>?_;have al:=al;have ay:ai (λr=>A r\/r=g) w aj:=((F.ac _).trans (ag.mono λr _ h=>.inl h)).trans (ax.mono λr _ h=>.inr h);let aU:ak:=λr=>(A r\/w.heap.size<=r)/\r<ab.heap.size;have:g<w.heap.size:=av g (.inl rfl);have:=av gs (.inr (.inl rfl));have a2:=au.mono (S':=aU) (R':=R) af (λr f h=>⟨h.elim .inl λh=>h.elim False.elim λh=>.inr Ω,f⟩) (λr f h=>h);refine aB aj aU (ay.mono λr _ h=>h.elim (λh=>.inr (.inr h)) .inl) (λr f=>f.1) (aP aj aU aZ ⟨aV,λh=>h.1.elim Z λh=>Ω,λh=>h.1.elim aX λh=>Ω,λr f=>?_,?_⟩ ay al (au.ac a2 ax λr f aC he=>?_))
 .rcases f with rfl|rfl|f
  .omega
  .omega
  .have:=f.2;omega
 .intro r f;have f:r<w.heap.size:=f;omega
 .have he:r=g:=he;subst he;rcases aC with aC|aC
  .exact aC.1.elim Z λh=>Ω
  .exact (am _ aC).1 (.inl rfl)
def NN{e:Nat}{aQ F:x1}{scope all:Λ}{N:x3->Prop}(O:ah w e ch [aQ,.slice ν 0 0,Δ 0,.slice ν 0 0])(P:aK .i64 w aQ scope)(X:∀r,leads aQ r->r≠e)(Y:aK .i64 w F all)(Z:∀r,leads F r->r≠e)(ae:∀v∈scope,0<=v/\v<all.length)(aH:scope.length<=100001)(af:∀J szv gz,ai (λr=>r=e) w J->ah J e ch [aQ,szv,Δ 0,.slice ν 0 0]->ay .i64 av J gz szv (scope.map λv=>all.getD v.toNat 0)->w.heap.size<=gz->N J):
 cq (Δ 0) w λG x k=>
  ad x7 (aO .lss aj false false G (Δ (scope.length:Int))) x λag=>
  Split ag (ad x7 (c9 az aQ G) x λak=>
  ad x7 (u5 av ak) x λal=>
  ey x λf=>
  ad x7 (u6 ch (Γ e) 1) f λt39=>
  ad x7 (u5 az t39) f λQ=>
  ad x7 (c9 az F al) f λan=>
  ad x7 (u5 av an) f λao=>
  aF x7 (Y5 az 1 #[(0,ao)]) f λt45 A=>
   (Ext f A\/cD x7 (u5 az t39) Q A/\cD x7 (u6 ch (Γ e) 1) t39 A/\True)/\
  aF x7 (Z5 #[az,az] az #[Q,t45]) A λt46 R=>
   ad x7 (u6 ch (Γ e) 1) R λap=>
   aF x7 (l9 az ap t46) R λ(_:Unit)S=>
    ad x7 (aO .add aj false true G (Δ 1)) S λaq=>
  k aq S) (N x):=by
 have:=O.lt;refine cq.range scope.length (λi aa=>ai (λr=>r=e) w aa/\∃szv gz,ah aa e ch [aQ,szv,Δ 0,.slice ν 0 0]/\ay .i64 av aa gz szv ((scope.take i).map λv=>all.getD v.toNat 0)/\w.heap.size<=gz) P.le ⟨ai.refl _ _,_,w.heap.size,O,ay.nil _ _ _ _,o4 _⟩ ?_ ?_
 rotate_left
 .rintro aa au ⟨q,szv,gz,B,C,U⟩;rw[o9]at C;rw[aP,am];exact⟨λh=>Ω,λ_=>af aa szv gz q B C U⟩
 rintro i aa au hi ⟨q,szv,gz,B,C,U⟩ aw;obtain⟨v,H⟩:=aI (l:=scope) hi;have:=ae v (x5 H);have ax:all[v.toNat]?=σ (all.getD v.toNat 0):=by
  rw[u4,x6 Ω];rfl
 have aA:=ji P q λr E a n c I K=>X r ⟨a,n,c,I,K⟩ E;have aB:=ji Y q λr E a n c I K=>Z r ⟨a,n,c,I,K⟩ E;refine bB Ω ?_;rw[be az.u av.i Ψ aA H];intro ab s _ _;have:=q.size;have:=s.size;rw[aL ch.p 1 (B.ext s) rfl];rw[gf (y:=v) (i:=v.toNat) Ω az.u av.i Ψ (aB.ext s) ax];refine eE az.u av.i rfl λa ga aT aU z aC=>?_;refine⟨.inl z,?_⟩;have:=z.size;refine kA az.u av.i rfl ((C.ext s).ext z) aC.ls Θ Θ λaD aE aV aX L V=>?_;rw[aW ch.p rfl];have aG:=((B.ext s).ext z).ac V (λhe=>by have he:=he;omega);refine bp (g:=e) (o:=1) az.i L.ls.cells.1 L.ls.cells.2 aG Ξ λaY W aZ M=>?_;have M:=M;rw[aM];refine aw _ ⟨(iM (q.trans ((s.trans z).ac _)) V λr E he=>by have he:r=gz:=he;omega).trans W,aD,aE,M,?_,Ω⟩;rw[u9,H,j4,Z9];exact L.ac W (λ_ he=>by have he:=he;omega)
abbrev jI:Type:=Rd (Λ)×Rd (Λ)×Int×Rd (List (Λ×Int))
def iR(f:cj):jI:=(f.scope,f.sizes,f.other,f.lines)
def DI{R:ak}{aQ szv ck:x1}{o:Int}{sc a:Λ}{l:List (Λ×Int)}(h1:au.rep (α:=Λ) false bU R w [aQ] sc)(e:au.rep (α:=Λ) false bU R w [szv] a)(f:au.rep (α:=List (Λ×Int)) false bU R w [ck] l):
  Seen R w [aQ,szv,Δ o,ck] ((sc,a,o,l):jI):=
 ⟨[aQ],[szv,Δ o,ck],bU,bU,F,λ_ h=>h,λ_ h=>h,λ_ _ h _=>h,h1,[szv],[Δ o,ck],bU,bU,F,λ_ h=>h,λ_ h=>h,λ_ _ h _=>h,e,[Δ o],[ck],bU,bU,F,λ_ h=>h,λ_ h=>h,λ_ _ h _=>h,F,f⟩
def sb{R:ak}{g:Nat}(h:ay .i64 e w g v l)(s:∀r,leads v r->R r):au.rep (α:=Λ) false bU R w [v] l:=by
 have h1:bG (λr=>r=g) bU w [v] l:=pc h;obtain⟨vs,x,F,G,he,V,hm⟩:=kC h1;refine⟨v,rfl,vs,x,λ_ _=>False,⟨λ_ _ h=>h,λh=>(by cases h),λh=>by cases h⟩,⟨he.1,λi c a y z=>?_⟩,?_,λh=>by cases h⟩
 .exact he.2 i c a y z
 .obtain⟨f,b,o,base,cap,rfl,A,B,p,H,C⟩:=V;refine⟨f,b,o,base,cap,rfl,A,B,p,λq=>.inr (s b ?_),C⟩;have E:0<l.length:=by
   rw[f]at q;rcases Q8 l.length with h|h
   .rw[h,Nat.zero_mul]at q;omega
   .exact h
  exact⟨⟨b,o,ν⟩,l.length,cap,by rw[p E],rfl⟩
def DJ{α:Type}[au α]{R R':ak}{a:α}(h:Seen R w cs a)(e:∀r,r<w.heap.size->R r->R' r):Seen R' w cs a:=au.mono h (λ_ _ h=>h) e
def DK{f:Nat}{K:x1->x3->Prop}(e:cs.length=4)(h1:∀v∈cs,v.oneCell'=true)(s:ah w f ch cs){h:List x1}(x:h.length=4)(y:ah w a ch h)(z:∀J,ai (λr=>r=a) w J->K (.agg cs.toArray) J):
  ad x7 (u5 ch (Γ f)) w λA=>
  aF x7 (l9 ch (Γ a) A) w λ(_:Unit)q=>
  ad x7 (do loadVar ch (<-asAddr (Γ a))) q λB=>K B q:=by
 rw[bN ch.p ch.i e s.range];refine b7 ch.i e x h1 y λJ C _ E=>?_;rw[fM ch.p ch.i e E.range];exact z J C
def DL{s s':aG}{l:List (Λ×Int)}(h:dz sizes s=σ (l,s')):s'.shared=s.shared/\s'.toks.length<=s.toks.length:=by
 unfold dz at h;cases e:bi (-aw) aw s with
 |none=>rw[e]at h;cases h
 |some q=>
  obtain⟨n,s1⟩:=q;rw[e]at h;simp only at h;have h1:=dj e;obtain⟨w,x,f⟩:=h1.eqs;split at h
  .cases V:s1.shared[(-n-1).toNat]? with
   |none=>rw[V]at h;cases h
   |some q=>
    obtain⟨z,fI⟩:=q;rw[V]at h;simp only at h;split at h
    .simp only[Y7,T6]at h;obtain⟨rfl,rfl⟩:=h;exact⟨f,by have:=h1.1;omega⟩
    .cases h
  .have:=j7 (λacc t=>t.shared=s.shared/\t.toks.length<=s.toks.length) (λacc t a bt ⟨r,y⟩ g=>by
    obtain⟨A,B,C,p⟩:=pn g;obtain⟨f1,f2,f3⟩:=p.eqs;exact⟨by rw[f3,r],by have:=p.1;omega⟩) n.toNat [] (bc (decide (16384<min (s1.told+n) aw)) {s1 with told:=min (s1.told+n) aw}) l s' ⟨f,by have:=h1.1;show s1.toks.length<=_;omega⟩ h
   exact this.1
def NO{g:Nat}{A B:ak}{s:aG}{U:Bool}{bb:x1}{all:Λ}(h:ed w g gs A B s U)(hi:dU s)(bJ:aK .i64 w bb all)(bd:∀r,leads bb r->¬bH g gs A r/\r<w.heap.size)(cl:∀z∈all,1<=z/\z<=aw)(dm:all.length<=100001)(cm:fg w)(h1:cQ g gs A B 1):
  an x7 A3 [Γ g,bb] w λv J=>∃aU V cs,∃bK:jI,v= .agg cs.toArray/\cs.length=4/\ai (bH g gs A) w J/\(∀r,aU r->A r\/w.heap.size<=r)/\(∀r,V r->(B r\/w.heap.size<=r)/\r<J.heap.size)/\(∀r,B r->V r)/\iQ J g gs aU V U ((dd all s).map (·.2))/\
   Seen (cQ g gs aU V) J cs bK/\∀q,dd all s=σ q->bK=iR q.1:=by
 have cn:=h.1;obtain⟨dp,dr,be,cp,R⟩:=id cn;have gT:∀r,bH g gs A r->r<w.heap.size:=cp;have ds:aw=4611686018427387904:=rfl;have dt:=h.2.2.1.2.2;refine aA func109 ?_;refine bu ch.i λG aa du bf aN=>?_;have aN:=aN;have dv:=bf.size;have dw:=aN.lt;have L:¬bH g gs A G:=λy=>by have:=gT _ y;omega
 refine(xv (h.ext bf)).mono ?_;rintro _ ab _ ⟨W,a,at_,rfl,bN,cq⟩;obtain⟨bh,bj⟩:=W.of;have dx:=bh.size;rw[bq,br,aP,ng];have dy: -aw<=a/\a<=aw:=by
  cases E:bi (-aw) aw s with
  |none=>rw[cq E];unfold aw;omega
  |some q=>rw[bN q E];exact(jj E).1
 rw[wrap_i64 Ω Ω,wZ,show max a (0-a)=((a.natAbs:Nat):Int) by omega];have bO:=(bf.ac _).trans bh;have cr:=ji bJ bO λr f a n c ae bk=>(bd r ⟨a,n,c,ae,bk⟩).1 f;rw[aX az.u cr];refine(NL bj Ω Ω).mono ?_;rintro aQ dA _ ⟨W,gr,scope,aD,ct,dC,cu⟩;obtain⟨bl,cw⟩:=W.of;have z3:=bl.size;rw[cJ (cs:=#[aQ,.slice ν 0 0,Δ 0,.slice ν 0 0]) (by obtain⟨_,_,_,_,_,rfl,_⟩:=aD.ls;kernel_rfl)];refine bu ch.i λC dD dE aE aO=>?_;have aO:=aO;have z4:=aE.size;have dF:=aO.lt;have bm:=aD.ls.cells;refine b7 (vs:=[aQ,.slice ν 0 0,Δ 0,.slice ν 0 0]) ch.i F rfl (by intro v ae;simp at ae;rcases ae with rfl|rfl|rfl|rfl<;>first|exact bm.2|rfl) aO λaR aF dG cz=>?_;have aj:¬bH g gs A C:=λy=>by have:=gT _ y;omega
 have bP:dq aR g gs A B U ((sa all.length a.natAbs ((bi (-aw) aw s).map (·.2))).map (·.2)):=(cw.ext aE).ac aF (λr f he=>by have he:r=C:=he;exact aj (he▸f)) (λr f he=>by have:=R r f.2;have he:r=C:=he;omega);have bQ:ai (bH g gs A) w aR:=iM ((bO.trans bl).trans (aE.ac _)) aF λr f he=>by have he:r=C:=he;omega
 have cA:ah aR G ch [.slice ν 0 0,.slice ν 0 0,Δ 0,.slice ν 0 0]:=(((aN.ac bh L).ac bl L).ext aE).ac aF (λhe=>by have he:G=C:=he;omega);have cB:ay .i64 av aR gr aQ scope:=bw (aD.ext aE) aF λr f he=>by
  obtain⟨cC,bj⟩:=bR aD f;have he:r=C:=he;omega
 refine(qE bP).mono ?_;rintro _ bS _ ⟨rfl,X⟩;have al:=bP.ext X;have aH:=cB.ext X;have bn:=cz.ext X;have bT:=cA.ext X;have dH:=X.size;have z5:=aF.size;have O:∀r,leads aQ r->ab.heap.size<=r/\r≠C/\r≠G:=λr f=>by
  obtain⟨cC,bj⟩:=bR aD f;have:=ct r f;exact⟨this,Ω,Ω⟩
 have K:dd all s=match sa all.length a.natAbs ((bi (-aw) aw s).map (·.2))with
   |none=>ν
   |some (sc,I)=>(ka (sc.map λv=>all.getD v.toNat 0) ((bg 0 aw (σ (bc (decide (6<a.natAbs)||dn (sc.map λv=>all.getD v.toNat 0)) I))).map (·.2))).map λq=>((⟨sc,sc.map λv=>all.getD v.toNat 0,((bi 0 aw (bc (decide (6<a.natAbs)||dn (sc.map λv=>all.getD v.toNat 0)) I)).map (·.1)).getD 0,q.1⟩:cj),if a<0 then uN (sc.map λv=>all.getD v.toNat 0) q.1 q.2 else q.2):=by
  unfold dd;cases E:bi (-aw) aw s with
  |none=>rfl
  |some q=>
   obtain⟨a',s1⟩:=q;have:=bN _ E;subst this;simp only;show _=match eU all.length a.natAbs s1 with
    |none=>ν
    |some (sc,I)=>_
   cases eU all.length a.natAbs s1 with
   |none=>rfl
   |some q=>
    obtain⟨sc,I⟩:=q;simp only;show _=U4 _ (ka _ ((bi 0 aw _).map (·.2)));cases bi 0 aw (bc (decide (6<a.natAbs)||dn (sc.map λv=>all.getD v.toNat 0)) I)with
    |none=>rfl
    |some q=>
     obtain⟨o,H⟩:=q;simp only;show _=U4 _ (dz _ H);cases dz (sc.map λv=>all.getD v.toNat 0) H with
     |none=>rfl
     |some q=>rfl
 rw[bM,cd];cases Y:sa all.length a.natAbs ((bi (-aw) aw s).map (·.2))with
 |none=>
  rw[Y]at al K;simp only at K;refine⟨λ_=>?_,λh=>by simp at h⟩;refine DK F (by intro v ae;simp at ae;rcases ae with rfl|rfl|rfl|rfl<;>first|exact bm.2|rfl) bn rfl bT λZ M=>?_;have cD:=M.size;refine⟨A,λr=>(B r\/w.heap.size<=r)/\r<Z.heap.size,_,(scope,[],0,[]),F,F,iM (bQ.trans (X.ac _)) M λr f he=>by have he:r=G:=he;omega,λr f=>.inl f,λr f=>f,λr f=>⟨.inl f,by have:=R r f;omega⟩,?_,?_,λq E=>by rw[K]at E;cases E⟩
  .rw[K];have cE:iQ Z g gs A B U (U4 (λx=>x.2) (ν:Option (Λ×aG))):=al.q.ac M (λhe=>by have:=gT g (.inl F);have he:g=G:=he;omega) (λr f _ he=>by have he:r=G:=he;exact L (he▸f)) (λr f he=>by have:=R r f.2;have he:r=G:=he;omega);exact cE
  .refine DI (sb (bw aH M λr f he=>(O r f).2.2 he) λr f=>?_) iH iH;have N:=O r f;have ao:=(bR aH f);exact⟨λy=>by have:=gT _ y;omega,.inr Ω,Ω⟩
 |some q=>
  obtain⟨sc,I⟩:=q;have:=cu _ Y;subst this;rw[Y]at al K;simp only at K;refine⟨λh=>by simp at h,λ_=>?_⟩;have al:=al;obtain⟨s1,cF,cG⟩:∃s1,(bi (-aw) aw s).map (·.2)=σ s1/\eU all.length a.natAbs s1=σ (scope,I):=by
   cases E:(bi (-aw) aw s).map (·.2)with
   |none=>rw[E]at Y;cases Y
   |some s1=>rw[E]at Y;exact⟨s1,F,Y⟩
  obtain⟨dI,cH,rfl⟩:=X7.1 cF;have bV:=dj cH;obtain⟨bW,dJ,dK,bX⟩:=uv cG;have bo:=bV.eqs;have bs:=bW.eqs;have cI:dU I:=λP=>by rw[bs.1,bo.1];rw[bs.2.1,bo.2.1]at P;exact hi P
  have cK:I.shared.length+1+I.toks.length<=100000:=by rw[bs.2.2,bo.2.2];have:=bV.1;have:=bW.1;omega
  generalize bt:(scope.map λv=>all.getD v.toNat 0)=sizes at K;have bY:∀z∈sizes,1<=z/\z<=aw:=λz aS=>by
   rw[<-bt]at aS;obtain⟨v,ae,rfl⟩:=c7.1 aS;have:=bX v ae;refine cl _ ?_;rw[u4,x6 Ω];exact S3 _
  have dL:sizes.length=scope.length:=by rw[<-bt,r9]
  have bZ:ai (bH g gs A) w bS:=bQ.trans (X.ac _);have cL:=ji bJ bZ λr f a n c ae bk=>(bd r ⟨a,n,c,ae,bk⟩).1 f;rw[aL ch.p 0 bn F,aX az.u aH.ls];refine NN bn aH.ls (λr f=>(O r f).2.1) cL (λr f=>by have:=(bd r f).2;omega) bX Ω λZ szv gz M b0 aT dM=>?_;rw[bt]at aT;have cD:=M.size;have bx:∀r,cQ g gs A B r->¬(λr=>r=C) r:=λr f he=>by have:=R r f.2;have he:r=C:=he;omega
  have bz:∀r,bH g gs A r->¬(λr=>r=C) r:=λr f he=>by have he:r=C:=he;exact aj (he▸f)
  have b1:=al.ac M bz bx;have cM:ai (bH g gs A) w Z:=iM bZ M λr f he=>by have he:r=C:=he;omega
  refine da (λaV=>ai (bH g gs A) Z aV/\ed aV g gs A B (bc (decide (6<a.natAbs)||dn sizes) I) U) ?_ ?_
  rotate_left
  .intro aB aI;rw[bL,am];refine⟨λdN=>?_,λdO=>?_⟩
   .refine (uA b1).mono ?_;rintro _ cN _ ⟨cO,cP⟩;refine aI _ ⟨cO.mono λr _ h=>.inl h,?_⟩;rw[decide_eq_true Ω,Bool.true_or];exact cP
   .rw[aL ch.p 1 b0 F];refine(CZ aT.ls λz aS=>(bY z aS).1).mono ?_;rintro _ cN _ ⟨rfl,b2⟩;refine(uA (b1.ext b2)).mono ?_;rintro _ dP _ ⟨cR,cS⟩;refine aI _ ⟨(b2.ac _).trans (cR.mono λr _ h=>.inl h),?_⟩;rw[decide_eq_false Ω,Bool.false_or];exact cS
  rintro aV ⟨aY,aZ⟩;have dQ:=aY.size;generalize be:bc (decide (6<a.natAbs)||dn sizes) I=H at K aZ;have cT:dU H:=λP=>by
   subst be;have P:(I.big||_)=false:=P;exact cI (R5.1 P).1
  have dR:H.shared.length+1+H.toks.length<=100000:=by subst be;exact cK
  have aZ:dq aV g gs A B U (σ H):=aZ;refine(nt (lo:=0) (hi:=aw) aZ).mono ?_;rintro _ b3 _ ⟨W,o,dS,rfl,cU,dT⟩;obtain⟨a1,cV⟩:=W.of;have dV:=a1.size;rw[bq,br,aW ch.p F];have cW:=(b0.ac aY aj).ac a1 aj;refine bp (g:=C) (o:=2) av.i F rfl cW Ξ λcX ap dW a2=>?_;have a2:=a2;rw[aL ch.p 1 a2 F];have cY:=cV.ac ap bz bx;have bA:ai (bH g gs A) Z b3:=aY.trans a1;have cZ:ai (bH g gs A) w b3:=cM.trans bA;have b4:ai (bH g gs A) w cX:=iM cZ ap λr f he=>by have he:r=C:=he;omega
  have ad:∀r,leads szv r->bS.heap.size<=r/\r<Z.heap.size:=λr f=>by have:=bR aT f;omega
  have b5:=bw (bw aT bA λr f y=>by have:=gT _ y;have:=ad r f;omega) ap λr f he=>by have he:r=C:=he;have:=ad r f;omega
  have c0:=bw (bw (bw aH M λr f he=>(O r f).2.1 he) bA λr f y=>by have:=gT _ y;have:=O r f;omega) ap λr f he=>(O r f).2.1 he;have dX:=ap.size;refine(NK cY (λt bB=>?_) b5.ls (λr f=>⟨λy=>by have:=gT _ y;have:=ad r f;omega,by have:=ad r f;omega⟩) bY Ω (cm.ac b4 h1.1) h1).mono ?_
  .obtain⟨q,E,rfl⟩:=X7.1 bB;have b6:=(dj E).eqs;intro P;rw[b6.1];rw[b6.2.1]at P;exact cT P
  rintro ck c1 _ ⟨W,l,bC,b8⟩;obtain⟨aq,c2⟩:=W.of;have dY:=aq.size;have bD:ck.cells= #[ck]/\ck.oneCell'=true:=⟨rB bC,gQ bC⟩;rw[aW ch.p F];have c3:=a2.ac aq aj;refine bp (g:=C) (o:=3) jZ.i bD.1 bD.2 c3 Ξ λQ af dZ a6=>?_;have a6:=a6;have ea:=af.size;have b9:=c2.ac af bz bx;have c4:ai (bH g gs A) w c1:=b4.trans aq;have c5:ai (bH g gs A) w Q:=iM c4 af λr f he=>by have he:r=C:=he;omega
  have ca:=bw (bw c0 aq λr f y=>by have:=gT _ y;have:=O r f;omega) af λr f he=>(O r f).2.1 he;have a8:=bw (bw b5 aq λr f y=>by have:=gT _ y;have:=ad r f;omega) af λr f he=>by have he:r=C:=he;have:=ad r f;omega
  have c6:ah Q G ch [.slice ν 0 0,.slice ν 0 0,Δ 0,.slice ν 0 0]:=((((((bT.ac M (λhe=>by have he:=he;omega)).ac aY L).ac a1 L).ac ap (λhe=>by have he:=he;omega)).ac aq L).ac af (λhe=>by have he:=he;omega));let S:ak:=λr=>(B r\/w.heap.size<=r)/\r<Q.heap.size;have cb:au.rep false bU (λr=>cQ g gs A S r/\r≠C/\r≠G) Q [ck] l:=by
   refine DJ (au.ac bC af λr f h he=>?_) λr f h=>?_
   .have he:r=C:=he;rcases h with h|h
    .exact h
    .rcases h with h|h
     .have:=R r h.2;omega
     .omega
   .rcases h with h|h
    .have:=R r h.2;exact⟨⟨h.1,.inl h.2,f⟩,Ω,Ω⟩
    .exact⟨⟨λy=>by have:=gT _ y;omega,.inr Ω,f⟩,Ω,Ω⟩
  have c8:∀r,leads aQ r->cQ g gs A S r/\r≠C/\r≠G:=λr f=>by
   have N:=O r f;have ao:=(bR ca f);exact⟨⟨λy=>by have:=gT _ y;omega,.inr Ω,Ω⟩,N.2⟩
  have cc:∀r,leads szv r->cQ g gs A S r/\r≠C/\r≠G:=λr f=>by
   have N:=ad r f;have ao:=(bR a8 f);exact⟨⟨λy=>by have:=gT _ y;omega,.inr Ω,Ω⟩,Ω,Ω⟩
  have c9:Seen (λr=>cQ g gs A S r/\r≠C/\r≠G) Q [aQ,szv,Δ o,ck] ((scope,sizes,o,l):jI):=DI (sb ca c8) (sb a8 cc) cb;have db:∀q,dd all s=σ q->((scope,sizes,o,l):jI)=iR q.1:=λq E=>by
   rw[K]at E;obtain⟨eb,bF,rfl⟩:=X7.1 E;have N:=b8 _ bF;cases ax:bi 0 aw H with
   |none=>have e:bg 0 aw (σ H)=ν:=ax;rw[e]at bF;cases bF
   |some ag=>
    have ao:=cU ag ax;rw[N,ao];rfl
  have dc:∀v∈[aQ,szv,U3 .i64 o,ck],v.oneCell'=true:=by
   intro v ae;simp at ae;rcases ae with rfl|rfl|rfl|rfl
   .exact bm.2
   .exact a8.ls.cells.2
   .rfl
   .exact bD.2
  have ce:∀r,cQ g gs A B r->cQ g gs A S r/\r≠C/\r≠G:=λr f=>by
   have:=R r f.2;exact⟨⟨f.1,.inl f.2,Ω⟩,Ω,Ω⟩
  refine da (λbG=>∃aU,ai (bH g gs A) Q bG/\(∀r,aU r->A r\/Q.heap.size<=r)/\∃V,nv bG g gs aU V (λr=>cQ g gs A S r/\r≠C/\r≠G) U ((dd all s).map (·.2))) ?_ ?_
  .rintro bG ⟨aU,aJ,aM,V,de⟩;have ec:=aJ.size;refine DK F dc (a6.ac aJ aj) F (c6.ac aJ L) λcf ba=>?_;have ee:=ba.size;have cg:∀r,bH g gs aU r->¬(λr=>r=G) r:=λr f he=>by
    have he:r=G:=he;subst he;rcases f with f|f|f
    .exact L (.inl f)
    .exact L (.inr (.inl f))
    .rcases aM _ f with f|f
     .exact L (.inr (.inr f))
     .omega
   have ci:∀r,(cQ g gs A S r/\r≠C/\r≠G)->cQ g gs aU (λr=>(B r\/w.heap.size<=r)/\r<cf.heap.size/\(r<Q.heap.size\/B r)) r:=λr h=>⟨λy=>h.1.1 (y.imp id (Or.imp id λy=>(aM r y).elim id λa7=>by have:=h.1.2.2;omega)),h.1.2.1,by have:=h.1.2.2;omega,.inl h.1.2.2⟩;have df:=de.ac ba (cg g (.inl F)) (λr f _=>cg r f) (λr f=>f.2.2);refine⟨aU,λr=>(B r\/w.heap.size<=r)/\r<cf.heap.size/\(r<Q.heap.size\/B r),_,(scope,sizes,o,l),F,F,iM (c5.trans aJ) ba λr f he=>by have he:r=G:=he;omega,λr f=>(aM r f).imp id λh=>Ω,λr f=>⟨f.1,f.2.1⟩,λr f=>⟨.inl f,by have:=R r f;omega,.inr f⟩,df.out ci λr f=>f.2.1,?_,db⟩;refine DJ (au.ac (au.ac c9 aJ λr _ h y=>?_) ba λr _ h he=>?_) λr _ h=>ci r h
   .rcases h with h|h
    .exact h
    .exact h.1.1 y
   .rcases h with h|h
    .exact h
    .exact h.2.2 he
  .intro aB aI;rw[am];refine⟨λdg=>?_,λdh=>?_⟩
   .intro bI aC _ _;have ef:=aC.size;have di:∀r,(cQ g gs A S r/\r≠C/\r≠G)->cQ g gs A (qF bI.heap.size) r:=λr h=>⟨h.1.1,by have:=h.1.2.2;show r<bI.heap.size;omega⟩;refine NM (b9.ext aC) ce di (λt bB=>?_) (a6.ext aC) (sb (a8.ext aC) cc) (bE cb aC) λeg aU dk aM dl=>?_
    .obtain⟨q,E,rfl⟩:=X7.1 bB;cases ax:bi 0 aw H with
     |none=>have e:bg 0 aw (σ H)=ν:=ax;rw[e]at E;cases E
     |some ag=>
      have e:bg 0 aw (σ H)=σ ag:=ax;rw[e]at E;have h1:q.2.shared=ag.2.shared/\q.2.toks.length<=ag.2.toks.length:=DL (l:=q.1) (s':=q.2) E;have N:=dj (n:=ag.1) (s':=ag.2) ax;have ao:=N.eqs.2.2;have eh:=N.1;rw[h1.1,ao];have:=h1.2;omega
    .refine aI _ ⟨aU,(aC.ac _).trans dk,λr f=>(aM r f).imp id λh=>Ω,qF bI.heap.size,?_⟩;have e:(dd all s).map (·.2)=((ka sizes ((bg 0 aw (σ H)).map (·.2))).map (·.2)).map (uN sizes l):=by
      rw[K];cases E:ka sizes ((bg 0 aw (σ H)).map (·.2))with
      |none=>rfl
      |some q=>
       have N:=b8 _ E;simp only[Y1,if_pos dg,N]
     rw[e];exact dl
   .refine aI _ ⟨A,ai.refl _ _,λr f=>.inl f,B,?_⟩;have e:(dd all s).map (·.2)=(ka sizes ((bg 0 aw (σ H)).map (·.2))).map (·.2):=by
     rw[K];cases E:ka sizes ((bg 0 aw (σ H)).map (·.2))with
     |none=>rfl
     |some q=>simp only[Y1,if_neg dh]
    rw[e];exact b9.qr ce
end Go.Proofs.YtikkpokkcdocoabGreatDoor
